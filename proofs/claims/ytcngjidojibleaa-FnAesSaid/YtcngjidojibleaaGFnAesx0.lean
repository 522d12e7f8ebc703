-- Written by a program of this session out of the translation; Lean checks it.
import Derived.Test.YtcngjidojibleaaPmGen
import Derived.Test.YtcngjidojibleaaProg
set_option linter.unusedVariables false
namespace Go.Proofs.Ytcngjidojibleaa.GFnAes
open Go Go.Proofs Go.Proofs.YtcngjidojibleaaPM

/-! ### (*loop.example/g00206/spec.l1Cur).next: function 91 -/
noncomputable def spec_l1Cur_next.H : Hints := hintsOf [(4, .join [⟨.normal, [], [0, 3], [.one (.ptr 0 0), ak_i], [.cells [.sh (.rows (.int .u8)), ck_i, .sh (.int .u64)]], [⟨[], [], [], []⟩]⟩])]
noncomputable def spec_l1Cur_next.says (N : Nat) : List Say := []
noncomputable def spec_l1Cur_next.call (N : Nat) : CallK := callBy (spec_l1Cur_next.says N)
noncomputable def spec_l1Cur_next.qt (N : Nat) : FuncId → List PV → Sig → Cl := qtBy (spec_l1Cur_next.says N)
noncomputable def spec_l1Cur_next (N : Nat) (p0_0 : (List Int)) (p0_1 : Int) (p0_2 : Int) : Option ((Int × Unit) × (((List Int) × (Int × (Int × Unit))) × Unit)) :=
  ofFn Try.prog spec_l1Cur_next.call spec_l1Cur_next.qt spec_l1Cur_next.H N Try.f91 [.one (.ptr 0 0)] [.cells [.sh (.rows (.int .u8)), ck_i, .sh (.int .u64)]] [ak_i] [.cells [.sh (.rows (.int .u8)), ck_i, .sh (.int .u64)]] [⟨[], [], [], []⟩] ((), ()) ((p0_0, (p0_1, (p0_2, ()))), ())
noncomputable def spec_l1Cur_next.S (N : Nat) : Say := ⟨false, 91, [.one (.ptr 0 0)], [.cells [.sh (.rows (.int .u8)), ck_i, .sh (.int .u64)]], [ak_i], [.cells [.sh (.rows (.int .u8)), ck_i, .sh (.int .u64)]], fun a s => spec_l1Cur_next N s.1.1 s.1.2.1 s.1.2.2.1⟩
set_option maxRecDepth 100000 in
theorem spec_l1Cur_next.eq (N : Nat) (p0_0 : (List Int)) (p0_1 : Int) (p0_2 : Int) : spec_l1Cur_next N p0_0 p0_1 p0_2 =
 andK (α := ((Unit × (Int × Unit)) × (((List Int) × (Int × (Int × Unit))) × Unit))) (
  sel (decide (p0_1 < (p0_0.length : Int)))
   (
   chk ((decide (0 ≤ p0_1)) && (decide (p0_1 < (p0_0.length : Int)))) (
   some ((((), ((IntKind.i64.wrap (p0_0.getD (Int.toNat p0_1) 0)), ())), ((p0_0, (p0_1, (p0_2, ()))), ())))))
   (
   some ((((), (0, ())), ((p0_0, (p0_1, (p0_2, ()))), ()))))) fun j1 =>
 sel (decide ((IntKind.i64.wrap (j1.2.1.2.1 + 1)) ≤ (j1.2.1.1.length : Int)))
  (
  some ((j1.1.2.1, ()), ((j1.2.1.1, ((IntKind.i64.wrap (j1.2.1.2.1 + 1)), ((IntKind.u64.wrap ((IntKind.u64.wrap ((IntKind.u64.wrap (j1.2.1.2.2.1 * 6364136223846793005)) + (IntKind.u64.wrap j1.1.2.1))) + 1442695040888963407)), ()))), ())))
  (
  some (((IntKind.i64.wrap (Go.bits .and .u64 (shrI .u64 (IntKind.u64.wrap ((IntKind.u64.wrap ((IntKind.u64.wrap (j1.2.1.2.2.1 * 6364136223846793005)) + (IntKind.u64.wrap j1.1.2.1))) + 1442695040888963407)) 40) 255)), ()), ((j1.2.1.1, ((IntKind.i64.wrap (j1.2.1.2.1 + 1)), ((IntKind.u64.wrap ((IntKind.u64.wrap ((IntKind.u64.wrap (j1.2.1.2.2.1 * 6364136223846793005)) + (IntKind.u64.wrap j1.1.2.1))) + 1442695040888963407)), ()))), ()))) := by kernel_rfl
set_option maxRecDepth 100000 in
theorem spec_l1Cur_next.say (N : Nat) : SayOk Try.prog (spec_l1Cur_next.S N) := sayOk_mk (N := N) (H := spec_l1Cur_next.H) (preps := [⟨[], [], [], []⟩]) (l := spec_l1Cur_next.says) (fn := Try.f91) (c := bodyOf Try.f91)
  (by kernel_rfl) (by kernel_rfl) (by kernel_rfl) (by kernel_rfl) (by kernel_rfl) (by kernel_rfl) (by kernel_rfl)
  (fun N => SayAll.nil) (fun a s => by kernel_rfl)

/-! ### (*loop.example/g00206/spec.l1Cur).pick: function 50 -/
noncomputable def spec_l1Cur_pick.H : Hints := hintsOf []
noncomputable def spec_l1Cur_pick.says (N : Nat) : List Say := [spec_l1Cur_next.S N]
noncomputable def spec_l1Cur_pick.call (N : Nat) : CallK := callBy (spec_l1Cur_pick.says N)
noncomputable def spec_l1Cur_pick.qt (N : Nat) : FuncId → List PV → Sig → Cl := qtBy (spec_l1Cur_pick.says N)
noncomputable def spec_l1Cur_pick (N : Nat) (n : Int) (p0_0 : (List Int)) (p0_1 : Int) (p0_2 : Int) : Option ((Int × Unit) × (((List Int) × (Int × (Int × Unit))) × Unit)) :=
  ofFn Try.prog spec_l1Cur_pick.call spec_l1Cur_pick.qt spec_l1Cur_pick.H N Try.f50 [.one (.ptr 0 0), ak_i] [.cells [.sh (.rows (.int .u8)), ck_i, .sh (.int .u64)]] [ak_i] [.cells [.sh (.rows (.int .u8)), ck_i, .sh (.int .u64)]] [⟨[], [], [], []⟩] ((), (n, ())) ((p0_0, (p0_1, (p0_2, ()))), ())
noncomputable def spec_l1Cur_pick.S (N : Nat) : Say := ⟨false, 50, [.one (.ptr 0 0), ak_i], [.cells [.sh (.rows (.int .u8)), ck_i, .sh (.int .u64)]], [ak_i], [.cells [.sh (.rows (.int .u8)), ck_i, .sh (.int .u64)]], fun a s => spec_l1Cur_pick N a.2.1 s.1.1 s.1.2.1 s.1.2.2.1⟩
set_option maxRecDepth 100000 in
theorem spec_l1Cur_pick.eq (N : Nat) (n : Int) (p0_0 : (List Int)) (p0_1 : Int) (p0_2 : Int) : spec_l1Cur_pick N n p0_0 p0_1 p0_2 =
 sel (decide (n ≤ 1))
  (
  some ((0, ()), ((p0_0, (p0_1, (p0_2, ()))), ())))
  (
  andK (spec_l1Cur_next N p0_0 p0_1 p0_2) fun u1 =>
  sel (decide (200 < n))
   (
   andK (spec_l1Cur_next N u1.2.1.1 u1.2.1.2.1 u1.2.1.2.2.1) fun u2 =>
   chk (n != 0) (
   some (((Int.tmod (IntKind.i64.wrap ((IntKind.i64.wrap (u1.1.1 * 256)) + u2.1.1)) n), ()), ((u2.2.1.1, (u2.2.1.2.1, (u2.2.1.2.2.1, ()))), ()))))
   (
   chk (n != 0) (
   some (((Int.tmod u1.1.1 n), ()), ((u1.2.1.1, (u1.2.1.2.1, (u1.2.1.2.2.1, ()))), ()))))) := by kernel_rfl
set_option maxRecDepth 100000 in
theorem spec_l1Cur_pick.say (N : Nat) : SayOk Try.prog (spec_l1Cur_pick.S N) := sayOk_mk (N := N) (H := spec_l1Cur_pick.H) (preps := [⟨[], [], [], []⟩]) (l := spec_l1Cur_pick.says) (fn := Try.f50) (c := bodyOf Try.f50)
  (by kernel_rfl) (by kernel_rfl) (by kernel_rfl) (by kernel_rfl) (by kernel_rfl) (by kernel_rfl) (by kernel_rfl)
  (fun N => SayAll.cons (spec_l1Cur_next.say N) (SayAll.nil)) (fun a s => by kernel_rfl)

/-! ### (*loop.example/g00206/spec.l1Cur).one: function 51 -/
noncomputable def spec_l1Cur_one.H : Hints := hintsOf []
noncomputable def spec_l1Cur_one.says (N : Nat) : List Say := [spec_l1Cur_pick.S N]
noncomputable def spec_l1Cur_one.call (N : Nat) : CallK := callBy (spec_l1Cur_one.says N)
noncomputable def spec_l1Cur_one.qt (N : Nat) : FuncId → List PV → Sig → Cl := qtBy (spec_l1Cur_one.says N)
noncomputable def spec_l1Cur_one (N : Nat) (n : Int) (p0_0 : (List Int)) (p0_1 : Int) (p0_2 : Int) : Option ((Bool × Unit) × (((List Int) × (Int × (Int × Unit))) × Unit)) :=
  ofFn Try.prog spec_l1Cur_one.call spec_l1Cur_one.qt spec_l1Cur_one.H N Try.f51 [.one (.ptr 0 0), ak_i] [.cells [.sh (.rows (.int .u8)), ck_i, .sh (.int .u64)]] [ak_b] [.cells [.sh (.rows (.int .u8)), ck_i, .sh (.int .u64)]] [⟨[], [], [], []⟩] ((), (n, ())) ((p0_0, (p0_1, (p0_2, ()))), ())
noncomputable def spec_l1Cur_one.S (N : Nat) : Say := ⟨false, 51, [.one (.ptr 0 0), ak_i], [.cells [.sh (.rows (.int .u8)), ck_i, .sh (.int .u64)]], [ak_b], [.cells [.sh (.rows (.int .u8)), ck_i, .sh (.int .u64)]], fun a s => spec_l1Cur_one N a.2.1 s.1.1 s.1.2.1 s.1.2.2.1⟩
set_option maxRecDepth 100000 in
theorem spec_l1Cur_one.eq (N : Nat) (n : Int) (p0_0 : (List Int)) (p0_1 : Int) (p0_2 : Int) : spec_l1Cur_one N n p0_0 p0_1 p0_2 =
 andK (spec_l1Cur_pick N n p0_0 p0_1 p0_2) fun u1 =>
 some (((decide (u1.1.1 = 0)), ()), ((u1.2.1.1, (u1.2.1.2.1, (u1.2.1.2.2.1, ()))), ())) := by kernel_rfl
set_option maxRecDepth 100000 in
theorem spec_l1Cur_one.say (N : Nat) : SayOk Try.prog (spec_l1Cur_one.S N) := sayOk_mk (N := N) (H := spec_l1Cur_one.H) (preps := [⟨[], [], [], []⟩]) (l := spec_l1Cur_one.says) (fn := Try.f51) (c := bodyOf Try.f51)
  (by kernel_rfl) (by kernel_rfl) (by kernel_rfl) (by kernel_rfl) (by kernel_rfl) (by kernel_rfl) (by kernel_rfl)
  (fun N => SayAll.cons (spec_l1Cur_pick.say N) (SayAll.nil)) (fun a s => by kernel_rfl)

/-! ### (*loop.example/g00206/spec.l1Cur).among: function 52 -/
noncomputable def spec_l1Cur_among.H : Hints := hintsOf []
noncomputable def spec_l1Cur_among.says (N : Nat) : List Say := [spec_l1Cur_pick.S N]
noncomputable def spec_l1Cur_among.call (N : Nat) : CallK := callBy (spec_l1Cur_among.says N)
noncomputable def spec_l1Cur_among.qt (N : Nat) : FuncId → List PV → Sig → Cl := qtBy (spec_l1Cur_among.says N)
noncomputable def spec_l1Cur_among (N : Nat) (list : (List Int)) (p0_0 : (List Int)) (p0_1 : Int) (p0_2 : Int) : Option ((Int × Unit) × (((List Int) × (Int × (Int × Unit))) × Unit)) :=
  ofFn Try.prog spec_l1Cur_among.call spec_l1Cur_among.qt spec_l1Cur_among.H N Try.f52 [.one (.ptr 0 0), .one (.sh (.rows (.int .i64)))] [.cells [.sh (.rows (.int .u8)), ck_i, .sh (.int .u64)]] [ak_i] [.cells [.sh (.rows (.int .u8)), ck_i, .sh (.int .u64)]] [⟨[], [], [], []⟩] ((), (list, ())) ((p0_0, (p0_1, (p0_2, ()))), ())
noncomputable def spec_l1Cur_among.S (N : Nat) : Say := ⟨false, 52, [.one (.ptr 0 0), .one (.sh (.rows (.int .i64)))], [.cells [.sh (.rows (.int .u8)), ck_i, .sh (.int .u64)]], [ak_i], [.cells [.sh (.rows (.int .u8)), ck_i, .sh (.int .u64)]], fun a s => spec_l1Cur_among N a.2.1 s.1.1 s.1.2.1 s.1.2.2.1⟩
set_option maxRecDepth 100000 in
theorem spec_l1Cur_among.eq (N : Nat) (list : (List Int)) (p0_0 : (List Int)) (p0_1 : Int) (p0_2 : Int) : spec_l1Cur_among N list p0_0 p0_1 p0_2 =
 andK (spec_l1Cur_pick N (list.length : Int) p0_0 p0_1 p0_2) fun u1 =>
 chk ((decide (0 ≤ u1.1.1)) && (decide (u1.1.1 < (list.length : Int)))) (
 some (((list.getD (Int.toNat u1.1.1) 0), ()), ((u1.2.1.1, (u1.2.1.2.1, (u1.2.1.2.2.1, ()))), ()))) := by kernel_rfl
set_option maxRecDepth 100000 in
theorem spec_l1Cur_among.say (N : Nat) : SayOk Try.prog (spec_l1Cur_among.S N) := sayOk_mk (N := N) (H := spec_l1Cur_among.H) (preps := [⟨[], [], [], []⟩]) (l := spec_l1Cur_among.says) (fn := Try.f52) (c := bodyOf Try.f52)
  (by kernel_rfl) (by kernel_rfl) (by kernel_rfl) (by kernel_rfl) (by kernel_rfl) (by kernel_rfl) (by kernel_rfl)
  (fun N => SayAll.cons (spec_l1Cur_pick.say N) (SayAll.nil)) (fun a s => by kernel_rfl)

/-! ### (*loop.example/g00206/spec.l1Cur).sizedBytes: function 54 -/
noncomputable def spec_l1Cur_sizedBytes.H : Hints := hintsOf [(2000003, .loop ⟨.normal, [10], [0, 5, 11], [.one (.ptr 0 0), .one (.own 1), ak_i], [.cells [.sh (.rows (.int .u8)), ck_i, .sh (.int .u64)], .rows (.int .u8)], [⟨[], [], [], []⟩]⟩ [⟨(.exit 0), [], [5], [.one (.own 1)], [.cells [.sh (.rows (.int .u8)), ck_i, .sh (.int .u64)], .rows (.int .u8)], [⟨[], [], [], []⟩]⟩])]
noncomputable def spec_l1Cur_sizedBytes.says (N : Nat) : List Say := [spec_l1Cur_pick.S N]
noncomputable def spec_l1Cur_sizedBytes.call (N : Nat) : CallK := callBy (spec_l1Cur_sizedBytes.says N)
noncomputable def spec_l1Cur_sizedBytes.qt (N : Nat) : FuncId → List PV → Sig → Cl := qtBy (spec_l1Cur_sizedBytes.says N)
noncomputable def spec_l1Cur_sizedBytes.l0.hd : Alt := ⟨.normal, [10], [0, 5, 11], [.one (.ptr 0 0), .one (.own 1), ak_i], [.cells [.sh (.rows (.int .u8)), ck_i, .sh (.int .u64)], .rows (.int .u8)], [⟨[], [], [], []⟩]⟩
noncomputable def spec_l1Cur_sizedBytes.l0.outs : List Alt := [⟨(.exit 0), [], [5], [.one (.own 1)], [.cells [.sh (.rows (.int .u8)), ck_i, .sh (.int .u64)], .rows (.int .u8)], [⟨[], [], [], []⟩]⟩]
noncomputable def spec_l1Cur_sizedBytes.l0 (N : Nat) (t10 : Int) (t11 : Int) (p0_01 : (List Int)) (p0_11 : Int) (p0_21 : Int) (p1 : (List Int)) : Option ((Unit × Unit) × (((List Int) × (Int × (Int × Unit))) × ((List Int) × Unit))) :=
  loopK Try.prog spec_l1Cur_sizedBytes.call spec_l1Cur_sizedBytes.qt spec_l1Cur_sizedBytes.H (codeAt (bodyOf Try.f54) [1, 1, 0, 1, 0, 0]) 2 spec_l1Cur_sizedBytes.l0.hd spec_l1Cur_sizedBytes.l0.outs [(10, .v (.int .i64 t10))] N (((), ((), (t11, ()))), ((p0_01, (p0_11, (p0_21, ()))), (p1, ())))
noncomputable def spec_l1Cur_sizedBytes (N : Nat) (n : Int) (p0_0 : (List Int)) (p0_1 : Int) (p0_2 : Int) : Option ((Unit × Unit) × (((List Int) × (Int × (Int × Unit))) × ((List Int) × Unit))) :=
  ofFn Try.prog spec_l1Cur_sizedBytes.call spec_l1Cur_sizedBytes.qt spec_l1Cur_sizedBytes.H N Try.f54 [.one (.ptr 0 0), ak_i] [.cells [.sh (.rows (.int .u8)), ck_i, .sh (.int .u64)]] [.one (.own 1)] [.cells [.sh (.rows (.int .u8)), ck_i, .sh (.int .u64)], .rows (.int .u8)] [⟨[], [], [], [1]⟩] ((), (n, ())) ((p0_0, (p0_1, (p0_2, ()))), ())
noncomputable def spec_l1Cur_sizedBytes.S (N : Nat) : Say := ⟨false, 54, [.one (.ptr 0 0), ak_i], [.cells [.sh (.rows (.int .u8)), ck_i, .sh (.int .u64)]], [.one (.own 1)], [.cells [.sh (.rows (.int .u8)), ck_i, .sh (.int .u64)], .rows (.int .u8)], fun a s => spec_l1Cur_sizedBytes N a.2.1 s.1.1 s.1.2.1 s.1.2.2.1⟩
set_option maxRecDepth 100000 in
theorem spec_l1Cur_sizedBytes.l0.eq (N : Nat) (t10 : Int) (t11 : Int) (p0_01 : (List Int)) (p0_11 : Int) (p0_21 : Int) (p1 : (List Int)) : spec_l1Cur_sizedBytes.l0 (N + 1) t10 t11 p0_01 p0_11 p0_21 p1 =
 sel (decide (t11 < t10))
  (
  andK (spec_l1Cur_pick N 256 p0_01 p0_11 p0_21) fun u1 =>
  chk ((decide (0 ≤ t11)) && (decide (t11 < (p1.length : Int)))) (
  spec_l1Cur_sizedBytes.l0 N t10 (IntKind.i64.wrap (t11 + 1)) u1.2.1.1 u1.2.1.2.1 u1.2.1.2.2.1 (p1.set (Int.toNat t11) (IntKind.u8.wrap u1.1.1))))
  (
  some ((((), ()), ((p0_01, (p0_11, (p0_21, ()))), (p1, ()))))) := by kernel_rfl
set_option maxRecDepth 100000 in
theorem spec_l1Cur_sizedBytes.eq (N : Nat) (n : Int) (p0_0 : (List Int)) (p0_1 : Int) (p0_2 : Int) : spec_l1Cur_sizedBytes N n p0_0 p0_1 p0_2 =
 chk ((decide (0 ≤ n)) && ((smallI n) && (decide (n = n)))) (
 andK (spec_l1Cur_sizedBytes.l0 N ((List.replicate (Int.toNat n) (0 : Int)).length : Int) 0 p0_0 p0_1 p0_2 (List.replicate (Int.toNat n) (0 : Int))) fun l2 =>
 some (((), ()), ((l2.2.1.1, (l2.2.1.2.1, (l2.2.1.2.2.1, ()))), (l2.2.2.1, ())))) := by kernel_rfl
set_option maxRecDepth 100000 in
theorem spec_l1Cur_sizedBytes.say (N : Nat) : SayOk Try.prog (spec_l1Cur_sizedBytes.S N) := sayOk_mk (N := N) (H := spec_l1Cur_sizedBytes.H) (preps := [⟨[], [], [], [1]⟩]) (l := spec_l1Cur_sizedBytes.says) (fn := Try.f54) (c := bodyOf Try.f54)
  (by kernel_rfl) (by kernel_rfl) (by kernel_rfl) (by kernel_rfl) (by kernel_rfl) (by kernel_rfl) (by kernel_rfl)
  (fun N => SayAll.cons (spec_l1Cur_pick.say N) (SayAll.nil)) (fun a s => by kernel_rfl)

/-! ### (*loop.example/g00206/spec.l1Cur).block: function 53 -/
noncomputable def spec_l1Cur_block.H : Hints := hintsOf []
noncomputable def spec_l1Cur_block.says (N : Nat) : List Say := [spec_l1Cur_one.S N, spec_l1Cur_among.S N, spec_l1Cur_sizedBytes.S N]
noncomputable def spec_l1Cur_block.call (N : Nat) : CallK := callBy (spec_l1Cur_block.says N)
noncomputable def spec_l1Cur_block.qt (N : Nat) : FuncId → List PV → Sig → Cl := qtBy (spec_l1Cur_block.says N)
noncomputable def spec_l1Cur_block (N : Nat) (p0_0 : (List Int)) (p0_1 : Int) (p0_2 : Int) : Option ((ByteArray × Unit) × (((List Int) × (Int × (Int × Unit))) × Unit)) :=
  ofFn Try.prog spec_l1Cur_block.call spec_l1Cur_block.qt spec_l1Cur_block.H N Try.f53 [.one (.ptr 0 0)] [.cells [.sh (.rows (.int .u8)), ck_i, .sh (.int .u64)]] [ak_s] [.cells [.sh (.rows (.int .u8)), ck_i, .sh (.int .u64)]] [⟨[], [], [], []⟩] ((), ()) ((p0_0, (p0_1, (p0_2, ()))), ())
noncomputable def spec_l1Cur_block.S (N : Nat) : Say := ⟨false, 53, [.one (.ptr 0 0)], [.cells [.sh (.rows (.int .u8)), ck_i, .sh (.int .u64)]], [ak_s], [.cells [.sh (.rows (.int .u8)), ck_i, .sh (.int .u64)]], fun a s => spec_l1Cur_block N s.1.1 s.1.2.1 s.1.2.2.1⟩
set_option maxRecDepth 100000 in
theorem spec_l1Cur_block.eq (N : Nat) (p0_0 : (List Int)) (p0_1 : Int) (p0_2 : Int) : spec_l1Cur_block N p0_0 p0_1 p0_2 =
 andK (spec_l1Cur_one N 30 p0_0 p0_1 p0_2) fun u1 =>
 sel u1.1.1
  (
  andK (spec_l1Cur_among N [0, 15, 17] u1.2.1.1 u1.2.1.2.1 u1.2.1.2.2.1) fun u2 =>
  andK (spec_l1Cur_sizedBytes N u2.1.1 u2.2.1.1 u2.2.1.2.1 u2.2.1.2.2.1) fun u3 =>
  some (((strL u3.2.2.1), ()), ((u3.2.1.1, (u3.2.1.2.1, (u3.2.1.2.2.1, ()))), ())))
  (
  andK (spec_l1Cur_one N 8 u1.2.1.1 u1.2.1.2.1 u1.2.1.2.2.1) fun u4 =>
  sel u4.1.1
   (
   some (((strL (List.replicate 16 (0 : Int))), ()), ((u4.2.1.1, (u4.2.1.2.1, (u4.2.1.2.2.1, ()))), ())))
   (
   andK (spec_l1Cur_sizedBytes N 16 u4.2.1.1 u4.2.1.2.1 u4.2.1.2.2.1) fun u5 =>
   some (((strL u5.2.2.1), ()), ((u5.2.1.1, (u5.2.1.2.1, (u5.2.1.2.2.1, ()))), ())))) := by kernel_rfl
set_option maxRecDepth 100000 in
theorem spec_l1Cur_block.say (N : Nat) : SayOk Try.prog (spec_l1Cur_block.S N) := sayOk_mk (N := N) (H := spec_l1Cur_block.H) (preps := [⟨[], [], [], []⟩]) (l := spec_l1Cur_block.says) (fn := Try.f53) (c := bodyOf Try.f53)
  (by kernel_rfl) (by kernel_rfl) (by kernel_rfl) (by kernel_rfl) (by kernel_rfl) (by kernel_rfl) (by kernel_rfl)
  (fun N => SayAll.cons (spec_l1Cur_one.say N) (SayAll.cons (spec_l1Cur_among.say N) (SayAll.cons (spec_l1Cur_sizedBytes.say N) (SayAll.nil)))) (fun a s => by kernel_rfl)

/-! ### loop.example/g00206/spec.DrawAesBlock: function 43 -/
noncomputable def spec_DrawAesBlock.H : Hints := hintsOf []
noncomputable def spec_DrawAesBlock.says (N : Nat) : List Say := [spec_l1Cur_block.S N]
noncomputable def spec_DrawAesBlock.call (N : Nat) : CallK := callBy (spec_DrawAesBlock.says N)
noncomputable def spec_DrawAesBlock.qt (N : Nat) : FuncId → List PV → Sig → Cl := qtBy (spec_DrawAesBlock.says N)
noncomputable def spec_DrawAesBlock (N : Nat) (code : (List Int)) : Option ((ByteArray × (ByteArray × Unit)) × Unit) :=
  ofFn Try.prog spec_DrawAesBlock.call spec_DrawAesBlock.qt spec_DrawAesBlock.H N Try.f43 [.one (.sh (.rows (.int .u8)))] [] [ak_s, ak_s] [] [⟨[], [], [], []⟩] (code, ()) ()
noncomputable def spec_DrawAesBlock.S (N : Nat) : Say := ⟨false, 43, [.one (.sh (.rows (.int .u8)))], [], [ak_s, ak_s], [], fun a s => spec_DrawAesBlock N a.1⟩
set_option maxRecDepth 100000 in
theorem spec_DrawAesBlock.eq (N : Nat) (code : (List Int)) : spec_DrawAesBlock N code =
 andK (spec_l1Cur_block N code 0 0) fun u1 =>
 andK (spec_l1Cur_block N u1.2.1.1 u1.2.1.2.1 u1.2.1.2.2.1) fun u2 =>
 some ((u1.1.1, (u2.1.1, ())), ()) := by kernel_rfl
set_option maxRecDepth 100000 in
theorem spec_DrawAesBlock.say (N : Nat) : SayOk Try.prog (spec_DrawAesBlock.S N) := sayOk_mk (N := N) (H := spec_DrawAesBlock.H) (preps := [⟨[], [], [], []⟩]) (l := spec_DrawAesBlock.says) (fn := Try.f43) (c := bodyOf Try.f43)
  (by kernel_rfl) (by kernel_rfl) (by kernel_rfl) (by kernel_rfl) (by kernel_rfl) (by kernel_rfl) (by kernel_rfl)
  (fun N => SayAll.cons (spec_l1Cur_block.say N) (SayAll.nil)) (fun a s => by kernel_rfl)

/-! ### loop.example/g00206/impl.isKey: function 86 -/
noncomputable def impl_isKey.H : Hints := hintsOf []
noncomputable def impl_isKey.says (N : Nat) : List Say := []
noncomputable def impl_isKey.call (N : Nat) : CallK := callBy (impl_isKey.says N)
noncomputable def impl_isKey.qt (N : Nat) : FuncId → List PV → Sig → Cl := qtBy (impl_isKey.says N)
noncomputable def impl_isKey (N : Nat) (key : ByteArray) : Option ((Bool × Unit) × Unit) :=
  ofFn Try.prog impl_isKey.call impl_isKey.qt impl_isKey.H N Try.f86 [ak_s] [] [ak_b] [] [⟨[], [], [], []⟩] (key, ()) ()
noncomputable def impl_isKey.S (N : Nat) : Say := ⟨false, 86, [ak_s], [], [ak_b], [], fun a s => impl_isKey N a.1⟩
set_option maxRecDepth 100000 in
theorem impl_isKey.eq (N : Nat) (key : ByteArray) : impl_isKey N key =
 some (((decide ((key.size : Int) = 16)), ()), ()) := by kernel_rfl
set_option maxRecDepth 100000 in
theorem impl_isKey.say (N : Nat) : SayOk Try.prog (impl_isKey.S N) := sayOk_mk (N := N) (H := impl_isKey.H) (preps := [⟨[], [], [], []⟩]) (l := impl_isKey.says) (fn := Try.f86) (c := bodyOf Try.f86)
  (by kernel_rfl) (by kernel_rfl) (by kernel_rfl) (by kernel_rfl) (by kernel_rfl) (by kernel_rfl) (by kernel_rfl)
  (fun N => SayAll.nil) (fun a s => by kernel_rfl)

/-! ### loop.example/g00206/impl.isBlock: function 55 -/
noncomputable def impl_isBlock.H : Hints := hintsOf []
noncomputable def impl_isBlock.says (N : Nat) : List Say := []
noncomputable def impl_isBlock.call (N : Nat) : CallK := callBy (impl_isBlock.says N)
noncomputable def impl_isBlock.qt (N : Nat) : FuncId → List PV → Sig → Cl := qtBy (impl_isBlock.says N)
noncomputable def impl_isBlock (N : Nat) (s : ByteArray) : Option ((Bool × Unit) × Unit) :=
  ofFn Try.prog impl_isBlock.call impl_isBlock.qt impl_isBlock.H N Try.f55 [ak_s] [] [ak_b] [] [⟨[], [], [], []⟩] (s, ()) ()
noncomputable def impl_isBlock.S (N : Nat) : Say := ⟨false, 55, [ak_s], [], [ak_b], [], fun a s => impl_isBlock N a.1⟩
set_option maxRecDepth 100000 in
theorem impl_isBlock.eq (N : Nat) (s : ByteArray) : impl_isBlock N s =
 some (((decide ((s.size : Int) = 16)), ()), ()) := by kernel_rfl
set_option maxRecDepth 100000 in
theorem impl_isBlock.say (N : Nat) : SayOk Try.prog (impl_isBlock.S N) := sayOk_mk (N := N) (H := impl_isBlock.H) (preps := [⟨[], [], [], []⟩]) (l := impl_isBlock.says) (fn := Try.f55) (c := bodyOf Try.f55)
  (by kernel_rfl) (by kernel_rfl) (by kernel_rfl) (by kernel_rfl) (by kernel_rfl) (by kernel_rfl) (by kernel_rfl)
  (fun N => SayAll.nil) (fun a s => by kernel_rfl)

/-! ### loop.example/g00206/impl.mulGf: function 114 -/
noncomputable def impl_mulGf.H : Hints := hintsOf [(5, .join [⟨.normal, [0, 1], [5], [.one (.sh (.int .u8))], [], [⟨[], [], [], []⟩]⟩]),
  (9, .join [⟨.normal, [1, 5], [0], [.one (.sh (.int .u8))], [], [⟨[], [], [], []⟩]⟩]),
  (2000002, .loop ⟨.normal, [], [0, 1, 5], [.one (.sh (.int .u8)), .one (.sh (.int .u8)), .one (.sh (.int .u8))], [], [⟨[], [], [], []⟩]⟩ [⟨(.exit 0), [], [5], [.one (.sh (.int .u8))], [], [⟨[], [], [], []⟩]⟩])]
noncomputable def impl_mulGf.says (N : Nat) : List Say := []
noncomputable def impl_mulGf.call (N : Nat) : CallK := callBy (impl_mulGf.says N)
noncomputable def impl_mulGf.qt (N : Nat) : FuncId → List PV → Sig → Cl := qtBy (impl_mulGf.says N)
noncomputable def impl_mulGf.l0.hd : Alt := ⟨.normal, [], [0, 1, 5], [.one (.sh (.int .u8)), .one (.sh (.int .u8)), .one (.sh (.int .u8))], [], [⟨[], [], [], []⟩]⟩
noncomputable def impl_mulGf.l0.outs : List Alt := [⟨(.exit 0), [], [5], [.one (.sh (.int .u8))], [], [⟨[], [], [], []⟩]⟩]
noncomputable def impl_mulGf.l0 (N : Nat) (a1 : Int) (b1 : Int) (out : Int) : Option ((Int × Unit) × Unit) :=
  loopK Try.prog impl_mulGf.call impl_mulGf.qt impl_mulGf.H (codeAt (bodyOf Try.f114) [1, 1, 0, 0, 0]) 0 impl_mulGf.l0.hd impl_mulGf.l0.outs [] N ((a1, (b1, (out, ()))), ())
noncomputable def impl_mulGf (N : Nat) (a : Int) (b : Int) : Option ((Int × Unit) × Unit) :=
  ofFn Try.prog impl_mulGf.call impl_mulGf.qt impl_mulGf.H N Try.f114 [.one (.sh (.int .u8)), .one (.sh (.int .u8))] [] [.one (.sh (.int .u8))] [] [⟨[], [], [], []⟩] (a, (b, ())) ()
noncomputable def impl_mulGf.S (N : Nat) : Say := ⟨false, 114, [.one (.sh (.int .u8)), .one (.sh (.int .u8))], [], [.one (.sh (.int .u8))], [], fun a s => impl_mulGf N a.1 a.2.1⟩
set_option maxRecDepth 100000 in
theorem impl_mulGf.l0.eq (N : Nat) (a1 : Int) (b1 : Int) (out : Int) : impl_mulGf.l0 (N + 1) a1 b1 out =
 sel (!(decide (b1 = 0)))
  (
  andK (α := ((Int × Unit) × Unit)) (
   sel (decide ((Go.bits .and .u8 b1 1) = 1))
    (
    some ((((Go.bits .xor .u8 out a1), ()), ())))
    (
    some (((out, ()), ())))) fun j1 =>
  andK (α := ((Int × Unit) × Unit)) (
   sel (!(decide ((Go.bits .and .u8 a1 128) = 0)))
    (
    some ((((Go.bits .xor .u8 (shlI .u8 a1 1) 27), ()), ())))
    (
    some ((((shlI .u8 a1 1), ()), ())))) fun j2 =>
  impl_mulGf.l0 N j2.1.1 (shrI .u8 b1 1) j1.1.1)
  (
  some (((out, ()), ()))) := by kernel_rfl
set_option maxRecDepth 100000 in
theorem impl_mulGf.eq (N : Nat) (a : Int) (b : Int) : impl_mulGf N a b =
 andK (impl_mulGf.l0 N a b 0) fun l3 =>
 some ((l3.1.1, ()), ()) := by kernel_rfl
set_option maxRecDepth 100000 in
theorem impl_mulGf.say (N : Nat) : SayOk Try.prog (impl_mulGf.S N) := sayOk_mk (N := N) (H := impl_mulGf.H) (preps := [⟨[], [], [], []⟩]) (l := impl_mulGf.says) (fn := Try.f114) (c := bodyOf Try.f114)
  (by kernel_rfl) (by kernel_rfl) (by kernel_rfl) (by kernel_rfl) (by kernel_rfl) (by kernel_rfl) (by kernel_rfl)
  (fun N => SayAll.nil) (fun a s => by kernel_rfl)

/-! ### loop.example/g00206/impl.inverseGf: function 136 -/
noncomputable def impl_inverseGf.H : Hints := hintsOf [(2000003, .loop ⟨.normal, [0], [3, 4], [.one (.sh (.int .u8)), ak_i], [], [⟨[], [], [], []⟩]⟩ [⟨(.exit 0), [], [3], [.one (.sh (.int .u8))], [], [⟨[], [], [], []⟩]⟩])]
noncomputable def impl_inverseGf.says (N : Nat) : List Say := [impl_mulGf.S N]
noncomputable def impl_inverseGf.call (N : Nat) : CallK := callBy (impl_inverseGf.says N)
noncomputable def impl_inverseGf.qt (N : Nat) : FuncId → List PV → Sig → Cl := qtBy (impl_inverseGf.says N)
noncomputable def impl_inverseGf.l0.hd : Alt := ⟨.normal, [0], [3, 4], [.one (.sh (.int .u8)), ak_i], [], [⟨[], [], [], []⟩]⟩
noncomputable def impl_inverseGf.l0.outs : List Alt := [⟨(.exit 0), [], [3], [.one (.sh (.int .u8))], [], [⟨[], [], [], []⟩]⟩]
noncomputable def impl_inverseGf.l0 (N : Nat) (a1 : Int) (out : Int) (t4 : Int) : Option ((Int × Unit) × Unit) :=
  loopK Try.prog impl_inverseGf.call impl_inverseGf.qt impl_inverseGf.H (codeAt (bodyOf Try.f136) [1, 1, 0, 1, 0, 0]) 0 impl_inverseGf.l0.hd impl_inverseGf.l0.outs [(0, .v (.int .u8 a1))] N ((out, (t4, ())), ())
noncomputable def impl_inverseGf (N : Nat) (a : Int) : Option ((Int × Unit) × Unit) :=
  ofFn Try.prog impl_inverseGf.call impl_inverseGf.qt impl_inverseGf.H N Try.f136 [.one (.sh (.int .u8))] [] [.one (.sh (.int .u8))] [] [⟨[], [], [], []⟩] (a, ()) ()
noncomputable def impl_inverseGf.S (N : Nat) : Say := ⟨false, 136, [.one (.sh (.int .u8))], [], [.one (.sh (.int .u8))], [], fun a s => impl_inverseGf N a.1⟩
set_option maxRecDepth 100000 in
theorem impl_inverseGf.l0.eq (N : Nat) (a1 : Int) (out : Int) (t4 : Int) : impl_inverseGf.l0 (N + 1) a1 out t4 =
 sel (decide (t4 < 254))
  (
  andK (impl_mulGf N out a1) fun u1 =>
  impl_inverseGf.l0 N a1 u1.1.1 (IntKind.i64.wrap (t4 + 1)))
  (
  some (((out, ()), ()))) := by kernel_rfl
set_option maxRecDepth 100000 in
theorem impl_inverseGf.eq (N : Nat) (a : Int) : impl_inverseGf N a =
 andK (impl_inverseGf.l0 N a 1 0) fun l2 =>
 some ((l2.1.1, ()), ()) := by kernel_rfl
set_option maxRecDepth 100000 in
theorem impl_inverseGf.say (N : Nat) : SayOk Try.prog (impl_inverseGf.S N) := sayOk_mk (N := N) (H := impl_inverseGf.H) (preps := [⟨[], [], [], []⟩]) (l := impl_inverseGf.says) (fn := Try.f136) (c := bodyOf Try.f136)
  (by kernel_rfl) (by kernel_rfl) (by kernel_rfl) (by kernel_rfl) (by kernel_rfl) (by kernel_rfl) (by kernel_rfl)
  (fun N => SayAll.cons (impl_mulGf.say N) (SayAll.nil)) (fun a s => by kernel_rfl)

/-! ### math/bits.RotateLeft8: function 137 -/
noncomputable def math_bits_RotateLeft8.H : Hints := hintsOf []
noncomputable def math_bits_RotateLeft8.says (N : Nat) : List Say := []
noncomputable def math_bits_RotateLeft8.call (N : Nat) : CallK := callBy (math_bits_RotateLeft8.says N)
noncomputable def math_bits_RotateLeft8.qt (N : Nat) : FuncId → List PV → Sig → Cl := qtBy (math_bits_RotateLeft8.says N)
noncomputable def math_bits_RotateLeft8 (N : Nat) (x : Int) (k : Int) : Option ((Int × Unit) × Unit) :=
  ofFn Try.prog math_bits_RotateLeft8.call math_bits_RotateLeft8.qt math_bits_RotateLeft8.H N Try.f137 [.one (.sh (.int .u8)), ak_i] [] [.one (.sh (.int .u8))] [] [⟨[], [], [], []⟩] (x, (k, ())) ()
noncomputable def math_bits_RotateLeft8.S (N : Nat) : Say := ⟨false, 137, [.one (.sh (.int .u8)), ak_i], [], [.one (.sh (.int .u8))], [], fun a s => math_bits_RotateLeft8 N a.1 a.2.1⟩
set_option maxRecDepth 100000 in
theorem math_bits_RotateLeft8.eq (N : Nat) (x : Int) (k : Int) : math_bits_RotateLeft8 N x k =
 chk (decide (0 ≤ (Go.bits .and .u64 (IntKind.u64.wrap k) 7))) (
 chk (decide (0 ≤ (IntKind.u64.wrap (8 - (Go.bits .and .u64 (IntKind.u64.wrap k) 7))))) (
 some (((Go.bits .or .u8 (shlI .u8 x (Go.bits .and .u64 (IntKind.u64.wrap k) 7)) (shrI .u8 x (IntKind.u64.wrap (8 - (Go.bits .and .u64 (IntKind.u64.wrap k) 7))))), ()), ()))) := by kernel_rfl
set_option maxRecDepth 100000 in
theorem math_bits_RotateLeft8.say (N : Nat) : SayOk Try.prog (math_bits_RotateLeft8.S N) := sayOk_mk (N := N) (H := math_bits_RotateLeft8.H) (preps := [⟨[], [], [], []⟩]) (l := math_bits_RotateLeft8.says) (fn := Try.f137) (c := bodyOf Try.f137)
  (by kernel_rfl) (by kernel_rfl) (by kernel_rfl) (by kernel_rfl) (by kernel_rfl) (by kernel_rfl) (by kernel_rfl)
  (fun N => SayAll.nil) (fun a s => by kernel_rfl)

/-! ### loop.example/g00206/impl.subByte: function 129 -/
noncomputable def impl_subByte.H : Hints := hintsOf [(2000004, .loop ⟨.normal, [3], [4, 5], [.one (.sh (.int .u8)), ak_i], [], [⟨[], [], [], []⟩]⟩ [⟨(.exit 0), [], [4], [.one (.sh (.int .u8))], [], [⟨[], [], [], []⟩]⟩])]
noncomputable def impl_subByte.says (N : Nat) : List Say := [impl_inverseGf.S N, math_bits_RotateLeft8.S N]
noncomputable def impl_subByte.call (N : Nat) : CallK := callBy (impl_subByte.says N)
noncomputable def impl_subByte.qt (N : Nat) : FuncId → List PV → Sig → Cl := qtBy (impl_subByte.says N)
noncomputable def impl_subByte.l0.hd : Alt := ⟨.normal, [3], [4, 5], [.one (.sh (.int .u8)), ak_i], [], [⟨[], [], [], []⟩]⟩
noncomputable def impl_subByte.l0.outs : List Alt := [⟨(.exit 0), [], [4], [.one (.sh (.int .u8))], [], [⟨[], [], [], []⟩]⟩]
noncomputable def impl_subByte.l0 (N : Nat) (c : Int) (out : Int) (i : Int) : Option ((Int × Unit) × Unit) :=
  loopK Try.prog impl_subByte.call impl_subByte.qt impl_subByte.H (codeAt (bodyOf Try.f129) [1, 1, 1, 0, 1, 0, 0]) 0 impl_subByte.l0.hd impl_subByte.l0.outs [(3, .v (.int .u8 c))] N ((out, (i, ())), ())
noncomputable def impl_subByte (N : Nat) (b : Int) : Option ((Int × Unit) × Unit) :=
  ofFn Try.prog impl_subByte.call impl_subByte.qt impl_subByte.H N Try.f129 [.one (.sh (.int .u8))] [] [.one (.sh (.int .u8))] [] [⟨[], [], [], []⟩] (b, ()) ()
noncomputable def impl_subByte.S (N : Nat) : Say := ⟨false, 129, [.one (.sh (.int .u8))], [], [.one (.sh (.int .u8))], [], fun a s => impl_subByte N a.1⟩
set_option maxRecDepth 100000 in
theorem impl_subByte.l0.eq (N : Nat) (c : Int) (out : Int) (i : Int) : impl_subByte.l0 (N + 1) c out i =
 sel (decide (i < 5))
  (
  andK (math_bits_RotateLeft8 N c i) fun u2 =>
  impl_subByte.l0 N c (Go.bits .xor .u8 out u2.1.1) (IntKind.i64.wrap (i + 1)))
  (
  some (((out, ()), ()))) := by kernel_rfl
set_option maxRecDepth 100000 in
theorem impl_subByte.eq (N : Nat) (b : Int) : impl_subByte N b =
 andK (impl_inverseGf N b) fun u1 =>
 andK (impl_subByte.l0 N u1.1.1 (Go.bits .xor .u8 u1.1.1 99) 1) fun l3 =>
 some ((l3.1.1, ()), ()) := by kernel_rfl
set_option maxRecDepth 100000 in
theorem impl_subByte.say (N : Nat) : SayOk Try.prog (impl_subByte.S N) := sayOk_mk (N := N) (H := impl_subByte.H) (preps := [⟨[], [], [], []⟩]) (l := impl_subByte.says) (fn := Try.f129) (c := bodyOf Try.f129)
  (by kernel_rfl) (by kernel_rfl) (by kernel_rfl) (by kernel_rfl) (by kernel_rfl) (by kernel_rfl) (by kernel_rfl)
  (fun N => SayAll.cons (impl_inverseGf.say N) (SayAll.cons (math_bits_RotateLeft8.say N) (SayAll.nil))) (fun a s => by kernel_rfl)

/-! ### loop.example/g00206/impl.newBox: function 113 -/
noncomputable def impl_newBox.H : Hints := hintsOf [(2000003, .loop ⟨.normal, [], [1, 6], [.one (.apl 0 0 512), ak_i], [.rows (.int .u8)], [⟨[], [], [], []⟩]⟩ [⟨(.exit 0), [], [1], [.one (.apl 0 0 512)], [.rows (.int .u8)], [⟨[], [], [], []⟩]⟩])]
noncomputable def impl_newBox.says (N : Nat) : List Say := [impl_subByte.S N]
noncomputable def impl_newBox.call (N : Nat) : CallK := callBy (impl_newBox.says N)
noncomputable def impl_newBox.qt (N : Nat) : FuncId → List PV → Sig → Cl := qtBy (impl_newBox.says N)
noncomputable def impl_newBox.l0.hd : Alt := ⟨.normal, [], [1, 6], [.one (.apl 0 0 512), ak_i], [.rows (.int .u8)], [⟨[], [], [], []⟩]⟩
noncomputable def impl_newBox.l0.outs : List Alt := [⟨(.exit 0), [], [1], [.one (.apl 0 0 512)], [.rows (.int .u8)], [⟨[], [], [], []⟩]⟩]
noncomputable def impl_newBox.l0 (N : Nat) (t6 : Int) (p0 : (List Int)) : Option ((Unit × Unit) × ((List Int) × Unit)) :=
  loopK Try.prog impl_newBox.call impl_newBox.qt impl_newBox.H (codeAt (bodyOf Try.f113) [1, 1, 0, 1, 0, 0]) 1 impl_newBox.l0.hd impl_newBox.l0.outs [] N (((), (t6, ())), (p0, ()))
noncomputable def impl_newBox (N : Nat) : Option ((Unit × Unit) × ((List Int) × Unit)) :=
  ofFn Try.prog impl_newBox.call impl_newBox.qt impl_newBox.H N Try.f113 [] [] [.one (.apl 0 0 512)] [.rows (.int .u8)] [⟨[], [], [], [0]⟩] () ()
noncomputable def impl_newBox.S (N : Nat) : Say := ⟨false, 113, [], [], [.one (.apl 0 0 512)], [.rows (.int .u8)], fun a s => impl_newBox N⟩
set_option maxRecDepth 100000 in
theorem impl_newBox.l0.eq (N : Nat) (t6 : Int) (p0 : (List Int)) : impl_newBox.l0 (N + 1) t6 p0 =
 sel (decide (t6 < 256))
  (
  andK (impl_subByte N (IntKind.u8.wrap t6)) fun u1 =>
  chk ((decide (0 ≤ t6)) && (decide (t6 < 256))) (
  chk ((decide (0 ≤ u1.1.1)) && (decide (u1.1.1 < 256))) (
  impl_newBox.l0 N (IntKind.i64.wrap (t6 + 1)) ((p0.set (0 + (Int.toNat t6)) u1.1.1).set (256 + (Int.toNat u1.1.1)) (IntKind.u8.wrap t6)))))
  (
  some ((((), ()), (p0, ())))) := by kernel_rfl
set_option maxRecDepth 100000 in
theorem impl_newBox.eq (N : Nat) : impl_newBox N =
 andK (impl_newBox.l0 N 0 (List.replicate 512 (0 : Int))) fun l2 =>
 some (((), ()), (l2.2.1, ())) := by kernel_rfl
set_option maxRecDepth 100000 in
theorem impl_newBox.say (N : Nat) : SayOk Try.prog (impl_newBox.S N) := sayOk_mk (N := N) (H := impl_newBox.H) (preps := [⟨[], [], [], [0]⟩]) (l := impl_newBox.says) (fn := Try.f113) (c := bodyOf Try.f113)
  (by kernel_rfl) (by kernel_rfl) (by kernel_rfl) (by kernel_rfl) (by kernel_rfl) (by kernel_rfl) (by kernel_rfl)
  (fun N => SayAll.cons (impl_subByte.say N) (SayAll.nil)) (fun a s => by kernel_rfl)

/-! ### loop.example/g00206/impl.cipherOf: function 87 -/
noncomputable def impl_cipherOf.H : Hints := hintsOf [(10, .join [⟨.normal, [5], [3, 4, 6], [.one (.ptr 2 0), .one (.sh (.int .u8)), .one (.apl 3 0 4)], [.rows (.int .u8), .rows (.int .u8), .cells [.apl 0 0 512, .own 1], .rows (.int .u8)], [⟨[], [], [], []⟩]⟩]),
  (2000011, .loop ⟨.normal, [4, 5, 76], [3, 77], [.one (.ptr 2 0), ak_i], [.rows (.int .u8), .rows (.int .u8), .cells [.apl 0 0 512, .own 1], .rows (.int .u8)], [⟨[], [], [], []⟩]⟩ [⟨(.exit 2), [4, 5], [3], [.one (.ptr 2 0)], [.rows (.int .u8), .rows (.int .u8), .cells [.apl 0 0 512, .own 1], .rows (.int .u8)], [⟨[], [], [], []⟩]⟩]),
  (2000004, .loop ⟨.normal, [], [3, 4, 5], [.one (.ptr 2 0), .one (.sh (.int .u8)), ak_i], [.rows (.int .u8), .rows (.int .u8), .cells [.apl 0 0 512, .own 1]], [⟨[], [], [], []⟩]⟩ [⟨(.exit 0), [], [3], [.one (.ptr 2 0)], [.rows (.int .u8), .rows (.int .u8), .cells [.apl 0 0 512, .own 1]], [⟨[], [], [], []⟩]⟩])]
noncomputable def impl_cipherOf.says (N : Nat) : List Say := [impl_newBox.S N, impl_mulGf.S N]
noncomputable def impl_cipherOf.call (N : Nat) : CallK := callBy (impl_cipherOf.says N)
noncomputable def impl_cipherOf.qt (N : Nat) : FuncId → List PV → Sig → Cl := qtBy (impl_cipherOf.says N)
noncomputable def impl_cipherOf.l0.hd : Alt := ⟨.normal, [], [3, 4, 5], [.one (.ptr 2 0), .one (.sh (.int .u8)), ak_i], [.rows (.int .u8), .rows (.int .u8), .cells [.apl 0 0 512, .own 1]], [⟨[], [], [], []⟩]⟩
noncomputable def impl_cipherOf.l0.outs : List Alt := [⟨(.exit 0), [], [3], [.one (.ptr 2 0)], [.rows (.int .u8), .rows (.int .u8), .cells [.apl 0 0 512, .own 1]], [⟨[], [], [], []⟩]⟩]
noncomputable def impl_cipherOf.l0 (N : Nat) (o : Int) (d : Int) (p0 : (List Int)) (p1 : (List Int)) : Option ((Unit × Unit) × ((List Int) × ((List Int) × ((Unit × (Unit × Unit)) × Unit)))) :=
  loopK Try.prog impl_cipherOf.call impl_cipherOf.qt impl_cipherOf.H (codeAt (bodyOf Try.f87) [1, 1, 1, 0, 1, 0, 0]) 3 impl_cipherOf.l0.hd impl_cipherOf.l0.outs [] N (((), (o, (d, ()))), (p0, (p1, (((), ((), ())), ()))))
noncomputable def impl_cipherOf.l1.hd : Alt := ⟨.normal, [4, 5, 76], [3, 77], [.one (.ptr 2 0), ak_i], [.rows (.int .u8), .rows (.int .u8), .cells [.apl 0 0 512, .own 1], .rows (.int .u8)], [⟨[], [], [], []⟩]⟩
noncomputable def impl_cipherOf.l1.outs : List Alt := [⟨(.exit 2), [4, 5], [3], [.one (.ptr 2 0)], [.rows (.int .u8), .rows (.int .u8), .cells [.apl 0 0 512, .own 1], .rows (.int .u8)], [⟨[], [], [], []⟩]⟩]
noncomputable def impl_cipherOf.l1 (N : Nat) (o1 : Int) (d1 : Int) (t76 : (List Int)) (t77 : Int) (p01 : (List Int)) (p11 : (List Int)) (p3 : (List Int)) : Option ((Unit × Unit) × ((List Int) × ((List Int) × ((Unit × (Unit × Unit)) × ((List Int) × Unit))))) :=
  loopK Try.prog impl_cipherOf.call impl_cipherOf.qt impl_cipherOf.H (codeAt (bodyOf Try.f87) [1, 1, 1, 0, 1, 0, 0, 1, 0, 0, 1, 1, 1, 0, 0]) 4 impl_cipherOf.l1.hd impl_cipherOf.l1.outs [(4, .v (.int .u8 o1)), (5, .v (.int .i64 d1)), (76, .arr .u8 t76)] N (((), (t77, ())), (p01, (p11, (((), ((), ())), (p3, ())))))
noncomputable def impl_cipherOf (N : Nat) (G : ByteArray) : Option ((Unit × Unit) × ((Unit × (Unit × Unit)) × ((List Int) × ((List Int) × Unit)))) :=
  ofFn Try.prog impl_cipherOf.call impl_cipherOf.qt impl_cipherOf.H N Try.f87 [ak_s] [] [.one (.ptr 0 0)] [.cells [.apl 1 0 512, .own 2], .rows (.int .u8), .rows (.int .u8)] [⟨[], [], [], [2, 0, 1]⟩] (G, ()) ()
noncomputable def impl_cipherOf.S (N : Nat) : Say := ⟨false, 87, [ak_s], [], [.one (.ptr 0 0)], [.cells [.apl 1 0 512, .own 2], .rows (.int .u8), .rows (.int .u8)], fun a s => impl_cipherOf N a.1⟩
set_option maxRecDepth 100000 in
theorem impl_cipherOf.l1.eq (N : Nat) (o1 : Int) (d1 : Int) (t76 : (List Int)) (t77 : Int) (p01 : (List Int)) (p11 : (List Int)) (p3 : (List Int)) : impl_cipherOf.l1 (N + 1) o1 d1 t76 t77 p01 p11 p3 =
 sel (decide (t77 < 4))
  (
  chk ((decide (0 ≤ t77)) && ((decide (t77 < 4)) && (decide (t77 < (t76.length : Int))))) (
  chk ((decide (0 ≤ (IntKind.i64.wrap ((IntKind.i64.wrap ((IntKind.i64.wrap (4 * d1)) - 16)) + t77)))) && (decide ((IntKind.i64.wrap ((IntKind.i64.wrap ((IntKind.i64.wrap (4 * d1)) - 16)) + t77)) < (p11.length : Int)))) (
  chk (decide (p11.length + 1 < most)) (
  impl_cipherOf.l1 N o1 d1 t76 (IntKind.i64.wrap (t77 + 1)) p01 (p11 ++ [(Go.bits .xor .u8 (p11.getD (Int.toNat (IntKind.i64.wrap ((IntKind.i64.wrap ((IntKind.i64.wrap (4 * d1)) - 16)) + t77))) 0) (t76.getD (Int.toNat t77) 0))]) p3))))
  (
  some ((((), ()), (p01, (p11, (((), ((), ())), (p3, ()))))))) := by kernel_rfl
set_option maxRecDepth 100000 in
theorem impl_cipherOf.l0.eq (N : Nat) (o : Int) (d : Int) (p0 : (List Int)) (p1 : (List Int)) : impl_cipherOf.l0 (N + 1) o d p0 p1 =
 sel (decide (d < 44))
  (
  chk ((decide (0 ≤ (IntKind.i64.wrap ((IntKind.i64.wrap (4 * d)) - 4)))) && ((decide ((IntKind.i64.wrap ((IntKind.i64.wrap (4 * d)) - 4)) ≤ (p1.length : Int))) && (decide ((p1.length : Int) ≤ (p1.length : Int))))) (
  chk (decide (4 ≤ ((Int.toNat (p1.length : Int)) - (Int.toNat (IntKind.i64.wrap ((IntKind.i64.wrap (4 * d)) - 4)))))) (
  chk ((decide ((List.replicate 4 (0 : Int)).length = 4)) && (decide (((p1.drop (Int.toNat (IntKind.i64.wrap ((IntKind.i64.wrap (4 * d)) - 4)))).take 4).length = 4))) (
  andK (α := ((Unit × (Int × (Unit × Unit))) × ((List Int) × ((List Int) × ((Unit × (Unit × Unit)) × ((List Int) × Unit)))))) (
   sel (decide ((Int.tmod d 4) = 0))
    (
    chk ((decide (0 ≤ (((p1.drop (Int.toNat (IntKind.i64.wrap ((IntKind.i64.wrap (4 * d)) - 4)))).take 4).getD 1 0))) && (decide ((((p1.drop (Int.toNat (IntKind.i64.wrap ((IntKind.i64.wrap (4 * d)) - 4)))).take 4).getD 1 0) < 256))) (
    chk ((decide (0 ≤ (((p1.drop (Int.toNat (IntKind.i64.wrap ((IntKind.i64.wrap (4 * d)) - 4)))).take 4).getD 2 0))) && (decide ((((p1.drop (Int.toNat (IntKind.i64.wrap ((IntKind.i64.wrap (4 * d)) - 4)))).take 4).getD 2 0) < 256))) (
    chk ((decide (0 ≤ (((p1.drop (Int.toNat (IntKind.i64.wrap ((IntKind.i64.wrap (4 * d)) - 4)))).take 4).getD 3 0))) && (decide ((((p1.drop (Int.toNat (IntKind.i64.wrap ((IntKind.i64.wrap (4 * d)) - 4)))).take 4).getD 3 0) < 256))) (
    chk ((decide (0 ≤ (((p1.drop (Int.toNat (IntKind.i64.wrap ((IntKind.i64.wrap (4 * d)) - 4)))).take 4).getD 0 0))) && (decide ((((p1.drop (Int.toNat (IntKind.i64.wrap ((IntKind.i64.wrap (4 * d)) - 4)))).take 4).getD 0 0) < 256))) (
    chk ((decide (((p1.drop (Int.toNat (IntKind.i64.wrap ((IntKind.i64.wrap (4 * d)) - 4)))).take 4).length = 4)) && true) (
    andK (impl_mulGf N o 2) fun u2 =>
    some ((((), (u2.1.1, ((), ()))), (p0, (p1, (((), ((), ())), ([(Go.bits .xor .u8 (p0.getD (0 + (Int.toNat (((p1.drop (Int.toNat (IntKind.i64.wrap ((IntKind.i64.wrap (4 * d)) - 4)))).take 4).getD 1 0))) 0) o), (p0.getD (0 + (Int.toNat (((p1.drop (Int.toNat (IntKind.i64.wrap ((IntKind.i64.wrap (4 * d)) - 4)))).take 4).getD 2 0))) 0), (p0.getD (0 + (Int.toNat (((p1.drop (Int.toNat (IntKind.i64.wrap ((IntKind.i64.wrap (4 * d)) - 4)))).take 4).getD 3 0))) 0), (p0.getD (0 + (Int.toNat (((p1.drop (Int.toNat (IntKind.i64.wrap ((IntKind.i64.wrap (4 * d)) - 4)))).take 4).getD 0 0))) 0)], ()))))))))))))
    (
    some ((((), (o, ((), ()))), (p0, (p1, (((), ((), ())), (((p1.drop (Int.toNat (IntKind.i64.wrap ((IntKind.i64.wrap (4 * d)) - 4)))).take 4), ())))))))) fun j3 =>
  andK (impl_cipherOf.l1 N j3.1.2.1 d ((j3.2.2.2.2.1.drop 0).take 4) 0 j3.2.1 j3.2.2.1 j3.2.2.2.2.1) fun l4 =>
  impl_cipherOf.l0 N j3.1.2.1 (IntKind.i64.wrap (d + 1)) l4.2.1 l4.2.2.1))))
  (
  some ((((), ()), (p0, (p1, (((), ((), ())), ())))))) := by kernel_rfl
set_option maxRecDepth 100000 in
theorem impl_cipherOf.eq (N : Nat) (G : ByteArray) : impl_cipherOf N G =
 andK (impl_newBox N) fun u1 =>
 andK (impl_cipherOf.l0 N 1 4 u1.2.1 (bytesL G)) fun l5 =>
 some (((), ()), (((), ((), ())), (l5.2.1, (l5.2.2.1, ())))) := by kernel_rfl
set_option maxRecDepth 100000 in
theorem impl_cipherOf.say (N : Nat) : SayOk Try.prog (impl_cipherOf.S N) := sayOk_mk (N := N) (H := impl_cipherOf.H) (preps := [⟨[], [], [], [2, 0, 1]⟩]) (l := impl_cipherOf.says) (fn := Try.f87) (c := bodyOf Try.f87)
  (by kernel_rfl) (by kernel_rfl) (by kernel_rfl) (by kernel_rfl) (by kernel_rfl) (by kernel_rfl) (by kernel_rfl)
  (fun N => SayAll.cons (impl_newBox.say N) (SayAll.cons (impl_mulGf.say N) (SayAll.nil))) (fun a s => by kernel_rfl)

/-! ### (*loop.example/g00206/impl.cipher).addKey: function 115 -/
noncomputable def impl_cipher_addKey.H : Hints := hintsOf [(2000001, .loop ⟨.normal, [2, 8], [0, 1, 9], [.one (.ptr 0 0), .one (.own 1), ak_i], [.cells [.apl 2 0 512, .own 3], .rows (.int .u8) true, .rows (.int .u8) true, .rows (.int .u8) true], [⟨[], [], [], []⟩]⟩ [⟨(.exit 0), [], [], [], [.cells [.apl 2 0 512, .own 3], .rows (.int .u8) true, .rows (.int .u8) true, .rows (.int .u8) true], [⟨[], [], [], []⟩]⟩])]
noncomputable def impl_cipher_addKey.says (N : Nat) : List Say := []
noncomputable def impl_cipher_addKey.call (N : Nat) : CallK := callBy (impl_cipher_addKey.says N)
noncomputable def impl_cipher_addKey.qt (N : Nat) : FuncId → List PV → Sig → Cl := qtBy (impl_cipher_addKey.says N)
noncomputable def impl_cipher_addKey.l0.hd : Alt := ⟨.normal, [2, 8], [0, 1, 9], [.one (.ptr 0 0), .one (.own 1), ak_i], [.cells [.apl 2 0 512, .own 3], .rows (.int .u8) true, .rows (.int .u8) true, .rows (.int .u8) true], [⟨[], [], [], []⟩]⟩
noncomputable def impl_cipher_addKey.l0.outs : List Alt := [⟨(.exit 0), [], [], [], [.cells [.apl 2 0 512, .own 3], .rows (.int .u8) true, .rows (.int .u8) true, .rows (.int .u8) true], [⟨[], [], [], []⟩]⟩]
noncomputable def impl_cipher_addKey.l0 (N : Nat) (round1 : Int) (t8 : Int) (t9 : Int) (p11 : (List Int)) (p21 : (List Int)) (p31 : (List Int)) : Option (Unit × ((Unit × (Unit × Unit)) × ((List Int) × ((List Int) × ((List Int) × Unit))))) :=
  loopK Try.prog impl_cipher_addKey.call impl_cipher_addKey.qt impl_cipher_addKey.H (codeAt (bodyOf Try.f115) [1, 0, 0]) 4 impl_cipher_addKey.l0.hd impl_cipher_addKey.l0.outs [(2, .v (.int .i64 round1)), (8, .v (.int .i64 t8))] N (((), ((), (t9, ()))), (((), ((), ())), (p11, (p21, (p31, ())))))
noncomputable def impl_cipher_addKey (N : Nat) (round : Int) (p1 : (List Int)) (p2 : (List Int)) (p3 : (List Int)) : Option (Unit × ((Unit × (Unit × Unit)) × ((List Int) × ((List Int) × ((List Int) × Unit))))) :=
  ofFn Try.prog impl_cipher_addKey.call impl_cipher_addKey.qt impl_cipher_addKey.H N Try.f115 [.one (.ptr 0 0), .one (.own 1), ak_i] [.cells [.apl 2 0 512, .own 3], .rows (.int .u8), .rows (.int .u8), .rows (.int .u8)] [] [.cells [.apl 2 0 512, .own 3], .rows (.int .u8) true, .rows (.int .u8) true, .rows (.int .u8) true] [⟨[], [], [], []⟩] ((), ((), (round, ()))) (((), ((), ())), (p1, (p2, (p3, ()))))
noncomputable def impl_cipher_addKey.S (N : Nat) : Say := ⟨false, 115, [.one (.ptr 0 0), .one (.own 1), ak_i], [.cells [.apl 2 0 512, .own 3], .rows (.int .u8), .rows (.int .u8), .rows (.int .u8)], [], [.cells [.apl 2 0 512, .own 3], .rows (.int .u8) true, .rows (.int .u8) true, .rows (.int .u8) true], fun a s => impl_cipher_addKey N a.2.2.1 s.2.1 s.2.2.1 s.2.2.2.1⟩
set_option maxRecDepth 100000 in
theorem impl_cipher_addKey.l0.eq (N : Nat) (round1 : Int) (t8 : Int) (t9 : Int) (p11 : (List Int)) (p21 : (List Int)) (p31 : (List Int)) : impl_cipher_addKey.l0 (N + 1) round1 t8 t9 p11 p21 p31 =
 sel (decide (t9 < t8))
  (
  chk ((decide (0 ≤ t9)) && (decide (t9 < (p11.length : Int)))) (
  chk ((decide (0 ≤ (IntKind.i64.wrap ((IntKind.i64.wrap (16 * round1)) + t9)))) && (decide ((IntKind.i64.wrap ((IntKind.i64.wrap (16 * round1)) + t9)) < (p31.length : Int)))) (
  chk ((decide (0 ≤ t9)) && (decide (t9 < (p11.length : Int)))) (
  impl_cipher_addKey.l0 N round1 t8 (IntKind.i64.wrap (t9 + 1)) (p11.set (Int.toNat t9) (Go.bits .xor .u8 (p11.getD (Int.toNat t9) 0) (p31.getD (Int.toNat (IntKind.i64.wrap ((IntKind.i64.wrap (16 * round1)) + t9))) 0))) p21 p31))))
  (
  some (((), (((), ((), ())), (p11, (p21, (p31, ()))))))) := by kernel_rfl
set_option maxRecDepth 100000 in
theorem impl_cipher_addKey.eq (N : Nat) (round : Int) (p1 : (List Int)) (p2 : (List Int)) (p3 : (List Int)) : impl_cipher_addKey N round p1 p2 p3 =
 andK (impl_cipher_addKey.l0 N round (p1.length : Int) 0 p1 p2 p3) fun l1 =>
 some ((), (((), ((), ())), (l1.2.2.1, (l1.2.2.2.1, (l1.2.2.2.2.1, ()))))) := by kernel_rfl
set_option maxRecDepth 100000 in
theorem impl_cipher_addKey.say (N : Nat) : SayOk Try.prog (impl_cipher_addKey.S N) := sayOk_mk (N := N) (H := impl_cipher_addKey.H) (preps := [⟨[], [], [], []⟩]) (l := impl_cipher_addKey.says) (fn := Try.f115) (c := bodyOf Try.f115)
  (by kernel_rfl) (by kernel_rfl) (by kernel_rfl) (by kernel_rfl) (by kernel_rfl) (by kernel_rfl) (by kernel_rfl)
  (fun N => SayAll.nil) (fun a s => by kernel_rfl)

/-! ### loop.example/g00206/impl.shift: function 116 -/
noncomputable def impl_shift.H : Hints := hintsOf [(2000002, .loop ⟨.normal, [1, 10], [0, 4, 11], [.one (.own 0), .one (.apl 1 0 16), ak_i], [.rows (.int .u8) true, .rows (.int .u8)], [⟨[], [], [], []⟩]⟩ [⟨(.exit 0), [], [], [], [.rows (.int .u8) true, .rows (.int .u8)], [⟨[], [], [], []⟩]⟩])]
noncomputable def impl_shift.says (N : Nat) : List Say := []
noncomputable def impl_shift.call (N : Nat) : CallK := callBy (impl_shift.says N)
noncomputable def impl_shift.qt (N : Nat) : FuncId → List PV → Sig → Cl := qtBy (impl_shift.says N)
noncomputable def impl_shift.l0.hd : Alt := ⟨.normal, [1, 10], [0, 4, 11], [.one (.own 0), .one (.apl 1 0 16), ak_i], [.rows (.int .u8) true, .rows (.int .u8)], [⟨[], [], [], []⟩]⟩
noncomputable def impl_shift.l0.outs : List Alt := [⟨(.exit 0), [], [], [], [.rows (.int .u8) true, .rows (.int .u8)], [⟨[], [], [], []⟩]⟩]
noncomputable def impl_shift.l0 (N : Nat) (byv1 : Int) (t10 : Int) (t11 : Int) (p01 : (List Int)) (p1 : (List Int)) : Option (Unit × ((List Int) × ((List Int) × Unit))) :=
  loopK Try.prog impl_shift.call impl_shift.qt impl_shift.H (codeAt (bodyOf Try.f116) [1, 1, 0, 0]) 2 impl_shift.l0.hd impl_shift.l0.outs [(1, .v (.int .i64 byv1)), (10, .v (.int .i64 t10))] N (((), ((), (t11, ()))), (p01, (p1, ())))
noncomputable def impl_shift (N : Nat) (byv : Int) (p0 : (List Int)) : Option (Unit × ((List Int) × Unit)) :=
  ofFn Try.prog impl_shift.call impl_shift.qt impl_shift.H N Try.f116 [.one (.own 0), ak_i] [.rows (.int .u8)] [] [.rows (.int .u8) true] [⟨[], [], [], []⟩] ((), (byv, ())) (p0, ())
noncomputable def impl_shift.S (N : Nat) : Say := ⟨false, 116, [.one (.own 0), ak_i], [.rows (.int .u8)], [], [.rows (.int .u8) true], fun a s => impl_shift N a.2.1 s.1⟩
set_option maxRecDepth 100000 in
theorem impl_shift.l0.eq (N : Nat) (byv1 : Int) (t10 : Int) (t11 : Int) (p01 : (List Int)) (p1 : (List Int)) : impl_shift.l0 (N + 1) byv1 t10 t11 p01 p1 =
 sel (decide (t11 < t10))
  (
  chk ((decide (0 ≤ (IntKind.i64.wrap ((IntKind.i64.wrap (4 * (Int.tmod (IntKind.i64.wrap ((IntKind.i64.wrap (Int.tdiv t11 4)) + (IntKind.i64.wrap (byv1 * (Int.tmod t11 4))))) 4))) + (Int.tmod t11 4))))) && (decide ((IntKind.i64.wrap ((IntKind.i64.wrap (4 * (Int.tmod (IntKind.i64.wrap ((IntKind.i64.wrap (Int.tdiv t11 4)) + (IntKind.i64.wrap (byv1 * (Int.tmod t11 4))))) 4))) + (Int.tmod t11 4))) < 16))) (
  chk ((decide (0 ≤ t11)) && (decide (t11 < (p01.length : Int)))) (
  impl_shift.l0 N byv1 t10 (IntKind.i64.wrap (t11 + 1)) (p01.set (Int.toNat t11) (p1.getD (0 + (Int.toNat (IntKind.i64.wrap ((IntKind.i64.wrap (4 * (Int.tmod (IntKind.i64.wrap ((IntKind.i64.wrap (Int.tdiv t11 4)) + (IntKind.i64.wrap (byv1 * (Int.tmod t11 4))))) 4))) + (Int.tmod t11 4))))) 0)) p1)))
  (
  some (((), (p01, (p1, ()))))) := by kernel_rfl
set_option maxRecDepth 100000 in
theorem impl_shift.eq (N : Nat) (byv : Int) (p0 : (List Int)) : impl_shift N byv p0 =
 chk (decide (16 ≤ p0.length)) (
 chk ((decide ((List.replicate 16 (0 : Int)).length = 16)) && (decide (((p0.drop 0).take 16).length = 16))) (
 andK (impl_shift.l0 N byv (p0.length : Int) 0 p0 ((p0.drop 0).take 16)) fun l1 =>
 some ((), (l1.2.1, ())))) := by kernel_rfl
set_option maxRecDepth 100000 in
theorem impl_shift.say (N : Nat) : SayOk Try.prog (impl_shift.S N) := sayOk_mk (N := N) (H := impl_shift.H) (preps := [⟨[], [], [], []⟩]) (l := impl_shift.says) (fn := Try.f116) (c := bodyOf Try.f116)
  (by kernel_rfl) (by kernel_rfl) (by kernel_rfl) (by kernel_rfl) (by kernel_rfl) (by kernel_rfl) (by kernel_rfl)
  (fun N => SayAll.nil) (fun a s => by kernel_rfl)

/-! ### loop.example/g00206/impl.forth: function 118 -/
noncomputable def impl_forth.H : Hints := hintsOf []
noncomputable def impl_forth.says (N : Nat) : List Say := []
noncomputable def impl_forth.call (N : Nat) : CallK := callBy (impl_forth.says N)
noncomputable def impl_forth.qt (N : Nat) : FuncId → List PV → Sig → Cl := qtBy (impl_forth.says N)
noncomputable def impl_forth (N : Nat) : Option (((List Int) × Unit) × Unit) :=
  ofFn Try.prog impl_forth.call impl_forth.qt impl_forth.H N Try.f118 [] [] [.arr .u8] [] [⟨[], [], [], []⟩] () ()
noncomputable def impl_forth.S (N : Nat) : Say := ⟨false, 118, [], [], [.arr .u8], [], fun a s => impl_forth N⟩
set_option maxRecDepth 100000 in
theorem impl_forth.eq (N : Nat) : impl_forth N =
 chk ((decide ((List.replicate 4 (0 : Int)).length = 4)) && true) (
 some (((([2, 3, 1, 1].drop 0).take 4), ()), ())) := by kernel_rfl
set_option maxRecDepth 100000 in
theorem impl_forth.say (N : Nat) : SayOk Try.prog (impl_forth.S N) := sayOk_mk (N := N) (H := impl_forth.H) (preps := [⟨[], [], [], []⟩]) (l := impl_forth.says) (fn := Try.f118) (c := bodyOf Try.f118)
  (by kernel_rfl) (by kernel_rfl) (by kernel_rfl) (by kernel_rfl) (by kernel_rfl) (by kernel_rfl) (by kernel_rfl)
  (fun N => SayAll.nil) (fun a s => by kernel_rfl)

/-! ### loop.example/g00206/impl.mixed: function 117 -/
noncomputable def impl_mixed.H : Hints := hintsOf [(2000006, .loop ⟨.normal, [5, 9, 12], [0, 3, 4, 13], [.one (.ref 0), .one (.apl 1 0 4), .one (.apl 2 0 4), ak_i], [.rows (.int .u8) true, .rows (.int .u8), .rows (.int .u8)], [⟨[], [], [], []⟩]⟩ [⟨(.exit 2), [9], [0, 3, 4], [.one (.ref 0), .one (.apl 1 0 4), .one (.apl 2 0 4)], [.rows (.int .u8) true, .rows (.int .u8), .rows (.int .u8)], [⟨[], [], [], []⟩]⟩]),
  (2000003, .loop ⟨.normal, [], [0, 3, 4, 9], [.one (.ref 0), .one (.apl 1 0 4), .one (.apl 2 0 4), ak_i], [.rows (.int .u8) true, .rows (.int .u8), .rows (.int .u8)], [⟨[], [], [], []⟩]⟩ [⟨(.exit 0), [], [0, 4], [.one (.ref 0), .one (.apl 2 0 4)], [.rows (.int .u8) true, .rows (.int .u8), .rows (.int .u8)], [⟨[], [], [], []⟩]⟩])]
noncomputable def impl_mixed.says (N : Nat) : List Say := [impl_mulGf.S N]
noncomputable def impl_mixed.call (N : Nat) : CallK := callBy (impl_mixed.says N)
noncomputable def impl_mixed.qt (N : Nat) : FuncId → List PV → Sig → Cl := qtBy (impl_mixed.says N)
noncomputable def impl_mixed.l0.hd : Alt := ⟨.normal, [], [0, 3, 4, 9], [.one (.ref 0), .one (.apl 1 0 4), .one (.apl 2 0 4), ak_i], [.rows (.int .u8) true, .rows (.int .u8), .rows (.int .u8)], [⟨[], [], [], []⟩]⟩
noncomputable def impl_mixed.l0.outs : List Alt := [⟨(.exit 0), [], [0, 4], [.one (.ref 0), .one (.apl 2 0 4)], [.rows (.int .u8) true, .rows (.int .u8), .rows (.int .u8)], [⟨[], [], [], []⟩]⟩]
noncomputable def impl_mixed.l0 (N : Nat) (s1 : (Nat × Nat)) (t9 : Int) (p01 : (List Int)) (p1 : (List Int)) (p2 : (List Int)) : Option (((Nat × Nat) × (Unit × Unit)) × ((List Int) × ((List Int) × ((List Int) × Unit)))) :=
  loopK Try.prog impl_mixed.call impl_mixed.qt impl_mixed.H (codeAt (bodyOf Try.f117) [1, 1, 0, 1, 0, 0]) 3 impl_mixed.l0.hd impl_mixed.l0.outs [] N ((s1, ((), ((), (t9, ())))), (p01, (p1, (p2, ()))))
noncomputable def impl_mixed.l1.hd : Alt := ⟨.normal, [5, 9, 12], [0, 3, 4, 13], [.one (.ref 0), .one (.apl 1 0 4), .one (.apl 2 0 4), ak_i], [.rows (.int .u8) true, .rows (.int .u8), .rows (.int .u8)], [⟨[], [], [], []⟩]⟩
noncomputable def impl_mixed.l1.outs : List Alt := [⟨(.exit 2), [9], [0, 3, 4], [.one (.ref 0), .one (.apl 1 0 4), .one (.apl 2 0 4)], [.rows (.int .u8) true, .rows (.int .u8), .rows (.int .u8)], [⟨[], [], [], []⟩]⟩]
noncomputable def impl_mixed.l1 (N : Nat) (i : Int) (t91 : Int) (t12 : (List Int)) (s2 : (Nat × Nat)) (t13 : Int) (p02 : (List Int)) (p11 : (List Int)) (p21 : (List Int)) : Option (((Nat × Nat) × (Unit × (Unit × Unit))) × ((List Int) × ((List Int) × ((List Int) × Unit)))) :=
  loopK Try.prog impl_mixed.call impl_mixed.qt impl_mixed.H (codeAt (bodyOf Try.f117) [1, 1, 0, 1, 0, 0, 1, 1, 0, 0, 1, 1, 0, 0]) 3 impl_mixed.l1.hd impl_mixed.l1.outs [(5, .v (.int .i64 i)), (9, .v (.int .i64 t91)), (12, .arr .u8 t12)] N ((s2, ((), ((), (t13, ())))), (p02, (p11, (p21, ()))))
noncomputable def impl_mixed (N : Nat) (s : (Nat × Nat)) (byv : (List Int)) (p0 : (List Int)) : Option (Unit × ((List Int) × Unit)) :=
  ofFn Try.prog impl_mixed.call impl_mixed.qt impl_mixed.H N Try.f117 [.one (.ref 0), .arr .u8] [.rows (.int .u8)] [] [.rows (.int .u8) true] [⟨[], [], [], []⟩] (s, (byv, ())) (p0, ())
noncomputable def impl_mixed.S (N : Nat) : Say := ⟨false, 117, [.one (.ref 0), .arr .u8], [.rows (.int .u8)], [], [.rows (.int .u8) true], fun a s => impl_mixed N a.1 a.2.1 s.1⟩
set_option maxRecDepth 100000 in
theorem impl_mixed.l1.eq (N : Nat) (i : Int) (t91 : Int) (t12 : (List Int)) (s2 : (Nat × Nat)) (t13 : Int) (p02 : (List Int)) (p11 : (List Int)) (p21 : (List Int)) : impl_mixed.l1 (N + 1) i t91 t12 s2 t13 p02 p11 p21 =
 sel (decide (t13 < 4))
  (
  chk ((decide (0 ≤ t13)) && ((decide (t13 < 4)) && (decide (t13 < (t12.length : Int))))) (
  chk ((decide (0 ≤ i)) && (decide (i < 4))) (
  chk ((decide (0 ≤ (Int.tmod (IntKind.i64.wrap (i + t13)) 4))) && (decide ((Int.tmod (IntKind.i64.wrap (i + t13)) 4) < (s2.2 : Int)))) (
  andK (impl_mulGf N (t12.getD (Int.toNat t13) 0) (p02.getD (s2.1 + (Int.toNat (Int.tmod (IntKind.i64.wrap (i + t13)) 4))) 0)) fun u1 =>
  chk ((decide (0 ≤ i)) && (decide (i < 4))) (
  impl_mixed.l1 N i t91 t12 (s2.1, s2.2) (IntKind.i64.wrap (t13 + 1)) p02 p11 (p21.set (0 + (Int.toNat i)) (Go.bits .xor .u8 (p21.getD (0 + (Int.toNat i)) 0) u1.1.1)))))))
  (
  some ((((s2.1, s2.2), ((), ((), ()))), (p02, (p11, (p21, ())))))) := by kernel_rfl
set_option maxRecDepth 100000 in
theorem impl_mixed.l0.eq (N : Nat) (s1 : (Nat × Nat)) (t9 : Int) (p01 : (List Int)) (p1 : (List Int)) (p2 : (List Int)) : impl_mixed.l0 (N + 1) s1 t9 p01 p1 p2 =
 sel (decide (t9 < 4))
  (
  andK (impl_mixed.l1 N t9 t9 ((p1.drop 0).take 4) (s1.1, s1.2) 0 p01 p1 p2) fun l2 =>
  impl_mixed.l0 N (l2.1.1.1, l2.1.1.2) (IntKind.i64.wrap (t9 + 1)) l2.2.1 l2.2.2.1 l2.2.2.2.1)
  (
  some ((((s1.1, s1.2), ((), ())), (p01, (p1, (p2, ())))))) := by kernel_rfl
set_option maxRecDepth 100000 in
theorem impl_mixed.eq (N : Nat) (s : (Nat × Nat)) (byv : (List Int)) (p0 : (List Int)) : impl_mixed N s byv p0 =
 chk (decide (byv.length = 4)) (
 chk ((decide ((List.replicate 4 (0 : Int)).length = 4)) && true) (
 andK (impl_mixed.l0 N (s.1, s.2) 0 p0 byv [0, 0, 0, 0]) fun l3 =>
 some ((), (((l3.2.1.take l3.1.1.1) ++ ((((l3.2.2.2.1.drop 0).take 4).take (min ((l3.2.2.2.1.drop 0).take 4).length l3.1.1.2)) ++ (l3.2.1.drop (l3.1.1.1 + (min ((l3.2.2.2.1.drop 0).take 4).length l3.1.1.2))))), ())))) := by kernel_rfl
set_option maxRecDepth 100000 in
theorem impl_mixed.say (N : Nat) : SayOk Try.prog (impl_mixed.S N) := sayOk_mk (N := N) (H := impl_mixed.H) (preps := [⟨[], [], [], []⟩]) (l := impl_mixed.says) (fn := Try.f117) (c := bodyOf Try.f117)
  (by kernel_rfl) (by kernel_rfl) (by kernel_rfl) (by kernel_rfl) (by kernel_rfl) (by kernel_rfl) (by kernel_rfl)
  (fun N => SayAll.cons (impl_mulGf.say N) (SayAll.nil)) (fun a s => by kernel_rfl)

/-! ### (*loop.example/g00206/impl.cipher).encrypt: function 88 -/
noncomputable def impl_cipher_encrypt.H : Hints := hintsOf [(2000007, .loop ⟨.normal, [6, 20], [0, 5, 19, 21], [.one (.ptr 0 0), .one (.own 3), .one (.own 3), ak_i], [.cells [.apl 1 0 512, .own 2], .rows (.int .u8) true, .rows (.int .u8) true, .rows (.int .u8)], [⟨[], [], [], []⟩]⟩ [⟨(.exit 2), [6], [0, 5], [.one (.ptr 0 0), .one (.own 3)], [.cells [.apl 1 0 512, .own 2], .rows (.int .u8) true, .rows (.int .u8) true, .rows (.int .u8)], [⟨[], [], [], []⟩]⟩]),
  (5000013, .join [⟨.normal, [6, 9], [0, 5, 46], [.one (.ptr 0 0), .one (.own 3), ak_b], [.cells [.apl 1 0 512, .own 2], .rows (.int .u8) true, .rows (.int .u8) true, .rows (.int .u8)], [⟨[], [], [], []⟩]⟩]),
  (2000013, .loop ⟨.normal, [6], [0, 5, 9], [.one (.ptr 0 0), .one (.own 3), ak_i], [.cells [.apl 1 0 512, .own 2], .rows (.int .u8) true, .rows (.int .u8) true, .rows (.int .u8)], [⟨[], [], [], []⟩]⟩ [⟨(.exit 4), [6], [0, 5], [.one (.ptr 0 0), .one (.own 3)], [.cells [.apl 1 0 512, .own 2], .rows (.int .u8) true, .rows (.int .u8) true, .rows (.int .u8)], [⟨[], [], [], []⟩]⟩]),
  (2000004, .loop ⟨.normal, [], [0, 5, 6], [.one (.ptr 0 0), .one (.own 3), ak_i], [.cells [.apl 1 0 512, .own 2], .rows (.int .u8) true, .rows (.int .u8) true, .rows (.int .u8)], [⟨[], [], [], []⟩]⟩ [⟨(.exit 0), [], [5], [.one (.own 3)], [.cells [.apl 1 0 512, .own 2], .rows (.int .u8) true, .rows (.int .u8) true, .rows (.int .u8)], [⟨[], [], [], []⟩]⟩])]
noncomputable def impl_cipher_encrypt.says (N : Nat) : List Say := [impl_cipher_addKey.S N, impl_shift.S N, impl_forth.S N, impl_mixed.S N]
noncomputable def impl_cipher_encrypt.call (N : Nat) : CallK := callBy (impl_cipher_encrypt.says N)
noncomputable def impl_cipher_encrypt.qt (N : Nat) : FuncId → List PV → Sig → Cl := qtBy (impl_cipher_encrypt.says N)
noncomputable def impl_cipher_encrypt.l0.hd : Alt := ⟨.normal, [], [0, 5, 6], [.one (.ptr 0 0), .one (.own 3), ak_i], [.cells [.apl 1 0 512, .own 2], .rows (.int .u8) true, .rows (.int .u8) true, .rows (.int .u8)], [⟨[], [], [], []⟩]⟩
noncomputable def impl_cipher_encrypt.l0.outs : List Alt := [⟨(.exit 0), [], [5], [.one (.own 3)], [.cells [.apl 1 0 512, .own 2], .rows (.int .u8) true, .rows (.int .u8) true, .rows (.int .u8)], [⟨[], [], [], []⟩]⟩]
noncomputable def impl_cipher_encrypt.l0 (N : Nat) (round : Int) (p11 : (List Int)) (p21 : (List Int)) (p3 : (List Int)) : Option ((Unit × Unit) × ((Unit × (Unit × Unit)) × ((List Int) × ((List Int) × ((List Int) × Unit))))) :=
  loopK Try.prog impl_cipher_encrypt.call impl_cipher_encrypt.qt impl_cipher_encrypt.H (codeAt (bodyOf Try.f88) [1, 1, 1, 0, 1, 0, 0]) 4 impl_cipher_encrypt.l0.hd impl_cipher_encrypt.l0.outs [] N (((), ((), (round, ()))), (((), ((), ())), (p11, (p21, (p3, ())))))
noncomputable def impl_cipher_encrypt.l1.hd : Alt := ⟨.normal, [6, 20], [0, 5, 19, 21], [.one (.ptr 0 0), .one (.own 3), .one (.own 3), ak_i], [.cells [.apl 1 0 512, .own 2], .rows (.int .u8) true, .rows (.int .u8) true, .rows (.int .u8)], [⟨[], [], [], []⟩]⟩
noncomputable def impl_cipher_encrypt.l1.outs : List Alt := [⟨(.exit 2), [6], [0, 5], [.one (.ptr 0 0), .one (.own 3)], [.cells [.apl 1 0 512, .own 2], .rows (.int .u8) true, .rows (.int .u8) true, .rows (.int .u8)], [⟨[], [], [], []⟩]⟩]
noncomputable def impl_cipher_encrypt.l1 (N : Nat) (round1 : Int) (t20 : Int) (t21 : Int) (p12 : (List Int)) (p22 : (List Int)) (p31 : (List Int)) : Option ((Unit × (Unit × Unit)) × ((Unit × (Unit × Unit)) × ((List Int) × ((List Int) × ((List Int) × Unit))))) :=
  loopK Try.prog impl_cipher_encrypt.call impl_cipher_encrypt.qt impl_cipher_encrypt.H (codeAt (bodyOf Try.f88) [1, 1, 1, 0, 1, 0, 0, 1, 0, 0, 0, 1, 0, 0]) 4 impl_cipher_encrypt.l1.hd impl_cipher_encrypt.l1.outs [(6, .v (.int .i64 round1)), (20, .v (.int .i64 t20))] N (((), ((), ((), (t21, ())))), (((), ((), ())), (p12, (p22, (p31, ())))))
noncomputable def impl_cipher_encrypt.l2.hd : Alt := ⟨.normal, [6], [0, 5, 9], [.one (.ptr 0 0), .one (.own 3), ak_i], [.cells [.apl 1 0 512, .own 2], .rows (.int .u8) true, .rows (.int .u8) true, .rows (.int .u8)], [⟨[], [], [], []⟩]⟩
noncomputable def impl_cipher_encrypt.l2.outs : List Alt := [⟨(.exit 4), [6], [0, 5], [.one (.ptr 0 0), .one (.own 3)], [.cells [.apl 1 0 512, .own 2], .rows (.int .u8) true, .rows (.int .u8) true, .rows (.int .u8)], [⟨[], [], [], []⟩]⟩]
noncomputable def impl_cipher_encrypt.l2 (N : Nat) (round2 : Int) (i : Int) (p13 : (List Int)) (p23 : (List Int)) (p32 : (List Int)) : Option ((Unit × (Unit × Unit)) × ((Unit × (Unit × Unit)) × ((List Int) × ((List Int) × ((List Int) × Unit))))) :=
  loopK Try.prog impl_cipher_encrypt.call impl_cipher_encrypt.qt impl_cipher_encrypt.H (codeAt (bodyOf Try.f88) [1, 1, 1, 0, 1, 0, 0, 1, 0, 0, 1, 1, 0, 1, 0, 0]) 4 impl_cipher_encrypt.l2.hd impl_cipher_encrypt.l2.outs [(6, .v (.int .i64 round2))] N (((), ((), (i, ()))), (((), ((), ())), (p13, (p23, (p32, ())))))
noncomputable def impl_cipher_encrypt (N : Nat) (block : ByteArray) (p1 : (List Int)) (p2 : (List Int)) : Option ((ByteArray × Unit) × ((Unit × (Unit × Unit)) × ((List Int) × ((List Int) × Unit)))) :=
  ofFn Try.prog impl_cipher_encrypt.call impl_cipher_encrypt.qt impl_cipher_encrypt.H N Try.f88 [.one (.ptr 0 0), ak_s] [.cells [.apl 1 0 512, .own 2], .rows (.int .u8), .rows (.int .u8)] [ak_s] [.cells [.apl 1 0 512, .own 2], .rows (.int .u8) true, .rows (.int .u8) true] [⟨[], [], [], []⟩] ((), (block, ())) (((), ((), ())), (p1, (p2, ())))
noncomputable def impl_cipher_encrypt.S (N : Nat) : Say := ⟨false, 88, [.one (.ptr 0 0), ak_s], [.cells [.apl 1 0 512, .own 2], .rows (.int .u8), .rows (.int .u8)], [ak_s], [.cells [.apl 1 0 512, .own 2], .rows (.int .u8) true, .rows (.int .u8) true], fun a s => impl_cipher_encrypt N a.2.1 s.2.1 s.2.2.1⟩
set_option maxRecDepth 100000 in
theorem impl_cipher_encrypt.l2.eq (N : Nat) (round2 : Int) (i : Int) (p13 : (List Int)) (p23 : (List Int)) (p32 : (List Int)) : impl_cipher_encrypt.l2 (N + 1) round2 i p13 p23 p32 =
 andK (α := ((Unit × (Unit × (Bool × Unit))) × ((Unit × (Unit × Unit)) × ((List Int) × ((List Int) × ((List Int) × Unit)))))) (
  sel (decide (i < 16))
   (
   some ((((), ((), ((decide (round2 < 10)), ()))), (((), ((), ())), (p13, (p23, (p32, ())))))))
   (
   some ((((), ((), (false, ()))), (((), ((), ())), (p13, (p23, (p32, ())))))))) fun j4 =>
 sel j4.1.2.2.1
  (
  chk ((decide (0 ≤ i)) && ((decide (i ≤ (IntKind.i64.wrap (i + 4)))) && (decide ((IntKind.i64.wrap (i + 4)) ≤ (j4.2.2.2.2.1.length : Int))))) (
  andK (impl_forth N) fun u5 =>
  andK (impl_mixed N ((Int.toNat i), ((Int.toNat (IntKind.i64.wrap (i + 4))) - (Int.toNat i))) u5.1.1 j4.2.2.2.2.1) fun u6 =>
  impl_cipher_encrypt.l2 N round2 (IntKind.i64.wrap (i + 4)) j4.2.2.1 j4.2.2.2.1 u6.2.1))
  (
  some ((((), ((), ())), (((), ((), ())), (j4.2.2.1, (j4.2.2.2.1, (j4.2.2.2.2.1, ()))))))) := by kernel_rfl
set_option maxRecDepth 100000 in
theorem impl_cipher_encrypt.l1.eq (N : Nat) (round1 : Int) (t20 : Int) (t21 : Int) (p12 : (List Int)) (p22 : (List Int)) (p31 : (List Int)) : impl_cipher_encrypt.l1 (N + 1) round1 t20 t21 p12 p22 p31 =
 sel (decide (t21 < t20))
  (
  chk ((decide (0 ≤ t21)) && (decide (t21 < (p31.length : Int)))) (
  chk ((decide (0 ≤ (p31.getD (Int.toNat t21) 0))) && (decide ((p31.getD (Int.toNat t21) 0) < 256))) (
  chk ((decide (0 ≤ t21)) && (decide (t21 < (p31.length : Int)))) (
  impl_cipher_encrypt.l1 N round1 t20 (IntKind.i64.wrap (t21 + 1)) p12 p22 (p31.set (Int.toNat t21) (p12.getD (0 + (Int.toNat (p31.getD (Int.toNat t21) 0))) 0))))))
  (
  some ((((), ((), ())), (((), ((), ())), (p12, (p22, (p31, ()))))))) := by kernel_rfl
set_option maxRecDepth 100000 in
theorem impl_cipher_encrypt.l0.eq (N : Nat) (round : Int) (p11 : (List Int)) (p21 : (List Int)) (p3 : (List Int)) : impl_cipher_encrypt.l0 (N + 1) round p11 p21 p3 =
 sel (decide (round ≤ 10))
  (
  andK (impl_cipher_encrypt.l1 N round (p3.length : Int) 0 p11 p21 p3) fun l2 =>
  andK (impl_shift N 1 l2.2.2.2.2.1) fun u3 =>
  andK (impl_cipher_encrypt.l2 N round 0 l2.2.2.1 l2.2.2.2.1 u3.2.1) fun l7 =>
  andK (impl_cipher_addKey N round l7.2.2.2.2.1 l7.2.2.1 l7.2.2.2.1) fun u8 =>
  impl_cipher_encrypt.l0 N (IntKind.i64.wrap (round + 1)) u8.2.2.2.1 u8.2.2.2.2.1 u8.2.2.1)
  (
  some ((((), ()), (((), ((), ())), (p11, (p21, (p3, ()))))))) := by kernel_rfl
set_option maxRecDepth 100000 in
theorem impl_cipher_encrypt.eq (N : Nat) (block : ByteArray) (p1 : (List Int)) (p2 : (List Int)) : impl_cipher_encrypt N block p1 p2 =
 andK (impl_cipher_addKey N 0 (bytesL block) p1 p2) fun u1 =>
 andK (impl_cipher_encrypt.l0 N 1 u1.2.2.2.1 u1.2.2.2.2.1 u1.2.2.1) fun l9 =>
 some (((strL l9.2.2.2.2.1), ()), (((), ((), ())), (l9.2.2.1, (l9.2.2.2.1, ())))) := by kernel_rfl
set_option maxRecDepth 100000 in
theorem impl_cipher_encrypt.say (N : Nat) : SayOk Try.prog (impl_cipher_encrypt.S N) := sayOk_mk (N := N) (H := impl_cipher_encrypt.H) (preps := [⟨[], [], [], []⟩]) (l := impl_cipher_encrypt.says) (fn := Try.f88) (c := bodyOf Try.f88)
  (by kernel_rfl) (by kernel_rfl) (by kernel_rfl) (by kernel_rfl) (by kernel_rfl) (by kernel_rfl) (by kernel_rfl)
  (fun N => SayAll.cons (impl_cipher_addKey.say N) (SayAll.cons (impl_shift.say N) (SayAll.cons (impl_forth.say N) (SayAll.cons (impl_mixed.say N) (SayAll.nil))))) (fun a s => by kernel_rfl)

/-! ### loop.example/g00206/impl.AesBlock: function 44 -/
noncomputable def impl_AesBlock.H : Hints := hintsOf [(5000001, .join [⟨.normal, [0, 1], [13], [ak_b], [], [⟨[], [], [], []⟩]⟩])]
noncomputable def impl_AesBlock.says (N : Nat) : List Say := [impl_isKey.S N, impl_isBlock.S N, impl_cipherOf.S N, impl_cipher_encrypt.S N]
noncomputable def impl_AesBlock.call (N : Nat) : CallK := callBy (impl_AesBlock.says N)
noncomputable def impl_AesBlock.qt (N : Nat) : FuncId → List PV → Sig → Cl := qtBy (impl_AesBlock.says N)
noncomputable def impl_AesBlock (N : Nat) (key : ByteArray) (block : ByteArray) : Option ((ByteArray × (Bool × Unit)) × Unit) :=
  ofFn Try.prog impl_AesBlock.call impl_AesBlock.qt impl_AesBlock.H N Try.f44 [ak_s, ak_s] [] [ak_s, ak_b] [] [⟨[], [], [], []⟩] (key, (block, ())) ()
noncomputable def impl_AesBlock.S (N : Nat) : Say := ⟨false, 44, [ak_s, ak_s], [], [ak_s, ak_b], [], fun a s => impl_AesBlock N a.1 a.2.1⟩
set_option maxRecDepth 100000 in
theorem impl_AesBlock.eq (N : Nat) (key : ByteArray) (block : ByteArray) : impl_AesBlock N key block =
 andK (α := ((Bool × Unit) × Unit)) (
  andK (impl_isKey N key) fun u1 =>
  sel (!u1.1.1)
   (
   some (((true, ()), ())))
   (
   andK (impl_isBlock N block) fun u2 =>
   some ((((!u2.1.1), ()), ())))) fun j3 =>
 sel j3.1.1
  (
  some (((⟨#[]⟩ : ByteArray), (false, ())), ()))
  (
  andK (impl_cipherOf N key) fun u4 =>
  andK (impl_cipher_encrypt N block u4.2.2.1 u4.2.2.2.1) fun u5 =>
  some ((u5.1.1, (true, ())), ())) := by kernel_rfl
set_option maxRecDepth 100000 in
theorem impl_AesBlock.say (N : Nat) : SayOk Try.prog (impl_AesBlock.S N) := sayOk_mk (N := N) (H := impl_AesBlock.H) (preps := [⟨[], [], [], []⟩]) (l := impl_AesBlock.says) (fn := Try.f44) (c := bodyOf Try.f44)
  (by kernel_rfl) (by kernel_rfl) (by kernel_rfl) (by kernel_rfl) (by kernel_rfl) (by kernel_rfl) (by kernel_rfl)
  (fun N => SayAll.cons (impl_isKey.say N) (SayAll.cons (impl_isBlock.say N) (SayAll.cons (impl_cipherOf.say N) (SayAll.cons (impl_cipher_encrypt.say N) (SayAll.nil))))) (fun a s => by kernel_rfl)

/-! ### loop.example/g00206/spec.l3Mul: function 133 -/
noncomputable def spec_l3Mul.H : Hints := hintsOf [(5, .join [⟨.normal, [0, 1], [5], [.one (.sh (.int .u8))], [], [⟨[], [], [], []⟩]⟩]),
  (9, .join [⟨.normal, [1, 5], [0], [.one (.sh (.int .u8))], [], [⟨[], [], [], []⟩]⟩]),
  (2000002, .loop ⟨.normal, [], [0, 1, 5], [.one (.sh (.int .u8)), .one (.sh (.int .u8)), .one (.sh (.int .u8))], [], [⟨[], [], [], []⟩]⟩ [⟨(.exit 0), [], [5], [.one (.sh (.int .u8))], [], [⟨[], [], [], []⟩]⟩])]
noncomputable def spec_l3Mul.says (N : Nat) : List Say := []
noncomputable def spec_l3Mul.call (N : Nat) : CallK := callBy (spec_l3Mul.says N)
noncomputable def spec_l3Mul.qt (N : Nat) : FuncId → List PV → Sig → Cl := qtBy (spec_l3Mul.says N)
noncomputable def spec_l3Mul.l0.hd : Alt := ⟨.normal, [], [0, 1, 5], [.one (.sh (.int .u8)), .one (.sh (.int .u8)), .one (.sh (.int .u8))], [], [⟨[], [], [], []⟩]⟩
noncomputable def spec_l3Mul.l0.outs : List Alt := [⟨(.exit 0), [], [5], [.one (.sh (.int .u8))], [], [⟨[], [], [], []⟩]⟩]
noncomputable def spec_l3Mul.l0 (N : Nat) (a1 : Int) (b1 : Int) (out : Int) : Option ((Int × Unit) × Unit) :=
  loopK Try.prog spec_l3Mul.call spec_l3Mul.qt spec_l3Mul.H (codeAt (bodyOf Try.f133) [1, 1, 0, 0, 0]) 0 spec_l3Mul.l0.hd spec_l3Mul.l0.outs [] N ((a1, (b1, (out, ()))), ())
noncomputable def spec_l3Mul (N : Nat) (a : Int) (b : Int) : Option ((Int × Unit) × Unit) :=
  ofFn Try.prog spec_l3Mul.call spec_l3Mul.qt spec_l3Mul.H N Try.f133 [.one (.sh (.int .u8)), .one (.sh (.int .u8))] [] [.one (.sh (.int .u8))] [] [⟨[], [], [], []⟩] (a, (b, ())) ()
noncomputable def spec_l3Mul.S (N : Nat) : Say := ⟨false, 133, [.one (.sh (.int .u8)), .one (.sh (.int .u8))], [], [.one (.sh (.int .u8))], [], fun a s => spec_l3Mul N a.1 a.2.1⟩
set_option maxRecDepth 100000 in
theorem spec_l3Mul.l0.eq (N : Nat) (a1 : Int) (b1 : Int) (out : Int) : spec_l3Mul.l0 (N + 1) a1 b1 out =
 sel (decide (0 < b1))
  (
  andK (α := ((Int × Unit) × Unit)) (
   sel (decide ((Go.bits .and .u8 b1 1) = 1))
    (
    some ((((Go.bits .xor .u8 out a1), ()), ())))
    (
    some (((out, ()), ())))) fun j1 =>
  andK (α := ((Int × Unit) × Unit)) (
   sel (!(decide ((Go.bits .and .u8 a1 128) = 0)))
    (
    some ((((Go.bits .xor .u8 (shlI .u8 a1 1) 27), ()), ())))
    (
    some ((((shlI .u8 a1 1), ()), ())))) fun j2 =>
  spec_l3Mul.l0 N j2.1.1 (shrI .u8 b1 1) j1.1.1)
  (
  some (((out, ()), ()))) := by kernel_rfl
set_option maxRecDepth 100000 in
theorem spec_l3Mul.eq (N : Nat) (a : Int) (b : Int) : spec_l3Mul N a b =
 andK (spec_l3Mul.l0 N a b 0) fun l3 =>
 some ((l3.1.1, ()), ()) := by kernel_rfl
set_option maxRecDepth 100000 in
theorem spec_l3Mul.say (N : Nat) : SayOk Try.prog (spec_l3Mul.S N) := sayOk_mk (N := N) (H := spec_l3Mul.H) (preps := [⟨[], [], [], []⟩]) (l := spec_l3Mul.says) (fn := Try.f133) (c := bodyOf Try.f133)
  (by kernel_rfl) (by kernel_rfl) (by kernel_rfl) (by kernel_rfl) (by kernel_rfl) (by kernel_rfl) (by kernel_rfl)
  (fun N => SayAll.nil) (fun a s => by kernel_rfl)

/-! ### loop.example/g00206/spec.l3Inverse: function 138 -/
noncomputable def spec_l3Inverse.H : Hints := hintsOf [(7, .join [⟨.normal, [0, 4], [3], [.one (.sh (.int .u8))], [], [⟨[], [], [], []⟩]⟩]),
  (2000003, .loop ⟨.normal, [], [0, 3, 4], [.one (.sh (.int .u8)), .one (.sh (.int .u8)), ak_i], [], [⟨[], [], [], []⟩]⟩ [⟨(.exit 0), [], [3], [.one (.sh (.int .u8))], [], [⟨[], [], [], []⟩]⟩])]
noncomputable def spec_l3Inverse.says (N : Nat) : List Say := [spec_l3Mul.S N]
noncomputable def spec_l3Inverse.call (N : Nat) : CallK := callBy (spec_l3Inverse.says N)
noncomputable def spec_l3Inverse.qt (N : Nat) : FuncId → List PV → Sig → Cl := qtBy (spec_l3Inverse.says N)
noncomputable def spec_l3Inverse.l0.hd : Alt := ⟨.normal, [], [0, 3, 4], [.one (.sh (.int .u8)), .one (.sh (.int .u8)), ak_i], [], [⟨[], [], [], []⟩]⟩
noncomputable def spec_l3Inverse.l0.outs : List Alt := [⟨(.exit 0), [], [3], [.one (.sh (.int .u8))], [], [⟨[], [], [], []⟩]⟩]
noncomputable def spec_l3Inverse.l0 (N : Nat) (a1 : Int) (out : Int) (n : Int) : Option ((Int × Unit) × Unit) :=
  loopK Try.prog spec_l3Inverse.call spec_l3Inverse.qt spec_l3Inverse.H (codeAt (bodyOf Try.f138) [1, 1, 0, 1, 0, 0]) 0 spec_l3Inverse.l0.hd spec_l3Inverse.l0.outs [] N ((a1, (out, (n, ()))), ())
noncomputable def spec_l3Inverse (N : Nat) (a : Int) : Option ((Int × Unit) × Unit) :=
  ofFn Try.prog spec_l3Inverse.call spec_l3Inverse.qt spec_l3Inverse.H N Try.f138 [.one (.sh (.int .u8))] [] [.one (.sh (.int .u8))] [] [⟨[], [], [], []⟩] (a, ()) ()
noncomputable def spec_l3Inverse.S (N : Nat) : Say := ⟨false, 138, [.one (.sh (.int .u8))], [], [.one (.sh (.int .u8))], [], fun a s => spec_l3Inverse N a.1⟩
set_option maxRecDepth 100000 in
theorem spec_l3Inverse.l0.eq (N : Nat) (a1 : Int) (out : Int) (n : Int) : spec_l3Inverse.l0 (N + 1) a1 out n =
 sel (decide (0 < n))
  (
  andK (α := ((Int × Unit) × Unit)) (
   sel (decide ((Go.bits .and .i64 n 1) = 1))
    (
    andK (spec_l3Mul N out a1) fun u1 =>
    some (((u1.1.1, ()), ())))
    (
    some (((out, ()), ())))) fun j2 =>
  andK (spec_l3Mul N a1 a1) fun u3 =>
  spec_l3Inverse.l0 N u3.1.1 j2.1.1 (shrI .i64 n 1))
  (
  some (((out, ()), ()))) := by kernel_rfl
set_option maxRecDepth 100000 in
theorem spec_l3Inverse.eq (N : Nat) (a : Int) : spec_l3Inverse N a =
 andK (spec_l3Inverse.l0 N a 1 254) fun l4 =>
 some ((l4.1.1, ()), ()) := by kernel_rfl
set_option maxRecDepth 100000 in
theorem spec_l3Inverse.say (N : Nat) : SayOk Try.prog (spec_l3Inverse.S N) := sayOk_mk (N := N) (H := spec_l3Inverse.H) (preps := [⟨[], [], [], []⟩]) (l := spec_l3Inverse.says) (fn := Try.f138) (c := bodyOf Try.f138)
  (by kernel_rfl) (by kernel_rfl) (by kernel_rfl) (by kernel_rfl) (by kernel_rfl) (by kernel_rfl) (by kernel_rfl)
  (fun N => SayAll.cons (spec_l3Mul.say N) (SayAll.nil)) (fun a s => by kernel_rfl)

/-! ### loop.example/g00206/spec.l3Turn: function 139 -/
noncomputable def spec_l3Turn.H : Hints := hintsOf []
noncomputable def spec_l3Turn.says (N : Nat) : List Say := []
noncomputable def spec_l3Turn.call (N : Nat) : CallK := callBy (spec_l3Turn.says N)
noncomputable def spec_l3Turn.qt (N : Nat) : FuncId → List PV → Sig → Cl := qtBy (spec_l3Turn.says N)
noncomputable def spec_l3Turn (N : Nat) (b : Int) (n : Int) : Option ((Int × Unit) × Unit) :=
  ofFn Try.prog spec_l3Turn.call spec_l3Turn.qt spec_l3Turn.H N Try.f139 [.one (.sh (.int .u8)), .one (.sh (.int .u64))] [] [.one (.sh (.int .u8))] [] [⟨[], [], [], []⟩] (b, (n, ())) ()
noncomputable def spec_l3Turn.S (N : Nat) : Say := ⟨false, 139, [.one (.sh (.int .u8)), .one (.sh (.int .u64))], [], [.one (.sh (.int .u8))], [], fun a s => spec_l3Turn N a.1 a.2.1⟩
set_option maxRecDepth 100000 in
theorem spec_l3Turn.eq (N : Nat) (b : Int) (n : Int) : spec_l3Turn N b n =
 chk (decide (0 ≤ n)) (
 chk (decide (0 ≤ (IntKind.u64.wrap (8 - n)))) (
 some (((Go.bits .or .u8 (shlI .u8 b n) (shrI .u8 b (IntKind.u64.wrap (8 - n)))), ()), ()))) := by kernel_rfl
set_option maxRecDepth 100000 in
theorem spec_l3Turn.say (N : Nat) : SayOk Try.prog (spec_l3Turn.S N) := sayOk_mk (N := N) (H := spec_l3Turn.H) (preps := [⟨[], [], [], []⟩]) (l := spec_l3Turn.says) (fn := Try.f139) (c := bodyOf Try.f139)
  (by kernel_rfl) (by kernel_rfl) (by kernel_rfl) (by kernel_rfl) (by kernel_rfl) (by kernel_rfl) (by kernel_rfl)
  (fun N => SayAll.nil) (fun a s => by kernel_rfl)

/-! ### loop.example/g00206/spec.l3Sub: function 132 -/
noncomputable def spec_l3Sub.H : Hints := hintsOf []
noncomputable def spec_l3Sub.says (N : Nat) : List Say := [spec_l3Inverse.S N, spec_l3Turn.S N]
noncomputable def spec_l3Sub.call (N : Nat) : CallK := callBy (spec_l3Sub.says N)
noncomputable def spec_l3Sub.qt (N : Nat) : FuncId → List PV → Sig → Cl := qtBy (spec_l3Sub.says N)
noncomputable def spec_l3Sub (N : Nat) (b : Int) : Option ((Int × Unit) × Unit) :=
  ofFn Try.prog spec_l3Sub.call spec_l3Sub.qt spec_l3Sub.H N Try.f132 [.one (.sh (.int .u8))] [] [.one (.sh (.int .u8))] [] [⟨[], [], [], []⟩] (b, ()) ()
noncomputable def spec_l3Sub.S (N : Nat) : Say := ⟨false, 132, [.one (.sh (.int .u8))], [], [.one (.sh (.int .u8))], [], fun a s => spec_l3Sub N a.1⟩
set_option maxRecDepth 100000 in
theorem spec_l3Sub.eq (N : Nat) (b : Int) : spec_l3Sub N b =
 andK (spec_l3Inverse N b) fun u1 =>
 andK (spec_l3Turn N u1.1.1 1) fun u2 =>
 andK (spec_l3Turn N u1.1.1 2) fun u3 =>
 andK (spec_l3Turn N u1.1.1 3) fun u4 =>
 andK (spec_l3Turn N u1.1.1 4) fun u5 =>
 some (((Go.bits .xor .u8 (Go.bits .xor .u8 (Go.bits .xor .u8 (Go.bits .xor .u8 (Go.bits .xor .u8 u1.1.1 u2.1.1) u3.1.1) u4.1.1) u5.1.1) 99), ()), ()) := by kernel_rfl
set_option maxRecDepth 100000 in
theorem spec_l3Sub.say (N : Nat) : SayOk Try.prog (spec_l3Sub.S N) := sayOk_mk (N := N) (H := spec_l3Sub.H) (preps := [⟨[], [], [], []⟩]) (l := spec_l3Sub.says) (fn := Try.f132) (c := bodyOf Try.f132)
  (by kernel_rfl) (by kernel_rfl) (by kernel_rfl) (by kernel_rfl) (by kernel_rfl) (by kernel_rfl) (by kernel_rfl)
  (fun N => SayAll.cons (spec_l3Inverse.say N) (SayAll.cons (spec_l3Turn.say N) (SayAll.nil))) (fun a s => by kernel_rfl)

/-! ### loop.example/g00206/spec.l3Keys: function 120 -/
noncomputable def spec_l3Keys.H : Hints := hintsOf [(10, .join [⟨.normal, [5], [3, 4, 6], [.one (.own 0), .one (.sh (.int .u8)), .one (.sh (.rows (.int .u8)))], [.rows (.int .u8), .gone], [⟨[], [], [], []⟩, ⟨[], [], [1], []⟩]⟩]),
  (2000011, .loop ⟨.normal, [4, 5, 6, 48], [3, 49], [.one (.own 0), ak_i], [.rows (.int .u8), .gone], [⟨[], [], [], []⟩]⟩ [⟨(.exit 2), [4, 5], [3], [.one (.own 0)], [.rows (.int .u8), .gone], [⟨[], [], [], []⟩]⟩]),
  (2000004, .loop ⟨.normal, [], [3, 4, 5], [.one (.own 0), .one (.sh (.int .u8)), ak_i], [.rows (.int .u8)], [⟨[], [], [], []⟩]⟩ [⟨(.exit 0), [], [3], [.one (.own 0)], [.rows (.int .u8)], [⟨[], [], [], []⟩]⟩])]
noncomputable def spec_l3Keys.says (N : Nat) : List Say := [spec_l3Sub.S N, spec_l3Mul.S N]
noncomputable def spec_l3Keys.call (N : Nat) : CallK := callBy (spec_l3Keys.says N)
noncomputable def spec_l3Keys.qt (N : Nat) : FuncId → List PV → Sig → Cl := qtBy (spec_l3Keys.says N)
noncomputable def spec_l3Keys.l0.hd : Alt := ⟨.normal, [], [3, 4, 5], [.one (.own 0), .one (.sh (.int .u8)), ak_i], [.rows (.int .u8)], [⟨[], [], [], []⟩]⟩
noncomputable def spec_l3Keys.l0.outs : List Alt := [⟨(.exit 0), [], [3], [.one (.own 0)], [.rows (.int .u8)], [⟨[], [], [], []⟩]⟩]
noncomputable def spec_l3Keys.l0 (N : Nat) (o : Int) (d : Int) (p0 : (List Int)) : Option ((Unit × Unit) × ((List Int) × Unit)) :=
  loopK Try.prog spec_l3Keys.call spec_l3Keys.qt spec_l3Keys.H (codeAt (bodyOf Try.f120) [1, 1, 1, 0, 1, 0, 0]) 1 spec_l3Keys.l0.hd spec_l3Keys.l0.outs [] N (((), (o, (d, ()))), (p0, ()))
noncomputable def spec_l3Keys.l1.hd : Alt := ⟨.normal, [4, 5, 6, 48], [3, 49], [.one (.own 0), ak_i], [.rows (.int .u8), .gone], [⟨[], [], [], []⟩]⟩
noncomputable def spec_l3Keys.l1.outs : List Alt := [⟨(.exit 2), [4, 5], [3], [.one (.own 0)], [.rows (.int .u8), .gone], [⟨[], [], [], []⟩]⟩]
noncomputable def spec_l3Keys.l1 (N : Nat) (o1 : Int) (d1 : Int) (e : (List Int)) (t48 : Int) (t49 : Int) (p01 : (List Int)) : Option ((Unit × Unit) × ((List Int) × (Unit × Unit))) :=
  loopK Try.prog spec_l3Keys.call spec_l3Keys.qt spec_l3Keys.H (codeAt (bodyOf Try.f120) [1, 1, 1, 0, 1, 0, 0, 1, 0, 0, 1, 1, 1, 0, 0]) 2 spec_l3Keys.l1.hd spec_l3Keys.l1.outs [(4, .v (.int .u8 o1)), (5, .v (.int .i64 d1)), (6, .rows false (.int .u8) e), (48, .v (.int .i64 t48))] N (((), (t49, ())), (p01, ((), ())))
noncomputable def spec_l3Keys (N : Nat) (G : ByteArray) : Option ((Unit × Unit) × ((List Int) × Unit)) :=
  ofFn Try.prog spec_l3Keys.call spec_l3Keys.qt spec_l3Keys.H N Try.f120 [ak_s] [] [.one (.own 0)] [.rows (.int .u8)] [⟨[], [], [], [0]⟩] (G, ()) ()
noncomputable def spec_l3Keys.S (N : Nat) : Say := ⟨false, 120, [ak_s], [], [.one (.own 0)], [.rows (.int .u8)], fun a s => spec_l3Keys N a.1⟩
set_option maxRecDepth 100000 in
theorem spec_l3Keys.l1.eq (N : Nat) (o1 : Int) (d1 : Int) (e : (List Int)) (t48 : Int) (t49 : Int) (p01 : (List Int)) : spec_l3Keys.l1 (N + 1) o1 d1 e t48 t49 p01 =
 sel (decide (t49 < t48))
  (
  chk ((decide (0 ≤ (IntKind.i64.wrap ((IntKind.i64.wrap ((IntKind.i64.wrap (4 * d1)) - 16)) + t49)))) && (decide ((IntKind.i64.wrap ((IntKind.i64.wrap ((IntKind.i64.wrap (4 * d1)) - 16)) + t49)) < (p01.length : Int)))) (
  chk ((decide (0 ≤ t49)) && (decide (t49 < (e.length : Int)))) (
  chk (decide (p01.length + 1 < most)) (
  spec_l3Keys.l1 N o1 d1 e t48 (IntKind.i64.wrap (t49 + 1)) (p01 ++ [(Go.bits .xor .u8 (p01.getD (Int.toNat (IntKind.i64.wrap ((IntKind.i64.wrap ((IntKind.i64.wrap (4 * d1)) - 16)) + t49))) 0) (e.getD (Int.toNat t49) 0))])))))
  (
  some ((((), ()), (p01, ((), ()))))) := by kernel_rfl
set_option maxRecDepth 100000 in
theorem spec_l3Keys.l0.eq (N : Nat) (o : Int) (d : Int) (p0 : (List Int)) : spec_l3Keys.l0 (N + 1) o d p0 =
 sel (decide (d < 44))
  (
  chk ((decide (0 ≤ (IntKind.i64.wrap ((IntKind.i64.wrap (4 * d)) - 4)))) && ((decide ((IntKind.i64.wrap ((IntKind.i64.wrap (4 * d)) - 4)) ≤ (IntKind.i64.wrap (4 * d)))) && (decide ((IntKind.i64.wrap (4 * d)) ≤ (p0.length : Int))))) (
  chk (decide (((p0.drop (Int.toNat (IntKind.i64.wrap ((IntKind.i64.wrap (4 * d)) - 4)))).take ((Int.toNat (IntKind.i64.wrap (4 * d))) - (Int.toNat (IntKind.i64.wrap ((IntKind.i64.wrap (4 * d)) - 4))))).length < most)) (
  andK (α := ((Unit × (Int × ((List Int) × Unit))) × ((List Int) × (Unit × Unit)))) (
   sel (decide ((Int.tmod d 4) = 0))
    (
    chk (decide (1 < (((p0.drop (Int.toNat (IntKind.i64.wrap ((IntKind.i64.wrap (4 * d)) - 4)))).take ((Int.toNat (IntKind.i64.wrap (4 * d))) - (Int.toNat (IntKind.i64.wrap ((IntKind.i64.wrap (4 * d)) - 4))))).length : Int))) (
    andK (spec_l3Sub N (((p0.drop (Int.toNat (IntKind.i64.wrap ((IntKind.i64.wrap (4 * d)) - 4)))).take ((Int.toNat (IntKind.i64.wrap (4 * d))) - (Int.toNat (IntKind.i64.wrap ((IntKind.i64.wrap (4 * d)) - 4))))).getD 1 0)) fun u1 =>
    chk (decide (2 < (((p0.drop (Int.toNat (IntKind.i64.wrap ((IntKind.i64.wrap (4 * d)) - 4)))).take ((Int.toNat (IntKind.i64.wrap (4 * d))) - (Int.toNat (IntKind.i64.wrap ((IntKind.i64.wrap (4 * d)) - 4))))).length : Int))) (
    andK (spec_l3Sub N (((p0.drop (Int.toNat (IntKind.i64.wrap ((IntKind.i64.wrap (4 * d)) - 4)))).take ((Int.toNat (IntKind.i64.wrap (4 * d))) - (Int.toNat (IntKind.i64.wrap ((IntKind.i64.wrap (4 * d)) - 4))))).getD 2 0)) fun u2 =>
    chk (decide (3 < (((p0.drop (Int.toNat (IntKind.i64.wrap ((IntKind.i64.wrap (4 * d)) - 4)))).take ((Int.toNat (IntKind.i64.wrap (4 * d))) - (Int.toNat (IntKind.i64.wrap ((IntKind.i64.wrap (4 * d)) - 4))))).length : Int))) (
    andK (spec_l3Sub N (((p0.drop (Int.toNat (IntKind.i64.wrap ((IntKind.i64.wrap (4 * d)) - 4)))).take ((Int.toNat (IntKind.i64.wrap (4 * d))) - (Int.toNat (IntKind.i64.wrap ((IntKind.i64.wrap (4 * d)) - 4))))).getD 3 0)) fun u3 =>
    chk (decide (0 < (((p0.drop (Int.toNat (IntKind.i64.wrap ((IntKind.i64.wrap (4 * d)) - 4)))).take ((Int.toNat (IntKind.i64.wrap (4 * d))) - (Int.toNat (IntKind.i64.wrap ((IntKind.i64.wrap (4 * d)) - 4))))).length : Int))) (
    andK (spec_l3Sub N (((p0.drop (Int.toNat (IntKind.i64.wrap ((IntKind.i64.wrap (4 * d)) - 4)))).take ((Int.toNat (IntKind.i64.wrap (4 * d))) - (Int.toNat (IntKind.i64.wrap ((IntKind.i64.wrap (4 * d)) - 4))))).getD 0 0)) fun u4 =>
    andK (spec_l3Mul N o 2) fun u5 =>
    some ((((), (u5.1.1, ([(Go.bits .xor .u8 u1.1.1 o), u2.1.1, u3.1.1, u4.1.1], ()))), (p0, ((), ())))))))))
    (
    some ((((), (o, (((p0.drop (Int.toNat (IntKind.i64.wrap ((IntKind.i64.wrap (4 * d)) - 4)))).take ((Int.toNat (IntKind.i64.wrap (4 * d))) - (Int.toNat (IntKind.i64.wrap ((IntKind.i64.wrap (4 * d)) - 4))))), ()))), (p0, ((), ())))))) fun j6 =>
  andK (spec_l3Keys.l1 N j6.1.2.1 d j6.1.2.2.1 (j6.1.2.2.1.length : Int) 0 j6.2.1) fun l7 =>
  spec_l3Keys.l0 N j6.1.2.1 (IntKind.i64.wrap (d + 1)) l7.2.1)))
  (
  some ((((), ()), (p0, ())))) := by kernel_rfl
set_option maxRecDepth 100000 in
theorem spec_l3Keys.eq (N : Nat) (G : ByteArray) : spec_l3Keys N G =
 andK (spec_l3Keys.l0 N 1 4 (bytesL G)) fun l8 =>
 some (((), ()), (l8.2.1, ())) := by kernel_rfl
set_option maxRecDepth 100000 in
theorem spec_l3Keys.say (N : Nat) : SayOk Try.prog (spec_l3Keys.S N) := sayOk_mk (N := N) (H := spec_l3Keys.H) (preps := [⟨[], [], [], [0]⟩]) (l := spec_l3Keys.says) (fn := Try.f120) (c := bodyOf Try.f120)
  (by kernel_rfl) (by kernel_rfl) (by kernel_rfl) (by kernel_rfl) (by kernel_rfl) (by kernel_rfl) (by kernel_rfl)
  (fun N => SayAll.cons (spec_l3Sub.say N) (SayAll.cons (spec_l3Mul.say N) (SayAll.nil))) (fun a s => by kernel_rfl)

/-! ### loop.example/g00206/spec.l3Table: function 121 -/
noncomputable def spec_l3Table.H : Hints := hintsOf [(2000003, .loop ⟨.normal, [5], [1, 6], [.one (.own 0), ak_i], [.rows (.int .u8)], [⟨[], [], [], []⟩]⟩ [⟨(.exit 0), [], [1], [.one (.own 0)], [.rows (.int .u8)], [⟨[], [], [], []⟩]⟩])]
noncomputable def spec_l3Table.says (N : Nat) : List Say := [spec_l3Sub.S N]
noncomputable def spec_l3Table.call (N : Nat) : CallK := callBy (spec_l3Table.says N)
noncomputable def spec_l3Table.qt (N : Nat) : FuncId → List PV → Sig → Cl := qtBy (spec_l3Table.says N)
noncomputable def spec_l3Table.l0.hd : Alt := ⟨.normal, [5], [1, 6], [.one (.own 0), ak_i], [.rows (.int .u8)], [⟨[], [], [], []⟩]⟩
noncomputable def spec_l3Table.l0.outs : List Alt := [⟨(.exit 0), [], [1], [.one (.own 0)], [.rows (.int .u8)], [⟨[], [], [], []⟩]⟩]
noncomputable def spec_l3Table.l0 (N : Nat) (t5 : Int) (t6 : Int) (p0 : (List Int)) : Option ((Unit × Unit) × ((List Int) × Unit)) :=
  loopK Try.prog spec_l3Table.call spec_l3Table.qt spec_l3Table.H (codeAt (bodyOf Try.f121) [1, 1, 0, 1, 0, 0]) 1 spec_l3Table.l0.hd spec_l3Table.l0.outs [(5, .v (.int .i64 t5))] N (((), (t6, ())), (p0, ()))
noncomputable def spec_l3Table (N : Nat) : Option ((Unit × Unit) × ((List Int) × Unit)) :=
  ofFn Try.prog spec_l3Table.call spec_l3Table.qt spec_l3Table.H N Try.f121 [] [] [.one (.own 0)] [.rows (.int .u8)] [⟨[], [], [], [0]⟩] () ()
noncomputable def spec_l3Table.S (N : Nat) : Say := ⟨false, 121, [], [], [.one (.own 0)], [.rows (.int .u8)], fun a s => spec_l3Table N⟩
set_option maxRecDepth 100000 in
theorem spec_l3Table.l0.eq (N : Nat) (t5 : Int) (t6 : Int) (p0 : (List Int)) : spec_l3Table.l0 (N + 1) t5 t6 p0 =
 sel (decide (t6 < t5))
  (
  andK (spec_l3Sub N (IntKind.u8.wrap t6)) fun u1 =>
  chk ((decide (0 ≤ t6)) && (decide (t6 < (p0.length : Int)))) (
  spec_l3Table.l0 N t5 (IntKind.i64.wrap (t6 + 1)) (p0.set (Int.toNat t6) u1.1.1)))
  (
  some ((((), ()), (p0, ())))) := by kernel_rfl
set_option maxRecDepth 100000 in
theorem spec_l3Table.eq (N : Nat) : spec_l3Table N =
 andK (spec_l3Table.l0 N ((List.replicate 256 (0 : Int)).length : Int) 0 (List.replicate 256 (0 : Int))) fun l2 =>
 some (((), ()), (l2.2.1, ())) := by kernel_rfl
set_option maxRecDepth 100000 in
theorem spec_l3Table.say (N : Nat) : SayOk Try.prog (spec_l3Table.S N) := sayOk_mk (N := N) (H := spec_l3Table.H) (preps := [⟨[], [], [], [0]⟩]) (l := spec_l3Table.says) (fn := Try.f121) (c := bodyOf Try.f121)
  (by kernel_rfl) (by kernel_rfl) (by kernel_rfl) (by kernel_rfl) (by kernel_rfl) (by kernel_rfl) (by kernel_rfl)
  (fun N => SayAll.cons (spec_l3Sub.say N) (SayAll.nil)) (fun a s => by kernel_rfl)

/-! ### loop.example/g00206/spec.l3Xor: function 130 -/
noncomputable def spec_l3Xor.H : Hints := hintsOf [(2000003, .loop ⟨.normal, [0, 1, 11], [5, 12], [.one (.own 0), ak_i], [.rows (.int .u8)], [⟨[], [], [], []⟩]⟩ [⟨(.exit 0), [], [5], [.one (.own 0)], [.rows (.int .u8)], [⟨[], [], [], []⟩]⟩])]
noncomputable def spec_l3Xor.says (N : Nat) : List Say := []
noncomputable def spec_l3Xor.call (N : Nat) : CallK := callBy (spec_l3Xor.says N)
noncomputable def spec_l3Xor.qt (N : Nat) : FuncId → List PV → Sig → Cl := qtBy (spec_l3Xor.says N)
noncomputable def spec_l3Xor.l0.hd : Alt := ⟨.normal, [0, 1, 11], [5, 12], [.one (.own 0), ak_i], [.rows (.int .u8)], [⟨[], [], [], []⟩]⟩
noncomputable def spec_l3Xor.l0.outs : List Alt := [⟨(.exit 0), [], [5], [.one (.own 0)], [.rows (.int .u8)], [⟨[], [], [], []⟩]⟩]
noncomputable def spec_l3Xor.l0 (N : Nat) (a1 : (List Int)) (b1 : (List Int)) (t11 : Int) (t12 : Int) (p0 : (List Int)) : Option ((Unit × Unit) × ((List Int) × Unit)) :=
  loopK Try.prog spec_l3Xor.call spec_l3Xor.qt spec_l3Xor.H (codeAt (bodyOf Try.f130) [1, 1, 0, 1, 0, 0]) 1 spec_l3Xor.l0.hd spec_l3Xor.l0.outs [(0, .rows false (.int .u8) a1), (1, .rows false (.int .u8) b1), (11, .v (.int .i64 t11))] N (((), (t12, ())), (p0, ()))
noncomputable def spec_l3Xor (N : Nat) (a : (List Int)) (b : (List Int)) : Option ((Unit × Unit) × ((List Int) × Unit)) :=
  ofFn Try.prog spec_l3Xor.call spec_l3Xor.qt spec_l3Xor.H N Try.f130 [.one (.sh (.rows (.int .u8))), .one (.sh (.rows (.int .u8)))] [] [.one (.own 0)] [.rows (.int .u8)] [⟨[], [], [], [0]⟩] (a, (b, ())) ()
noncomputable def spec_l3Xor.S (N : Nat) : Say := ⟨false, 130, [.one (.sh (.rows (.int .u8))), .one (.sh (.rows (.int .u8)))], [], [.one (.own 0)], [.rows (.int .u8)], fun a s => spec_l3Xor N a.1 a.2.1⟩
set_option maxRecDepth 100000 in
theorem spec_l3Xor.l0.eq (N : Nat) (a1 : (List Int)) (b1 : (List Int)) (t11 : Int) (t12 : Int) (p0 : (List Int)) : spec_l3Xor.l0 (N + 1) a1 b1 t11 t12 p0 =
 sel (decide (t12 < t11))
  (
  chk ((decide (0 ≤ t12)) && (decide (t12 < (a1.length : Int)))) (
  chk ((decide (0 ≤ t12)) && (decide (t12 < (b1.length : Int)))) (
  chk ((decide (0 ≤ t12)) && (decide (t12 < (p0.length : Int)))) (
  spec_l3Xor.l0 N a1 b1 t11 (IntKind.i64.wrap (t12 + 1)) (p0.set (Int.toNat t12) (Go.bits .xor .u8 (a1.getD (Int.toNat t12) 0) (b1.getD (Int.toNat t12) 0)))))))
  (
  some ((((), ()), (p0, ())))) := by kernel_rfl
set_option maxRecDepth 100000 in
theorem spec_l3Xor.eq (N : Nat) (a : (List Int)) (b : (List Int)) : spec_l3Xor N a b =
 chk ((decide (0 ≤ (a.length : Int))) && ((smallI (a.length : Int)) && (decide ((a.length : Int) = (a.length : Int))))) (
 andK (spec_l3Xor.l0 N a b (a.length : Int) 0 (List.replicate (Int.toNat (a.length : Int)) (0 : Int))) fun l1 =>
 some (((), ()), (l1.2.1, ()))) := by kernel_rfl
set_option maxRecDepth 100000 in
theorem spec_l3Xor.say (N : Nat) : SayOk Try.prog (spec_l3Xor.S N) := sayOk_mk (N := N) (H := spec_l3Xor.H) (preps := [⟨[], [], [], [0]⟩]) (l := spec_l3Xor.says) (fn := Try.f130) (c := bodyOf Try.f130)
  (by kernel_rfl) (by kernel_rfl) (by kernel_rfl) (by kernel_rfl) (by kernel_rfl) (by kernel_rfl) (by kernel_rfl)
  (fun N => SayAll.nil) (fun a s => by kernel_rfl)
noncomputable def spec_l3Xor.SB (N : Nat) : Say := spec_l3Xor.S N |>.lent
theorem spec_l3Xor.sayB (N : Nat) : SayOk Try.prog (spec_l3Xor.SB N) := (spec_l3Xor.say N).lent

/-! ### loop.example/g00206/spec.l3Mix: function 131 -/
noncomputable def spec_l3Mix.H : Hints := hintsOf [(2000006, .loop ⟨.normal, [0, 1, 6, 10, 11], [5, 7], [.one (.own 0), ak_i], [.rows (.int .u8)], [⟨[], [], [], []⟩]⟩ [⟨(.exit 2), [0, 1, 10, 11], [5], [.one (.own 0)], [.rows (.int .u8)], [⟨[], [], [], []⟩]⟩]),
  (2000003, .loop ⟨.normal, [0, 1, 10], [5, 11], [.one (.own 0), ak_i], [.rows (.int .u8)], [⟨[], [], [], []⟩]⟩ [⟨(.exit 0), [], [5], [.one (.own 0)], [.rows (.int .u8)], [⟨[], [], [], []⟩]⟩])]
noncomputable def spec_l3Mix.says (N : Nat) : List Say := [spec_l3Mul.S N]
noncomputable def spec_l3Mix.call (N : Nat) : CallK := callBy (spec_l3Mix.says N)
noncomputable def spec_l3Mix.qt (N : Nat) : FuncId → List PV → Sig → Cl := qtBy (spec_l3Mix.says N)
noncomputable def spec_l3Mix.l0.hd : Alt := ⟨.normal, [0, 1, 10], [5, 11], [.one (.own 0), ak_i], [.rows (.int .u8)], [⟨[], [], [], []⟩]⟩
noncomputable def spec_l3Mix.l0.outs : List Alt := [⟨(.exit 0), [], [5], [.one (.own 0)], [.rows (.int .u8)], [⟨[], [], [], []⟩]⟩]
noncomputable def spec_l3Mix.l0 (N : Nat) (s1 : (List Int)) (f1 : (List Int)) (t10 : Int) (t11 : Int) (p0 : (List Int)) : Option ((Unit × Unit) × ((List Int) × Unit)) :=
  loopK Try.prog spec_l3Mix.call spec_l3Mix.qt spec_l3Mix.H (codeAt (bodyOf Try.f131) [1, 1, 0, 1, 0, 0]) 1 spec_l3Mix.l0.hd spec_l3Mix.l0.outs [(0, .rows false (.int .u8) s1), (1, .rows false (.int .u8) f1), (10, .v (.int .i64 t10))] N (((), (t11, ())), (p0, ()))
noncomputable def spec_l3Mix.l1.hd : Alt := ⟨.normal, [0, 1, 6, 10, 11], [5, 7], [.one (.own 0), ak_i], [.rows (.int .u8)], [⟨[], [], [], []⟩]⟩
noncomputable def spec_l3Mix.l1.outs : List Alt := [⟨(.exit 2), [0, 1, 10, 11], [5], [.one (.own 0)], [.rows (.int .u8)], [⟨[], [], [], []⟩]⟩]
noncomputable def spec_l3Mix.l1 (N : Nat) (s2 : (List Int)) (f2 : (List Int)) (i : Int) (t101 : Int) (t111 : Int) (k : Int) (p01 : (List Int)) : Option ((Unit × Unit) × ((List Int) × Unit)) :=
  loopK Try.prog spec_l3Mix.call spec_l3Mix.qt spec_l3Mix.H (codeAt (bodyOf Try.f131) [1, 1, 0, 1, 0, 0, 1, 1, 0, 0, 1, 1, 0, 0]) 1 spec_l3Mix.l1.hd spec_l3Mix.l1.outs [(0, .rows false (.int .u8) s2), (1, .rows false (.int .u8) f2), (6, .v (.int .i64 i)), (10, .v (.int .i64 t101)), (11, .v (.int .i64 t111))] N (((), (k, ())), (p01, ()))
noncomputable def spec_l3Mix (N : Nat) (s : (List Int)) (f : (List Int)) : Option ((Unit × Unit) × ((List Int) × Unit)) :=
  ofFn Try.prog spec_l3Mix.call spec_l3Mix.qt spec_l3Mix.H N Try.f131 [.one (.sh (.rows (.int .u8))), .one (.sh (.rows (.int .u8)))] [] [.one (.own 0)] [.rows (.int .u8)] [⟨[], [], [], [0]⟩] (s, (f, ())) ()
noncomputable def spec_l3Mix.S (N : Nat) : Say := ⟨false, 131, [.one (.sh (.rows (.int .u8))), .one (.sh (.rows (.int .u8)))], [], [.one (.own 0)], [.rows (.int .u8)], fun a s => spec_l3Mix N a.1 a.2.1⟩
set_option maxRecDepth 100000 in
theorem spec_l3Mix.l1.eq (N : Nat) (s2 : (List Int)) (f2 : (List Int)) (i : Int) (t101 : Int) (t111 : Int) (k : Int) (p01 : (List Int)) : spec_l3Mix.l1 (N + 1) s2 f2 i t101 t111 k p01 =
 sel (decide (k < 4))
  (
  chk ((decide (0 ≤ i)) && (decide (i < (p01.length : Int)))) (
  chk ((decide (0 ≤ k)) && (decide (k < (f2.length : Int)))) (
  chk ((decide (0 ≤ (Int.tmod (IntKind.i64.wrap (i + k)) 4))) && (decide ((Int.tmod (IntKind.i64.wrap (i + k)) 4) < (s2.length : Int)))) (
  andK (spec_l3Mul N (f2.getD (Int.toNat k) 0) (s2.getD (Int.toNat (Int.tmod (IntKind.i64.wrap (i + k)) 4)) 0)) fun u1 =>
  chk ((decide (0 ≤ i)) && (decide (i < (p01.length : Int)))) (
  spec_l3Mix.l1 N s2 f2 i t101 t111 (IntKind.i64.wrap (k + 1)) (p01.set (Int.toNat i) (Go.bits .xor .u8 (p01.getD (Int.toNat i) 0) u1.1.1)))))))
  (
  some ((((), ()), (p01, ())))) := by kernel_rfl
set_option maxRecDepth 100000 in
theorem spec_l3Mix.l0.eq (N : Nat) (s1 : (List Int)) (f1 : (List Int)) (t10 : Int) (t11 : Int) (p0 : (List Int)) : spec_l3Mix.l0 (N + 1) s1 f1 t10 t11 p0 =
 sel (decide (t11 < t10))
  (
  andK (spec_l3Mix.l1 N s1 f1 t11 t10 t11 0 p0) fun l2 =>
  spec_l3Mix.l0 N s1 f1 t10 (IntKind.i64.wrap (t11 + 1)) l2.2.1)
  (
  some ((((), ()), (p0, ())))) := by kernel_rfl
set_option maxRecDepth 100000 in
theorem spec_l3Mix.eq (N : Nat) (s : (List Int)) (f : (List Int)) : spec_l3Mix N s f =
 andK (spec_l3Mix.l0 N s f ((List.replicate 4 (0 : Int)).length : Int) 0 (List.replicate 4 (0 : Int))) fun l3 =>
 some (((), ()), (l3.2.1, ())) := by kernel_rfl
set_option maxRecDepth 100000 in
theorem spec_l3Mix.say (N : Nat) : SayOk Try.prog (spec_l3Mix.S N) := sayOk_mk (N := N) (H := spec_l3Mix.H) (preps := [⟨[], [], [], [0]⟩]) (l := spec_l3Mix.says) (fn := Try.f131) (c := bodyOf Try.f131)
  (by kernel_rfl) (by kernel_rfl) (by kernel_rfl) (by kernel_rfl) (by kernel_rfl) (by kernel_rfl) (by kernel_rfl)
  (fun N => SayAll.cons (spec_l3Mul.say N) (SayAll.nil)) (fun a s => by kernel_rfl)
noncomputable def spec_l3Mix.SB (N : Nat) : Say := spec_l3Mix.S N |>.lent
theorem spec_l3Mix.sayB (N : Nat) : SayOk Try.prog (spec_l3Mix.SB N) := (spec_l3Mix.say N).lent

/-! ### loop.example/g00206/spec.l3With: function 119 -/
noncomputable def spec_l3With.H : Hints := hintsOf [(2000010, .loop ⟨.normal, [0, 1, 7, 8, 10], [9, 11], [.one (.own 2), ak_i], [.rows (.int .u8), .gone, .rows (.int .u8)], [⟨[], [], [], []⟩]⟩ [⟨(.exit 4), [0, 1, 7, 8, 10], [9], [.one (.own 2)], [.rows (.int .u8), .gone, .rows (.int .u8)], [⟨[], [], [], []⟩]⟩]),
  (2000007, .loop ⟨.normal, [0, 1, 7, 8], [9, 10], [.one (.own 2), ak_i], [.rows (.int .u8), .gone, .rows (.int .u8)], [⟨[], [], [], []⟩]⟩ [⟨(.exit 2), [0, 1, 8], [9], [.one (.own 2)], [.rows (.int .u8), .gone, .rows (.int .u8)], [⟨[], [], [], []⟩]⟩]),
  (2000016, .loop ⟨.normal, [0, 1, 8], [9, 12, 13], [.one (.own 2), .one (.own 3), ak_i], [.rows (.int .u8), .gone, .rows (.int .u8), .rows (.int .u8)], [⟨[(12, (.int .u8))], [], [], [3]⟩, ⟨[], [], [], [3]⟩]⟩ [⟨(.exit 6), [0, 1, 8], [12], [.one (.own 3)], [.rows (.int .u8), .gone, .rows (.int .u8), .rows (.int .u8)], [⟨[], [], [], [3]⟩]⟩]),
  (20, .join [⟨.normal, [0, 1, 8], [9], [.one (.sh (.rows (.int .u8)))], [.rows (.int .u8), .gone, .gone], [⟨[], [], [3], []⟩, ⟨[], [], [2], []⟩]⟩]),
  (2000003, .loop ⟨.normal, [0, 1], [7, 8], [.one (.sh (.rows (.int .u8))), ak_i], [.rows (.int .u8), .gone], [⟨[], [], [1], []⟩, ⟨[], [], [3], []⟩]⟩ [⟨(.exit 0), [], [7], [.one (.sh (.rows (.int .u8)))], [.rows (.int .u8), .gone], [⟨[], [], [], []⟩]⟩])]
noncomputable def spec_l3With.says (N : Nat) : List Say := [spec_l3Xor.SB N, spec_l3Mix.SB N, spec_l3Xor.S N]
noncomputable def spec_l3With.call (N : Nat) : CallK := callBy (spec_l3With.says N)
noncomputable def spec_l3With.qt (N : Nat) : FuncId → List PV → Sig → Cl := qtBy (spec_l3With.says N)
noncomputable def spec_l3With.l0.hd : Alt := ⟨.normal, [0, 1], [7, 8], [.one (.sh (.rows (.int .u8))), ak_i], [.rows (.int .u8), .gone], [⟨[], [], [1], []⟩, ⟨[], [], [3], []⟩]⟩
noncomputable def spec_l3With.l0.outs : List Alt := [⟨(.exit 0), [], [7], [.one (.sh (.rows (.int .u8)))], [.rows (.int .u8), .gone], [⟨[], [], [], []⟩]⟩]
noncomputable def spec_l3With.l0 (N : Nat) (G1 : (List Int)) (o1 : (List Int)) (t1 : (List Int)) (t2 : Int) (p0 : (List Int)) : Option (((List Int) × Unit) × ((List Int) × (Unit × Unit))) :=
  loopK Try.prog spec_l3With.call spec_l3With.qt spec_l3With.H (codeAt (bodyOf Try.f119) [1, 1, 0, 1, 0, 0]) 2 spec_l3With.l0.hd spec_l3With.l0.outs [(0, .rows false (.int .u8) G1), (1, .rows false (.int .u8) o1)] N ((t1, (t2, ())), (p0, ((), ())))
noncomputable def spec_l3With.l1.hd : Alt := ⟨.normal, [0, 1, 7, 8], [9, 10], [.one (.own 2), ak_i], [.rows (.int .u8), .gone, .rows (.int .u8)], [⟨[], [], [], []⟩]⟩
noncomputable def spec_l3With.l1.outs : List Alt := [⟨(.exit 2), [0, 1, 8], [9], [.one (.own 2)], [.rows (.int .u8), .gone, .rows (.int .u8)], [⟨[], [], [], []⟩]⟩]
noncomputable def spec_l3With.l1 (N : Nat) (G2 : (List Int)) (o2 : (List Int)) (t3 : (List Int)) (t4 : Int) (A : Int) (p01 : (List Int)) (p2 : (List Int)) : Option ((Unit × Unit) × ((List Int) × (Unit × ((List Int) × Unit)))) :=
  loopK Try.prog spec_l3With.call spec_l3With.qt spec_l3With.H (codeAt (bodyOf Try.f119) [1, 1, 0, 1, 0, 0, 1, 0, 0, 1, 0, 1, 0, 0]) 3 spec_l3With.l1.hd spec_l3With.l1.outs [(0, .rows false (.int .u8) G2), (1, .rows false (.int .u8) o2), (7, .rows false (.int .u8) t3), (8, .v (.int .i64 t4))] N (((), (A, ())), (p01, ((), (p2, ()))))
noncomputable def spec_l3With.l2.hd : Alt := ⟨.normal, [0, 1, 7, 8, 10], [9, 11], [.one (.own 2), ak_i], [.rows (.int .u8), .gone, .rows (.int .u8)], [⟨[], [], [], []⟩]⟩
noncomputable def spec_l3With.l2.outs : List Alt := [⟨(.exit 4), [0, 1, 7, 8, 10], [9], [.one (.own 2)], [.rows (.int .u8), .gone, .rows (.int .u8)], [⟨[], [], [], []⟩]⟩]
noncomputable def spec_l3With.l2 (N : Nat) (G3 : (List Int)) (o3 : (List Int)) (t5 : (List Int)) (t6 : Int) (A1 : Int) (r : Int) (p02 : (List Int)) (p21 : (List Int)) : Option ((Unit × Unit) × ((List Int) × (Unit × ((List Int) × Unit)))) :=
  loopK Try.prog spec_l3With.call spec_l3With.qt spec_l3With.H (codeAt (bodyOf Try.f119) [1, 1, 0, 1, 0, 0, 1, 0, 0, 1, 0, 1, 0, 0, 1, 0, 0, 1, 0, 0]) 3 spec_l3With.l2.hd spec_l3With.l2.outs [(0, .rows false (.int .u8) G3), (1, .rows false (.int .u8) o3), (7, .rows false (.int .u8) t5), (8, .v (.int .i64 t6)), (10, .v (.int .i64 A1))] N (((), (r, ())), (p02, ((), (p21, ()))))
noncomputable def spec_l3With.l3.hd : Alt := ⟨.normal, [0, 1, 8], [9, 12, 13], [.one (.own 2), .one (.own 3), ak_i], [.rows (.int .u8), .gone, .rows (.int .u8), .rows (.int .u8)], [⟨[(12, (.int .u8))], [], [], [3]⟩, ⟨[], [], [], [3]⟩]⟩
noncomputable def spec_l3With.l3.outs : List Alt := [⟨(.exit 6), [0, 1, 8], [12], [.one (.own 3)], [.rows (.int .u8), .gone, .rows (.int .u8), .rows (.int .u8)], [⟨[], [], [], [3]⟩]⟩]
noncomputable def spec_l3With.l3 (N : Nat) (G4 : (List Int)) (o4 : (List Int)) (t7 : Int) (a : Int) (p03 : (List Int)) (p22 : (List Int)) (p3 : (List Int)) : Option ((Unit × Unit) × ((List Int) × (Unit × ((List Int) × ((List Int) × Unit))))) :=
  loopK Try.prog spec_l3With.call spec_l3With.qt spec_l3With.H (codeAt (bodyOf Try.f119) [1, 1, 0, 1, 0, 0, 1, 0, 0, 1, 1, 0, 1, 0, 1, 0, 1, 0, 0]) 3 spec_l3With.l3.hd spec_l3With.l3.outs [(0, .rows false (.int .u8) G4), (1, .rows false (.int .u8) o4), (8, .v (.int .i64 t7))] N (((), ((), (a, ()))), (p03, ((), (p22, (p3, ())))))
noncomputable def spec_l3With (N : Nat) (G : (List Int)) (o : (List Int)) (t : ByteArray) : Option ((ByteArray × Unit) × Unit) :=
  ofFn Try.prog spec_l3With.call spec_l3With.qt spec_l3With.H N Try.f119 [.one (.sh (.rows (.int .u8))), .one (.sh (.rows (.int .u8))), ak_s] [] [ak_s] [] [⟨[], [], [], []⟩] (G, (o, (t, ()))) ()
noncomputable def spec_l3With.S (N : Nat) : Say := ⟨false, 119, [.one (.sh (.rows (.int .u8))), .one (.sh (.rows (.int .u8))), ak_s], [], [ak_s], [], fun a s => spec_l3With N a.1 a.2.1 a.2.2.1⟩
set_option maxRecDepth 100000 in
theorem spec_l3With.l3.eq (N : Nat) (G4 : (List Int)) (o4 : (List Int)) (t7 : Int) (a : Int) (p03 : (List Int)) (p22 : (List Int)) (p3 : (List Int)) : spec_l3With.l3 (N + 1) G4 o4 t7 a p03 p22 p3 =
 sel (decide (a < 4))
  (
  chk ((decide (0 ≤ (IntKind.i64.wrap (4 * a)))) && ((decide ((IntKind.i64.wrap (4 * a)) ≤ (IntKind.i64.wrap ((IntKind.i64.wrap (4 * a)) + 4)))) && (decide ((IntKind.i64.wrap ((IntKind.i64.wrap (4 * a)) + 4)) ≤ (p22.length : Int))))) (
  andK (spec_l3Mix N ((p22.drop (Int.toNat (IntKind.i64.wrap (4 * a)))).take ((Int.toNat (IntKind.i64.wrap ((IntKind.i64.wrap (4 * a)) + 4))) - (Int.toNat (IntKind.i64.wrap (4 * a))))) [2, 3, 1, 1]) fun u4 =>
  chk (decide (p3.length + u4.2.1.length < most)) (
  spec_l3With.l3 N G4 o4 t7 (IntKind.i64.wrap (a + 1)) p03 p22 (p3 ++ u4.2.1))))
  (
  some ((((), ()), (p03, ((), (p22, (p3, ()))))))) := by kernel_rfl
set_option maxRecDepth 100000 in
theorem spec_l3With.l2.eq (N : Nat) (G3 : (List Int)) (o3 : (List Int)) (t5 : (List Int)) (t6 : Int) (A1 : Int) (r : Int) (p02 : (List Int)) (p21 : (List Int)) : spec_l3With.l2 (N + 1) G3 o3 t5 t6 A1 r p02 p21 =
 sel (decide (r < 4))
  (
  chk ((decide (0 ≤ (IntKind.i64.wrap ((IntKind.i64.wrap (4 * (Int.tmod (IntKind.i64.wrap (A1 + r)) 4))) + r)))) && (decide ((IntKind.i64.wrap ((IntKind.i64.wrap (4 * (Int.tmod (IntKind.i64.wrap (A1 + r)) 4))) + r)) < (t5.length : Int)))) (
  chk ((decide (0 ≤ (t5.getD (Int.toNat (IntKind.i64.wrap ((IntKind.i64.wrap (4 * (Int.tmod (IntKind.i64.wrap (A1 + r)) 4))) + r))) 0))) && (decide ((t5.getD (Int.toNat (IntKind.i64.wrap ((IntKind.i64.wrap (4 * (Int.tmod (IntKind.i64.wrap (A1 + r)) 4))) + r))) 0) < (o3.length : Int)))) (
  chk ((decide (0 ≤ (IntKind.i64.wrap ((IntKind.i64.wrap (4 * A1)) + r)))) && (decide ((IntKind.i64.wrap ((IntKind.i64.wrap (4 * A1)) + r)) < (p21.length : Int)))) (
  spec_l3With.l2 N G3 o3 t5 t6 A1 (IntKind.i64.wrap (r + 1)) p02 (p21.set (Int.toNat (IntKind.i64.wrap ((IntKind.i64.wrap (4 * A1)) + r))) (o3.getD (Int.toNat (t5.getD (Int.toNat (IntKind.i64.wrap ((IntKind.i64.wrap (4 * (Int.tmod (IntKind.i64.wrap (A1 + r)) 4))) + r))) 0)) 0))))))
  (
  some ((((), ()), (p02, ((), (p21, ())))))) := by kernel_rfl
set_option maxRecDepth 100000 in
theorem spec_l3With.l1.eq (N : Nat) (G2 : (List Int)) (o2 : (List Int)) (t3 : (List Int)) (t4 : Int) (A : Int) (p01 : (List Int)) (p2 : (List Int)) : spec_l3With.l1 (N + 1) G2 o2 t3 t4 A p01 p2 =
 sel (decide (A < 4))
  (
  andK (spec_l3With.l2 N G2 o2 t3 t4 A 0 p01 p2) fun l2 =>
  spec_l3With.l1 N G2 o2 t3 t4 (IntKind.i64.wrap (A + 1)) l2.2.1 l2.2.2.2.1)
  (
  some ((((), ()), (p01, ((), (p2, ())))))) := by kernel_rfl
set_option maxRecDepth 100000 in
theorem spec_l3With.l0.eq (N : Nat) (G1 : (List Int)) (o1 : (List Int)) (t1 : (List Int)) (t2 : Int) (p0 : (List Int)) : spec_l3With.l0 (N + 1) G1 o1 t1 t2 p0 =
 sel (decide (t2 ≤ 10))
  (
  andK (spec_l3With.l1 N G1 o1 t1 t2 0 p0 (List.replicate 16 (0 : Int))) fun l3 =>
  andK (α := (((List Int) × Unit) × ((List Int) × (Unit × (Unit × Unit))))) (
   sel (decide (t2 < 10))
    (
    andK (spec_l3With.l3 N G1 o1 t2 0 l3.2.1 l3.2.2.2.1 []) fun l5 =>
    some (((l5.2.2.2.2.1, ()), (l5.2.1, ((), ((), ()))))))
    (
    some (((l3.2.2.2.1, ()), (l3.2.1, ((), ((), ()))))))) fun j6 =>
  chk ((decide (0 ≤ (IntKind.i64.wrap (16 * t2)))) && ((decide ((IntKind.i64.wrap (16 * t2)) ≤ (IntKind.i64.wrap ((IntKind.i64.wrap (16 * t2)) + 16)))) && (decide ((IntKind.i64.wrap ((IntKind.i64.wrap (16 * t2)) + 16)) ≤ (G1.length : Int))))) (
  andK (spec_l3Xor N j6.1.1 (cut G1 (IntKind.i64.wrap (16 * t2)) (IntKind.i64.wrap ((IntKind.i64.wrap (16 * t2)) + 16)))) fun u7 =>
  spec_l3With.l0 N G1 o1 u7.2.1 (IntKind.i64.wrap (t2 + 1)) j6.2.1))
  (
  some (((t1, ()), (p0, ((), ()))))) := by kernel_rfl
set_option maxRecDepth 100000 in
theorem spec_l3With.eq (N : Nat) (G : (List Int)) (o : (List Int)) (t : ByteArray) : spec_l3With N G o t =
 chk (decide (16 ≤ (G.length : Int))) (
 andK (spec_l3Xor N (bytesL t) (cut G 0 16)) fun u1 =>
 andK (spec_l3With.l0 N G o u1.2.1 1 (bytesL t)) fun l8 =>
 some (((strL l8.1.1), ()), ())) := by kernel_rfl
set_option maxRecDepth 100000 in
theorem spec_l3With.say (N : Nat) : SayOk Try.prog (spec_l3With.S N) := sayOk_mk (N := N) (H := spec_l3With.H) (preps := [⟨[], [], [], []⟩]) (l := spec_l3With.says) (fn := Try.f119) (c := bodyOf Try.f119)
  (by kernel_rfl) (by kernel_rfl) (by kernel_rfl) (by kernel_rfl) (by kernel_rfl) (by kernel_rfl) (by kernel_rfl)
  (fun N => SayAll.cons (spec_l3Xor.sayB N) (SayAll.cons (spec_l3Mix.sayB N) (SayAll.cons (spec_l3Xor.say N) (SayAll.nil)))) (fun a s => by kernel_rfl)
noncomputable def spec_l3With.SB (N : Nat) : Say := spec_l3With.S N |>.lent
theorem spec_l3With.sayB (N : Nat) : SayOk Try.prog (spec_l3With.SB N) := (spec_l3With.say N).lent

/-! ### loop.example/g00206/spec.l3Block: function 89 -/
noncomputable def spec_l3Block.H : Hints := hintsOf []
noncomputable def spec_l3Block.says (N : Nat) : List Say := [spec_l3Keys.S N, spec_l3Table.S N, spec_l3With.SB N]
noncomputable def spec_l3Block.call (N : Nat) : CallK := callBy (spec_l3Block.says N)
noncomputable def spec_l3Block.qt (N : Nat) : FuncId → List PV → Sig → Cl := qtBy (spec_l3Block.says N)
noncomputable def spec_l3Block (N : Nat) (key : ByteArray) (block : ByteArray) : Option ((ByteArray × Unit) × Unit) :=
  ofFn Try.prog spec_l3Block.call spec_l3Block.qt spec_l3Block.H N Try.f89 [ak_s, ak_s] [] [ak_s] [] [⟨[], [], [], []⟩] (key, (block, ())) ()
noncomputable def spec_l3Block.S (N : Nat) : Say := ⟨false, 89, [ak_s, ak_s], [], [ak_s], [], fun a s => spec_l3Block N a.1 a.2.1⟩
set_option maxRecDepth 100000 in
theorem spec_l3Block.eq (N : Nat) (key : ByteArray) (block : ByteArray) : spec_l3Block N key block =
 andK (spec_l3Keys N key) fun u1 =>
 andK (spec_l3Table N) fun u2 =>
 andK (spec_l3With N u1.2.1 u2.2.1 block) fun u3 =>
 some ((u3.1.1, ()), ()) := by kernel_rfl
set_option maxRecDepth 100000 in
theorem spec_l3Block.say (N : Nat) : SayOk Try.prog (spec_l3Block.S N) := sayOk_mk (N := N) (H := spec_l3Block.H) (preps := [⟨[], [], [], []⟩]) (l := spec_l3Block.says) (fn := Try.f89) (c := bodyOf Try.f89)
  (by kernel_rfl) (by kernel_rfl) (by kernel_rfl) (by kernel_rfl) (by kernel_rfl) (by kernel_rfl) (by kernel_rfl)
  (fun N => SayAll.cons (spec_l3Keys.say N) (SayAll.cons (spec_l3Table.say N) (SayAll.cons (spec_l3With.sayB N) (SayAll.nil)))) (fun a s => by kernel_rfl)

/-! ### loop.example/g00206/spec.AesBlock: function 45 -/
noncomputable def spec_AesBlock.H : Hints := hintsOf [(5000001, .join [⟨.normal, [0, 1], [13], [ak_b], [], [⟨[], [], [], []⟩]⟩])]
noncomputable def spec_AesBlock.says (N : Nat) : List Say := [spec_l3Block.S N]
noncomputable def spec_AesBlock.call (N : Nat) : CallK := callBy (spec_AesBlock.says N)
noncomputable def spec_AesBlock.qt (N : Nat) : FuncId → List PV → Sig → Cl := qtBy (spec_AesBlock.says N)
noncomputable def spec_AesBlock (N : Nat) (key : ByteArray) (block : ByteArray) : Option ((ByteArray × (Bool × Unit)) × Unit) :=
  ofFn Try.prog spec_AesBlock.call spec_AesBlock.qt spec_AesBlock.H N Try.f45 [ak_s, ak_s] [] [ak_s, ak_b] [] [⟨[], [], [], []⟩] (key, (block, ())) ()
noncomputable def spec_AesBlock.S (N : Nat) : Say := ⟨false, 45, [ak_s, ak_s], [], [ak_s, ak_b], [], fun a s => spec_AesBlock N a.1 a.2.1⟩
set_option maxRecDepth 100000 in
theorem spec_AesBlock.eq (N : Nat) (key : ByteArray) (block : ByteArray) : spec_AesBlock N key block =
 andK (α := ((Bool × Unit) × Unit)) (
  sel (!(decide ((key.size : Int) = 16)))
   (
   some (((true, ()), ())))
   (
   some ((((!(decide ((block.size : Int) = 16))), ()), ())))) fun j1 =>
 sel j1.1.1
  (
  some (((⟨#[]⟩ : ByteArray), (false, ())), ()))
  (
  andK (spec_l3Block N key block) fun u2 =>
  some ((u2.1.1, (true, ())), ())) := by kernel_rfl
set_option maxRecDepth 100000 in
theorem spec_AesBlock.say (N : Nat) : SayOk Try.prog (spec_AesBlock.S N) := sayOk_mk (N := N) (H := spec_AesBlock.H) (preps := [⟨[], [], [], []⟩]) (l := spec_AesBlock.says) (fn := Try.f45) (c := bodyOf Try.f45)
  (by kernel_rfl) (by kernel_rfl) (by kernel_rfl) (by kernel_rfl) (by kernel_rfl) (by kernel_rfl) (by kernel_rfl)
  (fun N => SayAll.cons (spec_l3Block.say N) (SayAll.nil)) (fun a s => by kernel_rfl)

/-! ### loop.example/g00206/impl.backward: function 122 -/
noncomputable def impl_backward.H : Hints := hintsOf []
noncomputable def impl_backward.says (N : Nat) : List Say := []
noncomputable def impl_backward.call (N : Nat) : CallK := callBy (impl_backward.says N)
noncomputable def impl_backward.qt (N : Nat) : FuncId → List PV → Sig → Cl := qtBy (impl_backward.says N)
noncomputable def impl_backward (N : Nat) : Option (((List Int) × Unit) × Unit) :=
  ofFn Try.prog impl_backward.call impl_backward.qt impl_backward.H N Try.f122 [] [] [.arr .u8] [] [⟨[], [], [], []⟩] () ()
noncomputable def impl_backward.S (N : Nat) : Say := ⟨false, 122, [], [], [.arr .u8], [], fun a s => impl_backward N⟩
set_option maxRecDepth 100000 in
theorem impl_backward.eq (N : Nat) : impl_backward N =
 chk ((decide ((List.replicate 4 (0 : Int)).length = 4)) && true) (
 some (((([14, 11, 13, 9].drop 0).take 4), ()), ())) := by kernel_rfl
set_option maxRecDepth 100000 in
theorem impl_backward.say (N : Nat) : SayOk Try.prog (impl_backward.S N) := sayOk_mk (N := N) (H := impl_backward.H) (preps := [⟨[], [], [], []⟩]) (l := impl_backward.says) (fn := Try.f122) (c := bodyOf Try.f122)
  (by kernel_rfl) (by kernel_rfl) (by kernel_rfl) (by kernel_rfl) (by kernel_rfl) (by kernel_rfl) (by kernel_rfl)
  (fun N => SayAll.nil) (fun a s => by kernel_rfl)

/-! ### (*loop.example/g00206/impl.cipher).decrypt: function 90 -/
noncomputable def impl_cipher_decrypt.H : Hints := hintsOf [(5000007, .join [⟨.normal, [6, 7], [0, 5, 25], [.one (.ptr 0 0), .one (.own 3), ak_b], [.cells [.apl 1 0 512, .own 2], .rows (.int .u8) true, .rows (.int .u8) true, .rows (.int .u8)], [⟨[], [], [], []⟩]⟩]),
  (2000007, .loop ⟨.normal, [6], [0, 5, 7], [.one (.ptr 0 0), .one (.own 3), ak_i], [.cells [.apl 1 0 512, .own 2], .rows (.int .u8) true, .rows (.int .u8) true, .rows (.int .u8)], [⟨[], [], [], []⟩]⟩ [⟨(.exit 2), [6], [0, 5], [.one (.ptr 0 0), .one (.own 3)], [.cells [.apl 1 0 512, .own 2], .rows (.int .u8) true, .rows (.int .u8) true, .rows (.int .u8)], [⟨[], [], [], []⟩]⟩]),
  (2000012, .loop ⟨.normal, [6, 38], [0, 5, 37, 39], [.one (.ptr 0 0), .one (.own 3), .one (.own 3), ak_i], [.cells [.apl 1 0 512, .own 2], .rows (.int .u8) true, .rows (.int .u8) true, .rows (.int .u8)], [⟨[], [], [], []⟩]⟩ [⟨(.exit 4), [6], [0, 5], [.one (.ptr 0 0), .one (.own 3)], [.cells [.apl 1 0 512, .own 2], .rows (.int .u8) true, .rows (.int .u8) true, .rows (.int .u8)], [⟨[], [], [], []⟩]⟩]),
  (2000003, .loop ⟨.normal, [], [0, 5, 6], [.one (.ptr 0 0), .one (.own 3), ak_i], [.cells [.apl 1 0 512, .own 2], .rows (.int .u8) true, .rows (.int .u8) true, .rows (.int .u8)], [⟨[], [], [], []⟩]⟩ [⟨(.exit 0), [], [0, 5], [.one (.ptr 0 0), .one (.own 3)], [.cells [.apl 1 0 512, .own 2], .rows (.int .u8) true, .rows (.int .u8) true, .rows (.int .u8)], [⟨[], [], [], []⟩]⟩])]
noncomputable def impl_cipher_decrypt.says (N : Nat) : List Say := [impl_cipher_addKey.S N, impl_backward.S N, impl_mixed.S N, impl_shift.S N]
noncomputable def impl_cipher_decrypt.call (N : Nat) : CallK := callBy (impl_cipher_decrypt.says N)
noncomputable def impl_cipher_decrypt.qt (N : Nat) : FuncId → List PV → Sig → Cl := qtBy (impl_cipher_decrypt.says N)
noncomputable def impl_cipher_decrypt.l0.hd : Alt := ⟨.normal, [], [0, 5, 6], [.one (.ptr 0 0), .one (.own 3), ak_i], [.cells [.apl 1 0 512, .own 2], .rows (.int .u8) true, .rows (.int .u8) true, .rows (.int .u8)], [⟨[], [], [], []⟩]⟩
noncomputable def impl_cipher_decrypt.l0.outs : List Alt := [⟨(.exit 0), [], [0, 5], [.one (.ptr 0 0), .one (.own 3)], [.cells [.apl 1 0 512, .own 2], .rows (.int .u8) true, .rows (.int .u8) true, .rows (.int .u8)], [⟨[], [], [], []⟩]⟩]
noncomputable def impl_cipher_decrypt.l0 (N : Nat) (round : Int) (p11 : (List Int)) (p21 : (List Int)) (p3 : (List Int)) : Option ((Unit × (Unit × Unit)) × ((Unit × (Unit × Unit)) × ((List Int) × ((List Int) × ((List Int) × Unit))))) :=
  loopK Try.prog impl_cipher_decrypt.call impl_cipher_decrypt.qt impl_cipher_decrypt.H (codeAt (bodyOf Try.f90) [1, 1, 0, 1, 0, 0]) 4 impl_cipher_decrypt.l0.hd impl_cipher_decrypt.l0.outs [] N (((), ((), (round, ()))), (((), ((), ())), (p11, (p21, (p3, ())))))
noncomputable def impl_cipher_decrypt.l1.hd : Alt := ⟨.normal, [6], [0, 5, 7], [.one (.ptr 0 0), .one (.own 3), ak_i], [.cells [.apl 1 0 512, .own 2], .rows (.int .u8) true, .rows (.int .u8) true, .rows (.int .u8)], [⟨[], [], [], []⟩]⟩
noncomputable def impl_cipher_decrypt.l1.outs : List Alt := [⟨(.exit 2), [6], [0, 5], [.one (.ptr 0 0), .one (.own 3)], [.cells [.apl 1 0 512, .own 2], .rows (.int .u8) true, .rows (.int .u8) true, .rows (.int .u8)], [⟨[], [], [], []⟩]⟩]
noncomputable def impl_cipher_decrypt.l1 (N : Nat) (round1 : Int) (i : Int) (p12 : (List Int)) (p22 : (List Int)) (p31 : (List Int)) : Option ((Unit × (Unit × Unit)) × ((Unit × (Unit × Unit)) × ((List Int) × ((List Int) × ((List Int) × Unit))))) :=
  loopK Try.prog impl_cipher_decrypt.call impl_cipher_decrypt.qt impl_cipher_decrypt.H (codeAt (bodyOf Try.f90) [1, 1, 0, 1, 0, 0, 1, 0, 0, 1, 0, 1, 0, 0]) 4 impl_cipher_decrypt.l1.hd impl_cipher_decrypt.l1.outs [(6, .v (.int .i64 round1))] N (((), ((), (i, ()))), (((), ((), ())), (p12, (p22, (p31, ())))))
noncomputable def impl_cipher_decrypt.l2.hd : Alt := ⟨.normal, [6, 38], [0, 5, 37, 39], [.one (.ptr 0 0), .one (.own 3), .one (.own 3), ak_i], [.cells [.apl 1 0 512, .own 2], .rows (.int .u8) true, .rows (.int .u8) true, .rows (.int .u8)], [⟨[], [], [], []⟩]⟩
noncomputable def impl_cipher_decrypt.l2.outs : List Alt := [⟨(.exit 4), [6], [0, 5], [.one (.ptr 0 0), .one (.own 3)], [.cells [.apl 1 0 512, .own 2], .rows (.int .u8) true, .rows (.int .u8) true, .rows (.int .u8)], [⟨[], [], [], []⟩]⟩]
noncomputable def impl_cipher_decrypt.l2 (N : Nat) (round2 : Int) (t38 : Int) (t39 : Int) (p13 : (List Int)) (p23 : (List Int)) (p32 : (List Int)) : Option ((Unit × (Unit × Unit)) × ((Unit × (Unit × Unit)) × ((List Int) × ((List Int) × ((List Int) × Unit))))) :=
  loopK Try.prog impl_cipher_decrypt.call impl_cipher_decrypt.qt impl_cipher_decrypt.H (codeAt (bodyOf Try.f90) [1, 1, 0, 1, 0, 0, 1, 0, 0, 1, 1, 1, 1, 0, 0]) 4 impl_cipher_decrypt.l2.hd impl_cipher_decrypt.l2.outs [(6, .v (.int .i64 round2)), (38, .v (.int .i64 t38))] N (((), ((), ((), (t39, ())))), (((), ((), ())), (p13, (p23, (p32, ())))))
noncomputable def impl_cipher_decrypt (N : Nat) (block : ByteArray) (p1 : (List Int)) (p2 : (List Int)) : Option ((ByteArray × Unit) × ((Unit × (Unit × Unit)) × ((List Int) × ((List Int) × Unit)))) :=
  ofFn Try.prog impl_cipher_decrypt.call impl_cipher_decrypt.qt impl_cipher_decrypt.H N Try.f90 [.one (.ptr 0 0), ak_s] [.cells [.apl 1 0 512, .own 2], .rows (.int .u8), .rows (.int .u8)] [ak_s] [.cells [.apl 1 0 512, .own 2], .rows (.int .u8) true, .rows (.int .u8) true] [⟨[], [], [], []⟩] ((), (block, ())) (((), ((), ())), (p1, (p2, ())))
noncomputable def impl_cipher_decrypt.S (N : Nat) : Say := ⟨false, 90, [.one (.ptr 0 0), ak_s], [.cells [.apl 1 0 512, .own 2], .rows (.int .u8), .rows (.int .u8)], [ak_s], [.cells [.apl 1 0 512, .own 2], .rows (.int .u8) true, .rows (.int .u8) true], fun a s => impl_cipher_decrypt N a.2.1 s.2.1 s.2.2.1⟩
set_option maxRecDepth 100000 in
theorem impl_cipher_decrypt.l2.eq (N : Nat) (round2 : Int) (t38 : Int) (t39 : Int) (p13 : (List Int)) (p23 : (List Int)) (p32 : (List Int)) : impl_cipher_decrypt.l2 (N + 1) round2 t38 t39 p13 p23 p32 =
 sel (decide (t39 < t38))
  (
  chk ((decide (0 ≤ t39)) && (decide (t39 < (p32.length : Int)))) (
  chk ((decide (0 ≤ (p32.getD (Int.toNat t39) 0))) && (decide ((p32.getD (Int.toNat t39) 0) < 256))) (
  chk ((decide (0 ≤ t39)) && (decide (t39 < (p32.length : Int)))) (
  impl_cipher_decrypt.l2 N round2 t38 (IntKind.i64.wrap (t39 + 1)) p13 p23 (p32.set (Int.toNat t39) (p13.getD (256 + (Int.toNat (p32.getD (Int.toNat t39) 0))) 0))))))
  (
  some ((((), ((), ())), (((), ((), ())), (p13, (p23, (p32, ()))))))) := by kernel_rfl
set_option maxRecDepth 100000 in
theorem impl_cipher_decrypt.l1.eq (N : Nat) (round1 : Int) (i : Int) (p12 : (List Int)) (p22 : (List Int)) (p31 : (List Int)) : impl_cipher_decrypt.l1 (N + 1) round1 i p12 p22 p31 =
 andK (α := ((Unit × (Unit × (Bool × Unit))) × ((Unit × (Unit × Unit)) × ((List Int) × ((List Int) × ((List Int) × Unit)))))) (
  sel (decide (i < 16))
   (
   some ((((), ((), ((decide (round1 < 10)), ()))), (((), ((), ())), (p12, (p22, (p31, ())))))))
   (
   some ((((), ((), (false, ()))), (((), ((), ())), (p12, (p22, (p31, ())))))))) fun j2 =>
 sel j2.1.2.2.1
  (
  chk ((decide (0 ≤ i)) && ((decide (i ≤ (IntKind.i64.wrap (i + 4)))) && (decide ((IntKind.i64.wrap (i + 4)) ≤ (j2.2.2.2.2.1.length : Int))))) (
  andK (impl_backward N) fun u3 =>
  andK (impl_mixed N ((Int.toNat i), ((Int.toNat (IntKind.i64.wrap (i + 4))) - (Int.toNat i))) u3.1.1 j2.2.2.2.2.1) fun u4 =>
  impl_cipher_decrypt.l1 N round1 (IntKind.i64.wrap (i + 4)) j2.2.2.1 j2.2.2.2.1 u4.2.1))
  (
  some ((((), ((), ())), (((), ((), ())), (j2.2.2.1, (j2.2.2.2.1, (j2.2.2.2.2.1, ()))))))) := by kernel_rfl
set_option maxRecDepth 100000 in
theorem impl_cipher_decrypt.l0.eq (N : Nat) (round : Int) (p11 : (List Int)) (p21 : (List Int)) (p3 : (List Int)) : impl_cipher_decrypt.l0 (N + 1) round p11 p21 p3 =
 sel (decide (1 ≤ round))
  (
  andK (impl_cipher_addKey N round p3 p11 p21) fun u1 =>
  andK (impl_cipher_decrypt.l1 N round 0 u1.2.2.2.1 u1.2.2.2.2.1 u1.2.2.1) fun l5 =>
  andK (impl_shift N 3 l5.2.2.2.2.1) fun u6 =>
  andK (impl_cipher_decrypt.l2 N round (u6.2.1.length : Int) 0 l5.2.2.1 l5.2.2.2.1 u6.2.1) fun l7 =>
  impl_cipher_decrypt.l0 N (IntKind.i64.wrap (round - 1)) l7.2.2.1 l7.2.2.2.1 l7.2.2.2.2.1)
  (
  some ((((), ((), ())), (((), ((), ())), (p11, (p21, (p3, ()))))))) := by kernel_rfl
set_option maxRecDepth 100000 in
theorem impl_cipher_decrypt.eq (N : Nat) (block : ByteArray) (p1 : (List Int)) (p2 : (List Int)) : impl_cipher_decrypt N block p1 p2 =
 andK (impl_cipher_decrypt.l0 N 10 p1 p2 (bytesL block)) fun l8 =>
 andK (impl_cipher_addKey N 0 l8.2.2.2.2.1 l8.2.2.1 l8.2.2.2.1) fun u9 =>
 some (((strL u9.2.2.1), ()), (((), ((), ())), (u9.2.2.2.1, (u9.2.2.2.2.1, ())))) := by kernel_rfl
set_option maxRecDepth 100000 in
theorem impl_cipher_decrypt.say (N : Nat) : SayOk Try.prog (impl_cipher_decrypt.S N) := sayOk_mk (N := N) (H := impl_cipher_decrypt.H) (preps := [⟨[], [], [], []⟩]) (l := impl_cipher_decrypt.says) (fn := Try.f90) (c := bodyOf Try.f90)
  (by kernel_rfl) (by kernel_rfl) (by kernel_rfl) (by kernel_rfl) (by kernel_rfl) (by kernel_rfl) (by kernel_rfl)
  (fun N => SayAll.cons (impl_cipher_addKey.say N) (SayAll.cons (impl_backward.say N) (SayAll.cons (impl_mixed.say N) (SayAll.cons (impl_shift.say N) (SayAll.nil))))) (fun a s => by kernel_rfl)

/-! ### loop.example/g00206/impl.AesBack: function 46 -/
noncomputable def impl_AesBack.H : Hints := hintsOf [(5000001, .join [⟨.normal, [0, 1], [13], [ak_b], [], [⟨[], [], [], []⟩]⟩])]
noncomputable def impl_AesBack.says (N : Nat) : List Say := [impl_isKey.S N, impl_isBlock.S N, impl_cipherOf.S N, impl_cipher_decrypt.S N]
noncomputable def impl_AesBack.call (N : Nat) : CallK := callBy (impl_AesBack.says N)
noncomputable def impl_AesBack.qt (N : Nat) : FuncId → List PV → Sig → Cl := qtBy (impl_AesBack.says N)
noncomputable def impl_AesBack (N : Nat) (key : ByteArray) (block : ByteArray) : Option ((ByteArray × (Bool × Unit)) × Unit) :=
  ofFn Try.prog impl_AesBack.call impl_AesBack.qt impl_AesBack.H N Try.f46 [ak_s, ak_s] [] [ak_s, ak_b] [] [⟨[], [], [], []⟩] (key, (block, ())) ()
noncomputable def impl_AesBack.S (N : Nat) : Say := ⟨false, 46, [ak_s, ak_s], [], [ak_s, ak_b], [], fun a s => impl_AesBack N a.1 a.2.1⟩
set_option maxRecDepth 100000 in
theorem impl_AesBack.eq (N : Nat) (key : ByteArray) (block : ByteArray) : impl_AesBack N key block =
 andK (α := ((Bool × Unit) × Unit)) (
  andK (impl_isKey N key) fun u1 =>
  sel (!u1.1.1)
   (
   some (((true, ()), ())))
   (
   andK (impl_isBlock N block) fun u2 =>
   some ((((!u2.1.1), ()), ())))) fun j3 =>
 sel j3.1.1
  (
  some (((⟨#[]⟩ : ByteArray), (false, ())), ()))
  (
  andK (impl_cipherOf N key) fun u4 =>
  andK (impl_cipher_decrypt N block u4.2.2.1 u4.2.2.2.1) fun u5 =>
  some ((u5.1.1, (true, ())), ())) := by kernel_rfl
set_option maxRecDepth 100000 in
theorem impl_AesBack.say (N : Nat) : SayOk Try.prog (impl_AesBack.S N) := sayOk_mk (N := N) (H := impl_AesBack.H) (preps := [⟨[], [], [], []⟩]) (l := impl_AesBack.says) (fn := Try.f46) (c := bodyOf Try.f46)
  (by kernel_rfl) (by kernel_rfl) (by kernel_rfl) (by kernel_rfl) (by kernel_rfl) (by kernel_rfl) (by kernel_rfl)
  (fun N => SayAll.cons (impl_isKey.say N) (SayAll.cons (impl_isBlock.say N) (SayAll.cons (impl_cipherOf.say N) (SayAll.cons (impl_cipher_decrypt.say N) (SayAll.nil))))) (fun a s => by kernel_rfl)

/-! ### loop.example/g00206/laws.numberOf: function 48 -/
noncomputable def laws_numberOf.H : Hints := hintsOf [(2000003, .loop ⟨.normal, [6, 7], [3, 8], [ak_i, ak_i], [], [⟨[], [], [], []⟩]⟩ [⟨(.exit 0), [], [3], [ak_i], [], [⟨[], [], [], []⟩]⟩])]
noncomputable def laws_numberOf.says (N : Nat) : List Say := []
noncomputable def laws_numberOf.call (N : Nat) : CallK := callBy (laws_numberOf.says N)
noncomputable def laws_numberOf.qt (N : Nat) : FuncId → List PV → Sig → Cl := qtBy (laws_numberOf.says N)
noncomputable def laws_numberOf.l0.hd : Alt := ⟨.normal, [6, 7], [3, 8], [ak_i, ak_i], [], [⟨[], [], [], []⟩]⟩
noncomputable def laws_numberOf.l0.outs : List Alt := [⟨(.exit 0), [], [3], [ak_i], [], [⟨[], [], [], []⟩]⟩]
noncomputable def laws_numberOf.l0 (N : Nat) (t6 : (List Int)) (t7 : Int) (n : Int) (t8 : Int) : Option ((Int × Unit) × Unit) :=
  loopK Try.prog laws_numberOf.call laws_numberOf.qt laws_numberOf.H (codeAt (bodyOf Try.f48) [1, 1, 0, 1, 0, 0]) 0 laws_numberOf.l0.hd laws_numberOf.l0.outs [(6, .rows false (.int .u8) t6), (7, .v (.int .i64 t7))] N ((n, (t8, ())), ())
noncomputable def laws_numberOf (N : Nat) (b : (List Int)) : Option ((Int × Unit) × Unit) :=
  ofFn Try.prog laws_numberOf.call laws_numberOf.qt laws_numberOf.H N Try.f48 [.one (.sh (.rows (.int .u8)))] [] [ak_i] [] [⟨[], [], [], []⟩] (b, ()) ()
noncomputable def laws_numberOf.S (N : Nat) : Say := ⟨false, 48, [.one (.sh (.rows (.int .u8)))], [], [ak_i], [], fun a s => laws_numberOf N a.1⟩
set_option maxRecDepth 100000 in
theorem laws_numberOf.l0.eq (N : Nat) (t6 : (List Int)) (t7 : Int) (n : Int) (t8 : Int) : laws_numberOf.l0 (N + 1) t6 t7 n t8 =
 sel (decide (t8 < t7))
  (
  chk ((decide (0 ≤ t8)) && (decide (t8 < (t6.length : Int)))) (
  laws_numberOf.l0 N t6 t7 (Int.tmod (IntKind.i64.wrap ((IntKind.i64.wrap (31 * n)) + (IntKind.i64.wrap (t6.getD (Int.toNat t8) 0)))) 1000003) (IntKind.i64.wrap (t8 + 1))))
  (
  some (((n, ()), ()))) := by kernel_rfl
set_option maxRecDepth 100000 in
theorem laws_numberOf.eq (N : Nat) (b : (List Int)) : laws_numberOf N b =
 andK (laws_numberOf.l0 N b (b.length : Int) 0 0) fun l1 =>
 some ((l1.1.1, ()), ()) := by kernel_rfl
set_option maxRecDepth 100000 in
theorem laws_numberOf.say (N : Nat) : SayOk Try.prog (laws_numberOf.S N) := sayOk_mk (N := N) (H := laws_numberOf.H) (preps := [⟨[], [], [], []⟩]) (l := laws_numberOf.says) (fn := Try.f48) (c := bodyOf Try.f48)
  (by kernel_rfl) (by kernel_rfl) (by kernel_rfl) (by kernel_rfl) (by kernel_rfl) (by kernel_rfl) (by kernel_rfl)
  (fun N => SayAll.nil) (fun a s => by kernel_rfl)

/-! ### loop.example/g00206/laws.turned: function 47 -/
noncomputable def laws_turned.H : Hints := hintsOf []
noncomputable def laws_turned.says (N : Nat) : List Say := []
noncomputable def laws_turned.call (N : Nat) : CallK := callBy (laws_turned.says N)
noncomputable def laws_turned.qt (N : Nat) : FuncId → List PV → Sig → Cl := qtBy (laws_turned.says N)
noncomputable def laws_turned (N : Nat) (s : ByteArray) (k : Int) : Option ((ByteArray × Unit) × Unit) :=
  ofFn Try.prog laws_turned.call laws_turned.qt laws_turned.H N Try.f47 [ak_s, ak_i] [] [ak_s] [] [⟨[], [], [], []⟩] (s, (k, ())) ()
noncomputable def laws_turned.S (N : Nat) : Say := ⟨false, 47, [ak_s, ak_i], [], [ak_s], [], fun a s => laws_turned N a.1 a.2.1⟩
set_option maxRecDepth 100000 in
theorem laws_turned.eq (N : Nat) (s : ByteArray) (k : Int) : laws_turned N s k =
 chk ((IntKind.i64.wrap (8 * ((bytesL s).length : Int))) != 0) (
 chk ((decide (0 ≤ (IntKind.i64.wrap (Int.tdiv (Int.tmod k (IntKind.i64.wrap (8 * ((bytesL s).length : Int)))) 8)))) && (decide ((IntKind.i64.wrap (Int.tdiv (Int.tmod k (IntKind.i64.wrap (8 * ((bytesL s).length : Int)))) 8)) < ((bytesL s).length : Int)))) (
 chk (decide (0 ≤ (IntKind.u64.wrap (Int.tmod (Int.tmod k (IntKind.i64.wrap (8 * ((bytesL s).length : Int)))) 8)))) (
 chk ((decide (0 ≤ (IntKind.i64.wrap (Int.tdiv (Int.tmod k (IntKind.i64.wrap (8 * ((bytesL s).length : Int)))) 8)))) && (decide ((IntKind.i64.wrap (Int.tdiv (Int.tmod k (IntKind.i64.wrap (8 * ((bytesL s).length : Int)))) 8)) < ((bytesL s).length : Int)))) (
 some (((strL ((bytesL s).set (Int.toNat (IntKind.i64.wrap (Int.tdiv (Int.tmod k (IntKind.i64.wrap (8 * ((bytesL s).length : Int)))) 8))) (Go.bits .xor .u8 ((bytesL s).getD (Int.toNat (IntKind.i64.wrap (Int.tdiv (Int.tmod k (IntKind.i64.wrap (8 * ((bytesL s).length : Int)))) 8))) 0) (shlI .u8 1 (IntKind.u64.wrap (Int.tmod (Int.tmod k (IntKind.i64.wrap (8 * ((bytesL s).length : Int)))) 8)))))), ()), ()))))) := by kernel_rfl
set_option maxRecDepth 100000 in
theorem laws_turned.say (N : Nat) : SayOk Try.prog (laws_turned.S N) := sayOk_mk (N := N) (H := laws_turned.H) (preps := [⟨[], [], [], []⟩]) (l := laws_turned.says) (fn := Try.f47) (c := bodyOf Try.f47)
  (by kernel_rfl) (by kernel_rfl) (by kernel_rfl) (by kernel_rfl) (by kernel_rfl) (by kernel_rfl) (by kernel_rfl)
  (fun N => SayAll.nil) (fun a s => by kernel_rfl)

/-! ### loop.example/g00206/impl.RoundKeys: function 49 -/
noncomputable def impl_RoundKeys.H : Hints := hintsOf []
noncomputable def impl_RoundKeys.says (N : Nat) : List Say := [impl_isKey.S N, impl_cipherOf.S N]
noncomputable def impl_RoundKeys.call (N : Nat) : CallK := callBy (impl_RoundKeys.says N)
noncomputable def impl_RoundKeys.qt (N : Nat) : FuncId → List PV → Sig → Cl := qtBy (impl_RoundKeys.says N)
noncomputable def impl_RoundKeys (N : Nat) (key : ByteArray) : Option ((ByteArray × (Bool × Unit)) × Unit) :=
  ofFn Try.prog impl_RoundKeys.call impl_RoundKeys.qt impl_RoundKeys.H N Try.f49 [ak_s] [] [ak_s, ak_b] [] [⟨[], [], [], []⟩] (key, ()) ()
noncomputable def impl_RoundKeys.S (N : Nat) : Say := ⟨false, 49, [ak_s], [], [ak_s, ak_b], [], fun a s => impl_RoundKeys N a.1⟩
set_option maxRecDepth 100000 in
theorem impl_RoundKeys.eq (N : Nat) (key : ByteArray) : impl_RoundKeys N key =
 andK (impl_isKey N key) fun u1 =>
 sel (!u1.1.1)
  (
  some (((⟨#[]⟩ : ByteArray), (false, ())), ()))
  (
  andK (impl_cipherOf N key) fun u2 =>
  some (((strL u2.2.2.2.1), (true, ())), ())) := by kernel_rfl
set_option maxRecDepth 100000 in
theorem impl_RoundKeys.say (N : Nat) : SayOk Try.prog (impl_RoundKeys.S N) := sayOk_mk (N := N) (H := impl_RoundKeys.H) (preps := [⟨[], [], [], []⟩]) (l := impl_RoundKeys.says) (fn := Try.f49) (c := bodyOf Try.f49)
  (by kernel_rfl) (by kernel_rfl) (by kernel_rfl) (by kernel_rfl) (by kernel_rfl) (by kernel_rfl) (by kernel_rfl)
  (fun N => SayAll.cons (impl_isKey.say N) (SayAll.cons (impl_cipherOf.say N) (SayAll.nil))) (fun a s => by kernel_rfl)

/-! ### loop.example/g00206/laws.FnAes: function 8 -/
noncomputable def laws_FnAes.H : Hints := hintsOf [(5000006, .join [⟨.normal, [1, 5, 6, 7, 8], [51], [ak_b], [], [⟨[], [], [], []⟩]⟩])]
noncomputable def laws_FnAes.says (N : Nat) : List Say := [spec_DrawAesBlock.S N, impl_AesBlock.S N, spec_AesBlock.S N, impl_AesBack.S N, laws_numberOf.S N, laws_turned.S N, impl_RoundKeys.S N]
noncomputable def laws_FnAes.call (N : Nat) : CallK := callBy (laws_FnAes.says N)
noncomputable def laws_FnAes.qt (N : Nat) : FuncId → List PV → Sig → Cl := qtBy (laws_FnAes.says N)
noncomputable def laws_FnAes (N : Nat) (G : (List Int)) (o : (List Int)) : Option ((Bool × Unit) × Unit) :=
  ofFn Try.prog laws_FnAes.call laws_FnAes.qt laws_FnAes.H N Try.f8 [.one (.sh (.rows (.int .u8))), .one (.sh (.rows (.int .u8)))] [] [ak_b] [] [⟨[], [], [], []⟩] (G, (o, ())) ()
noncomputable def laws_FnAes.S (N : Nat) : Say := ⟨false, 8, [.one (.sh (.rows (.int .u8))), .one (.sh (.rows (.int .u8)))], [], [ak_b], [], fun a s => laws_FnAes N a.1 a.2.1⟩
set_option maxRecDepth 100000 in
theorem laws_FnAes.eq (N : Nat) (G : (List Int)) (o : (List Int)) : laws_FnAes N G o =
 sel (decide (1048576 < (IntKind.i64.wrap ((G.length : Int) + (o.length : Int)))))
  (
  some ((true, ()), ()))
  (
  andK (spec_DrawAesBlock N G) fun u1 =>
  andK (impl_AesBlock N u1.1.1 u1.1.2.1) fun u2 =>
  andK (spec_AesBlock N u1.1.1 u1.1.2.1) fun u3 =>
  andK (α := ((Bool × Unit) × Unit)) (
   sel (!(u2.1.2.1 == u3.1.2.1))
    (
    some (((true, ()), ())))
    (
    some ((((!(decide (u2.1.1 = u3.1.1))), ()), ())))) fun j4 =>
  sel j4.1.1
   (
   some ((false, ()), ()))
   (
   sel (!u2.1.2.1)
    (
    some (((decide (u2.1.1 = (⟨#[]⟩ : ByteArray))), ()), ()))
    (
    andK (impl_AesBack N u1.1.1 u2.1.1) fun u5 =>
    andK (impl_AesBack N u1.1.1 u1.1.2.1) fun u6 =>
    andK (impl_AesBlock N u1.1.1 u6.1.1) fun u7 =>
    andK (laws_numberOf N o) fun u8 =>
    andK (laws_turned N u1.1.2.1 u8.1.1) fun u9 =>
    andK (impl_AesBlock N u1.1.1 u9.1.1) fun u10 =>
    andK (impl_RoundKeys N u1.1.1) fun u11 =>
    sel u5.1.2.1
     (
     sel u6.1.2.1
      (
      sel u7.1.2.1
       (
       sel u10.1.2.1
        (
        sel u11.1.2.1
         (
         sel (decide (u5.1.1 = u1.1.2.1))
          (
          sel (decide (u7.1.1 = u1.1.2.1))
           (
           sel (!(decide (u10.1.1 = u2.1.1)))
            (
            sel (decide ((u11.1.1.size : Int) = 176))
             (
             chk (decide (16 ≤ (u11.1.1.size : Int))) (
             some (((decide ((u11.1.1.extract 0 16) = u1.1.1)), ()), ())))
             (
             some ((false, ()), ())))
            (
            some ((false, ()), ())))
           (
           some ((false, ()), ())))
          (
          some ((false, ()), ())))
         (
         some ((false, ()), ())))
        (
        some ((false, ()), ())))
       (
       some ((false, ()), ())))
      (
      some ((false, ()), ())))
     (
     some ((false, ()), ()))))) := by kernel_rfl
set_option maxRecDepth 100000 in
theorem laws_FnAes.say (N : Nat) : SayOk Try.prog (laws_FnAes.S N) := sayOk_mk (N := N) (H := laws_FnAes.H) (preps := [⟨[], [], [], []⟩]) (l := laws_FnAes.says) (fn := Try.f8) (c := bodyOf Try.f8)
  (by kernel_rfl) (by kernel_rfl) (by kernel_rfl) (by kernel_rfl) (by kernel_rfl) (by kernel_rfl) (by kernel_rfl)
  (fun N => SayAll.cons (spec_DrawAesBlock.say N) (SayAll.cons (impl_AesBlock.say N) (SayAll.cons (spec_AesBlock.say N) (SayAll.cons (impl_AesBack.say N) (SayAll.cons (laws_numberOf.say N) (SayAll.cons (laws_turned.say N) (SayAll.cons (impl_RoundKeys.say N) (SayAll.nil)))))))) (fun a s => by kernel_rfl)

end Go.Proofs.Ytcngjidojibleaa.GFnAes
