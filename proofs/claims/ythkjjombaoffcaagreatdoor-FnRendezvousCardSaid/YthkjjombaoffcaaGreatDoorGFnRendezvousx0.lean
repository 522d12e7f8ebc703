-- Written by a program of this session out of the translation; Lean checks it.
import Derived.Test.YthkjjombaoffcaaGreatDoorPmLaw
import Derived.Test.YthkjjombaoffcaaGreatDoorProg
import Derived.Test.YthkjjombaoffcaaGreatDoorShelf
import Derived.Test.YthkjjombaoffcaaGreatDoorTrim
import Derived.Test.YthkjjombaoffcaaGreatDoorDel
import Derived.Test.YthkjjombaoffcaaGreatDoorIns
set_option linter.unusedVariables false
namespace Go.Proofs.YthkjjombaoffcaaGreatDoor.GFnRendezvous
open Go Go.Proofs Go.Proofs.YthkjjombaoffcaaGreatDoorPM

/-! ### (*loop.example/g00206/spec.l1Cur).next: function 54 -/
noncomputable def spec_l1Cur_next.H : Hints := hintsOf [(4, .join [⟨.normal, [], [0, 3], [.one (.ptr 0 0), ak_i], [.cells [.sh (.rows (.int .u8)), ck_i, .sh (.int .u64)]], [⟨[], [], [], []⟩]⟩])]
noncomputable def spec_l1Cur_next.says (N : Nat) : List Say := []
noncomputable def spec_l1Cur_next.call (N : Nat) : CallK := callBy (spec_l1Cur_next.says N)
noncomputable def spec_l1Cur_next.qt (N : Nat) : FuncId → List PV → Sig → Cl := qtBy (spec_l1Cur_next.says N)
noncomputable def spec_l1Cur_next (N : Nat) (p0_0 : (List Int)) (p0_1 : Int) (p0_2 : Int) : Option ((Int × Unit) × (((List Int) × (Int × (Int × Unit))) × Unit)) :=
  ofFn Tryz.prog spec_l1Cur_next.call spec_l1Cur_next.qt spec_l1Cur_next.H N Tryz.f54 [.one (.ptr 0 0)] [.cells [.sh (.rows (.int .u8)), ck_i, .sh (.int .u64)]] [ak_i] [.cells [.sh (.rows (.int .u8)), ck_i, .sh (.int .u64)]] [⟨[], [], [], []⟩] ((), ()) ((p0_0, (p0_1, (p0_2, ()))), ())
noncomputable def spec_l1Cur_next.S (N : Nat) : Say := ⟨false, 54, [.one (.ptr 0 0)], [.cells [.sh (.rows (.int .u8)), ck_i, .sh (.int .u64)]], [ak_i], [.cells [.sh (.rows (.int .u8)), ck_i, .sh (.int .u64)]], fun a s => spec_l1Cur_next N s.1.1 s.1.2.1 s.1.2.2.1⟩
set_option maxRecDepth 100000 in
theorem spec_l1Cur_next.eq (N : Nat) (p0_0 : (List Int)) (p0_1 : Int) (p0_2 : Int) : spec_l1Cur_next N p0_0 p0_1 p0_2 =
 andK (α := ((Unit × (Int × Unit)) × (((List Int) × (Int × (Int × Unit))) × Unit))) (
  sel (decide (p0_1 < (p0_0.length : Int)))
   (
   chk ((decide (0 ≤ p0_1)) && (decide (p0_1 < (p0_0.length : Int)))) (
   some ((((), ((IntKind.i64.wrap (p0_0.getD (Int.toNat p0_1) 0)), ())), ((p0_0, (p0_1, (p0_2, ()))), ())))))
   (
   some ((((), (0, ())), ((p0_0, (p0_1, (p0_2, ()))), ()))))) fun j1 =>
 sel (decide ((IntKind.i64.wrap (j1.2.1.2.1 + 1)) ≤ (j1.2.1.1.length : Int)))
  (
  some ((j1.1.2.1, ()), ((j1.2.1.1, ((IntKind.i64.wrap (j1.2.1.2.1 + 1)), ((IntKind.u64.wrap ((IntKind.u64.wrap ((IntKind.u64.wrap (j1.2.1.2.2.1 * 6364136223846793005)) + (IntKind.u64.wrap j1.1.2.1))) + 1442695040888963407)), ()))), ())))
  (
  some (((IntKind.i64.wrap (Go.bits .and .u64 (shrI .u64 (IntKind.u64.wrap ((IntKind.u64.wrap ((IntKind.u64.wrap (j1.2.1.2.2.1 * 6364136223846793005)) + (IntKind.u64.wrap j1.1.2.1))) + 1442695040888963407)) 40) 255)), ()), ((j1.2.1.1, ((IntKind.i64.wrap (j1.2.1.2.1 + 1)), ((IntKind.u64.wrap ((IntKind.u64.wrap ((IntKind.u64.wrap (j1.2.1.2.2.1 * 6364136223846793005)) + (IntKind.u64.wrap j1.1.2.1))) + 1442695040888963407)), ()))), ()))) := by kernel_rfl
set_option maxRecDepth 100000 in
theorem spec_l1Cur_next.say (N : Nat) : SayOk Tryz.prog (spec_l1Cur_next.S N) := sayOk_mk (N := N) (H := spec_l1Cur_next.H) (preps := [⟨[], [], [], []⟩]) (l := spec_l1Cur_next.says) (fn := Tryz.f54) (c := bodyOf Tryz.f54)
  (by kernel_rfl) (by kernel_rfl) (by kernel_rfl) (by kernel_rfl) (by kernel_rfl) (by kernel_rfl) (by kernel_rfl)
  (fun N => SayAll.nil) (fun a s => by kernel_rfl)

/-! ### (*loop.example/g00206/spec.l1Cur).pick: function 32 -/
noncomputable def spec_l1Cur_pick.H : Hints := hintsOf []
noncomputable def spec_l1Cur_pick.says (N : Nat) : List Say := [spec_l1Cur_next.S N]
noncomputable def spec_l1Cur_pick.call (N : Nat) : CallK := callBy (spec_l1Cur_pick.says N)
noncomputable def spec_l1Cur_pick.qt (N : Nat) : FuncId → List PV → Sig → Cl := qtBy (spec_l1Cur_pick.says N)
noncomputable def spec_l1Cur_pick (N : Nat) (n : Int) (p0_0 : (List Int)) (p0_1 : Int) (p0_2 : Int) : Option ((Int × Unit) × (((List Int) × (Int × (Int × Unit))) × Unit)) :=
  ofFn Tryz.prog spec_l1Cur_pick.call spec_l1Cur_pick.qt spec_l1Cur_pick.H N Tryz.f32 [.one (.ptr 0 0), ak_i] [.cells [.sh (.rows (.int .u8)), ck_i, .sh (.int .u64)]] [ak_i] [.cells [.sh (.rows (.int .u8)), ck_i, .sh (.int .u64)]] [⟨[], [], [], []⟩] ((), (n, ())) ((p0_0, (p0_1, (p0_2, ()))), ())
noncomputable def spec_l1Cur_pick.S (N : Nat) : Say := ⟨false, 32, [.one (.ptr 0 0), ak_i], [.cells [.sh (.rows (.int .u8)), ck_i, .sh (.int .u64)]], [ak_i], [.cells [.sh (.rows (.int .u8)), ck_i, .sh (.int .u64)]], fun a s => spec_l1Cur_pick N a.2.1 s.1.1 s.1.2.1 s.1.2.2.1⟩
set_option maxRecDepth 100000 in
theorem spec_l1Cur_pick.eq (N : Nat) (n : Int) (p0_0 : (List Int)) (p0_1 : Int) (p0_2 : Int) : spec_l1Cur_pick N n p0_0 p0_1 p0_2 =
 sel (decide (n ≤ 1))
  (
  some ((0, ()), ((p0_0, (p0_1, (p0_2, ()))), ())))
  (
  andK (spec_l1Cur_next N p0_0 p0_1 p0_2) fun u1 =>
  sel (decide (200 < n))
   (
   andK (spec_l1Cur_next N u1.2.1.1 u1.2.1.2.1 u1.2.1.2.2.1) fun u2 =>
   chk (n != 0) (
   some (((Int.tmod (IntKind.i64.wrap ((IntKind.i64.wrap (u1.1.1 * 256)) + u2.1.1)) n), ()), ((u2.2.1.1, (u2.2.1.2.1, (u2.2.1.2.2.1, ()))), ()))))
   (
   chk (n != 0) (
   some (((Int.tmod u1.1.1 n), ()), ((u1.2.1.1, (u1.2.1.2.1, (u1.2.1.2.2.1, ()))), ()))))) := by kernel_rfl
set_option maxRecDepth 100000 in
theorem spec_l1Cur_pick.say (N : Nat) : SayOk Tryz.prog (spec_l1Cur_pick.S N) := sayOk_mk (N := N) (H := spec_l1Cur_pick.H) (preps := [⟨[], [], [], []⟩]) (l := spec_l1Cur_pick.says) (fn := Tryz.f32) (c := bodyOf Tryz.f32)
  (by kernel_rfl) (by kernel_rfl) (by kernel_rfl) (by kernel_rfl) (by kernel_rfl) (by kernel_rfl) (by kernel_rfl)
  (fun N => SayAll.cons (spec_l1Cur_next.say N) (SayAll.nil)) (fun a s => by kernel_rfl)

/-! ### (*loop.example/g00206/spec.l1Cur).one: function 31 -/
noncomputable def spec_l1Cur_one.H : Hints := hintsOf []
noncomputable def spec_l1Cur_one.says (N : Nat) : List Say := [spec_l1Cur_pick.S N]
noncomputable def spec_l1Cur_one.call (N : Nat) : CallK := callBy (spec_l1Cur_one.says N)
noncomputable def spec_l1Cur_one.qt (N : Nat) : FuncId → List PV → Sig → Cl := qtBy (spec_l1Cur_one.says N)
noncomputable def spec_l1Cur_one (N : Nat) (n : Int) (p0_0 : (List Int)) (p0_1 : Int) (p0_2 : Int) : Option ((Bool × Unit) × (((List Int) × (Int × (Int × Unit))) × Unit)) :=
  ofFn Tryz.prog spec_l1Cur_one.call spec_l1Cur_one.qt spec_l1Cur_one.H N Tryz.f31 [.one (.ptr 0 0), ak_i] [.cells [.sh (.rows (.int .u8)), ck_i, .sh (.int .u64)]] [ak_b] [.cells [.sh (.rows (.int .u8)), ck_i, .sh (.int .u64)]] [⟨[], [], [], []⟩] ((), (n, ())) ((p0_0, (p0_1, (p0_2, ()))), ())
noncomputable def spec_l1Cur_one.S (N : Nat) : Say := ⟨false, 31, [.one (.ptr 0 0), ak_i], [.cells [.sh (.rows (.int .u8)), ck_i, .sh (.int .u64)]], [ak_b], [.cells [.sh (.rows (.int .u8)), ck_i, .sh (.int .u64)]], fun a s => spec_l1Cur_one N a.2.1 s.1.1 s.1.2.1 s.1.2.2.1⟩
set_option maxRecDepth 100000 in
theorem spec_l1Cur_one.eq (N : Nat) (n : Int) (p0_0 : (List Int)) (p0_1 : Int) (p0_2 : Int) : spec_l1Cur_one N n p0_0 p0_1 p0_2 =
 andK (spec_l1Cur_pick N n p0_0 p0_1 p0_2) fun u1 =>
 some (((decide (u1.1.1 = 0)), ()), ((u1.2.1.1, (u1.2.1.2.1, (u1.2.1.2.2.1, ()))), ())) := by kernel_rfl
set_option maxRecDepth 100000 in
theorem spec_l1Cur_one.say (N : Nat) : SayOk Tryz.prog (spec_l1Cur_one.S N) := sayOk_mk (N := N) (H := spec_l1Cur_one.H) (preps := [⟨[], [], [], []⟩]) (l := spec_l1Cur_one.says) (fn := Tryz.f31) (c := bodyOf Tryz.f31)
  (by kernel_rfl) (by kernel_rfl) (by kernel_rfl) (by kernel_rfl) (by kernel_rfl) (by kernel_rfl) (by kernel_rfl)
  (fun N => SayAll.cons (spec_l1Cur_pick.say N) (SayAll.nil)) (fun a s => by kernel_rfl)

/-! ### (*loop.example/g00206/spec.l1Cur).of: function 53 -/
noncomputable def spec_l1Cur_of.H : Hints := hintsOf []
noncomputable def spec_l1Cur_of.says (N : Nat) : List Say := [spec_l1Cur_pick.S N]
noncomputable def spec_l1Cur_of.call (N : Nat) : CallK := callBy (spec_l1Cur_of.says N)
noncomputable def spec_l1Cur_of.qt (N : Nat) : FuncId → List PV → Sig → Cl := qtBy (spec_l1Cur_of.says N)
noncomputable def spec_l1Cur_of (N : Nat) (list : (List ByteArray)) (p0_0 : (List Int)) (p0_1 : Int) (p0_2 : Int) : Option ((ByteArray × Unit) × (((List Int) × (Int × (Int × Unit))) × Unit)) :=
  ofFn Tryz.prog spec_l1Cur_of.call spec_l1Cur_of.qt spec_l1Cur_of.H N Tryz.f53 [.one (.ptr 0 0), .one (.sh (.rows .str))] [.cells [.sh (.rows (.int .u8)), ck_i, .sh (.int .u64)]] [ak_s] [.cells [.sh (.rows (.int .u8)), ck_i, .sh (.int .u64)]] [⟨[], [], [], []⟩] ((), (list, ())) ((p0_0, (p0_1, (p0_2, ()))), ())
noncomputable def spec_l1Cur_of.S (N : Nat) : Say := ⟨false, 53, [.one (.ptr 0 0), .one (.sh (.rows .str))], [.cells [.sh (.rows (.int .u8)), ck_i, .sh (.int .u64)]], [ak_s], [.cells [.sh (.rows (.int .u8)), ck_i, .sh (.int .u64)]], fun a s => spec_l1Cur_of N a.2.1 s.1.1 s.1.2.1 s.1.2.2.1⟩
set_option maxRecDepth 100000 in
theorem spec_l1Cur_of.eq (N : Nat) (list : (List ByteArray)) (p0_0 : (List Int)) (p0_1 : Int) (p0_2 : Int) : spec_l1Cur_of N list p0_0 p0_1 p0_2 =
 andK (spec_l1Cur_pick N (list.length : Int) p0_0 p0_1 p0_2) fun u1 =>
 chk ((decide (0 ≤ u1.1.1)) && (decide (u1.1.1 < (list.length : Int)))) (
 some (((list.getD (Int.toNat u1.1.1) (⟨#[]⟩ : ByteArray)), ()), ((u1.2.1.1, (u1.2.1.2.1, (u1.2.1.2.2.1, ()))), ()))) := by kernel_rfl
set_option maxRecDepth 100000 in
theorem spec_l1Cur_of.say (N : Nat) : SayOk Tryz.prog (spec_l1Cur_of.S N) := sayOk_mk (N := N) (H := spec_l1Cur_of.H) (preps := [⟨[], [], [], []⟩]) (l := spec_l1Cur_of.says) (fn := Tryz.f53) (c := bodyOf Tryz.f53)
  (by kernel_rfl) (by kernel_rfl) (by kernel_rfl) (by kernel_rfl) (by kernel_rfl) (by kernel_rfl) (by kernel_rfl)
  (fun N => SayAll.cons (spec_l1Cur_pick.say N) (SayAll.nil)) (fun a s => by kernel_rfl)

/-! ### (*loop.example/g00206/spec.l1Cur).live: function 30 -/
noncomputable def spec_l1Cur_live.H : Hints := hintsOf [(7, .join [⟨.normal, [7, 8, 9], [0, 3], [.one (.ptr 0 0), .one (.own 1)], [.cells [.sh (.rows (.int .u8)), ck_i, .sh (.int .u64)], .rows .str], [⟨[], [], [], []⟩]⟩]),
  (2000003, .loop ⟨.normal, [7, 8], [0, 3, 9], [.one (.ptr 0 0), .one (.own 1), ak_i], [.cells [.sh (.rows (.int .u8)), ck_i, .sh (.int .u64)], .rows .str], [⟨[(3, .str)], [], [], [1]⟩, ⟨[], [], [], [1]⟩]⟩ [⟨(.exit 0), [], [0, 3], [.one (.ptr 0 0), .one (.own 1)], [.cells [.sh (.rows (.int .u8)), ck_i, .sh (.int .u64)], .rows .str], [⟨[], [], [], [1]⟩]⟩]),
  (2000014, .loop ⟨.normal, [], [0, 3, 6], [.one (.ptr 0 0), .one (.own 2), ak_i], [.cells [.sh (.rows (.int .u8)), ck_i, .sh (.int .u64)], .rows .str, .rows .str], [⟨[(3, .str)], [], [], [2]⟩, ⟨[], [], [], [2]⟩]⟩ [⟨(.exit 3), [], [3], [.one (.own 2)], [.cells [.sh (.rows (.int .u8)), ck_i, .sh (.int .u64)], .rows .str, .rows .str], [⟨[], [], [], [2]⟩]⟩])]
noncomputable def spec_l1Cur_live.says (N : Nat) : List Say := [spec_l1Cur_one.S N, spec_l1Cur_pick.S N, spec_l1Cur_of.S N]
noncomputable def spec_l1Cur_live.call (N : Nat) : CallK := callBy (spec_l1Cur_live.says N)
noncomputable def spec_l1Cur_live.qt (N : Nat) : FuncId → List PV → Sig → Cl := qtBy (spec_l1Cur_live.says N)
noncomputable def spec_l1Cur_live.l0.hd : Alt := ⟨.normal, [7, 8], [0, 3, 9], [.one (.ptr 0 0), .one (.own 1), ak_i], [.cells [.sh (.rows (.int .u8)), ck_i, .sh (.int .u64)], .rows .str], [⟨[(3, .str)], [], [], [1]⟩, ⟨[], [], [], [1]⟩]⟩
noncomputable def spec_l1Cur_live.l0.outs : List Alt := [⟨(.exit 0), [], [0, 3], [.one (.ptr 0 0), .one (.own 1)], [.cells [.sh (.rows (.int .u8)), ck_i, .sh (.int .u64)], .rows .str], [⟨[], [], [], [1]⟩]⟩]
noncomputable def spec_l1Cur_live.l0 (N : Nat) (t7 : (List ByteArray)) (t9 : Int) (p0_01 : (List Int)) (p0_11 : Int) (p0_21 : Int) (p1 : (List ByteArray)) : Option ((Unit × (Unit × Unit)) × (((List Int) × (Int × (Int × Unit))) × ((List ByteArray) × Unit))) :=
  loopK Tryz.prog spec_l1Cur_live.call spec_l1Cur_live.qt spec_l1Cur_live.H (codeAt (bodyOf Tryz.f30) [1, 1, 0, 1, 0, 0]) 1 spec_l1Cur_live.l0.hd spec_l1Cur_live.l0.outs [(7, .rows true .str t7), (8, .v (.int .i64 5))] N (((), ((), (t9, ()))), ((p0_01, (p0_11, (p0_21, ()))), (p1, ())))
noncomputable def spec_l1Cur_live.l1.hd : Alt := ⟨.normal, [], [0, 3, 6], [.one (.ptr 0 0), .one (.own 2), ak_i], [.cells [.sh (.rows (.int .u8)), ck_i, .sh (.int .u64)], .rows .str, .rows .str], [⟨[(3, .str)], [], [], [2]⟩, ⟨[], [], [], [2]⟩]⟩
noncomputable def spec_l1Cur_live.l1.outs : List Alt := [⟨(.exit 3), [], [3], [.one (.own 2)], [.cells [.sh (.rows (.int .u8)), ck_i, .sh (.int .u64)], .rows .str, .rows .str], [⟨[], [], [], [2]⟩]⟩]
noncomputable def spec_l1Cur_live.l1 (N : Nat) (k : Int) (p0_02 : (List Int)) (p0_12 : Int) (p0_22 : Int) (p11 : (List ByteArray)) (p2 : (List ByteArray)) : Option ((Unit × Unit) × (((List Int) × (Int × (Int × Unit))) × ((List ByteArray) × ((List ByteArray) × Unit)))) :=
  loopK Tryz.prog spec_l1Cur_live.call spec_l1Cur_live.qt spec_l1Cur_live.H (codeAt (bodyOf Tryz.f30) [1, 1, 1, 0, 1, 0, 1, 1, 1, 0, 1, 1, 0, 0]) 2 spec_l1Cur_live.l1.hd spec_l1Cur_live.l1.outs [] N (((), ((), (k, ()))), ((p0_02, (p0_12, (p0_22, ()))), (p11, (p2, ()))))
noncomputable def spec_l1Cur_live (N : Nat) (p0_0 : (List Int)) (p0_1 : Int) (p0_2 : Int) : Option ((Unit × Unit) × (((List Int) × (Int × (Int × Unit))) × ((List ByteArray) × Unit))) :=
  ofFn Tryz.prog spec_l1Cur_live.call spec_l1Cur_live.qt spec_l1Cur_live.H N Tryz.f30 [.one (.ptr 0 0)] [.cells [.sh (.rows (.int .u8)), ck_i, .sh (.int .u64)]] [.one (.own 1)] [.cells [.sh (.rows (.int .u8)), ck_i, .sh (.int .u64)], .rows .str] [⟨[], [], [], [1]⟩, ⟨[], [], [], [2]⟩] ((), ()) ((p0_0, (p0_1, (p0_2, ()))), ())
noncomputable def spec_l1Cur_live.S (N : Nat) : Say := ⟨false, 30, [.one (.ptr 0 0)], [.cells [.sh (.rows (.int .u8)), ck_i, .sh (.int .u64)]], [.one (.own 1)], [.cells [.sh (.rows (.int .u8)), ck_i, .sh (.int .u64)], .rows .str], fun a s => spec_l1Cur_live N s.1.1 s.1.2.1 s.1.2.2.1⟩
set_option maxRecDepth 100000 in
theorem spec_l1Cur_live.l1.eq (N : Nat) (k : Int) (p0_02 : (List Int)) (p0_12 : Int) (p0_22 : Int) (p11 : (List ByteArray)) (p2 : (List ByteArray)) : spec_l1Cur_live.l1 (N + 1) k p0_02 p0_12 p0_22 p11 p2 =
 andK (spec_l1Cur_pick N 2 p0_02 p0_12 p0_22) fun u6 =>
 sel (decide (k < (IntKind.i64.wrap (12 + u6.1.1))))
  (
  chk (decide (1 + (strL [(IntKind.u8.wrap (IntKind.i64.wrap (97 + k)))]).size ≤ 9223372036854775807)) (
  chk (decide (p2.length + 1 < most)) (
  spec_l1Cur_live.l1 N (IntKind.i64.wrap (k + 1)) u6.2.1.1 u6.2.1.2.1 u6.2.1.2.2.1 p11 (p2 ++ [((⟨#[120]⟩ : ByteArray) ++ (strL [(IntKind.u8.wrap (IntKind.i64.wrap (97 + k)))]))]))))
  (
  some ((((), ()), ((u6.2.1.1, (u6.2.1.2.1, (u6.2.1.2.2.1, ()))), (p11, (p2, ())))))) := by kernel_rfl
set_option maxRecDepth 100000 in
theorem spec_l1Cur_live.l0.eq (N : Nat) (t7 : (List ByteArray)) (t9 : Int) (p0_01 : (List Int)) (p0_11 : Int) (p0_21 : Int) (p1 : (List ByteArray)) : spec_l1Cur_live.l0 (N + 1) t7 t9 p0_01 p0_11 p0_21 p1 =
 sel (decide (t9 < 5))
  (
  andK (α := ((Unit × (Unit × Unit)) × (((List Int) × (Int × (Int × Unit))) × ((List ByteArray) × Unit)))) (
   chk ((decide (0 ≤ t9)) && (decide (t9 < (t7.length : Int)))) (
   andK (spec_l1Cur_one N 2 p0_01 p0_11 p0_21) fun u1 =>
   sel u1.1.1
    (
    chk (decide (p1.length + 1 < most)) (
    some ((((), ((), ())), ((u1.2.1.1, (u1.2.1.2.1, (u1.2.1.2.2.1, ()))), ((p1 ++ [(t7.getD (Int.toNat t9) (⟨#[]⟩ : ByteArray))]), ()))))))
    (
    some ((((), ((), ())), ((u1.2.1.1, (u1.2.1.2.1, (u1.2.1.2.2.1, ()))), (p1, ()))))))) fun j2 =>
  spec_l1Cur_live.l0 N t7 (IntKind.i64.wrap (t9 + 1)) j2.2.1.1 j2.2.1.2.1 j2.2.1.2.2.1 j2.2.2.1)
  (
  some ((((), ((), ())), ((p0_01, (p0_11, (p0_21, ()))), (p1, ()))))) := by kernel_rfl
set_option maxRecDepth 100000 in
theorem spec_l1Cur_live.eq (N : Nat) (p0_0 : (List Int)) (p0_1 : Int) (p0_2 : Int) : spec_l1Cur_live N p0_0 p0_1 p0_2 =
 andK (spec_l1Cur_live.l0 N [(⟨#[98, 49]⟩ : ByteArray), (⟨#[98, 50]⟩ : ByteArray), (⟨#[98, 51]⟩ : ByteArray), (⟨#[98, 52]⟩ : ByteArray), (⟨#[101, 100, 103, 101]⟩ : ByteArray)] 0 p0_0 p0_1 p0_2 []) fun l3 =>
 andK (spec_l1Cur_pick N 40 l3.2.1.1 l3.2.1.2.1 l3.2.1.2.2.1) fun u4 =>
 sel (decide (u4.1.1 = 0))
  (
  andK (spec_l1Cur_of N [(⟨#[97]⟩ : ByteArray), (⟨#[]⟩ : ByteArray), (⟨#[65]⟩ : ByteArray), (⟨#[122, 122]⟩ : ByteArray)] u4.2.1.1 u4.2.1.2.1 u4.2.1.2.2.1) fun u5 =>
  chk (decide (l3.2.2.1.length + 1 < most)) (
  some (((), ()), ((u5.2.1.1, (u5.2.1.2.1, (u5.2.1.2.2.1, ()))), ((l3.2.2.1 ++ [u5.1.1]), ())))))
  (
  sel (decide (u4.1.1 = 1))
   (
   andK (spec_l1Cur_live.l1 N 0 u4.2.1.1 u4.2.1.2.1 u4.2.1.2.2.1 l3.2.2.1 []) fun l7 =>
   some (((), ()), ((l7.2.1.1, (l7.2.1.2.1, (l7.2.1.2.2.1, ()))), (l7.2.2.2.1, ()))))
   (
   some (((), ()), ((u4.2.1.1, (u4.2.1.2.1, (u4.2.1.2.2.1, ()))), (l3.2.2.1, ()))))) := by kernel_rfl
set_option maxRecDepth 100000 in
theorem spec_l1Cur_live.say (N : Nat) : SayOk Tryz.prog (spec_l1Cur_live.S N) := sayOk_mk (N := N) (H := spec_l1Cur_live.H) (preps := [⟨[], [], [], [1]⟩, ⟨[], [], [], [2]⟩]) (l := spec_l1Cur_live.says) (fn := Tryz.f30) (c := bodyOf Tryz.f30)
  (by kernel_rfl) (by kernel_rfl) (by kernel_rfl) (by kernel_rfl) (by kernel_rfl) (by kernel_rfl) (by kernel_rfl)
  (fun N => SayAll.cons (spec_l1Cur_one.say N) (SayAll.cons (spec_l1Cur_pick.say N) (SayAll.cons (spec_l1Cur_of.say N) (SayAll.nil)))) (fun a s => by kernel_rfl)

/-! ### (*loop.example/g00206/spec.l1Cur).backend: function 33 -/
noncomputable def spec_l1Cur_backend.H : Hints := hintsOf []
noncomputable def spec_l1Cur_backend.says (N : Nat) : List Say := [spec_l1Cur_one.S N, spec_l1Cur_of.S N]
noncomputable def spec_l1Cur_backend.call (N : Nat) : CallK := callBy (spec_l1Cur_backend.says N)
noncomputable def spec_l1Cur_backend.qt (N : Nat) : FuncId → List PV → Sig → Cl := qtBy (spec_l1Cur_backend.says N)
noncomputable def spec_l1Cur_backend (N : Nat) (p0_0 : (List Int)) (p0_1 : Int) (p0_2 : Int) : Option ((ByteArray × Unit) × (((List Int) × (Int × (Int × Unit))) × Unit)) :=
  ofFn Tryz.prog spec_l1Cur_backend.call spec_l1Cur_backend.qt spec_l1Cur_backend.H N Tryz.f33 [.one (.ptr 0 0)] [.cells [.sh (.rows (.int .u8)), ck_i, .sh (.int .u64)]] [ak_s] [.cells [.sh (.rows (.int .u8)), ck_i, .sh (.int .u64)]] [⟨[], [], [], []⟩] ((), ()) ((p0_0, (p0_1, (p0_2, ()))), ())
noncomputable def spec_l1Cur_backend.S (N : Nat) : Say := ⟨false, 33, [.one (.ptr 0 0)], [.cells [.sh (.rows (.int .u8)), ck_i, .sh (.int .u64)]], [ak_s], [.cells [.sh (.rows (.int .u8)), ck_i, .sh (.int .u64)]], fun a s => spec_l1Cur_backend N s.1.1 s.1.2.1 s.1.2.2.1⟩
set_option maxRecDepth 100000 in
theorem spec_l1Cur_backend.eq (N : Nat) (p0_0 : (List Int)) (p0_1 : Int) (p0_2 : Int) : spec_l1Cur_backend N p0_0 p0_1 p0_2 =
 andK (spec_l1Cur_one N 40 p0_0 p0_1 p0_2) fun u1 =>
 sel u1.1.1
  (
  andK (spec_l1Cur_of N [(⟨#[]⟩ : ByteArray), (⟨#[65]⟩ : ByteArray), (⟨#[49, 50, 51, 52, 53, 54, 55, 56, 57, 48, 49, 50, 51]⟩ : ByteArray)] u1.2.1.1 u1.2.1.2.1 u1.2.1.2.2.1) fun u2 =>
  some ((u2.1.1, ()), ((u2.2.1.1, (u2.2.1.2.1, (u2.2.1.2.2.1, ()))), ())))
  (
  andK (spec_l1Cur_of N [(⟨#[98, 49]⟩ : ByteArray), (⟨#[98, 50]⟩ : ByteArray), (⟨#[98, 51]⟩ : ByteArray), (⟨#[98, 52]⟩ : ByteArray), (⟨#[101, 100, 103, 101]⟩ : ByteArray)] u1.2.1.1 u1.2.1.2.1 u1.2.1.2.2.1) fun u3 =>
  some ((u3.1.1, ()), ((u3.2.1.1, (u3.2.1.2.1, (u3.2.1.2.2.1, ()))), ()))) := by kernel_rfl
set_option maxRecDepth 100000 in
theorem spec_l1Cur_backend.say (N : Nat) : SayOk Tryz.prog (spec_l1Cur_backend.S N) := sayOk_mk (N := N) (H := spec_l1Cur_backend.H) (preps := [⟨[], [], [], []⟩]) (l := spec_l1Cur_backend.says) (fn := Tryz.f33) (c := bodyOf Tryz.f33)
  (by kernel_rfl) (by kernel_rfl) (by kernel_rfl) (by kernel_rfl) (by kernel_rfl) (by kernel_rfl) (by kernel_rfl)
  (fun N => SayAll.cons (spec_l1Cur_one.say N) (SayAll.cons (spec_l1Cur_of.say N) (SayAll.nil))) (fun a s => by kernel_rfl)

/-! ### loop.example/g00206/spec.DrawDropBackend: function 12 -/
noncomputable def spec_DrawDropBackend.H : Hints := hintsOf [(5000003, .join [⟨.normal, [], [4, 5, 18], [.one (.ptr 0 0), .one (.own 1), ak_b], [.cells [.sh (.rows (.int .u8)), ck_i, .sh (.int .u64)], .rows .str], [⟨[], [], [], []⟩]⟩])]
noncomputable def spec_DrawDropBackend.says (N : Nat) : List Say := [spec_l1Cur_live.S N, spec_l1Cur_one.S N, spec_l1Cur_pick.S N, spec_l1Cur_backend.S N]
noncomputable def spec_DrawDropBackend.call (N : Nat) : CallK := callBy (spec_DrawDropBackend.says N)
noncomputable def spec_DrawDropBackend.qt (N : Nat) : FuncId → List PV → Sig → Cl := qtBy (spec_DrawDropBackend.says N)
noncomputable def spec_DrawDropBackend (N : Nat) (code : (List Int)) : Option ((Unit × (ByteArray × Unit)) × ((List ByteArray) × Unit)) :=
  ofFn Tryz.prog spec_DrawDropBackend.call spec_DrawDropBackend.qt spec_DrawDropBackend.H N Tryz.f12 [.one (.sh (.rows (.int .u8)))] [] [.one (.own 0), ak_s] [.rows .str] [⟨[], [], [], [1]⟩] (code, ()) ()
noncomputable def spec_DrawDropBackend.S (N : Nat) : Say := ⟨false, 12, [.one (.sh (.rows (.int .u8)))], [], [.one (.own 0), ak_s], [.rows .str], fun a s => spec_DrawDropBackend N a.1⟩
set_option maxRecDepth 100000 in
theorem spec_DrawDropBackend.eq (N : Nat) (code : (List Int)) : spec_DrawDropBackend N code =
 andK (spec_l1Cur_live N code 0 0) fun u1 =>
 andK (α := ((Unit × (Unit × (Bool × Unit))) × (((List Int) × (Int × (Int × Unit))) × ((List ByteArray) × Unit)))) (
  sel (decide (0 < (u1.2.2.1.length : Int)))
   (
   andK (spec_l1Cur_one N 3 u1.2.1.1 u1.2.1.2.1 u1.2.1.2.2.1) fun u2 =>
   some ((((), ((), ((!u2.1.1), ()))), ((u2.2.1.1, (u2.2.1.2.1, (u2.2.1.2.2.1, ()))), (u1.2.2.1, ())))))
   (
   some ((((), ((), (false, ()))), ((u1.2.1.1, (u1.2.1.2.1, (u1.2.1.2.2.1, ()))), (u1.2.2.1, ())))))) fun j3 =>
 sel j3.1.2.2.1
  (
  andK (spec_l1Cur_pick N (j3.2.2.1.length : Int) j3.2.1.1 j3.2.1.2.1 j3.2.1.2.2.1) fun u4 =>
  chk ((decide (0 ≤ u4.1.1)) && (decide (u4.1.1 < (j3.2.2.1.length : Int)))) (
  some (((), ((j3.2.2.1.getD (Int.toNat u4.1.1) (⟨#[]⟩ : ByteArray)), ())), (j3.2.2.1, ()))))
  (
  andK (spec_l1Cur_backend N j3.2.1.1 j3.2.1.2.1 j3.2.1.2.2.1) fun u5 =>
  some (((), (u5.1.1, ())), (j3.2.2.1, ()))) := by kernel_rfl
set_option maxRecDepth 100000 in
theorem spec_DrawDropBackend.say (N : Nat) : SayOk Tryz.prog (spec_DrawDropBackend.S N) := sayOk_mk (N := N) (H := spec_DrawDropBackend.H) (preps := [⟨[], [], [], [1]⟩]) (l := spec_DrawDropBackend.says) (fn := Tryz.f12) (c := bodyOf Tryz.f12)
  (by kernel_rfl) (by kernel_rfl) (by kernel_rfl) (by kernel_rfl) (by kernel_rfl) (by kernel_rfl) (by kernel_rfl)
  (fun N => SayAll.cons (spec_l1Cur_live.say N) (SayAll.cons (spec_l1Cur_one.say N) (SayAll.cons (spec_l1Cur_pick.say N) (SayAll.cons (spec_l1Cur_backend.say N) (SayAll.nil))))) (fun a s => by kernel_rfl)

/-! ### (*loop.example/g00206/spec.l1Cur).among: function 55 -/
noncomputable def spec_l1Cur_among.H : Hints := hintsOf []
noncomputable def spec_l1Cur_among.says (N : Nat) : List Say := [spec_l1Cur_pick.S N]
noncomputable def spec_l1Cur_among.call (N : Nat) : CallK := callBy (spec_l1Cur_among.says N)
noncomputable def spec_l1Cur_among.qt (N : Nat) : FuncId → List PV → Sig → Cl := qtBy (spec_l1Cur_among.says N)
noncomputable def spec_l1Cur_among (N : Nat) (list : (List Int)) (p0_0 : (List Int)) (p0_1 : Int) (p0_2 : Int) : Option ((Int × Unit) × (((List Int) × (Int × (Int × Unit))) × Unit)) :=
  ofFn Tryz.prog spec_l1Cur_among.call spec_l1Cur_among.qt spec_l1Cur_among.H N Tryz.f55 [.one (.ptr 0 0), .one (.sh (.rows (.int .i64)))] [.cells [.sh (.rows (.int .u8)), ck_i, .sh (.int .u64)]] [ak_i] [.cells [.sh (.rows (.int .u8)), ck_i, .sh (.int .u64)]] [⟨[], [], [], []⟩] ((), (list, ())) ((p0_0, (p0_1, (p0_2, ()))), ())
noncomputable def spec_l1Cur_among.S (N : Nat) : Say := ⟨false, 55, [.one (.ptr 0 0), .one (.sh (.rows (.int .i64)))], [.cells [.sh (.rows (.int .u8)), ck_i, .sh (.int .u64)]], [ak_i], [.cells [.sh (.rows (.int .u8)), ck_i, .sh (.int .u64)]], fun a s => spec_l1Cur_among N a.2.1 s.1.1 s.1.2.1 s.1.2.2.1⟩
set_option maxRecDepth 100000 in
theorem spec_l1Cur_among.eq (N : Nat) (list : (List Int)) (p0_0 : (List Int)) (p0_1 : Int) (p0_2 : Int) : spec_l1Cur_among N list p0_0 p0_1 p0_2 =
 andK (spec_l1Cur_pick N (list.length : Int) p0_0 p0_1 p0_2) fun u1 =>
 chk ((decide (0 ≤ u1.1.1)) && (decide (u1.1.1 < (list.length : Int)))) (
 some (((list.getD (Int.toNat u1.1.1) 0), ()), ((u1.2.1.1, (u1.2.1.2.1, (u1.2.1.2.2.1, ()))), ()))) := by kernel_rfl
set_option maxRecDepth 100000 in
theorem spec_l1Cur_among.say (N : Nat) : SayOk Tryz.prog (spec_l1Cur_among.S N) := sayOk_mk (N := N) (H := spec_l1Cur_among.H) (preps := [⟨[], [], [], []⟩]) (l := spec_l1Cur_among.says) (fn := Tryz.f55) (c := bodyOf Tryz.f55)
  (by kernel_rfl) (by kernel_rfl) (by kernel_rfl) (by kernel_rfl) (by kernel_rfl) (by kernel_rfl) (by kernel_rfl)
  (fun N => SayAll.cons (spec_l1Cur_pick.say N) (SayAll.nil)) (fun a s => by kernel_rfl)

/-! ### (*loop.example/g00206/spec.l1Cur).sizedBytes: function 56 -/
noncomputable def spec_l1Cur_sizedBytes.H : Hints := hintsOf [(2000003, .loop ⟨.normal, [10], [0, 5, 11], [.one (.ptr 0 0), .one (.own 1), ak_i], [.cells [.sh (.rows (.int .u8)), ck_i, .sh (.int .u64)], .rows (.int .u8)], [⟨[], [], [], []⟩]⟩ [⟨(.exit 0), [], [5], [.one (.own 1)], [.cells [.sh (.rows (.int .u8)), ck_i, .sh (.int .u64)], .rows (.int .u8)], [⟨[], [], [], []⟩]⟩])]
noncomputable def spec_l1Cur_sizedBytes.says (N : Nat) : List Say := [spec_l1Cur_pick.S N]
noncomputable def spec_l1Cur_sizedBytes.call (N : Nat) : CallK := callBy (spec_l1Cur_sizedBytes.says N)
noncomputable def spec_l1Cur_sizedBytes.qt (N : Nat) : FuncId → List PV → Sig → Cl := qtBy (spec_l1Cur_sizedBytes.says N)
noncomputable def spec_l1Cur_sizedBytes.l0.hd : Alt := ⟨.normal, [10], [0, 5, 11], [.one (.ptr 0 0), .one (.own 1), ak_i], [.cells [.sh (.rows (.int .u8)), ck_i, .sh (.int .u64)], .rows (.int .u8)], [⟨[], [], [], []⟩]⟩
noncomputable def spec_l1Cur_sizedBytes.l0.outs : List Alt := [⟨(.exit 0), [], [5], [.one (.own 1)], [.cells [.sh (.rows (.int .u8)), ck_i, .sh (.int .u64)], .rows (.int .u8)], [⟨[], [], [], []⟩]⟩]
noncomputable def spec_l1Cur_sizedBytes.l0 (N : Nat) (t10 : Int) (t11 : Int) (p0_01 : (List Int)) (p0_11 : Int) (p0_21 : Int) (p1 : (List Int)) : Option ((Unit × Unit) × (((List Int) × (Int × (Int × Unit))) × ((List Int) × Unit))) :=
  loopK Tryz.prog spec_l1Cur_sizedBytes.call spec_l1Cur_sizedBytes.qt spec_l1Cur_sizedBytes.H (codeAt (bodyOf Tryz.f56) [1, 1, 0, 1, 0, 0]) 2 spec_l1Cur_sizedBytes.l0.hd spec_l1Cur_sizedBytes.l0.outs [(10, .v (.int .i64 t10))] N (((), ((), (t11, ()))), ((p0_01, (p0_11, (p0_21, ()))), (p1, ())))
noncomputable def spec_l1Cur_sizedBytes (N : Nat) (n : Int) (p0_0 : (List Int)) (p0_1 : Int) (p0_2 : Int) : Option ((Unit × Unit) × (((List Int) × (Int × (Int × Unit))) × ((List Int) × Unit))) :=
  ofFn Tryz.prog spec_l1Cur_sizedBytes.call spec_l1Cur_sizedBytes.qt spec_l1Cur_sizedBytes.H N Tryz.f56 [.one (.ptr 0 0), ak_i] [.cells [.sh (.rows (.int .u8)), ck_i, .sh (.int .u64)]] [.one (.own 1)] [.cells [.sh (.rows (.int .u8)), ck_i, .sh (.int .u64)], .rows (.int .u8)] [⟨[], [], [], [1]⟩] ((), (n, ())) ((p0_0, (p0_1, (p0_2, ()))), ())
noncomputable def spec_l1Cur_sizedBytes.S (N : Nat) : Say := ⟨false, 56, [.one (.ptr 0 0), ak_i], [.cells [.sh (.rows (.int .u8)), ck_i, .sh (.int .u64)]], [.one (.own 1)], [.cells [.sh (.rows (.int .u8)), ck_i, .sh (.int .u64)], .rows (.int .u8)], fun a s => spec_l1Cur_sizedBytes N a.2.1 s.1.1 s.1.2.1 s.1.2.2.1⟩
set_option maxRecDepth 100000 in
theorem spec_l1Cur_sizedBytes.l0.eq (N : Nat) (t10 : Int) (t11 : Int) (p0_01 : (List Int)) (p0_11 : Int) (p0_21 : Int) (p1 : (List Int)) : spec_l1Cur_sizedBytes.l0 (N + 1) t10 t11 p0_01 p0_11 p0_21 p1 =
 sel (decide (t11 < t10))
  (
  andK (spec_l1Cur_pick N 256 p0_01 p0_11 p0_21) fun u1 =>
  chk ((decide (0 ≤ t11)) && (decide (t11 < (p1.length : Int)))) (
  spec_l1Cur_sizedBytes.l0 N t10 (IntKind.i64.wrap (t11 + 1)) u1.2.1.1 u1.2.1.2.1 u1.2.1.2.2.1 (p1.set (Int.toNat t11) (IntKind.u8.wrap u1.1.1))))
  (
  some ((((), ()), ((p0_01, (p0_11, (p0_21, ()))), (p1, ()))))) := by kernel_rfl
set_option maxRecDepth 100000 in
theorem spec_l1Cur_sizedBytes.eq (N : Nat) (n : Int) (p0_0 : (List Int)) (p0_1 : Int) (p0_2 : Int) : spec_l1Cur_sizedBytes N n p0_0 p0_1 p0_2 =
 chk ((decide (0 ≤ n)) && ((smallI n) && (decide (n = n)))) (
 andK (spec_l1Cur_sizedBytes.l0 N ((List.replicate (Int.toNat n) (0 : Int)).length : Int) 0 p0_0 p0_1 p0_2 (List.replicate (Int.toNat n) (0 : Int))) fun l2 =>
 some (((), ()), ((l2.2.1.1, (l2.2.1.2.1, (l2.2.1.2.2.1, ()))), (l2.2.2.1, ())))) := by kernel_rfl
set_option maxRecDepth 100000 in
theorem spec_l1Cur_sizedBytes.say (N : Nat) : SayOk Tryz.prog (spec_l1Cur_sizedBytes.S N) := sayOk_mk (N := N) (H := spec_l1Cur_sizedBytes.H) (preps := [⟨[], [], [], [1]⟩]) (l := spec_l1Cur_sizedBytes.says) (fn := Tryz.f56) (c := bodyOf Tryz.f56)
  (by kernel_rfl) (by kernel_rfl) (by kernel_rfl) (by kernel_rfl) (by kernel_rfl) (by kernel_rfl) (by kernel_rfl)
  (fun N => SayAll.cons (spec_l1Cur_pick.say N) (SayAll.nil)) (fun a s => by kernel_rfl)

/-! ### (*loop.example/g00206/spec.l1Cur).short: function 34 -/
noncomputable def spec_l1Cur_short.H : Hints := hintsOf [(4, .join [⟨.normal, [], [0, 3], [.one (.ptr 0 0), ak_i], [.cells [.sh (.rows (.int .u8)), ck_i, .sh (.int .u64)]], [⟨[], [], [], []⟩]⟩])]
noncomputable def spec_l1Cur_short.says (N : Nat) : List Say := [spec_l1Cur_pick.S N, spec_l1Cur_one.S N, spec_l1Cur_among.S N, spec_l1Cur_sizedBytes.S N]
noncomputable def spec_l1Cur_short.call (N : Nat) : CallK := callBy (spec_l1Cur_short.says N)
noncomputable def spec_l1Cur_short.qt (N : Nat) : FuncId → List PV → Sig → Cl := qtBy (spec_l1Cur_short.says N)
noncomputable def spec_l1Cur_short (N : Nat) (p0_0 : (List Int)) (p0_1 : Int) (p0_2 : Int) : Option ((ByteArray × Unit) × (((List Int) × (Int × (Int × Unit))) × Unit)) :=
  ofFn Tryz.prog spec_l1Cur_short.call spec_l1Cur_short.qt spec_l1Cur_short.H N Tryz.f34 [.one (.ptr 0 0)] [.cells [.sh (.rows (.int .u8)), ck_i, .sh (.int .u64)]] [ak_s] [.cells [.sh (.rows (.int .u8)), ck_i, .sh (.int .u64)]] [⟨[], [], [], []⟩] ((), ()) ((p0_0, (p0_1, (p0_2, ()))), ())
noncomputable def spec_l1Cur_short.S (N : Nat) : Say := ⟨false, 34, [.one (.ptr 0 0)], [.cells [.sh (.rows (.int .u8)), ck_i, .sh (.int .u64)]], [ak_s], [.cells [.sh (.rows (.int .u8)), ck_i, .sh (.int .u64)]], fun a s => spec_l1Cur_short N s.1.1 s.1.2.1 s.1.2.2.1⟩
set_option maxRecDepth 100000 in
theorem spec_l1Cur_short.eq (N : Nat) (p0_0 : (List Int)) (p0_1 : Int) (p0_2 : Int) : spec_l1Cur_short N p0_0 p0_1 p0_2 =
 andK (spec_l1Cur_pick N 40 p0_0 p0_1 p0_2) fun u1 =>
 andK (α := ((Unit × (Int × Unit)) × (((List Int) × (Int × (Int × Unit))) × Unit))) (
  andK (spec_l1Cur_one N 8 u1.2.1.1 u1.2.1.2.1 u1.2.1.2.2.1) fun u2 =>
  sel u2.1.1
   (
   andK (spec_l1Cur_among N [0, 15, 16, 17, 32] u2.2.1.1 u2.2.1.2.1 u2.2.1.2.2.1) fun u3 =>
   some ((((), (u3.1.1, ())), ((u3.2.1.1, (u3.2.1.2.1, (u3.2.1.2.2.1, ()))), ()))))
   (
   some ((((), (u1.1.1, ())), ((u2.2.1.1, (u2.2.1.2.1, (u2.2.1.2.2.1, ()))), ()))))) fun j4 =>
 andK (spec_l1Cur_sizedBytes N j4.1.2.1 j4.2.1.1 j4.2.1.2.1 j4.2.1.2.2.1) fun u5 =>
 some (((strL u5.2.2.1), ()), ((u5.2.1.1, (u5.2.1.2.1, (u5.2.1.2.2.1, ()))), ())) := by kernel_rfl
set_option maxRecDepth 100000 in
theorem spec_l1Cur_short.say (N : Nat) : SayOk Tryz.prog (spec_l1Cur_short.S N) := sayOk_mk (N := N) (H := spec_l1Cur_short.H) (preps := [⟨[], [], [], []⟩]) (l := spec_l1Cur_short.says) (fn := Tryz.f34) (c := bodyOf Tryz.f34)
  (by kernel_rfl) (by kernel_rfl) (by kernel_rfl) (by kernel_rfl) (by kernel_rfl) (by kernel_rfl) (by kernel_rfl)
  (fun N => SayAll.cons (spec_l1Cur_pick.say N) (SayAll.cons (spec_l1Cur_one.say N) (SayAll.cons (spec_l1Cur_among.say N) (SayAll.cons (spec_l1Cur_sizedBytes.say N) (SayAll.nil))))) (fun a s => by kernel_rfl)

/-! ### loop.example/g00206/spec.DrawPickBackend: function 13 -/
noncomputable def spec_DrawPickBackend.H : Hints := hintsOf [(5, .join [⟨.normal, [], [4, 5], [.one (.ptr 0 0), ak_s], [.cells [.sh (.rows (.int .u8)), ck_i, .sh (.int .u64)]], [⟨[], [], [], []⟩]⟩])]
noncomputable def spec_DrawPickBackend.says (N : Nat) : List Say := [spec_l1Cur_short.S N, spec_l1Cur_one.S N, spec_l1Cur_pick.S N, spec_l1Cur_live.S N]
noncomputable def spec_DrawPickBackend.call (N : Nat) : CallK := callBy (spec_DrawPickBackend.says N)
noncomputable def spec_DrawPickBackend.qt (N : Nat) : FuncId → List PV → Sig → Cl := qtBy (spec_DrawPickBackend.says N)
noncomputable def spec_DrawPickBackend (N : Nat) (code : (List Int)) : Option ((Unit × (ByteArray × Unit)) × ((List ByteArray) × Unit)) :=
  ofFn Tryz.prog spec_DrawPickBackend.call spec_DrawPickBackend.qt spec_DrawPickBackend.H N Tryz.f13 [.one (.sh (.rows (.int .u8)))] [] [.one (.own 0), ak_s] [.rows .str] [⟨[], [], [], [1]⟩] (code, ()) ()
noncomputable def spec_DrawPickBackend.S (N : Nat) : Say := ⟨false, 13, [.one (.sh (.rows (.int .u8)))], [], [.one (.own 0), ak_s], [.rows .str], fun a s => spec_DrawPickBackend N a.1⟩
set_option maxRecDepth 100000 in
theorem spec_DrawPickBackend.eq (N : Nat) (code : (List Int)) : spec_DrawPickBackend N code =
 andK (spec_l1Cur_short N code 0 0) fun u1 =>
 andK (α := ((Unit × (ByteArray × Unit)) × (((List Int) × (Int × (Int × Unit))) × Unit))) (
  andK (spec_l1Cur_one N 30 u1.2.1.1 u1.2.1.2.1 u1.2.1.2.2.1) fun u2 =>
  sel u2.1.1
   (
   andK (spec_l1Cur_pick N 2 u2.2.1.1 u2.2.1.2.1 u2.2.1.2.2.1) fun u3 =>
   chk ((decide (0 ≤ (IntKind.i64.wrap (100 + u3.1.1)))) && ((smallI (IntKind.i64.wrap (100 + u3.1.1))) && (decide ((IntKind.i64.wrap (100 + u3.1.1)) = (IntKind.i64.wrap (100 + u3.1.1)))))) (
   some ((((), ((strL (List.replicate (Int.toNat (IntKind.i64.wrap (100 + u3.1.1))) (0 : Int))), ())), ((u3.2.1.1, (u3.2.1.2.1, (u3.2.1.2.2.1, ()))), ())))))
   (
   some ((((), (u1.1.1, ())), ((u2.2.1.1, (u2.2.1.2.1, (u2.2.1.2.2.1, ()))), ()))))) fun j4 =>
 andK (spec_l1Cur_live N j4.2.1.1 j4.2.1.2.1 j4.2.1.2.2.1) fun u5 =>
 some (((), (j4.1.2.1, ())), (u5.2.2.1, ())) := by kernel_rfl
set_option maxRecDepth 100000 in
theorem spec_DrawPickBackend.say (N : Nat) : SayOk Tryz.prog (spec_DrawPickBackend.S N) := sayOk_mk (N := N) (H := spec_DrawPickBackend.H) (preps := [⟨[], [], [], [1]⟩]) (l := spec_DrawPickBackend.says) (fn := Tryz.f13) (c := bodyOf Tryz.f13)
  (by kernel_rfl) (by kernel_rfl) (by kernel_rfl) (by kernel_rfl) (by kernel_rfl) (by kernel_rfl) (by kernel_rfl)
  (fun N => SayAll.cons (spec_l1Cur_short.say N) (SayAll.cons (spec_l1Cur_one.say N) (SayAll.cons (spec_l1Cur_pick.say N) (SayAll.cons (spec_l1Cur_live.say N) (SayAll.nil))))) (fun a s => by kernel_rfl)

/-! ### cmp.isNaN[string]: function 75 -/
noncomputable def cmp_isNaNstring.H : Hints := hintsOf []
noncomputable def cmp_isNaNstring.says (N : Nat) : List Say := []
noncomputable def cmp_isNaNstring.call (N : Nat) : CallK := callBy (cmp_isNaNstring.says N)
noncomputable def cmp_isNaNstring.qt (N : Nat) : FuncId → List PV → Sig → Cl := qtBy (cmp_isNaNstring.says N)
noncomputable def cmp_isNaNstring (N : Nat) (x : ByteArray) : Option ((Bool × Unit) × Unit) :=
  ofFn Tryz.prog cmp_isNaNstring.call cmp_isNaNstring.qt cmp_isNaNstring.H N Tryz.f75 [ak_s] [] [ak_b] [] [⟨[], [], [], []⟩] (x, ()) ()
noncomputable def cmp_isNaNstring.S (N : Nat) : Say := ⟨false, 75, [ak_s], [], [ak_b], [], fun a s => cmp_isNaNstring N a.1⟩
set_option maxRecDepth 100000 in
theorem cmp_isNaNstring.eq (N : Nat) (x : ByteArray) : cmp_isNaNstring N x =
 some (((!(decide (x = x))), ()), ()) := by kernel_rfl
set_option maxRecDepth 100000 in
theorem cmp_isNaNstring.say (N : Nat) : SayOk Tryz.prog (cmp_isNaNstring.S N) := sayOk_mk (N := N) (H := cmp_isNaNstring.H) (preps := [⟨[], [], [], []⟩]) (l := cmp_isNaNstring.says) (fn := Tryz.f75) (c := bodyOf Tryz.f75)
  (by kernel_rfl) (by kernel_rfl) (by kernel_rfl) (by kernel_rfl) (by kernel_rfl) (by kernel_rfl) (by kernel_rfl)
  (fun N => SayAll.nil) (fun a s => by kernel_rfl)

/-! ### cmp.Less[string]: function 51 -/
noncomputable def cmp_Lessstring.H : Hints := hintsOf []
noncomputable def cmp_Lessstring.says (N : Nat) : List Say := [cmp_isNaNstring.S N]
noncomputable def cmp_Lessstring.call (N : Nat) : CallK := callBy (cmp_Lessstring.says N)
noncomputable def cmp_Lessstring.qt (N : Nat) : FuncId → List PV → Sig → Cl := qtBy (cmp_Lessstring.says N)
noncomputable def cmp_Lessstring (N : Nat) (x : ByteArray) (y : ByteArray) : Option ((Bool × Unit) × Unit) :=
  ofFn Tryz.prog cmp_Lessstring.call cmp_Lessstring.qt cmp_Lessstring.H N Tryz.f51 [ak_s, ak_s] [] [ak_b] [] [⟨[], [], [], []⟩] (x, (y, ())) ()
noncomputable def cmp_Lessstring.S (N : Nat) : Say := ⟨false, 51, [ak_s, ak_s], [], [ak_b], [], fun a s => cmp_Lessstring N a.1 a.2.1⟩
set_option maxRecDepth 100000 in
theorem cmp_Lessstring.eq (N : Nat) (x : ByteArray) (y : ByteArray) : cmp_Lessstring N x y =
 andK (cmp_isNaNstring N x) fun u1 =>
 sel u1.1.1
  (
  andK (cmp_isNaNstring N y) fun u2 =>
  sel (!u2.1.1)
   (
   some ((true, ()), ()))
   (
   some (((sltB x y), ()), ())))
  (
  some (((sltB x y), ()), ())) := by kernel_rfl
set_option maxRecDepth 100000 in
theorem cmp_Lessstring.say (N : Nat) : SayOk Tryz.prog (cmp_Lessstring.S N) := sayOk_mk (N := N) (H := cmp_Lessstring.H) (preps := [⟨[], [], [], []⟩]) (l := cmp_Lessstring.says) (fn := Tryz.f51) (c := bodyOf Tryz.f51)
  (by kernel_rfl) (by kernel_rfl) (by kernel_rfl) (by kernel_rfl) (by kernel_rfl) (by kernel_rfl) (by kernel_rfl)
  (fun N => SayAll.cons (cmp_isNaNstring.say N) (SayAll.nil)) (fun a s => by kernel_rfl)

/-! ### slices.isNaN[string]: function 52 -/
noncomputable def slices_isNaNstring.H : Hints := hintsOf []
noncomputable def slices_isNaNstring.says (N : Nat) : List Say := []
noncomputable def slices_isNaNstring.call (N : Nat) : CallK := callBy (slices_isNaNstring.says N)
noncomputable def slices_isNaNstring.qt (N : Nat) : FuncId → List PV → Sig → Cl := qtBy (slices_isNaNstring.says N)
noncomputable def slices_isNaNstring (N : Nat) (x : ByteArray) : Option ((Bool × Unit) × Unit) :=
  ofFn Tryz.prog slices_isNaNstring.call slices_isNaNstring.qt slices_isNaNstring.H N Tryz.f52 [ak_s] [] [ak_b] [] [⟨[], [], [], []⟩] (x, ()) ()
noncomputable def slices_isNaNstring.S (N : Nat) : Say := ⟨false, 52, [ak_s], [], [ak_b], [], fun a s => slices_isNaNstring N a.1⟩
set_option maxRecDepth 100000 in
theorem slices_isNaNstring.eq (N : Nat) (x : ByteArray) : slices_isNaNstring N x =
 some (((!(decide (x = x))), ()), ()) := by kernel_rfl
set_option maxRecDepth 100000 in
theorem slices_isNaNstring.say (N : Nat) : SayOk Tryz.prog (slices_isNaNstring.S N) := sayOk_mk (N := N) (H := slices_isNaNstring.H) (preps := [⟨[], [], [], []⟩]) (l := slices_isNaNstring.says) (fn := Tryz.f52) (c := bodyOf Tryz.f52)
  (by kernel_rfl) (by kernel_rfl) (by kernel_rfl) (by kernel_rfl) (by kernel_rfl) (by kernel_rfl) (by kernel_rfl)
  (fun N => SayAll.nil) (fun a s => by kernel_rfl)

/-! ### slices.BinarySearch[[]string,string]: function 27 -/
noncomputable def slices_BinarySearchstring_string.H : Hints := hintsOf [(2000003, .loop ⟨.normal, [0, 1, 6], [7, 8], [ak_i, ak_i], [], [⟨[], [], [], []⟩]⟩ [⟨(.exit 0), [0, 1, 6], [7], [ak_i], [], [⟨[], [], [], []⟩]⟩])]
noncomputable def slices_BinarySearchstring_string.says (N : Nat) : List Say := [cmp_Lessstring.S N, slices_isNaNstring.S N]
noncomputable def slices_BinarySearchstring_string.call (N : Nat) : CallK := callBy (slices_BinarySearchstring_string.says N)
noncomputable def slices_BinarySearchstring_string.qt (N : Nat) : FuncId → List PV → Sig → Cl := qtBy (slices_BinarySearchstring_string.says N)
noncomputable def slices_BinarySearchstring_string.l0.hd : Alt := ⟨.normal, [0, 1, 6], [7, 8], [ak_i, ak_i], [], [⟨[], [], [], []⟩]⟩
noncomputable def slices_BinarySearchstring_string.l0.outs : List Alt := [⟨(.exit 0), [0, 1, 6], [7], [ak_i], [], [⟨[], [], [], []⟩]⟩]
noncomputable def slices_BinarySearchstring_string.l0 (N : Nat) (x1 : (List ByteArray)) (target1 : ByteArray) (n : Int) (i : Int) (j : Int) : Option ((Int × Unit) × Unit) :=
  loopK Tryz.prog slices_BinarySearchstring_string.call slices_BinarySearchstring_string.qt slices_BinarySearchstring_string.H (codeAt (bodyOf Tryz.f27) [1, 1, 1, 0, 0, 0]) 0 slices_BinarySearchstring_string.l0.hd slices_BinarySearchstring_string.l0.outs [(0, .rows false .str x1), (1, .v (.string target1)), (6, .v (.int .i64 n))] N ((i, (j, ())), ())
noncomputable def slices_BinarySearchstring_string (N : Nat) (x : (List ByteArray)) (target : ByteArray) : Option ((Int × (Bool × Unit)) × Unit) :=
  ofFn Tryz.prog slices_BinarySearchstring_string.call slices_BinarySearchstring_string.qt slices_BinarySearchstring_string.H N Tryz.f27 [.one (.sh (.rows .str)), ak_s] [] [ak_i, ak_b] [] [⟨[], [], [], []⟩] (x, (target, ())) ()
noncomputable def slices_BinarySearchstring_string.S (N : Nat) : Say := ⟨false, 27, [.one (.sh (.rows .str)), ak_s], [], [ak_i, ak_b], [], fun a s => slices_BinarySearchstring_string N a.1 a.2.1⟩
set_option maxRecDepth 100000 in
theorem slices_BinarySearchstring_string.l0.eq (N : Nat) (x1 : (List ByteArray)) (target1 : ByteArray) (n : Int) (i : Int) (j : Int) : slices_BinarySearchstring_string.l0 (N + 1) x1 target1 n i j =
 sel (decide (i < j))
  (
  chk ((decide (0 ≤ (IntKind.i64.wrap (shrI .u64 (IntKind.u64.wrap (IntKind.i64.wrap (i + j))) 1)))) && (decide ((IntKind.i64.wrap (shrI .u64 (IntKind.u64.wrap (IntKind.i64.wrap (i + j))) 1)) < (x1.length : Int)))) (
  andK (cmp_Lessstring N (x1.getD (Int.toNat (IntKind.i64.wrap (shrI .u64 (IntKind.u64.wrap (IntKind.i64.wrap (i + j))) 1))) (⟨#[]⟩ : ByteArray)) target1) fun u1 =>
  sel u1.1.1
   (
   slices_BinarySearchstring_string.l0 N x1 target1 n (IntKind.i64.wrap ((IntKind.i64.wrap (shrI .u64 (IntKind.u64.wrap (IntKind.i64.wrap (i + j))) 1)) + 1)) j)
   (
   slices_BinarySearchstring_string.l0 N x1 target1 n i (IntKind.i64.wrap (shrI .u64 (IntKind.u64.wrap (IntKind.i64.wrap (i + j))) 1)))))
  (
  some (((i, ()), ()))) := by kernel_rfl
set_option maxRecDepth 100000 in
theorem slices_BinarySearchstring_string.eq (N : Nat) (x : (List ByteArray)) (target : ByteArray) : slices_BinarySearchstring_string N x target =
 andK (slices_BinarySearchstring_string.l0 N x target (x.length : Int) 0 (x.length : Int)) fun l2 =>
 sel (decide (l2.1.1 < (x.length : Int)))
  (
  chk ((decide (0 ≤ l2.1.1)) && (decide (l2.1.1 < (x.length : Int)))) (
  sel (decide ((x.getD (Int.toNat l2.1.1) (⟨#[]⟩ : ByteArray)) = target))
   (
   some ((l2.1.1, (true, ())), ()))
   (
   chk ((decide (0 ≤ l2.1.1)) && (decide (l2.1.1 < (x.length : Int)))) (
   andK (slices_isNaNstring N (x.getD (Int.toNat l2.1.1) (⟨#[]⟩ : ByteArray))) fun u3 =>
   sel u3.1.1
    (
    andK (slices_isNaNstring N target) fun u4 =>
    some ((l2.1.1, (u4.1.1, ())), ()))
    (
    some ((l2.1.1, (false, ())), ()))))))
  (
  some ((l2.1.1, (false, ())), ())) := by kernel_rfl
set_option maxRecDepth 100000 in
theorem slices_BinarySearchstring_string.say (N : Nat) : SayOk Tryz.prog (slices_BinarySearchstring_string.S N) := sayOk_mk (N := N) (H := slices_BinarySearchstring_string.H) (preps := [⟨[], [], [], []⟩]) (l := slices_BinarySearchstring_string.says) (fn := Tryz.f27) (c := bodyOf Tryz.f27)
  (by kernel_rfl) (by kernel_rfl) (by kernel_rfl) (by kernel_rfl) (by kernel_rfl) (by kernel_rfl) (by kernel_rfl)
  (fun N => SayAll.cons (cmp_Lessstring.say N) (SayAll.cons (slices_isNaNstring.say N) (SayAll.nil))) (fun a s => by kernel_rfl)

/-! ### loop.example/g00206/impl.in: function 47 -/
noncomputable def impl_in.H : Hints := hintsOf []
noncomputable def impl_in.says (N : Nat) : List Say := []
noncomputable def impl_in.call (N : Nat) : CallK := callBy (impl_in.says N)
noncomputable def impl_in.qt (N : Nat) : FuncId → List PV → Sig → Cl := qtBy (impl_in.says N)
noncomputable def impl_in (N : Nat) (n : Int) (low : Int) (high : Int) : Option ((Bool × Unit) × Unit) :=
  ofFn Tryz.prog impl_in.call impl_in.qt impl_in.H N Tryz.f47 [ak_i, ak_i, ak_i] [] [ak_b] [] [⟨[], [], [], []⟩] (n, (low, (high, ()))) ()
noncomputable def impl_in.S (N : Nat) : Say := ⟨false, 47, [ak_i, ak_i, ak_i], [], [ak_b], [], fun a s => impl_in N a.1 a.2.1 a.2.2.1⟩
set_option maxRecDepth 100000 in
theorem impl_in.eq (N : Nat) (n : Int) (low : Int) (high : Int) : impl_in N n low high =
 sel (decide (low ≤ n))
  (
  some (((decide (n ≤ high)), ()), ()))
  (
  some ((false, ()), ())) := by kernel_rfl
set_option maxRecDepth 100000 in
theorem impl_in.say (N : Nat) : SayOk Tryz.prog (impl_in.S N) := sayOk_mk (N := N) (H := impl_in.H) (preps := [⟨[], [], [], []⟩]) (l := impl_in.says) (fn := Tryz.f47) (c := bodyOf Tryz.f47)
  (by kernel_rfl) (by kernel_rfl) (by kernel_rfl) (by kernel_rfl) (by kernel_rfl) (by kernel_rfl) (by kernel_rfl)
  (fun N => SayAll.nil) (fun a s => by kernel_rfl)

/-! ### strings.Trim: function 67 -/
noncomputable def strings_Trim (N : Nat) (s : ByteArray) (cs : ByteArray) : Option ((ByteArray × Unit) × Unit) := trimF s cs
noncomputable def strings_Trim.S (N : Nat) : Say := trimS 67
theorem strings_Trim.eq (N : Nat) (s : ByteArray) (cs : ByteArray) : strings_Trim N s cs =
 chk (decide (s.size ≤ 9223372036854775807)) (
 chk (decide (cs.size < 4294967281)) (
 chk (asciiB cs) (
 some (((trimL s cs), ()), ())))) := trimF_eq s cs
set_option maxRecDepth 100000 in
theorem strings_Trim.say (N : Nat) : SayOk Tryz.prog (strings_Trim.S N) := trim_say

/-! ### loop.example/g00206/impl.over: function 48 -/
noncomputable def impl_over.H : Hints := hintsOf []
noncomputable def impl_over.says (N : Nat) : List Say := [strings_Trim.S N]
noncomputable def impl_over.call (N : Nat) : CallK := callBy (impl_over.says N)
noncomputable def impl_over.qt (N : Nat) : FuncId → List PV → Sig → Cl := qtBy (impl_over.says N)
noncomputable def impl_over (N : Nat) (s : ByteArray) (signs : ByteArray) : Option ((Bool × Unit) × Unit) :=
  ofFn Tryz.prog impl_over.call impl_over.qt impl_over.H N Tryz.f48 [ak_s, ak_s] [] [ak_b] [] [⟨[], [], [], []⟩] (s, (signs, ())) ()
noncomputable def impl_over.S (N : Nat) : Say := ⟨false, 48, [ak_s, ak_s], [], [ak_b], [], fun a s => impl_over N a.1 a.2.1⟩
set_option maxRecDepth 100000 in
theorem impl_over.eq (N : Nat) (s : ByteArray) (signs : ByteArray) : impl_over N s signs =
 andK (strings_Trim N s signs) fun u1 =>
 some (((decide (u1.1.1 = (⟨#[]⟩ : ByteArray))), ()), ()) := by kernel_rfl
set_option maxRecDepth 100000 in
theorem impl_over.say (N : Nat) : SayOk Tryz.prog (impl_over.S N) := sayOk_mk (N := N) (H := impl_over.H) (preps := [⟨[], [], [], []⟩]) (l := impl_over.says) (fn := Tryz.f48) (c := bodyOf Tryz.f48)
  (by kernel_rfl) (by kernel_rfl) (by kernel_rfl) (by kernel_rfl) (by kernel_rfl) (by kernel_rfl) (by kernel_rfl)
  (fun N => SayAll.cons (strings_Trim.say N) (SayAll.nil)) (fun a s => by kernel_rfl)

/-! ### loop.example/g00206/impl.GoodBackend: function 25 -/
noncomputable def impl_GoodBackend.H : Hints := hintsOf []
noncomputable def impl_GoodBackend.says (N : Nat) : List Say := [impl_in.S N, impl_over.S N]
noncomputable def impl_GoodBackend.call (N : Nat) : CallK := callBy (impl_GoodBackend.says N)
noncomputable def impl_GoodBackend.qt (N : Nat) : FuncId → List PV → Sig → Cl := qtBy (impl_GoodBackend.says N)
noncomputable def impl_GoodBackend (N : Nat) (s : ByteArray) : Option ((Bool × Unit) × Unit) :=
  ofFn Tryz.prog impl_GoodBackend.call impl_GoodBackend.qt impl_GoodBackend.H N Tryz.f25 [ak_s] [] [ak_b] [] [⟨[], [], [], []⟩] (s, ()) ()
noncomputable def impl_GoodBackend.S (N : Nat) : Say := ⟨false, 25, [ak_s], [], [ak_b], [], fun a s => impl_GoodBackend N a.1⟩
set_option maxRecDepth 100000 in
theorem impl_GoodBackend.eq (N : Nat) (s : ByteArray) : impl_GoodBackend N s =
 andK (impl_in N (s.size : Int) 1 12) fun u1 =>
 sel u1.1.1
  (
  andK (impl_over N s (⟨#[97, 98, 99, 100, 101, 102, 103, 104, 105, 106, 107, 108, 109, 110, 111, 112, 113, 114, 115, 116, 117, 118, 119, 120, 121, 122, 48, 49, 50, 51, 52, 53, 54, 55, 56, 57]⟩ : ByteArray)) fun u2 =>
  some ((u2.1.1, ()), ()))
  (
  some ((false, ()), ())) := by kernel_rfl
set_option maxRecDepth 100000 in
theorem impl_GoodBackend.say (N : Nat) : SayOk Tryz.prog (impl_GoodBackend.S N) := sayOk_mk (N := N) (H := impl_GoodBackend.H) (preps := [⟨[], [], [], []⟩]) (l := impl_GoodBackend.says) (fn := Tryz.f25) (c := bodyOf Tryz.f25)
  (by kernel_rfl) (by kernel_rfl) (by kernel_rfl) (by kernel_rfl) (by kernel_rfl) (by kernel_rfl) (by kernel_rfl)
  (fun N => SayAll.cons (impl_in.say N) (SayAll.cons (impl_over.say N) (SayAll.nil))) (fun a s => by kernel_rfl)

/-! ### loop.example/g00206/impl.GoodLive: function 19 -/
noncomputable def impl_GoodLive.H : Hints := hintsOf [(5000004, .join [⟨.normal, [0, 5, 6, 7], [27], [ak_b], [], [⟨[], [], [], []⟩]⟩]),
  (2000002, .loop ⟨.normal, [0, 5, 6], [7], [ak_i], [], [⟨[], [], [], []⟩]⟩ [⟨.ret, [], [2], [ak_b], [], [⟨[], [], [], []⟩]⟩, ⟨(.exit 0), [0], [], [], [], [⟨[], [], [], []⟩]⟩])]
noncomputable def impl_GoodLive.says (N : Nat) : List Say := [impl_GoodBackend.S N]
noncomputable def impl_GoodLive.call (N : Nat) : CallK := callBy (impl_GoodLive.says N)
noncomputable def impl_GoodLive.qt (N : Nat) : FuncId → List PV → Sig → Cl := qtBy (impl_GoodLive.says N)
noncomputable def impl_GoodLive.l0.hd : Alt := ⟨.normal, [0, 5, 6], [7], [ak_i], [], [⟨[], [], [], []⟩]⟩
noncomputable def impl_GoodLive.l0.outs : List Alt := [⟨.ret, [], [2], [ak_b], [], [⟨[], [], [], []⟩]⟩, ⟨(.exit 0), [0], [], [], [], [⟨[], [], [], []⟩]⟩]
noncomputable def impl_GoodLive.l0 (N : Nat) (l1 : (List ByteArray)) (t5 : (List ByteArray)) (t6 : Int) (t7 : Int) : Option (((Bool × Unit) × Unit) ⊕ (Unit × Unit)) :=
  loopK Tryz.prog impl_GoodLive.call impl_GoodLive.qt impl_GoodLive.H (codeAt (bodyOf Tryz.f19) [1, 0, 1, 0, 0]) 0 impl_GoodLive.l0.hd impl_GoodLive.l0.outs [(0, .rows false .str l1), (5, .rows false .str t5), (6, .v (.int .i64 t6))] N ((t7, ()), ())
noncomputable def impl_GoodLive (N : Nat) (l : (List ByteArray)) : Option ((Bool × Unit) × Unit) :=
  ofFn Tryz.prog impl_GoodLive.call impl_GoodLive.qt impl_GoodLive.H N Tryz.f19 [.one (.sh (.rows .str))] [] [ak_b] [] [⟨[], [], [], []⟩] (l, ()) ()
noncomputable def impl_GoodLive.S (N : Nat) : Say := ⟨false, 19, [.one (.sh (.rows .str))], [], [ak_b], [], fun a s => impl_GoodLive N a.1⟩
set_option maxRecDepth 100000 in
theorem impl_GoodLive.l0.eq (N : Nat) (l1 : (List ByteArray)) (t5 : (List ByteArray)) (t6 : Int) (t7 : Int) : impl_GoodLive.l0 (N + 1) l1 t5 t6 t7 =
 sel (decide (t7 < t6))
  (
  chk ((decide (0 ≤ t7)) && (decide (t7 < (t5.length : Int)))) (
  andK (α := ((Bool × Unit) × Unit)) (
   andK (impl_GoodBackend N (t5.getD (Int.toNat t7) (⟨#[]⟩ : ByteArray))) fun u1 =>
   sel (!u1.1.1)
    (
    some (((true, ()), ())))
    (
    sel (decide (0 < t7))
     (
     chk ((decide (0 ≤ (IntKind.i64.wrap (t7 - 1)))) && (decide ((IntKind.i64.wrap (t7 - 1)) < (l1.length : Int)))) (
     some ((((!(sltB (l1.getD (Int.toNat (IntKind.i64.wrap (t7 - 1))) (⟨#[]⟩ : ByteArray)) (t5.getD (Int.toNat t7) (⟨#[]⟩ : ByteArray)))), ()), ()))))
     (
     some (((false, ()), ()))))) fun j2 =>
  sel j2.1.1
   (
   some (.inl ((false, ()), ())))
   (
   impl_GoodLive.l0 N l1 t5 t6 (IntKind.i64.wrap (t7 + 1)))))
  (
  some (.inr (((), ())))) := by kernel_rfl
set_option maxRecDepth 100000 in
theorem impl_GoodLive.eq (N : Nat) (l : (List ByteArray)) : impl_GoodLive N l =
 andK (impl_GoodLive.l0 N l l (l.length : Int) 0) fun l3 =>
 orK l3 (fun x4 =>
  some ((x4.1.1, ()), ()))
  (fun x5 =>
  some (((decide ((l.length : Int) ≤ 12)), ()), ())) := by kernel_rfl
set_option maxRecDepth 100000 in
theorem impl_GoodLive.say (N : Nat) : SayOk Tryz.prog (impl_GoodLive.S N) := sayOk_mk (N := N) (H := impl_GoodLive.H) (preps := [⟨[], [], [], []⟩]) (l := impl_GoodLive.says) (fn := Tryz.f19) (c := bodyOf Tryz.f19)
  (by kernel_rfl) (by kernel_rfl) (by kernel_rfl) (by kernel_rfl) (by kernel_rfl) (by kernel_rfl) (by kernel_rfl)
  (fun N => SayAll.cons (impl_GoodBackend.say N) (SayAll.nil)) (fun a s => by kernel_rfl)

/-! ### slices.Clone[[]string,string]: function 29 -/
noncomputable def slices_Clonestring_string (N : Nat) (s : (List ByteArray)) : Option ((Unit × Unit) × ((List ByteArray) × Unit)) := chk (decide (s.length < most)) (some (((), ()), (s, ())))
noncomputable def slices_Clonestring_string.S (N : Nat) : Say := ⟨false, 29, [.one (.sh (.rows .str))], [], [.one (.own 0)], [.rows .str], fun a s => slices_Clonestring_string N a.1⟩
theorem slices_Clonestring_string.eq (N : Nat) (s : (List ByteArray)) : slices_Clonestring_string N s =
 chk (decide (s.length < most)) (
 some (((), ()), (s, ()))) := rfl
set_option maxRecDepth 100000 in
theorem slices_Clonestring_string.say (N : Nat) : SayOk Tryz.prog (slices_Clonestring_string.S N) := sayOk_nil (H := hintsOf []) (fn := Tryz.f29) (c := bodyOf Tryz.f29) (preps := [⟨[(0, .str)], [], [], [0]⟩, ⟨[], [], [], [0]⟩])
  (by kernel_rfl) (by kernel_rfl) (by kernel_rfl) (by kernel_rfl) (by kernel_rfl) (by kernel_rfl) (by kernel_rfl)
  (fun cap => by kernel_rfl) (fun a cap => by kernel_rfl) (fun x xs => by kernel_rfl)

/-! ### slices.Delete[[]string,string]: function 28 -/
noncomputable def slices_Deletestring_string (N : Nat) (i : Int) (j : Int) (p0 : (List ByteArray)) : Option ((Unit × Unit) × ((List ByteArray) × Unit)) := delF p0 i j
noncomputable def slices_Deletestring_string.S (N : Nat) : Say := delS 28
theorem slices_Deletestring_string.eq (N : Nat) (i : Int) (j : Int) (p0 : (List ByteArray)) : slices_Deletestring_string N i j p0 =
 chk (decide (0 ≤ i)) (
 chk (decide (i < j)) (
 chk (decide (j ≤ (p0.length : Int))) (
 some (((), ()), (delL p0 i j, ()))))) := rfl
theorem slices_Deletestring_string.say (N : Nat) : SayOk Tryz.prog (slices_Deletestring_string.S N) := del_say

/-! ### loop.example/g00206/impl.DropBackend: function 11 -/
noncomputable def impl_DropBackend.H : Hints := hintsOf [(5000002, .join [⟨.normal, [0, 6], [20], [ak_b], [], [⟨[], [], [], []⟩]⟩])]
noncomputable def impl_DropBackend.says (N : Nat) : List Say := [slices_BinarySearchstring_string.S N, impl_GoodLive.S N, slices_Clonestring_string.S N, slices_Deletestring_string.S N]
noncomputable def impl_DropBackend.call (N : Nat) : CallK := callBy (impl_DropBackend.says N)
noncomputable def impl_DropBackend.qt (N : Nat) : FuncId → List PV → Sig → Cl := qtBy (impl_DropBackend.says N)
noncomputable def impl_DropBackend (N : Nat) (l : (List ByteArray)) (backend : ByteArray) : Option ((Unit × (Bool × Unit)) × ((List ByteArray) × Unit)) :=
  ofFn Tryz.prog impl_DropBackend.call impl_DropBackend.qt impl_DropBackend.H N Tryz.f11 [.one (.sh (.rows .str)), ak_s] [] [.one (.own 0), ak_b] [.rows .str] [⟨[(0, .str)], [], [], [0]⟩, ⟨[], [], [], [0]⟩] (l, (backend, ())) ()
noncomputable def impl_DropBackend.S (N : Nat) : Say := ⟨false, 11, [.one (.sh (.rows .str)), ak_s], [], [.one (.own 0), ak_b], [.rows .str], fun a s => impl_DropBackend N a.1 a.2.1⟩
set_option maxRecDepth 100000 in
theorem impl_DropBackend.eq (N : Nat) (l : (List ByteArray)) (backend : ByteArray) : impl_DropBackend N l backend =
 andK (slices_BinarySearchstring_string N l backend) fun u1 =>
 andK (α := ((Bool × Unit) × Unit)) (
  andK (impl_GoodLive N l) fun u2 =>
  sel (!u2.1.1)
   (
   some (((true, ()), ())))
   (
   some ((((!u1.1.2.1), ()), ())))) fun j3 =>
 sel j3.1.1
  (
  some (((), (false, ())), ([], ())))
  (
  andK (slices_Clonestring_string N l) fun u4 =>
  andK (slices_Deletestring_string N u1.1.1 (IntKind.i64.wrap (u1.1.1 + 1)) u4.2.1) fun u5 =>
  some (((), (true, ())), (u5.2.1, ()))) := by kernel_rfl
set_option maxRecDepth 100000 in
theorem impl_DropBackend.say (N : Nat) : SayOk Tryz.prog (impl_DropBackend.S N) := sayOk_mk (N := N) (H := impl_DropBackend.H) (preps := [⟨[(0, .str)], [], [], [0]⟩, ⟨[], [], [], [0]⟩]) (l := impl_DropBackend.says) (fn := Tryz.f11) (c := bodyOf Tryz.f11)
  (by kernel_rfl) (by kernel_rfl) (by kernel_rfl) (by kernel_rfl) (by kernel_rfl) (by kernel_rfl) (by kernel_rfl)
  (fun N => SayAll.cons (slices_BinarySearchstring_string.say N) (SayAll.cons (impl_GoodLive.say N) (SayAll.cons (slices_Clonestring_string.say N) (SayAll.cons (slices_Deletestring_string.say N) (SayAll.nil))))) (fun a s => by kernel_rfl)
noncomputable def impl_DropBackend.SB (N : Nat) : Say := impl_DropBackend.S N |>.lent
theorem impl_DropBackend.sayB (N : Nat) : SayOk Tryz.prog (impl_DropBackend.SB N) := (impl_DropBackend.say N).lent

/-! ### loop.example/g00206/spec.l9At: function 35 -/
noncomputable def spec_l9At.H : Hints := hintsOf [(5000002, .join [⟨.normal, [0, 1, 6], [18], [ak_b], [], [⟨[], [], [], []⟩]⟩]),
  (2000002, .loop ⟨.normal, [0, 1], [6], [ak_i], [], [⟨[], [], [], []⟩]⟩ [⟨(.exit 0), [0, 1], [6], [ak_i], [], [⟨[], [], [], []⟩]⟩])]
noncomputable def spec_l9At.says (N : Nat) : List Say := []
noncomputable def spec_l9At.call (N : Nat) : CallK := callBy (spec_l9At.says N)
noncomputable def spec_l9At.qt (N : Nat) : FuncId → List PV → Sig → Cl := qtBy (spec_l9At.says N)
noncomputable def spec_l9At.l0.hd : Alt := ⟨.normal, [0, 1], [6], [ak_i], [], [⟨[], [], [], []⟩]⟩
noncomputable def spec_l9At.l0.outs : List Alt := [⟨(.exit 0), [0, 1], [6], [ak_i], [], [⟨[], [], [], []⟩]⟩]
noncomputable def spec_l9At.l0 (N : Nat) (l1 : (List ByteArray)) (s1 : ByteArray) (k : Int) : Option ((Int × Unit) × Unit) :=
  loopK Tryz.prog spec_l9At.call spec_l9At.qt spec_l9At.H (codeAt (bodyOf Tryz.f35) [1, 1, 0, 0, 0]) 0 spec_l9At.l0.hd spec_l9At.l0.outs [(0, .rows false .str l1), (1, .v (.string s1))] N ((k, ()), ())
noncomputable def spec_l9At (N : Nat) (l : (List ByteArray)) (s : ByteArray) : Option ((Int × (Bool × Unit)) × Unit) :=
  ofFn Tryz.prog spec_l9At.call spec_l9At.qt spec_l9At.H N Tryz.f35 [.one (.sh (.rows .str)), ak_s] [] [ak_i, ak_b] [] [⟨[], [], [], []⟩] (l, (s, ())) ()
noncomputable def spec_l9At.S (N : Nat) : Say := ⟨false, 35, [.one (.sh (.rows .str)), ak_s], [], [ak_i, ak_b], [], fun a s => spec_l9At N a.1 a.2.1⟩
set_option maxRecDepth 100000 in
theorem spec_l9At.l0.eq (N : Nat) (l1 : (List ByteArray)) (s1 : ByteArray) (k : Int) : spec_l9At.l0 (N + 1) l1 s1 k =
 andK (α := ((Bool × Unit) × Unit)) (
  sel (decide (k < (l1.length : Int)))
   (
   chk ((decide (0 ≤ k)) && (decide (k < (l1.length : Int)))) (
   some ((((sltB (l1.getD (Int.toNat k) (⟨#[]⟩ : ByteArray)) s1), ()), ()))))
   (
   some (((false, ()), ())))) fun j1 =>
 sel j1.1.1
  (
  spec_l9At.l0 N l1 s1 (IntKind.i64.wrap (k + 1)))
  (
  some (((k, ()), ()))) := by kernel_rfl
set_option maxRecDepth 100000 in
theorem spec_l9At.eq (N : Nat) (l : (List ByteArray)) (s : ByteArray) : spec_l9At N l s =
 andK (spec_l9At.l0 N l s 0) fun l2 =>
 sel (decide (l2.1.1 < (l.length : Int)))
  (
  chk ((decide (0 ≤ l2.1.1)) && (decide (l2.1.1 < (l.length : Int)))) (
  some ((l2.1.1, ((decide ((l.getD (Int.toNat l2.1.1) (⟨#[]⟩ : ByteArray)) = s)), ())), ())))
  (
  some ((l2.1.1, (false, ())), ())) := by kernel_rfl
set_option maxRecDepth 100000 in
theorem spec_l9At.say (N : Nat) : SayOk Tryz.prog (spec_l9At.S N) := sayOk_mk (N := N) (H := spec_l9At.H) (preps := [⟨[], [], [], []⟩]) (l := spec_l9At.says) (fn := Tryz.f35) (c := bodyOf Tryz.f35)
  (by kernel_rfl) (by kernel_rfl) (by kernel_rfl) (by kernel_rfl) (by kernel_rfl) (by kernel_rfl) (by kernel_rfl)
  (fun N => SayAll.nil) (fun a s => by kernel_rfl)

/-! ### loop.example/g00206/spec.l1In: function 60 -/
noncomputable def spec_l1In.H : Hints := hintsOf []
noncomputable def spec_l1In.says (N : Nat) : List Say := []
noncomputable def spec_l1In.call (N : Nat) : CallK := callBy (spec_l1In.says N)
noncomputable def spec_l1In.qt (N : Nat) : FuncId → List PV → Sig → Cl := qtBy (spec_l1In.says N)
noncomputable def spec_l1In (N : Nat) (n : Int) (lo : Int) (hi : Int) : Option ((Bool × Unit) × Unit) :=
  ofFn Tryz.prog spec_l1In.call spec_l1In.qt spec_l1In.H N Tryz.f60 [ak_i, ak_i, ak_i] [] [ak_b] [] [⟨[], [], [], []⟩] (n, (lo, (hi, ()))) ()
noncomputable def spec_l1In.S (N : Nat) : Say := ⟨false, 60, [ak_i, ak_i, ak_i], [], [ak_b], [], fun a s => spec_l1In N a.1 a.2.1 a.2.2.1⟩
set_option maxRecDepth 100000 in
theorem spec_l1In.eq (N : Nat) (n : Int) (lo : Int) (hi : Int) : spec_l1In N n lo hi =
 sel (decide (lo ≤ n))
  (
  some (((decide (n ≤ hi)), ()), ()))
  (
  some ((false, ()), ())) := by kernel_rfl
set_option maxRecDepth 100000 in
theorem spec_l1In.say (N : Nat) : SayOk Tryz.prog (spec_l1In.S N) := sayOk_mk (N := N) (H := spec_l1In.H) (preps := [⟨[], [], [], []⟩]) (l := spec_l1In.says) (fn := Tryz.f60) (c := bodyOf Tryz.f60)
  (by kernel_rfl) (by kernel_rfl) (by kernel_rfl) (by kernel_rfl) (by kernel_rfl) (by kernel_rfl) (by kernel_rfl)
  (fun N => SayAll.nil) (fun a s => by kernel_rfl)

/-! ### loop.example/g00206/spec.l8Backend: function 40 -/
noncomputable def spec_l8Backend.H : Hints := hintsOf [(5000005, .join [⟨.normal, [0, 3], [28], [ak_b], [], [⟨[], [], [], []⟩]⟩]),
  (2000002, .loop ⟨.normal, [0], [3], [ak_i], [], [⟨[], [], [], []⟩]⟩ [⟨.ret, [], [2], [ak_b], [], [⟨[], [], [], []⟩]⟩, ⟨(.exit 0), [0], [], [], [], [⟨[], [], [], []⟩]⟩])]
noncomputable def spec_l8Backend.says (N : Nat) : List Say := [spec_l1In.S N]
noncomputable def spec_l8Backend.call (N : Nat) : CallK := callBy (spec_l8Backend.says N)
noncomputable def spec_l8Backend.qt (N : Nat) : FuncId → List PV → Sig → Cl := qtBy (spec_l8Backend.says N)
noncomputable def spec_l8Backend.l0.hd : Alt := ⟨.normal, [0], [3], [ak_i], [], [⟨[], [], [], []⟩]⟩
noncomputable def spec_l8Backend.l0.outs : List Alt := [⟨.ret, [], [2], [ak_b], [], [⟨[], [], [], []⟩]⟩, ⟨(.exit 0), [0], [], [], [], [⟨[], [], [], []⟩]⟩]
noncomputable def spec_l8Backend.l0 (N : Nat) (s1 : ByteArray) (i : Int) : Option (((Bool × Unit) × Unit) ⊕ (Unit × Unit)) :=
  loopK Tryz.prog spec_l8Backend.call spec_l8Backend.qt spec_l8Backend.H (codeAt (bodyOf Tryz.f40) [1, 0, 1, 0, 0]) 0 spec_l8Backend.l0.hd spec_l8Backend.l0.outs [(0, .v (.string s1))] N ((i, ()), ())
noncomputable def spec_l8Backend (N : Nat) (s : ByteArray) : Option ((Bool × Unit) × Unit) :=
  ofFn Tryz.prog spec_l8Backend.call spec_l8Backend.qt spec_l8Backend.H N Tryz.f40 [ak_s] [] [ak_b] [] [⟨[], [], [], []⟩] (s, ()) ()
noncomputable def spec_l8Backend.S (N : Nat) : Say := ⟨false, 40, [ak_s], [], [ak_b], [], fun a s => spec_l8Backend N a.1⟩
set_option maxRecDepth 100000 in
theorem spec_l8Backend.l0.eq (N : Nat) (s1 : ByteArray) (i : Int) : spec_l8Backend.l0 (N + 1) s1 i =
 sel (decide (i < (s1.size : Int)))
  (
  chk ((decide (0 ≤ i)) && (decide (i < (s1.size : Int)))) (
  andK (α := ((Bool × Unit) × Unit)) (
   sel (decide (97 ≤ ((bytesL s1).getD (Int.toNat i) 0)))
    (
    sel (decide (((bytesL s1).getD (Int.toNat i) 0) ≤ 122))
     (
     some (((false, ()), ())))
     (
     sel (decide (48 ≤ ((bytesL s1).getD (Int.toNat i) 0)))
      (
      some ((((!(decide (((bytesL s1).getD (Int.toNat i) 0) ≤ 57))), ()), ())))
      (
      some (((true, ()), ())))))
    (
    sel (decide (48 ≤ ((bytesL s1).getD (Int.toNat i) 0)))
     (
     some ((((!(decide (((bytesL s1).getD (Int.toNat i) 0) ≤ 57))), ()), ())))
     (
     some (((true, ()), ()))))) fun j1 =>
  sel j1.1.1
   (
   some (.inl ((false, ()), ())))
   (
   spec_l8Backend.l0 N s1 (IntKind.i64.wrap (i + 1)))))
  (
  some (.inr (((), ())))) := by kernel_rfl
set_option maxRecDepth 100000 in
theorem spec_l8Backend.eq (N : Nat) (s : ByteArray) : spec_l8Backend N s =
 andK (spec_l8Backend.l0 N s 0) fun l2 =>
 orK l2 (fun x3 =>
  some ((x3.1.1, ()), ()))
  (fun x4 =>
  andK (spec_l1In N (s.size : Int) 1 12) fun u5 =>
  some ((u5.1.1, ()), ())) := by kernel_rfl
set_option maxRecDepth 100000 in
theorem spec_l8Backend.say (N : Nat) : SayOk Tryz.prog (spec_l8Backend.S N) := sayOk_mk (N := N) (H := spec_l8Backend.H) (preps := [⟨[], [], [], []⟩]) (l := spec_l8Backend.says) (fn := Tryz.f40) (c := bodyOf Tryz.f40)
  (by kernel_rfl) (by kernel_rfl) (by kernel_rfl) (by kernel_rfl) (by kernel_rfl) (by kernel_rfl) (by kernel_rfl)
  (fun N => SayAll.cons (spec_l1In.say N) (SayAll.nil)) (fun a s => by kernel_rfl)

/-! ### loop.example/g00206/spec.GoodLive: function 22 -/
noncomputable def spec_GoodLive.H : Hints := hintsOf [(5000004, .join [⟨.normal, [0, 5, 6, 7], [27], [ak_b], [], [⟨[], [], [], []⟩]⟩]),
  (2000002, .loop ⟨.normal, [0, 5, 6], [7], [ak_i], [], [⟨[], [], [], []⟩]⟩ [⟨.ret, [], [2], [ak_b], [], [⟨[], [], [], []⟩]⟩, ⟨(.exit 0), [0], [], [], [], [⟨[], [], [], []⟩]⟩])]
noncomputable def spec_GoodLive.says (N : Nat) : List Say := [spec_l8Backend.S N]
noncomputable def spec_GoodLive.call (N : Nat) : CallK := callBy (spec_GoodLive.says N)
noncomputable def spec_GoodLive.qt (N : Nat) : FuncId → List PV → Sig → Cl := qtBy (spec_GoodLive.says N)
noncomputable def spec_GoodLive.l0.hd : Alt := ⟨.normal, [0, 5, 6], [7], [ak_i], [], [⟨[], [], [], []⟩]⟩
noncomputable def spec_GoodLive.l0.outs : List Alt := [⟨.ret, [], [2], [ak_b], [], [⟨[], [], [], []⟩]⟩, ⟨(.exit 0), [0], [], [], [], [⟨[], [], [], []⟩]⟩]
noncomputable def spec_GoodLive.l0 (N : Nat) (l1 : (List ByteArray)) (t5 : (List ByteArray)) (t6 : Int) (t7 : Int) : Option (((Bool × Unit) × Unit) ⊕ (Unit × Unit)) :=
  loopK Tryz.prog spec_GoodLive.call spec_GoodLive.qt spec_GoodLive.H (codeAt (bodyOf Tryz.f22) [1, 0, 1, 0, 0]) 0 spec_GoodLive.l0.hd spec_GoodLive.l0.outs [(0, .rows false .str l1), (5, .rows false .str t5), (6, .v (.int .i64 t6))] N ((t7, ()), ())
noncomputable def spec_GoodLive (N : Nat) (l : (List ByteArray)) : Option ((Bool × Unit) × Unit) :=
  ofFn Tryz.prog spec_GoodLive.call spec_GoodLive.qt spec_GoodLive.H N Tryz.f22 [.one (.sh (.rows .str))] [] [ak_b] [] [⟨[], [], [], []⟩] (l, ()) ()
noncomputable def spec_GoodLive.S (N : Nat) : Say := ⟨false, 22, [.one (.sh (.rows .str))], [], [ak_b], [], fun a s => spec_GoodLive N a.1⟩
set_option maxRecDepth 100000 in
theorem spec_GoodLive.l0.eq (N : Nat) (l1 : (List ByteArray)) (t5 : (List ByteArray)) (t6 : Int) (t7 : Int) : spec_GoodLive.l0 (N + 1) l1 t5 t6 t7 =
 sel (decide (t7 < t6))
  (
  chk ((decide (0 ≤ t7)) && (decide (t7 < (t5.length : Int)))) (
  andK (α := ((Bool × Unit) × Unit)) (
   andK (spec_l8Backend N (t5.getD (Int.toNat t7) (⟨#[]⟩ : ByteArray))) fun u1 =>
   sel (!u1.1.1)
    (
    some (((true, ()), ())))
    (
    sel (decide (0 < t7))
     (
     chk ((decide (0 ≤ (IntKind.i64.wrap (t7 - 1)))) && (decide ((IntKind.i64.wrap (t7 - 1)) < (l1.length : Int)))) (
     some ((((!(sltB (l1.getD (Int.toNat (IntKind.i64.wrap (t7 - 1))) (⟨#[]⟩ : ByteArray)) (t5.getD (Int.toNat t7) (⟨#[]⟩ : ByteArray)))), ()), ()))))
     (
     some (((false, ()), ()))))) fun j2 =>
  sel j2.1.1
   (
   some (.inl ((false, ()), ())))
   (
   spec_GoodLive.l0 N l1 t5 t6 (IntKind.i64.wrap (t7 + 1)))))
  (
  some (.inr (((), ())))) := by kernel_rfl
set_option maxRecDepth 100000 in
theorem spec_GoodLive.eq (N : Nat) (l : (List ByteArray)) : spec_GoodLive N l =
 andK (spec_GoodLive.l0 N l l (l.length : Int) 0) fun l3 =>
 orK l3 (fun x4 =>
  some ((x4.1.1, ()), ()))
  (fun x5 =>
  some (((decide ((l.length : Int) ≤ 12)), ()), ())) := by kernel_rfl
set_option maxRecDepth 100000 in
theorem spec_GoodLive.say (N : Nat) : SayOk Tryz.prog (spec_GoodLive.S N) := sayOk_mk (N := N) (H := spec_GoodLive.H) (preps := [⟨[], [], [], []⟩]) (l := spec_GoodLive.says) (fn := Tryz.f22) (c := bodyOf Tryz.f22)
  (by kernel_rfl) (by kernel_rfl) (by kernel_rfl) (by kernel_rfl) (by kernel_rfl) (by kernel_rfl) (by kernel_rfl)
  (fun N => SayAll.cons (spec_l8Backend.say N) (SayAll.nil)) (fun a s => by kernel_rfl)

/-! ### loop.example/g00206/spec.DropBackend: function 14 -/
noncomputable def spec_DropBackend.H : Hints := hintsOf [(5000002, .join [⟨.normal, [0, 6], [20], [ak_b], [], [⟨[], [], [], []⟩]⟩])]
noncomputable def spec_DropBackend.says (N : Nat) : List Say := [spec_l9At.S N, spec_GoodLive.S N]
noncomputable def spec_DropBackend.call (N : Nat) : CallK := callBy (spec_DropBackend.says N)
noncomputable def spec_DropBackend.qt (N : Nat) : FuncId → List PV → Sig → Cl := qtBy (spec_DropBackend.says N)
noncomputable def spec_DropBackend (N : Nat) (l : (List ByteArray)) (backend : ByteArray) : Option ((Unit × (Bool × Unit)) × ((List ByteArray) × Unit)) :=
  ofFn Tryz.prog spec_DropBackend.call spec_DropBackend.qt spec_DropBackend.H N Tryz.f14 [.one (.sh (.rows .str)), ak_s] [] [.one (.own 0), ak_b] [.rows .str] [⟨[(0, .str)], [], [], [0]⟩, ⟨[], [], [], [0]⟩] (l, (backend, ())) ()
noncomputable def spec_DropBackend.S (N : Nat) : Say := ⟨false, 14, [.one (.sh (.rows .str)), ak_s], [], [.one (.own 0), ak_b], [.rows .str], fun a s => spec_DropBackend N a.1 a.2.1⟩
set_option maxRecDepth 100000 in
theorem spec_DropBackend.eq (N : Nat) (l : (List ByteArray)) (backend : ByteArray) : spec_DropBackend N l backend =
 andK (spec_l9At N l backend) fun u1 =>
 andK (α := ((Bool × Unit) × Unit)) (
  andK (spec_GoodLive N l) fun u2 =>
  sel (!u2.1.1)
   (
   some (((true, ()), ())))
   (
   some ((((!u1.1.2.1), ()), ())))) fun j3 =>
 sel j3.1.1
  (
  some (((), (false, ())), ([], ())))
  (
  chk ((decide (0 ≤ u1.1.1)) && (decide (u1.1.1 ≤ (l.length : Int)))) (
  chk (decide ((cut l 0 u1.1.1).length < most)) (
  chk ((decide (0 ≤ (IntKind.i64.wrap (u1.1.1 + 1)))) && ((decide ((IntKind.i64.wrap (u1.1.1 + 1)) ≤ (l.length : Int))) && (decide ((l.length : Int) ≤ (l.length : Int))))) (
  chk (decide ((cut l 0 u1.1.1).length + (cut l (IntKind.i64.wrap (u1.1.1 + 1)) (l.length : Int)).length < most)) (
  some (((), (true, ())), (((cut l 0 u1.1.1) ++ (cut l (IntKind.i64.wrap (u1.1.1 + 1)) (l.length : Int))), ()))))))) := by kernel_rfl
set_option maxRecDepth 100000 in
theorem spec_DropBackend.say (N : Nat) : SayOk Tryz.prog (spec_DropBackend.S N) := sayOk_mk (N := N) (H := spec_DropBackend.H) (preps := [⟨[(0, .str)], [], [], [0]⟩, ⟨[], [], [], [0]⟩]) (l := spec_DropBackend.says) (fn := Tryz.f14) (c := bodyOf Tryz.f14)
  (by kernel_rfl) (by kernel_rfl) (by kernel_rfl) (by kernel_rfl) (by kernel_rfl) (by kernel_rfl) (by kernel_rfl)
  (fun N => SayAll.cons (spec_l9At.say N) (SayAll.cons (spec_GoodLive.say N) (SayAll.nil))) (fun a s => by kernel_rfl)
noncomputable def spec_DropBackend.SB (N : Nat) : Say := spec_DropBackend.S N |>.lent
theorem spec_DropBackend.sayB (N : Nat) : SayOk Tryz.prog (spec_DropBackend.SB N) := (spec_DropBackend.say N).lent

/-! ### loop.example/g00206/laws.sameTexts: function 8 -/
noncomputable def laws_sameTexts.H : Hints := hintsOf [(2000004, .loop ⟨.normal, [0, 1, 12], [13], [ak_i], [], [⟨[], [], [], []⟩]⟩ [⟨.ret, [], [4], [ak_b], [], [⟨[], [], [], []⟩]⟩, ⟨(.exit 0), [], [], [], [], [⟨[], [], [], []⟩]⟩])]
noncomputable def laws_sameTexts.says (N : Nat) : List Say := []
noncomputable def laws_sameTexts.call (N : Nat) : CallK := callBy (laws_sameTexts.says N)
noncomputable def laws_sameTexts.qt (N : Nat) : FuncId → List PV → Sig → Cl := qtBy (laws_sameTexts.says N)
noncomputable def laws_sameTexts.l0.hd : Alt := ⟨.normal, [0, 1, 12], [13], [ak_i], [], [⟨[], [], [], []⟩]⟩
noncomputable def laws_sameTexts.l0.outs : List Alt := [⟨.ret, [], [4], [ak_b], [], [⟨[], [], [], []⟩]⟩, ⟨(.exit 0), [], [], [], [], [⟨[], [], [], []⟩]⟩]
noncomputable def laws_sameTexts.l0 (N : Nat) (a1 : (List ByteArray)) (b1 : (List ByteArray)) (t12 : Int) (t13 : Int) : Option (((Bool × Unit) × Unit) ⊕ (Unit × Unit)) :=
  loopK Tryz.prog laws_sameTexts.call laws_sameTexts.qt laws_sameTexts.H (codeAt (bodyOf Tryz.f8) [1, 1, 0, 1, 0, 0]) 0 laws_sameTexts.l0.hd laws_sameTexts.l0.outs [(0, .rows false .str a1), (1, .rows false .str b1), (12, .v (.int .i64 t12))] N ((t13, ()), ())
noncomputable def laws_sameTexts (N : Nat) (a : (List ByteArray)) (b : (List ByteArray)) : Option ((Bool × Unit) × Unit) :=
  ofFn Tryz.prog laws_sameTexts.call laws_sameTexts.qt laws_sameTexts.H N Tryz.f8 [.one (.sh (.rows .str)), .one (.sh (.rows .str))] [] [ak_b] [] [⟨[], [], [], []⟩] (a, (b, ())) ()
noncomputable def laws_sameTexts.S (N : Nat) : Say := ⟨false, 8, [.one (.sh (.rows .str)), .one (.sh (.rows .str))], [], [ak_b], [], fun a s => laws_sameTexts N a.1 a.2.1⟩
set_option maxRecDepth 100000 in
theorem laws_sameTexts.l0.eq (N : Nat) (a1 : (List ByteArray)) (b1 : (List ByteArray)) (t12 : Int) (t13 : Int) : laws_sameTexts.l0 (N + 1) a1 b1 t12 t13 =
 sel (decide (t13 < t12))
  (
  chk ((decide (0 ≤ t13)) && (decide (t13 < (a1.length : Int)))) (
  chk ((decide (0 ≤ t13)) && (decide (t13 < (b1.length : Int)))) (
  sel (!(decide ((a1.getD (Int.toNat t13) (⟨#[]⟩ : ByteArray)) = (b1.getD (Int.toNat t13) (⟨#[]⟩ : ByteArray)))))
   (
   some (.inl ((false, ()), ())))
   (
   laws_sameTexts.l0 N a1 b1 t12 (IntKind.i64.wrap (t13 + 1))))))
  (
  some (.inr (((), ())))) := by kernel_rfl
set_option maxRecDepth 100000 in
theorem laws_sameTexts.eq (N : Nat) (a : (List ByteArray)) (b : (List ByteArray)) : laws_sameTexts N a b =
 sel (!(decide ((a.length : Int) = (b.length : Int))))
  (
  some ((false, ()), ()))
  (
  andK (laws_sameTexts.l0 N a b (a.length : Int) 0) fun l1 =>
  orK l1 (fun x2 =>
   some ((x2.1.1, ()), ()))
   (fun x3 =>
   some ((true, ()), ()))) := by kernel_rfl
set_option maxRecDepth 100000 in
theorem laws_sameTexts.say (N : Nat) : SayOk Tryz.prog (laws_sameTexts.S N) := sayOk_mk (N := N) (H := laws_sameTexts.H) (preps := [⟨[], [], [], []⟩]) (l := laws_sameTexts.says) (fn := Tryz.f8) (c := bodyOf Tryz.f8)
  (by kernel_rfl) (by kernel_rfl) (by kernel_rfl) (by kernel_rfl) (by kernel_rfl) (by kernel_rfl) (by kernel_rfl)
  (fun N => SayAll.nil) (fun a s => by kernel_rfl)
noncomputable def laws_sameTexts.SB (N : Nat) : Say := laws_sameTexts.S N |>.lent
theorem laws_sameTexts.sayB (N : Nat) : SayOk Tryz.prog (laws_sameTexts.SB N) := (laws_sameTexts.say N).lent

/-! ### loop.example/g00206/impl.keyOk: function 20 -/
noncomputable def impl_keyOk.H : Hints := hintsOf []
noncomputable def impl_keyOk.says (N : Nat) : List Say := []
noncomputable def impl_keyOk.call (N : Nat) : CallK := callBy (impl_keyOk.says N)
noncomputable def impl_keyOk.qt (N : Nat) : FuncId → List PV → Sig → Cl := qtBy (impl_keyOk.says N)
noncomputable def impl_keyOk (N : Nat) (key : ByteArray) : Option ((Bool × Unit) × Unit) :=
  ofFn Tryz.prog impl_keyOk.call impl_keyOk.qt impl_keyOk.H N Tryz.f20 [ak_s] [] [ak_b] [] [⟨[], [], [], []⟩] (key, ()) ()
noncomputable def impl_keyOk.S (N : Nat) : Say := ⟨false, 20, [ak_s], [], [ak_b], [], fun a s => impl_keyOk N a.1⟩
set_option maxRecDepth 100000 in
theorem impl_keyOk.eq (N : Nat) (key : ByteArray) : impl_keyOk N key =
 some (((decide ((key.size : Int) ≤ 100)), ()), ()) := by kernel_rfl
set_option maxRecDepth 100000 in
theorem impl_keyOk.say (N : Nat) : SayOk Tryz.prog (impl_keyOk.S N) := sayOk_mk (N := N) (H := impl_keyOk.H) (preps := [⟨[], [], [], []⟩]) (l := impl_keyOk.says) (fn := Tryz.f20) (c := bodyOf Tryz.f20)
  (by kernel_rfl) (by kernel_rfl) (by kernel_rfl) (by kernel_rfl) (by kernel_rfl) (by kernel_rfl) (by kernel_rfl)
  (fun N => SayAll.nil) (fun a s => by kernel_rfl)

/-! ### strings.Repeat: function 68 -/
noncomputable def strings_Repeat (N : Nat) (s : ByteArray) (n : Int) : Option ((ByteArray × Unit) × Unit) := repF s n
noncomputable def strings_Repeat.S (N : Nat) : Say := repS 68
theorem strings_Repeat.eq (N : Nat) (s : ByteArray) (n : Int) : strings_Repeat N s n =
 chk (decide (0 ≤ n)) (
 chk (decide (n ≤ 9223372036854775807)) (
 chk (decide (s.size * (Int.toNat n) ≤ 140737488355328)) (
 some (((repL s (Int.toNat n)), ()), ())))) := repF_eq s n
set_option maxRecDepth 100000 in
theorem strings_Repeat.say (N : Nat) : SayOk Tryz.prog (strings_Repeat.S N) := sayOk_repeat (enters_mk (fn := Tryz.f68) (c := bodyOf Tryz.f68) (by kernel_rfl) (by kernel_rfl) (by kernel_rfl)) Tryz.strings_Repeat

/-! ### loop.example/g00206/impl.bigEndian: function 69 -/
noncomputable def impl_bigEndian.H : Hints := hintsOf [(2000003, .loop ⟨.normal, [], [0, 5, 6], [.one (.sh (.int .u64)), .one (.own 0), ak_i], [.rows (.int .u8)], [⟨[], [], [], []⟩]⟩ [⟨(.exit 0), [], [5], [.one (.own 0)], [.rows (.int .u8)], [⟨[], [], [], []⟩]⟩])]
noncomputable def impl_bigEndian.says (N : Nat) : List Say := []
noncomputable def impl_bigEndian.call (N : Nat) : CallK := callBy (impl_bigEndian.says N)
noncomputable def impl_bigEndian.qt (N : Nat) : FuncId → List PV → Sig → Cl := qtBy (impl_bigEndian.says N)
noncomputable def impl_bigEndian.l0.hd : Alt := ⟨.normal, [], [0, 5, 6], [.one (.sh (.int .u64)), .one (.own 0), ak_i], [.rows (.int .u8)], [⟨[], [], [], []⟩]⟩
noncomputable def impl_bigEndian.l0.outs : List Alt := [⟨(.exit 0), [], [5], [.one (.own 0)], [.rows (.int .u8)], [⟨[], [], [], []⟩]⟩]
noncomputable def impl_bigEndian.l0 (N : Nat) (n1 : Int) (i : Int) (p0 : (List Int)) : Option ((Unit × Unit) × ((List Int) × Unit)) :=
  loopK Tryz.prog impl_bigEndian.call impl_bigEndian.qt impl_bigEndian.H (codeAt (bodyOf Tryz.f69) [1, 1, 0, 1, 0, 0]) 1 impl_bigEndian.l0.hd impl_bigEndian.l0.outs [] N ((n1, ((), (i, ()))), (p0, ()))
noncomputable def impl_bigEndian (N : Nat) (n : Int) (many : Int) : Option ((ByteArray × Unit) × Unit) :=
  ofFn Tryz.prog impl_bigEndian.call impl_bigEndian.qt impl_bigEndian.H N Tryz.f69 [.one (.sh (.int .u64)), ak_i] [] [ak_s] [] [⟨[], [], [], []⟩] (n, (many, ())) ()
noncomputable def impl_bigEndian.S (N : Nat) : Say := ⟨false, 69, [.one (.sh (.int .u64)), ak_i], [], [ak_s], [], fun a s => impl_bigEndian N a.1 a.2.1⟩
set_option maxRecDepth 100000 in
theorem impl_bigEndian.l0.eq (N : Nat) (n1 : Int) (i : Int) (p0 : (List Int)) : impl_bigEndian.l0 (N + 1) n1 i p0 =
 sel (decide (0 ≤ i))
  (
  chk ((decide (0 ≤ i)) && (decide (i < (p0.length : Int)))) (
  impl_bigEndian.l0 N (shrI .u64 n1 8) (IntKind.i64.wrap (i - 1)) (p0.set (Int.toNat i) (IntKind.u8.wrap n1))))
  (
  some ((((), ()), (p0, ())))) := by kernel_rfl
set_option maxRecDepth 100000 in
theorem impl_bigEndian.eq (N : Nat) (n : Int) (many : Int) : impl_bigEndian N n many =
 chk ((decide (0 ≤ many)) && ((smallI many) && (decide (many = many)))) (
 andK (impl_bigEndian.l0 N n (IntKind.i64.wrap (many - 1)) (List.replicate (Int.toNat many) (0 : Int))) fun l1 =>
 some (((strL l1.2.1), ()), ())) := by kernel_rfl
set_option maxRecDepth 100000 in
theorem impl_bigEndian.say (N : Nat) : SayOk Tryz.prog (impl_bigEndian.S N) := sayOk_mk (N := N) (H := impl_bigEndian.H) (preps := [⟨[], [], [], []⟩]) (l := impl_bigEndian.says) (fn := Tryz.f69) (c := bodyOf Tryz.f69)
  (by kernel_rfl) (by kernel_rfl) (by kernel_rfl) (by kernel_rfl) (by kernel_rfl) (by kernel_rfl) (by kernel_rfl)
  (fun N => SayAll.nil) (fun a s => by kernel_rfl)

/-! ### loop.example/g00206/impl.primes: function 108 -/
noncomputable def impl_primes.H : Hints := hintsOf [(5000009, .join [⟨.normal, [0, 4, 6], [3, 5], [.one (.own 0), ak_b], [.rows .flt], [⟨[], [], [], []⟩]⟩]),
  (2000007, .loop ⟨.normal, [0, 4], [3, 5, 6], [.one (.own 0), ak_b, ak_i], [.rows .flt], [⟨[], [], [], []⟩]⟩ [⟨(.exit 2), [0, 4], [3, 5], [.one (.own 0), ak_b], [.rows .flt], [⟨[], [], [], []⟩]⟩]),
  (4, .join [⟨.normal, [0, 4], [3], [.one (.own 0)], [.rows .flt], [⟨[], [], [], []⟩]⟩]),
  (2000003, .loop ⟨.normal, [0], [3, 4], [.one (.own 0), ak_i], [.rows .flt], [⟨[(3, .flt)], [], [], [0]⟩, ⟨[], [], [], [0]⟩]⟩ [⟨(.exit 0), [], [3], [.one (.own 0)], [.rows .flt], [⟨[], [], [], [0]⟩]⟩])]
noncomputable def impl_primes.says (N : Nat) : List Say := []
noncomputable def impl_primes.call (N : Nat) : CallK := callBy (impl_primes.says N)
noncomputable def impl_primes.qt (N : Nat) : FuncId → List PV → Sig → Cl := qtBy (impl_primes.says N)
noncomputable def impl_primes.l0.hd : Alt := ⟨.normal, [0], [3, 4], [.one (.own 0), ak_i], [.rows .flt], [⟨[(3, .flt)], [], [], [0]⟩, ⟨[], [], [], [0]⟩]⟩
noncomputable def impl_primes.l0.outs : List Alt := [⟨(.exit 0), [], [3], [.one (.own 0)], [.rows .flt], [⟨[], [], [], [0]⟩]⟩]
noncomputable def impl_primes.l0 (N : Nat) (many1 : Int) (n : Int) (p0 : (List Nat)) : Option ((Unit × Unit) × ((List Nat) × Unit)) :=
  loopK Tryz.prog impl_primes.call impl_primes.qt impl_primes.H (codeAt (bodyOf Tryz.f108) [1, 1, 0, 1, 0, 0]) 0 impl_primes.l0.hd impl_primes.l0.outs [(0, .v (.int .i64 many1))] N (((), (n, ())), (p0, ()))
noncomputable def impl_primes.l1.hd : Alt := ⟨.normal, [0, 4], [3, 5, 6], [.one (.own 0), ak_b, ak_i], [.rows .flt], [⟨[], [], [], []⟩]⟩
noncomputable def impl_primes.l1.outs : List Alt := [⟨(.exit 2), [0, 4], [3, 5], [.one (.own 0), ak_b], [.rows .flt], [⟨[], [], [], []⟩]⟩]
noncomputable def impl_primes.l1 (N : Nat) (many2 : Int) (n1 : Int) (prime : Bool) (k : Int) (p01 : (List Nat)) : Option ((Unit × (Bool × Unit)) × ((List Nat) × Unit)) :=
  loopK Tryz.prog impl_primes.call impl_primes.qt impl_primes.H (codeAt (bodyOf Tryz.f108) [1, 1, 0, 1, 0, 0, 1, 0, 0, 1, 0, 1, 0, 0]) 1 impl_primes.l1.hd impl_primes.l1.outs [(0, .v (.int .i64 many2)), (4, .v (.int .i64 n1))] N (((), (prime, (k, ()))), (p01, ()))
noncomputable def impl_primes (N : Nat) (many : Int) : Option ((Unit × Unit) × ((List Nat) × Unit)) :=
  ofFn Tryz.prog impl_primes.call impl_primes.qt impl_primes.H N Tryz.f108 [ak_i] [] [.one (.own 0)] [.rows .flt] [⟨[], [], [], [0]⟩] (many, ()) ()
noncomputable def impl_primes.S (N : Nat) : Say := ⟨false, 108, [ak_i], [], [.one (.own 0)], [.rows .flt], fun a s => impl_primes N a.1⟩
set_option maxRecDepth 100000 in
theorem impl_primes.l1.eq (N : Nat) (many2 : Int) (n1 : Int) (prime : Bool) (k : Int) (p01 : (List Nat)) : impl_primes.l1 (N + 1) many2 n1 prime k p01 =
 sel (decide ((IntKind.i64.wrap (k * k)) ≤ n1))
  (
  andK (α := ((Unit × (Bool × Unit)) × ((List Nat) × Unit))) (
   sel prime
    (
    chk (k != 0) (
    some ((((), ((!(decide ((Int.tmod n1 k) = 0))), ())), (p01, ())))))
    (
    some ((((), (false, ())), (p01, ()))))) fun j1 =>
  impl_primes.l1 N many2 n1 j1.1.2.1 (IntKind.i64.wrap (k + 1)) j1.2.1)
  (
  some ((((), (prime, ())), (p01, ())))) := by kernel_rfl
set_option maxRecDepth 100000 in
theorem impl_primes.l0.eq (N : Nat) (many1 : Int) (n : Int) (p0 : (List Nat)) : impl_primes.l0 (N + 1) many1 n p0 =
 sel (decide ((p0.length : Int) < many1))
  (
  andK (α := ((Unit × Unit) × ((List Nat) × Unit))) (
   andK (impl_primes.l1 N many1 n true 2 p0) fun l2 =>
   sel l2.1.2.1
    (
    chk (decide (l2.2.1.length + 1 < most)) (
    some ((((), ()), ((l2.2.1 ++ [(fOfI n)]), ())))))
    (
    some ((((), ()), (l2.2.1, ()))))) fun j3 =>
  impl_primes.l0 N many1 (IntKind.i64.wrap (n + 1)) j3.2.1)
  (
  some ((((), ()), (p0, ())))) := by kernel_rfl
set_option maxRecDepth 100000 in
theorem impl_primes.eq (N : Nat) (many : Int) : impl_primes N many =
 andK (impl_primes.l0 N many 2 []) fun l4 =>
 some (((), ()), (l4.2.1, ())) := by kernel_rfl
set_option maxRecDepth 100000 in
theorem impl_primes.say (N : Nat) : SayOk Tryz.prog (impl_primes.S N) := sayOk_mk (N := N) (H := impl_primes.H) (preps := [⟨[], [], [], [0]⟩]) (l := impl_primes.says) (fn := Tryz.f108) (c := bodyOf Tryz.f108)
  (by kernel_rfl) (by kernel_rfl) (by kernel_rfl) (by kernel_rfl) (by kernel_rfl) (by kernel_rfl) (by kernel_rfl)
  (fun N => SayAll.nil) (fun a s => by kernel_rfl)

/-! ### math.Sqrt: function 93 -/
noncomputable def math_Sqrt.H : Hints := hintsOf [(8000001, .alts [4])]
noncomputable def math_Sqrt.says (N : Nat) : List Say := []
noncomputable def math_Sqrt.call (N : Nat) : CallK := callBy (math_Sqrt.says N)
noncomputable def math_Sqrt.qt (N : Nat) : FuncId → List PV → Sig → Cl := qtBy (math_Sqrt.says N)
noncomputable def math_Sqrt (N : Nat) (x : Nat) : Option ((Nat × Unit) × Unit) :=
  ofFn Tryz.prog math_Sqrt.call math_Sqrt.qt math_Sqrt.H N Tryz.f93 [.one (.sh .flt)] [] [.one (.sh .flt)] [] [⟨[], [], [], []⟩] (x, ()) ()
noncomputable def math_Sqrt.S (N : Nat) : Say := ⟨false, 93, [.one (.sh .flt)], [], [.one (.sh .flt)], [], fun a s => math_Sqrt N a.1⟩
set_option maxRecDepth 100000 in
theorem math_Sqrt.eq (N : Nat) (x : Nat) : math_Sqrt N x =
 chk (fSqOk x) (
 some (((fSq x), ()), ())) := by kernel_rfl
set_option maxRecDepth 100000 in
theorem math_Sqrt.say (N : Nat) : SayOk Tryz.prog (math_Sqrt.S N) := sayOk_mk (N := N) (H := math_Sqrt.H) (preps := [⟨[], [], [], []⟩]) (l := math_Sqrt.says) (fn := Tryz.f93) (c := bodyOf Tryz.f93)
  (by kernel_rfl) (by kernel_rfl) (by kernel_rfl) (by kernel_rfl) (by kernel_rfl) (by kernel_rfl) (by kernel_rfl)
  (fun N => SayAll.nil) (fun a s => by kernel_rfl)

/-! ### loop.example/g00206/impl.behindPoint: function 92 -/
noncomputable def impl_behindPoint.H : Hints := hintsOf [(2000003, .loop ⟨.normal, [1, 11], [5, 10, 12], [.one (.own 1), .one (.own 0), ak_i], [.rows .flt, .rows (.int .u32)], [⟨[(5, (.int .u32))], [], [], [1]⟩, ⟨[], [], [], [1]⟩]⟩ [⟨(.exit 0), [], [5], [.one (.own 1)], [.rows .flt, .rows (.int .u32)], [⟨[], [], [], [1]⟩]⟩])]
noncomputable def impl_behindPoint.says (N : Nat) : List Say := [impl_primes.S N, math_Sqrt.S N]
noncomputable def impl_behindPoint.call (N : Nat) : CallK := callBy (impl_behindPoint.says N)
noncomputable def impl_behindPoint.qt (N : Nat) : FuncId → List PV → Sig → Cl := qtBy (impl_behindPoint.says N)
noncomputable def impl_behindPoint.l0.hd : Alt := ⟨.normal, [1, 11], [5, 10, 12], [.one (.own 1), .one (.own 0), ak_i], [.rows .flt, .rows (.int .u32)], [⟨[(5, (.int .u32))], [], [], [1]⟩, ⟨[], [], [], [1]⟩]⟩
noncomputable def impl_behindPoint.l0.outs : List Alt := [⟨(.exit 0), [], [5], [.one (.own 1)], [.rows .flt, .rows (.int .u32)], [⟨[], [], [], [1]⟩]⟩]
noncomputable def impl_behindPoint.l0 (N : Nat) (t11 : Int) (t12 : Int) (p0 : (List Nat)) (p1 : (List Int)) : Option ((Unit × Unit) × ((List Nat) × ((List Int) × Unit))) :=
  loopK Tryz.prog impl_behindPoint.call impl_behindPoint.qt impl_behindPoint.H (codeAt (bodyOf Tryz.f92) [1, 1, 0, 1, 0, 0]) 1 impl_behindPoint.l0.hd impl_behindPoint.l0.outs [(1, .fn 93 []), (11, .v (.int .i64 t11))] N (((), ((), (t12, ()))), (p0, (p1, ())))
noncomputable def impl_behindPoint (N : Nat) (many : Int) : Option ((Unit × Unit) × ((List Int) × Unit)) :=
  ofFn Tryz.prog impl_behindPoint.call impl_behindPoint.qt impl_behindPoint.H N Tryz.f92 [ak_i, .fn 93 []] [] [.one (.own 0)] [.rows (.int .u32)] [⟨[], [], [], [1]⟩] (many, ((), ())) ()
noncomputable def impl_behindPoint.S (N : Nat) : Say := ⟨false, 92, [ak_i, .fn 93 []], [], [.one (.own 0)], [.rows (.int .u32)], fun a s => impl_behindPoint N a.1⟩
set_option maxRecDepth 100000 in
theorem impl_behindPoint.l0.eq (N : Nat) (t11 : Int) (t12 : Int) (p0 : (List Nat)) (p1 : (List Int)) : impl_behindPoint.l0 (N + 1) t11 t12 p0 p1 =
 sel (decide (t12 < t11))
  (
  chk ((decide (0 ≤ t12)) && (decide (t12 < (p0.length : Int)))) (
  andK (math_Sqrt N (p0.getD (Int.toNat t12) 0)) fun u2 =>
  chk (fArOk .mul u2.1.1 4751297606875873280) (
  chk (fToOk .u64 (fAr .mul u2.1.1 4751297606875873280)) (
  chk (decide (p1.length + 1 < most)) (
  impl_behindPoint.l0 N t11 (IntKind.i64.wrap (t12 + 1)) p0 (p1 ++ [(IntKind.u32.wrap (fToI .u64 (fAr .mul u2.1.1 4751297606875873280)))]))))))
  (
  some ((((), ()), (p0, (p1, ()))))) := by kernel_rfl
set_option maxRecDepth 100000 in
theorem impl_behindPoint.eq (N : Nat) (many : Int) : impl_behindPoint N many =
 andK (impl_primes N many) fun u1 =>
 andK (impl_behindPoint.l0 N (u1.2.1.length : Int) 0 u1.2.1 []) fun l3 =>
 some (((), ()), (l3.2.2.1, ())) := by kernel_rfl
set_option maxRecDepth 100000 in
theorem impl_behindPoint.say (N : Nat) : SayOk Tryz.prog (impl_behindPoint.S N) := sayOk_mk (N := N) (H := impl_behindPoint.H) (preps := [⟨[], [], [], [1]⟩]) (l := impl_behindPoint.says) (fn := Tryz.f92) (c := bodyOf Tryz.f92)
  (by kernel_rfl) (by kernel_rfl) (by kernel_rfl) (by kernel_rfl) (by kernel_rfl) (by kernel_rfl) (by kernel_rfl)
  (fun N => SayAll.cons (impl_primes.say N) (SayAll.cons (math_Sqrt.say N) (SayAll.nil))) (fun a s => by kernel_rfl)

/-! ### loop.example/g00206/impl.firstState: function 70 -/
noncomputable def impl_firstState.H : Hints := hintsOf []
noncomputable def impl_firstState.says (N : Nat) : List Say := [impl_behindPoint.S N]
noncomputable def impl_firstState.call (N : Nat) : CallK := callBy (impl_firstState.says N)
noncomputable def impl_firstState.qt (N : Nat) : FuncId → List PV → Sig → Cl := qtBy (impl_firstState.says N)
noncomputable def impl_firstState (N : Nat) : Option ((Unit × Unit) × ((List Int) × Unit)) :=
  ofFn Tryz.prog impl_firstState.call impl_firstState.qt impl_firstState.H N Tryz.f70 [] [] [.one (.own 0)] [.rows (.int .u32)] [⟨[], [], [], [0]⟩] () ()
noncomputable def impl_firstState.S (N : Nat) : Say := ⟨false, 70, [], [], [.one (.own 0)], [.rows (.int .u32)], fun a s => impl_firstState N⟩
set_option maxRecDepth 100000 in
theorem impl_firstState.eq (N : Nat) : impl_firstState N =
 andK (impl_behindPoint N 8) fun u1 =>
 some (((), ()), (u1.2.1, ())) := by kernel_rfl
set_option maxRecDepth 100000 in
theorem impl_firstState.say (N : Nat) : SayOk Tryz.prog (impl_firstState.S N) := sayOk_mk (N := N) (H := impl_firstState.H) (preps := [⟨[], [], [], [0]⟩]) (l := impl_firstState.says) (fn := Tryz.f70) (c := bodyOf Tryz.f70)
  (by kernel_rfl) (by kernel_rfl) (by kernel_rfl) (by kernel_rfl) (by kernel_rfl) (by kernel_rfl) (by kernel_rfl)
  (fun N => SayAll.cons (impl_behindPoint.say N) (SayAll.nil)) (fun a s => by kernel_rfl)

/-! ### math.IsNaN: function 119 -/
noncomputable def math_IsNaN.H : Hints := hintsOf []
noncomputable def math_IsNaN.says (N : Nat) : List Say := []
noncomputable def math_IsNaN.call (N : Nat) : CallK := callBy (math_IsNaN.says N)
noncomputable def math_IsNaN.qt (N : Nat) : FuncId → List PV → Sig → Cl := qtBy (math_IsNaN.says N)
noncomputable def math_IsNaN (N : Nat) (f : Nat) : Option ((Bool × Unit) × Unit) :=
  ofFn Tryz.prog math_IsNaN.call math_IsNaN.qt math_IsNaN.H N Tryz.f119 [.one (.sh .flt)] [] [ak_b] [] [⟨[], [], [], []⟩] (f, ()) ()
noncomputable def math_IsNaN.S (N : Nat) : Say := ⟨false, 119, [.one (.sh .flt)], [], [ak_b], [], fun a s => math_IsNaN N a.1⟩
set_option maxRecDepth 100000 in
theorem math_IsNaN.eq (N : Nat) (f : Nat) : math_IsNaN N f =
 some (((!(fEq f f)), ()), ()) := by kernel_rfl
set_option maxRecDepth 100000 in
theorem math_IsNaN.say (N : Nat) : SayOk Tryz.prog (math_IsNaN.S N) := sayOk_mk (N := N) (H := math_IsNaN.H) (preps := [⟨[], [], [], []⟩]) (l := math_IsNaN.says) (fn := Tryz.f119) (c := bodyOf Tryz.f119)
  (by kernel_rfl) (by kernel_rfl) (by kernel_rfl) (by kernel_rfl) (by kernel_rfl) (by kernel_rfl) (by kernel_rfl)
  (fun N => SayAll.nil) (fun a s => by kernel_rfl)

/-! ### math.Abs: function 127 -/
noncomputable def math_Abs.H : Hints := hintsOf [(8000001, .alts [4, 6])]
noncomputable def math_Abs.says (N : Nat) : List Say := []
noncomputable def math_Abs.call (N : Nat) : CallK := callBy (math_Abs.says N)
noncomputable def math_Abs.qt (N : Nat) : FuncId → List PV → Sig → Cl := qtBy (math_Abs.says N)
noncomputable def math_Abs (N : Nat) (x : Nat) : Option ((Nat × Unit) × Unit) :=
  ofFn Tryz.prog math_Abs.call math_Abs.qt math_Abs.H N Tryz.f127 [.one (.sh .flt)] [] [.one (.sh .flt)] [] [⟨[], [], [], []⟩] (x, ()) ()
noncomputable def math_Abs.S (N : Nat) : Say := ⟨false, 127, [.one (.sh .flt)], [], [.one (.sh .flt)], [], fun a s => math_Abs N a.1⟩
set_option maxRecDepth 100000 in
theorem math_Abs.eq (N : Nat) (x : Nat) : math_Abs N x =
 some (((fB (Go.bits .andNot .u64 (x : Int) 9223372036854775808)), ()), ()) := by kernel_rfl
set_option maxRecDepth 100000 in
theorem math_Abs.say (N : Nat) : SayOk Tryz.prog (math_Abs.S N) := sayOk_mk (N := N) (H := math_Abs.H) (preps := [⟨[], [], [], []⟩]) (l := math_Abs.says) (fn := Tryz.f127) (c := bodyOf Tryz.f127)
  (by kernel_rfl) (by kernel_rfl) (by kernel_rfl) (by kernel_rfl) (by kernel_rfl) (by kernel_rfl) (by kernel_rfl)
  (fun N => SayAll.nil) (fun a s => by kernel_rfl)

/-! ### math.IsInf: function 120 -/
noncomputable def math_IsInf.H : Hints := hintsOf []
noncomputable def math_IsInf.says (N : Nat) : List Say := [math_Abs.S N]
noncomputable def math_IsInf.call (N : Nat) : CallK := callBy (math_IsInf.says N)
noncomputable def math_IsInf.qt (N : Nat) : FuncId → List PV → Sig → Cl := qtBy (math_IsInf.says N)
noncomputable def math_IsInf (N : Nat) (f : Nat) (sign : Int) : Option ((Bool × Unit) × Unit) :=
  ofFn Tryz.prog math_IsInf.call math_IsInf.qt math_IsInf.H N Tryz.f120 [.one (.sh .flt), ak_i] [] [ak_b] [] [⟨[], [], [], []⟩] (f, (sign, ())) ()
noncomputable def math_IsInf.S (N : Nat) : Say := ⟨false, 120, [.one (.sh .flt), ak_i], [], [ak_b], [], fun a s => math_IsInf N a.1 a.2.1⟩
set_option maxRecDepth 100000 in
theorem math_IsInf.eq (N : Nat) (f : Nat) (sign : Int) : math_IsInf N f sign =
 sel (decide (sign = 0))
  (
  andK (math_Abs N f) fun u1 =>
  some (((fGt u1.1.1 9218868437227405311), ()), ()))
  (
  sel (decide (sign < 0))
   (
   some (((fGt (fNeg f) 9218868437227405311), ()), ()))
   (
   some (((fGt f 9218868437227405311), ()), ()))) := by kernel_rfl
set_option maxRecDepth 100000 in
theorem math_IsInf.say (N : Nat) : SayOk Tryz.prog (math_IsInf.S N) := sayOk_mk (N := N) (H := math_IsInf.H) (preps := [⟨[], [], [], []⟩]) (l := math_IsInf.says) (fn := Tryz.f120) (c := bodyOf Tryz.f120)
  (by kernel_rfl) (by kernel_rfl) (by kernel_rfl) (by kernel_rfl) (by kernel_rfl) (by kernel_rfl) (by kernel_rfl)
  (fun N => SayAll.cons (math_Abs.say N) (SayAll.nil)) (fun a s => by kernel_rfl)

/-! ### math.cbrt: function 111 -/
noncomputable def math_cbrt.H : Hints := hintsOf [(5000001, .join [⟨.normal, [0], [8], [ak_b], [], [⟨[], [], [], []⟩]⟩]),
  (7, .join [⟨.normal, [], [0, 3], [.one (.sh .flt), ak_b], [], [⟨[], [], [], []⟩]⟩]),
  (12, .join [⟨.normal, [0, 3], [4], [.one (.sh .flt)], [], [⟨[], [], [], []⟩]⟩]),
  (14, .join [⟨.normal, [0, 3, 4], [6], [.one (.sh .flt)], [], [⟨[], [], [], []⟩]⟩]),
  (15, .join [⟨.normal, [0, 3], [4], [.one (.sh .flt)], [], [⟨[], [], [], []⟩]⟩]),
  (17, .join [⟨.normal, [0, 3, 4], [6], [.one (.sh .flt)], [], [⟨[], [], [], []⟩]⟩]),
  (18, .join [⟨.normal, [3, 4], [5], [.one (.sh .flt)], [], [⟨[], [], [], []⟩]⟩]),
  (19, .join [⟨.normal, [3, 4, 5], [7], [.one (.sh .flt)], [], [⟨[], [], [], []⟩]⟩]),
  (20, .join [⟨.normal, [3, 4], [5], [.one (.sh .flt)], [], [⟨[], [], [], []⟩]⟩]),
  (21, .join [⟨.normal, [3], [4], [.one (.sh .flt)], [], [⟨[], [], [], []⟩]⟩]),
  (8000007, .alts [25, 28]),
  (8000011, .alts [35, 38]),
  (8000015, .alts [58, 61])]
noncomputable def math_cbrt.says (N : Nat) : List Say := [math_IsNaN.S N, math_IsInf.S N]
noncomputable def math_cbrt.call (N : Nat) : CallK := callBy (math_cbrt.says N)
noncomputable def math_cbrt.qt (N : Nat) : FuncId → List PV → Sig → Cl := qtBy (math_cbrt.says N)
noncomputable def math_cbrt (N : Nat) (G : Nat) : Option ((Nat × Unit) × Unit) :=
  ofFn Tryz.prog math_cbrt.call math_cbrt.qt math_cbrt.H N Tryz.f111 [.one (.sh .flt)] [] [.one (.sh .flt)] [] [⟨[], [], [], []⟩] (G, ()) ()
noncomputable def math_cbrt.S (N : Nat) : Say := ⟨false, 111, [.one (.sh .flt)], [], [.one (.sh .flt)], [], fun a s => math_cbrt N a.1⟩
set_option maxRecDepth 100000 in
theorem math_cbrt.eq (N : Nat) (G : Nat) : math_cbrt N G =
 andK (α := ((Bool × Unit) × Unit)) (
  sel (fEq G 0)
   (
   some (((true, ()), ())))
   (
   andK (math_IsNaN N G) fun u1 =>
   sel u1.1.1
    (
    some (((true, ()), ())))
    (
    andK (math_IsInf N G 0) fun u2 =>
    some (((u2.1.1, ()), ()))))) fun j3 =>
 sel j3.1.1
  (
  some ((G, ()), ()))
  (
  andK (α := ((Nat × (Bool × Unit)) × Unit)) (
   sel (fLt G 0)
    (
    some ((((fNeg G), (true, ())), ())))
    (
    some (((G, (false, ())), ())))) fun j4 =>
  andK (α := ((Nat × Unit) × Unit)) (
   sel (fLt j4.1.1 4503599627370496)
    (
    chk (fArOk .mul 4850376798678024192 j4.1.1) (
    some ((((fB (IntKind.u64.wrap ((IntKind.u64.wrap (Int.tdiv ((fAr .mul 4850376798678024192 j4.1.1) : Int) 3)) + 2990241250352824320))), ()), ()))))
    (
    some ((((fB (IntKind.u64.wrap ((IntKind.u64.wrap (Int.tdiv (j4.1.1 : Int) 3)) + 3071306043645493248))), ()), ())))) fun j5 =>
  chk (fArOk .mul j5.1.1 j5.1.1) (
  chk (fArOk .quo (fAr .mul j5.1.1 j5.1.1) j4.1.1) (
  andK (α := ((Nat × Unit) × Unit)) (
   chk (fArOk .mul (fAr .quo (fAr .mul j5.1.1 j5.1.1) j4.1.1) j5.1.1) (
   chk (fArOk .add 4603064841997850097 (fAr .mul (fAr .quo (fAr .mul j5.1.1 j5.1.1) j4.1.1) j5.1.1)) (
   some ((((fAr .add 4603064841997850097 (fAr .mul (fAr .quo (fAr .mul j5.1.1 j5.1.1) j4.1.1) j5.1.1)), ()), ()))))) fun j6 =>
  andK (α := ((Nat × Unit) × Unit)) (
   chk (fArOk .add j6.1.1 4609048195788499471) (
   chk (fArOk .quo 13827900089180538932 j6.1.1) (
   chk (fArOk .add (fAr .add j6.1.1 4609048195788499471) (fAr .quo 13827900089180538932 j6.1.1)) (
   chk (fArOk .quo 4609916747145206638 (fAr .add (fAr .add j6.1.1 4609048195788499471) (fAr .quo 13827900089180538932 j6.1.1))) (
   chk (fArOk .add 4600105333671292343 (fAr .quo 4609916747145206638 (fAr .add (fAr .add j6.1.1 4609048195788499471) (fAr .quo 13827900089180538932 j6.1.1)))) (
   chk (fArOk .mul j5.1.1 (fAr .add 4600105333671292343 (fAr .quo 4609916747145206638 (fAr .add (fAr .add j6.1.1 4609048195788499471) (fAr .quo 13827900089180538932 j6.1.1))))) (
   some ((((fAr .mul j5.1.1 (fAr .add 4600105333671292343 (fAr .quo 4609916747145206638 (fAr .add (fAr .add j6.1.1 4609048195788499471) (fAr .quo 13827900089180538932 j6.1.1))))), ()), ()))))))))) fun j7 =>
  andK (α := ((Nat × Unit) × Unit)) (
   chk (fArOk .mul (fB (IntKind.u64.wrap ((Go.bits .and .u64 (j7.1.1 : Int) 18446744072635809792) + 1073741824))) (fB (IntKind.u64.wrap ((Go.bits .and .u64 (j7.1.1 : Int) 18446744072635809792) + 1073741824)))) (
   some ((((fAr .mul (fB (IntKind.u64.wrap ((Go.bits .and .u64 (j7.1.1 : Int) 18446744072635809792) + 1073741824))) (fB (IntKind.u64.wrap ((Go.bits .and .u64 (j7.1.1 : Int) 18446744072635809792) + 1073741824)))), ()), ())))) fun j8 =>
  andK (α := ((Nat × Unit) × Unit)) (
   chk (fArOk .quo j4.1.1 j8.1.1) (
   some ((((fAr .quo j4.1.1 j8.1.1), ()), ())))) fun j9 =>
  andK (α := ((Nat × Unit) × Unit)) (
   chk (fArOk .add (fB (IntKind.u64.wrap ((Go.bits .and .u64 (j7.1.1 : Int) 18446744072635809792) + 1073741824))) (fB (IntKind.u64.wrap ((Go.bits .and .u64 (j7.1.1 : Int) 18446744072635809792) + 1073741824)))) (
   some ((((fAr .add (fB (IntKind.u64.wrap ((Go.bits .and .u64 (j7.1.1 : Int) 18446744072635809792) + 1073741824))) (fB (IntKind.u64.wrap ((Go.bits .and .u64 (j7.1.1 : Int) 18446744072635809792) + 1073741824)))), ()), ())))) fun j10 =>
  andK (α := ((Nat × Unit) × Unit)) (
   chk (fArOk .sub j9.1.1 (fB (IntKind.u64.wrap ((Go.bits .and .u64 (j7.1.1 : Int) 18446744072635809792) + 1073741824)))) (
   chk (fArOk .add j10.1.1 j9.1.1) (
   chk (fArOk .quo (fAr .sub j9.1.1 (fB (IntKind.u64.wrap ((Go.bits .and .u64 (j7.1.1 : Int) 18446744072635809792) + 1073741824)))) (fAr .add j10.1.1 j9.1.1)) (
   some ((((fAr .quo (fAr .sub j9.1.1 (fB (IntKind.u64.wrap ((Go.bits .and .u64 (j7.1.1 : Int) 18446744072635809792) + 1073741824)))) (fAr .add j10.1.1 j9.1.1)), ()), ())))))) fun j11 =>
  andK (α := ((Nat × Unit) × Unit)) (
   chk (fArOk .mul (fB (IntKind.u64.wrap ((Go.bits .and .u64 (j7.1.1 : Int) 18446744072635809792) + 1073741824))) j11.1.1) (
   chk (fArOk .add (fB (IntKind.u64.wrap ((Go.bits .and .u64 (j7.1.1 : Int) 18446744072635809792) + 1073741824))) (fAr .mul (fB (IntKind.u64.wrap ((Go.bits .and .u64 (j7.1.1 : Int) 18446744072635809792) + 1073741824))) j11.1.1)) (
   some ((((fAr .add (fB (IntKind.u64.wrap ((Go.bits .and .u64 (j7.1.1 : Int) 18446744072635809792) + 1073741824))) (fAr .mul (fB (IntKind.u64.wrap ((Go.bits .and .u64 (j7.1.1 : Int) 18446744072635809792) + 1073741824))) j11.1.1)), ()), ()))))) fun j12 =>
  sel j4.1.2.1
   (
   some (((fNeg j12.1.1), ()), ()))
   (
   some ((j12.1.1, ()), ()))))) := by kernel_rfl
set_option maxRecDepth 100000 in
theorem math_cbrt.say (N : Nat) : SayOk Tryz.prog (math_cbrt.S N) := sayOk_mk (N := N) (H := math_cbrt.H) (preps := [⟨[], [], [], []⟩]) (l := math_cbrt.says) (fn := Tryz.f111) (c := bodyOf Tryz.f111)
  (by kernel_rfl) (by kernel_rfl) (by kernel_rfl) (by kernel_rfl) (by kernel_rfl) (by kernel_rfl) (by kernel_rfl)
  (fun N => SayAll.cons (math_IsNaN.say N) (SayAll.cons (math_IsInf.say N) (SayAll.nil))) (fun a s => by kernel_rfl)

/-! ### math.Cbrt: function 94 -/
noncomputable def math_Cbrt.H : Hints := hintsOf []
noncomputable def math_Cbrt.says (N : Nat) : List Say := [math_cbrt.S N]
noncomputable def math_Cbrt.call (N : Nat) : CallK := callBy (math_Cbrt.says N)
noncomputable def math_Cbrt.qt (N : Nat) : FuncId → List PV → Sig → Cl := qtBy (math_Cbrt.says N)
noncomputable def math_Cbrt (N : Nat) (x : Nat) : Option ((Nat × Unit) × Unit) :=
  ofFn Tryz.prog math_Cbrt.call math_Cbrt.qt math_Cbrt.H N Tryz.f94 [.one (.sh .flt)] [] [.one (.sh .flt)] [] [⟨[], [], [], []⟩] (x, ()) ()
noncomputable def math_Cbrt.S (N : Nat) : Say := ⟨false, 94, [.one (.sh .flt)], [], [.one (.sh .flt)], [], fun a s => math_Cbrt N a.1⟩
set_option maxRecDepth 100000 in
theorem math_Cbrt.eq (N : Nat) (x : Nat) : math_Cbrt N x =
 andK (math_cbrt N x) fun u1 =>
 some ((u1.1.1, ()), ()) := by kernel_rfl
set_option maxRecDepth 100000 in
theorem math_Cbrt.say (N : Nat) : SayOk Tryz.prog (math_Cbrt.S N) := sayOk_mk (N := N) (H := math_Cbrt.H) (preps := [⟨[], [], [], []⟩]) (l := math_Cbrt.says) (fn := Tryz.f94) (c := bodyOf Tryz.f94)
  (by kernel_rfl) (by kernel_rfl) (by kernel_rfl) (by kernel_rfl) (by kernel_rfl) (by kernel_rfl) (by kernel_rfl)
  (fun N => SayAll.cons (math_cbrt.say N) (SayAll.nil)) (fun a s => by kernel_rfl)

/-! ### loop.example/g00206/impl.behindPoint: function 92 -/
noncomputable def impl_behindPoint_2.H : Hints := hintsOf [(2000003, .loop ⟨.normal, [1, 11], [5, 10, 12], [.one (.own 1), .one (.own 0), ak_i], [.rows .flt, .rows (.int .u32)], [⟨[(5, (.int .u32))], [], [], [1]⟩, ⟨[], [], [], [1]⟩]⟩ [⟨(.exit 0), [], [5], [.one (.own 1)], [.rows .flt, .rows (.int .u32)], [⟨[], [], [], [1]⟩]⟩])]
noncomputable def impl_behindPoint_2.says (N : Nat) : List Say := [impl_primes.S N, math_Cbrt.S N]
noncomputable def impl_behindPoint_2.call (N : Nat) : CallK := callBy (impl_behindPoint_2.says N)
noncomputable def impl_behindPoint_2.qt (N : Nat) : FuncId → List PV → Sig → Cl := qtBy (impl_behindPoint_2.says N)
noncomputable def impl_behindPoint_2.l0.hd : Alt := ⟨.normal, [1, 11], [5, 10, 12], [.one (.own 1), .one (.own 0), ak_i], [.rows .flt, .rows (.int .u32)], [⟨[(5, (.int .u32))], [], [], [1]⟩, ⟨[], [], [], [1]⟩]⟩
noncomputable def impl_behindPoint_2.l0.outs : List Alt := [⟨(.exit 0), [], [5], [.one (.own 1)], [.rows .flt, .rows (.int .u32)], [⟨[], [], [], [1]⟩]⟩]
noncomputable def impl_behindPoint_2.l0 (N : Nat) (t11 : Int) (t12 : Int) (p0 : (List Nat)) (p1 : (List Int)) : Option ((Unit × Unit) × ((List Nat) × ((List Int) × Unit))) :=
  loopK Tryz.prog impl_behindPoint_2.call impl_behindPoint_2.qt impl_behindPoint_2.H (codeAt (bodyOf Tryz.f92) [1, 1, 0, 1, 0, 0]) 1 impl_behindPoint_2.l0.hd impl_behindPoint_2.l0.outs [(1, .fn 94 []), (11, .v (.int .i64 t11))] N (((), ((), (t12, ()))), (p0, (p1, ())))
noncomputable def impl_behindPoint_2 (N : Nat) (many : Int) : Option ((Unit × Unit) × ((List Int) × Unit)) :=
  ofFn Tryz.prog impl_behindPoint_2.call impl_behindPoint_2.qt impl_behindPoint_2.H N Tryz.f92 [ak_i, .fn 94 []] [] [.one (.own 0)] [.rows (.int .u32)] [⟨[], [], [], [1]⟩] (many, ((), ())) ()
noncomputable def impl_behindPoint_2.S (N : Nat) : Say := ⟨false, 92, [ak_i, .fn 94 []], [], [.one (.own 0)], [.rows (.int .u32)], fun a s => impl_behindPoint_2 N a.1⟩
set_option maxRecDepth 100000 in
theorem impl_behindPoint_2.l0.eq (N : Nat) (t11 : Int) (t12 : Int) (p0 : (List Nat)) (p1 : (List Int)) : impl_behindPoint_2.l0 (N + 1) t11 t12 p0 p1 =
 sel (decide (t12 < t11))
  (
  chk ((decide (0 ≤ t12)) && (decide (t12 < (p0.length : Int)))) (
  andK (math_Cbrt N (p0.getD (Int.toNat t12) 0)) fun u2 =>
  chk (fArOk .mul u2.1.1 4751297606875873280) (
  chk (fToOk .u64 (fAr .mul u2.1.1 4751297606875873280)) (
  chk (decide (p1.length + 1 < most)) (
  impl_behindPoint_2.l0 N t11 (IntKind.i64.wrap (t12 + 1)) p0 (p1 ++ [(IntKind.u32.wrap (fToI .u64 (fAr .mul u2.1.1 4751297606875873280)))]))))))
  (
  some ((((), ()), (p0, (p1, ()))))) := by kernel_rfl
set_option maxRecDepth 100000 in
theorem impl_behindPoint_2.eq (N : Nat) (many : Int) : impl_behindPoint_2 N many =
 andK (impl_primes N many) fun u1 =>
 andK (impl_behindPoint_2.l0 N (u1.2.1.length : Int) 0 u1.2.1 []) fun l3 =>
 some (((), ()), (l3.2.2.1, ())) := by kernel_rfl
set_option maxRecDepth 100000 in
theorem impl_behindPoint_2.say (N : Nat) : SayOk Tryz.prog (impl_behindPoint_2.S N) := sayOk_mk (N := N) (H := impl_behindPoint_2.H) (preps := [⟨[], [], [], [1]⟩]) (l := impl_behindPoint_2.says) (fn := Tryz.f92) (c := bodyOf Tryz.f92)
  (by kernel_rfl) (by kernel_rfl) (by kernel_rfl) (by kernel_rfl) (by kernel_rfl) (by kernel_rfl) (by kernel_rfl)
  (fun N => SayAll.cons (impl_primes.say N) (SayAll.cons (math_Cbrt.say N) (SayAll.nil))) (fun a s => by kernel_rfl)

/-! ### loop.example/g00206/impl.RoundWords: function 71 -/
noncomputable def impl_RoundWords.H : Hints := hintsOf []
noncomputable def impl_RoundWords.says (N : Nat) : List Say := [impl_behindPoint_2.S N]
noncomputable def impl_RoundWords.call (N : Nat) : CallK := callBy (impl_RoundWords.says N)
noncomputable def impl_RoundWords.qt (N : Nat) : FuncId → List PV → Sig → Cl := qtBy (impl_RoundWords.says N)
noncomputable def impl_RoundWords (N : Nat) : Option ((Unit × Unit) × ((List Int) × Unit)) :=
  ofFn Tryz.prog impl_RoundWords.call impl_RoundWords.qt impl_RoundWords.H N Tryz.f71 [] [] [.one (.own 0)] [.rows (.int .u32)] [⟨[], [], [], [0]⟩] () ()
noncomputable def impl_RoundWords.S (N : Nat) : Say := ⟨false, 71, [], [], [.one (.own 0)], [.rows (.int .u32)], fun a s => impl_RoundWords N⟩
set_option maxRecDepth 100000 in
theorem impl_RoundWords.eq (N : Nat) : impl_RoundWords N =
 andK (impl_behindPoint_2 N 64) fun u1 =>
 some (((), ()), (u1.2.1, ())) := by kernel_rfl
set_option maxRecDepth 100000 in
theorem impl_RoundWords.say (N : Nat) : SayOk Tryz.prog (impl_RoundWords.S N) := sayOk_mk (N := N) (H := impl_RoundWords.H) (preps := [⟨[], [], [], [0]⟩]) (l := impl_RoundWords.says) (fn := Tryz.f71) (c := bodyOf Tryz.f71)
  (by kernel_rfl) (by kernel_rfl) (by kernel_rfl) (by kernel_rfl) (by kernel_rfl) (by kernel_rfl) (by kernel_rfl)
  (fun N => SayAll.cons (impl_behindPoint_2.say N) (SayAll.nil)) (fun a s => by kernel_rfl)

/-! ### loop.example/g00206/impl.numberOf: function 49 -/
noncomputable def impl_numberOf.H : Hints := hintsOf [(2000003, .loop ⟨.normal, [0, 6], [3, 7], [.one (.sh (.int .u64)), ak_i], [], [⟨[], [], [], []⟩]⟩ [⟨(.exit 0), [], [3], [.one (.sh (.int .u64))], [], [⟨[], [], [], []⟩]⟩])]
noncomputable def impl_numberOf.says (N : Nat) : List Say := []
noncomputable def impl_numberOf.call (N : Nat) : CallK := callBy (impl_numberOf.says N)
noncomputable def impl_numberOf.qt (N : Nat) : FuncId → List PV → Sig → Cl := qtBy (impl_numberOf.says N)
noncomputable def impl_numberOf.l0.hd : Alt := ⟨.normal, [0, 6], [3, 7], [.one (.sh (.int .u64)), ak_i], [], [⟨[], [], [], []⟩]⟩
noncomputable def impl_numberOf.l0.outs : List Alt := [⟨(.exit 0), [], [3], [.one (.sh (.int .u64))], [], [⟨[], [], [], []⟩]⟩]
noncomputable def impl_numberOf.l0 (N : Nat) (s1 : ByteArray) (t6 : Int) (n : Int) (t7 : Int) : Option ((Int × Unit) × Unit) :=
  loopK Tryz.prog impl_numberOf.call impl_numberOf.qt impl_numberOf.H (codeAt (bodyOf Tryz.f49) [1, 1, 0, 1, 0, 0]) 0 impl_numberOf.l0.hd impl_numberOf.l0.outs [(0, .v (.string s1)), (6, .v (.int .i64 t6))] N ((n, (t7, ())), ())
noncomputable def impl_numberOf (N : Nat) (s : ByteArray) : Option ((Int × Unit) × Unit) :=
  ofFn Tryz.prog impl_numberOf.call impl_numberOf.qt impl_numberOf.H N Tryz.f49 [ak_s] [] [.one (.sh (.int .u64))] [] [⟨[], [], [], []⟩] (s, ()) ()
noncomputable def impl_numberOf.S (N : Nat) : Say := ⟨false, 49, [ak_s], [], [.one (.sh (.int .u64))], [], fun a s => impl_numberOf N a.1⟩
set_option maxRecDepth 100000 in
theorem impl_numberOf.l0.eq (N : Nat) (s1 : ByteArray) (t6 : Int) (n : Int) (t7 : Int) : impl_numberOf.l0 (N + 1) s1 t6 n t7 =
 sel (decide (t7 < t6))
  (
  chk ((decide (0 ≤ t7)) && (decide (t7 < (s1.size : Int)))) (
  impl_numberOf.l0 N s1 t6 (Go.bits .or .u64 (shlI .u64 n 8) (IntKind.u64.wrap ((bytesL s1).getD (Int.toNat t7) 0))) (IntKind.i64.wrap (t7 + 1))))
  (
  some (((n, ()), ()))) := by kernel_rfl
set_option maxRecDepth 100000 in
theorem impl_numberOf.eq (N : Nat) (s : ByteArray) : impl_numberOf N s =
 andK (impl_numberOf.l0 N s (s.size : Int) 0 0) fun l1 =>
 some ((l1.1.1, ()), ()) := by kernel_rfl
set_option maxRecDepth 100000 in
theorem impl_numberOf.say (N : Nat) : SayOk Tryz.prog (impl_numberOf.S N) := sayOk_mk (N := N) (H := impl_numberOf.H) (preps := [⟨[], [], [], []⟩]) (l := impl_numberOf.says) (fn := Tryz.f49) (c := bodyOf Tryz.f49)
  (by kernel_rfl) (by kernel_rfl) (by kernel_rfl) (by kernel_rfl) (by kernel_rfl) (by kernel_rfl) (by kernel_rfl)
  (fun N => SayAll.nil) (fun a s => by kernel_rfl)

/-! ### math/bits.RotateLeft32: function 112 -/
noncomputable def math_bits_RotateLeft32.H : Hints := hintsOf []
noncomputable def math_bits_RotateLeft32.says (N : Nat) : List Say := []
noncomputable def math_bits_RotateLeft32.call (N : Nat) : CallK := callBy (math_bits_RotateLeft32.says N)
noncomputable def math_bits_RotateLeft32.qt (N : Nat) : FuncId → List PV → Sig → Cl := qtBy (math_bits_RotateLeft32.says N)
noncomputable def math_bits_RotateLeft32 (N : Nat) (x : Int) (k : Int) : Option ((Int × Unit) × Unit) :=
  ofFn Tryz.prog math_bits_RotateLeft32.call math_bits_RotateLeft32.qt math_bits_RotateLeft32.H N Tryz.f112 [.one (.sh (.int .u32)), ak_i] [] [.one (.sh (.int .u32))] [] [⟨[], [], [], []⟩] (x, (k, ())) ()
noncomputable def math_bits_RotateLeft32.S (N : Nat) : Say := ⟨false, 112, [.one (.sh (.int .u32)), ak_i], [], [.one (.sh (.int .u32))], [], fun a s => math_bits_RotateLeft32 N a.1 a.2.1⟩
set_option maxRecDepth 100000 in
theorem math_bits_RotateLeft32.eq (N : Nat) (x : Int) (k : Int) : math_bits_RotateLeft32 N x k =
 chk (decide (0 ≤ (Go.bits .and .u64 (IntKind.u64.wrap k) 31))) (
 chk (decide (0 ≤ (IntKind.u64.wrap (32 - (Go.bits .and .u64 (IntKind.u64.wrap k) 31))))) (
 some (((Go.bits .or .u32 (shlI .u32 x (Go.bits .and .u64 (IntKind.u64.wrap k) 31)) (shrI .u32 x (IntKind.u64.wrap (32 - (Go.bits .and .u64 (IntKind.u64.wrap k) 31))))), ()), ()))) := by kernel_rfl
set_option maxRecDepth 100000 in
theorem math_bits_RotateLeft32.say (N : Nat) : SayOk Tryz.prog (math_bits_RotateLeft32.S N) := sayOk_mk (N := N) (H := math_bits_RotateLeft32.H) (preps := [⟨[], [], [], []⟩]) (l := math_bits_RotateLeft32.says) (fn := Tryz.f112) (c := bodyOf Tryz.f112)
  (by kernel_rfl) (by kernel_rfl) (by kernel_rfl) (by kernel_rfl) (by kernel_rfl) (by kernel_rfl) (by kernel_rfl)
  (fun N => SayAll.nil) (fun a s => by kernel_rfl)

/-! ### loop.example/g00206/impl.right: function 95 -/
noncomputable def impl_right.H : Hints := hintsOf []
noncomputable def impl_right.says (N : Nat) : List Say := [math_bits_RotateLeft32.S N]
noncomputable def impl_right.call (N : Nat) : CallK := callBy (impl_right.says N)
noncomputable def impl_right.qt (N : Nat) : FuncId → List PV → Sig → Cl := qtBy (impl_right.says N)
noncomputable def impl_right (N : Nat) (w : Int) (byv : Int) : Option ((Int × Unit) × Unit) :=
  ofFn Tryz.prog impl_right.call impl_right.qt impl_right.H N Tryz.f95 [.one (.sh (.int .u32)), ak_i] [] [.one (.sh (.int .u32))] [] [⟨[], [], [], []⟩] (w, (byv, ())) ()
noncomputable def impl_right.S (N : Nat) : Say := ⟨false, 95, [.one (.sh (.int .u32)), ak_i], [], [.one (.sh (.int .u32))], [], fun a s => impl_right N a.1 a.2.1⟩
set_option maxRecDepth 100000 in
theorem impl_right.eq (N : Nat) (w : Int) (byv : Int) : impl_right N w byv =
 andK (math_bits_RotateLeft32 N w (IntKind.i64.wrap (0 - byv))) fun u1 =>
 some ((u1.1.1, ()), ()) := by kernel_rfl
set_option maxRecDepth 100000 in
theorem impl_right.say (N : Nat) : SayOk Tryz.prog (impl_right.S N) := sayOk_mk (N := N) (H := impl_right.H) (preps := [⟨[], [], [], []⟩]) (l := impl_right.says) (fn := Tryz.f95) (c := bodyOf Tryz.f95)
  (by kernel_rfl) (by kernel_rfl) (by kernel_rfl) (by kernel_rfl) (by kernel_rfl) (by kernel_rfl) (by kernel_rfl)
  (fun N => SayAll.cons (math_bits_RotateLeft32.say N) (SayAll.nil)) (fun a s => by kernel_rfl)

/-! ### loop.example/g00206/impl.hashFrom: function 72 -/
noncomputable def impl_hashFrom.H : Hints := hintsOf [(9, .join [⟨.normal, [0, 1, 2, 22], [7], [.one (.apl 0 0 64)], [.rows (.int .u32)], [⟨[], [], [], []⟩]⟩]),
  (2000003, .loop ⟨.normal, [0, 1, 2], [7, 22], [.one (.apl 0 0 64), ak_i], [.rows (.int .u32)], [⟨[], [], [], []⟩]⟩ [⟨(.exit 0), [0, 2], [7], [.one (.apl 0 0 64)], [.rows (.int .u32)], [⟨[], [], [], []⟩]⟩]),
  (2000012, .loop ⟨.normal, [0, 2, 79], [11, 80], [.one (.apl 1 0 8), ak_i], [.rows (.int .u32), .rows (.int .u32)], [⟨[], [], [], []⟩]⟩ [⟨(.exit 2), [0], [11], [.one (.apl 1 0 8)], [.rows (.int .u32), .rows (.int .u32)], [⟨[], [], [], []⟩]⟩]),
  (2000021, .loop ⟨.normal, [0, 163], [18, 164], [.one (.own 2), ak_i], [.rows (.int .u32), .rows (.int .u32), .rows (.int .u32)], [⟨[(18, (.int .u32))], [], [], [2]⟩, ⟨[], [], [], [2]⟩]⟩ [⟨(.exit 4), [], [18], [.one (.own 2)], [.rows (.int .u32), .rows (.int .u32), .rows (.int .u32)], [⟨[], [], [], [2]⟩]⟩])]
noncomputable def impl_hashFrom.says (N : Nat) : List Say := [impl_numberOf.S N, impl_right.S N]
noncomputable def impl_hashFrom.call (N : Nat) : CallK := callBy (impl_hashFrom.says N)
noncomputable def impl_hashFrom.qt (N : Nat) : FuncId → List PV → Sig → Cl := qtBy (impl_hashFrom.says N)
noncomputable def impl_hashFrom.l0.hd : Alt := ⟨.normal, [0, 1, 2], [7, 22], [.one (.apl 0 0 64), ak_i], [.rows (.int .u32)], [⟨[], [], [], []⟩]⟩
noncomputable def impl_hashFrom.l0.outs : List Alt := [⟨(.exit 0), [0, 2], [7], [.one (.apl 0 0 64)], [.rows (.int .u32)], [⟨[], [], [], []⟩]⟩]
noncomputable def impl_hashFrom.l0 (N : Nat) (G1 : (List Int)) (o1 : ByteArray) (t1 : (List Int)) (t22 : Int) (p0 : (List Int)) : Option ((Unit × Unit) × ((List Int) × Unit)) :=
  loopK Tryz.prog impl_hashFrom.call impl_hashFrom.qt impl_hashFrom.H (codeAt (bodyOf Tryz.f72) [1, 1, 0, 1, 0, 0]) 1 impl_hashFrom.l0.hd impl_hashFrom.l0.outs [(0, .rows false (.int .u32) G1), (1, .v (.string o1)), (2, .rows false (.int .u32) t1)] N (((), (t22, ())), (p0, ()))
noncomputable def impl_hashFrom.l1.hd : Alt := ⟨.normal, [0, 2, 79], [11, 80], [.one (.apl 1 0 8), ak_i], [.rows (.int .u32), .rows (.int .u32)], [⟨[], [], [], []⟩]⟩
noncomputable def impl_hashFrom.l1.outs : List Alt := [⟨(.exit 2), [0], [11], [.one (.apl 1 0 8)], [.rows (.int .u32), .rows (.int .u32)], [⟨[], [], [], []⟩]⟩]
noncomputable def impl_hashFrom.l1 (N : Nat) (G2 : (List Int)) (t2 : (List Int)) (t79 : (List Int)) (t80 : Int) (p01 : (List Int)) (p1 : (List Int)) : Option ((Unit × Unit) × ((List Int) × ((List Int) × Unit))) :=
  loopK Tryz.prog impl_hashFrom.call impl_hashFrom.qt impl_hashFrom.H (codeAt (bodyOf Tryz.f72) [1, 1, 1, 1, 0, 1, 0, 0]) 2 impl_hashFrom.l1.hd impl_hashFrom.l1.outs [(0, .rows false (.int .u32) G2), (2, .rows false (.int .u32) t2), (79, .arr .u32 t79)] N (((), (t80, ())), (p01, (p1, ())))
noncomputable def impl_hashFrom.l2.hd : Alt := ⟨.normal, [0, 163], [18, 164], [.one (.own 2), ak_i], [.rows (.int .u32), .rows (.int .u32), .rows (.int .u32)], [⟨[(18, (.int .u32))], [], [], [2]⟩, ⟨[], [], [], [2]⟩]⟩
noncomputable def impl_hashFrom.l2.outs : List Alt := [⟨(.exit 4), [], [18], [.one (.own 2)], [.rows (.int .u32), .rows (.int .u32), .rows (.int .u32)], [⟨[], [], [], [2]⟩]⟩]
noncomputable def impl_hashFrom.l2 (N : Nat) (G3 : (List Int)) (t163 : (List Int)) (t164 : Int) (p02 : (List Int)) (p11 : (List Int)) (p2 : (List Int)) : Option ((Unit × Unit) × ((List Int) × ((List Int) × ((List Int) × Unit)))) :=
  loopK Tryz.prog impl_hashFrom.call impl_hashFrom.qt impl_hashFrom.H (codeAt (bodyOf Tryz.f72) [1, 1, 1, 1, 1, 1, 0, 1, 0, 0]) 2 impl_hashFrom.l2.hd impl_hashFrom.l2.outs [(0, .rows false (.int .u32) G3), (163, .arr .u32 t163)] N (((), (t164, ())), (p02, (p11, (p2, ()))))
noncomputable def impl_hashFrom (N : Nat) (G : (List Int)) (o : ByteArray) (t : (List Int)) : Option ((Unit × Unit) × ((List Int) × Unit)) :=
  ofFn Tryz.prog impl_hashFrom.call impl_hashFrom.qt impl_hashFrom.H N Tryz.f72 [.one (.sh (.rows (.int .u32))), ak_s, .one (.sh (.rows (.int .u32)))] [] [.one (.own 0)] [.rows (.int .u32)] [⟨[], [], [], [2]⟩] (G, (o, (t, ()))) ()
noncomputable def impl_hashFrom.S (N : Nat) : Say := ⟨false, 72, [.one (.sh (.rows (.int .u32))), ak_s, .one (.sh (.rows (.int .u32)))], [], [.one (.own 0)], [.rows (.int .u32)], fun a s => impl_hashFrom N a.1 a.2.1 a.2.2.1⟩
set_option maxRecDepth 100000 in
theorem impl_hashFrom.l2.eq (N : Nat) (G3 : (List Int)) (t163 : (List Int)) (t164 : Int) (p02 : (List Int)) (p11 : (List Int)) (p2 : (List Int)) : impl_hashFrom.l2 (N + 1) G3 t163 t164 p02 p11 p2 =
 sel (decide (t164 < 8))
  (
  chk ((decide (0 ≤ t164)) && ((decide (t164 < 8)) && (decide (t164 < (t163.length : Int))))) (
  chk ((decide (0 ≤ t164)) && (decide (t164 < (G3.length : Int)))) (
  chk (decide (p2.length + 1 < most)) (
  impl_hashFrom.l2 N G3 t163 (IntKind.i64.wrap (t164 + 1)) p02 p11 (p2 ++ [(IntKind.u32.wrap ((G3.getD (Int.toNat t164) 0) + (t163.getD (Int.toNat t164) 0)))])))))
  (
  some ((((), ()), (p02, (p11, (p2, ())))))) := by kernel_rfl
set_option maxRecDepth 100000 in
theorem impl_hashFrom.l1.eq (N : Nat) (G2 : (List Int)) (t2 : (List Int)) (t79 : (List Int)) (t80 : Int) (p01 : (List Int)) (p1 : (List Int)) : impl_hashFrom.l1 (N + 1) G2 t2 t79 t80 p01 p1 =
 sel (decide (t80 < 64))
  (
  chk ((decide (0 ≤ t80)) && ((decide (t80 < 64)) && (decide (t80 < (t79.length : Int))))) (
  andK (impl_right N (p1.getD 4 0) 6) fun u8 =>
  andK (impl_right N (p1.getD 4 0) 11) fun u9 =>
  andK (impl_right N (p1.getD 4 0) 25) fun u10 =>
  chk ((decide (0 ≤ t80)) && (decide (t80 < (t2.length : Int)))) (
  andK (impl_right N (p1.getD 0 0) 2) fun u11 =>
  andK (impl_right N (p1.getD 0 0) 13) fun u12 =>
  andK (impl_right N (p1.getD 0 0) 22) fun u13 =>
  chk ((decide (p1.length = 8)) && true) (
  impl_hashFrom.l1 N G2 t2 t79 (IntKind.i64.wrap (t80 + 1)) p01 [(IntKind.u32.wrap ((IntKind.u32.wrap ((IntKind.u32.wrap ((IntKind.u32.wrap ((IntKind.u32.wrap ((p1.getD 7 0) + (Go.bits .xor .u32 (Go.bits .xor .u32 u8.1.1 u9.1.1) u10.1.1))) + (Go.bits .xor .u32 (Go.bits .and .u32 (p1.getD 4 0) (p1.getD 5 0)) (Go.bits .and .u32 (Go.bits .xor .u32 4294967295 (p1.getD 4 0)) (p1.getD 6 0))))) + (t2.getD (Int.toNat t80) 0))) + (t79.getD (Int.toNat t80) 0))) + (IntKind.u32.wrap ((Go.bits .xor .u32 (Go.bits .xor .u32 u11.1.1 u12.1.1) u13.1.1) + (Go.bits .xor .u32 (Go.bits .xor .u32 (Go.bits .and .u32 (p1.getD 0 0) (p1.getD 1 0)) (Go.bits .and .u32 (p1.getD 0 0) (p1.getD 2 0))) (Go.bits .and .u32 (p1.getD 1 0) (p1.getD 2 0))))))), (p1.getD 0 0), (p1.getD 1 0), (p1.getD 2 0), (IntKind.u32.wrap ((p1.getD 3 0) + (IntKind.u32.wrap ((IntKind.u32.wrap ((IntKind.u32.wrap ((IntKind.u32.wrap ((p1.getD 7 0) + (Go.bits .xor .u32 (Go.bits .xor .u32 u8.1.1 u9.1.1) u10.1.1))) + (Go.bits .xor .u32 (Go.bits .and .u32 (p1.getD 4 0) (p1.getD 5 0)) (Go.bits .and .u32 (Go.bits .xor .u32 4294967295 (p1.getD 4 0)) (p1.getD 6 0))))) + (t2.getD (Int.toNat t80) 0))) + (t79.getD (Int.toNat t80) 0))))), (p1.getD 4 0), (p1.getD 5 0), (p1.getD 6 0)]))))
  (
  some ((((), ()), (p01, (p1, ()))))) := by kernel_rfl
set_option maxRecDepth 100000 in
theorem impl_hashFrom.l0.eq (N : Nat) (G1 : (List Int)) (o1 : ByteArray) (t1 : (List Int)) (t22 : Int) (p0 : (List Int)) : impl_hashFrom.l0 (N + 1) G1 o1 t1 t22 p0 =
 sel (decide (t22 < 64))
  (
  andK (α := ((Unit × Unit) × ((List Int) × Unit))) (
   sel (decide (t22 < 16))
    (
    chk ((decide (0 ≤ (IntKind.i64.wrap (4 * t22)))) && ((decide ((IntKind.i64.wrap (4 * t22)) ≤ (IntKind.i64.wrap ((IntKind.i64.wrap (4 * t22)) + 4)))) && (decide ((IntKind.i64.wrap ((IntKind.i64.wrap (4 * t22)) + 4)) ≤ (o1.size : Int))))) (
    andK (impl_numberOf N (o1.extract (Int.toNat (IntKind.i64.wrap (4 * t22))) (Int.toNat (IntKind.i64.wrap ((IntKind.i64.wrap (4 * t22)) + 4))))) fun u1 =>
    chk ((decide (0 ≤ t22)) && (decide (t22 < 64))) (
    some ((((), ()), ((p0.set (0 + (Int.toNat t22)) (IntKind.u32.wrap u1.1.1)), ()))))))
    (
    chk ((decide (0 ≤ (IntKind.i64.wrap (t22 - 15)))) && (decide ((IntKind.i64.wrap (t22 - 15)) < 64))) (
    chk ((decide (0 ≤ (IntKind.i64.wrap (t22 - 2)))) && (decide ((IntKind.i64.wrap (t22 - 2)) < 64))) (
    chk ((decide (0 ≤ (IntKind.i64.wrap (t22 - 16)))) && (decide ((IntKind.i64.wrap (t22 - 16)) < 64))) (
    andK (impl_right N (p0.getD (0 + (Int.toNat (IntKind.i64.wrap (t22 - 15)))) 0) 7) fun u2 =>
    andK (impl_right N (p0.getD (0 + (Int.toNat (IntKind.i64.wrap (t22 - 15)))) 0) 18) fun u3 =>
    chk ((decide (0 ≤ (IntKind.i64.wrap (t22 - 7)))) && (decide ((IntKind.i64.wrap (t22 - 7)) < 64))) (
    andK (impl_right N (p0.getD (0 + (Int.toNat (IntKind.i64.wrap (t22 - 2)))) 0) 17) fun u4 =>
    andK (impl_right N (p0.getD (0 + (Int.toNat (IntKind.i64.wrap (t22 - 2)))) 0) 19) fun u5 =>
    chk ((decide (0 ≤ t22)) && (decide (t22 < 64))) (
    some ((((), ()), ((p0.set (0 + (Int.toNat t22)) (IntKind.u32.wrap ((IntKind.u32.wrap ((IntKind.u32.wrap ((p0.getD (0 + (Int.toNat (IntKind.i64.wrap (t22 - 16)))) 0) + (Go.bits .xor .u32 (Go.bits .xor .u32 u2.1.1 u3.1.1) (shrI .u32 (p0.getD (0 + (Int.toNat (IntKind.i64.wrap (t22 - 15)))) 0) 3)))) + (p0.getD (0 + (Int.toNat (IntKind.i64.wrap (t22 - 7)))) 0))) + (Go.bits .xor .u32 (Go.bits .xor .u32 u4.1.1 u5.1.1) (shrI .u32 (p0.getD (0 + (Int.toNat (IntKind.i64.wrap (t22 - 2)))) 0) 10))))), ())))))))))) fun j6 =>
  impl_hashFrom.l0 N G1 o1 t1 (IntKind.i64.wrap (t22 + 1)) j6.2.1)
  (
  some ((((), ()), (p0, ())))) := by kernel_rfl
set_option maxRecDepth 100000 in
theorem impl_hashFrom.eq (N : Nat) (G : (List Int)) (o : ByteArray) (t : (List Int)) : impl_hashFrom N G o t =
 chk ((decide ((List.replicate 64 (0 : Int)).length = 64)) && true) (
 andK (impl_hashFrom.l0 N G o t 0 [0, 0, 0, 0, 0, 0, 0, 0, 0, 0, 0, 0, 0, 0, 0, 0, 0, 0, 0, 0, 0, 0, 0, 0, 0, 0, 0, 0, 0, 0, 0, 0, 0, 0, 0, 0, 0, 0, 0, 0, 0, 0, 0, 0, 0, 0, 0, 0, 0, 0, 0, 0, 0, 0, 0, 0, 0, 0, 0, 0, 0, 0, 0, 0]) fun l7 =>
 chk (decide (8 ≤ G.length)) (
 chk ((decide ((List.replicate 8 (0 : Int)).length = 8)) && (decide ((G.take 8).length = 8))) (
 andK (impl_hashFrom.l1 N G t ((l7.2.1.drop 0).take 64) 0 l7.2.1 (G.take 8)) fun l14 =>
 andK (impl_hashFrom.l2 N G ((l14.2.2.1.drop 0).take 8) 0 l14.2.1 l14.2.2.1 []) fun l15 =>
 some (((), ()), (l15.2.2.2.1, ()))))) := by kernel_rfl
set_option maxRecDepth 100000 in
theorem impl_hashFrom.say (N : Nat) : SayOk Tryz.prog (impl_hashFrom.S N) := sayOk_mk (N := N) (H := impl_hashFrom.H) (preps := [⟨[], [], [], [2]⟩]) (l := impl_hashFrom.says) (fn := Tryz.f72) (c := bodyOf Tryz.f72)
  (by kernel_rfl) (by kernel_rfl) (by kernel_rfl) (by kernel_rfl) (by kernel_rfl) (by kernel_rfl) (by kernel_rfl)
  (fun N => SayAll.cons (impl_numberOf.say N) (SayAll.cons (impl_right.say N) (SayAll.nil))) (fun a s => by kernel_rfl)
noncomputable def impl_hashFrom.SB (N : Nat) : Say := impl_hashFrom.S N |>.lent
theorem impl_hashFrom.sayB (N : Nat) : SayOk Tryz.prog (impl_hashFrom.SB N) := (impl_hashFrom.say N).lent

/-! ### (*strings.Builder).copyCheck: function 96 -/
noncomputable def strings_Builder_copyCheck.H : Hints := hintsOf [(8000001, .alts [10])]
noncomputable def strings_Builder_copyCheck.says (N : Nat) : List Say := []
noncomputable def strings_Builder_copyCheck.call (N : Nat) : CallK := callBy (strings_Builder_copyCheck.says N)
noncomputable def strings_Builder_copyCheck.qt (N : Nat) : FuncId → List PV → Sig → Cl := qtBy (strings_Builder_copyCheck.says N)
noncomputable def strings_Builder_copyCheck (N : Nat) (p0_0 : Bool) (p1 : (List Int)) : Option (Unit × ((Bool × (Unit × Unit)) × ((List Int) × Unit))) :=
  ofFn Tryz.prog strings_Builder_copyCheck.call strings_Builder_copyCheck.qt strings_Builder_copyCheck.H N Tryz.f96 [.one (.ptr 0 0)] [.cells [.bp 0 89 5, .ot 1 5], .rows (.int .u8)] [] [.cells [.bp 0 89 5, .ot 1 5], .rows (.int .u8) true] [⟨[], [], [], []⟩] ((), ()) ((p0_0, ((), ())), (p1, ()))
noncomputable def strings_Builder_copyCheck.S (N : Nat) : Say := ⟨false, 96, [.one (.ptr 0 0)], [.cells [.bp 0 89 5, .ot 1 5], .rows (.int .u8)], [], [.cells [.bp 0 89 5, .ot 1 5], .rows (.int .u8) true], fun a s => strings_Builder_copyCheck N s.1.1 s.2.1⟩
set_option maxRecDepth 100000 in
theorem strings_Builder_copyCheck.eq (N : Nat) (p0_0 : Bool) (p1 : (List Int)) : strings_Builder_copyCheck N p0_0 p1 =
 sel (!p0_0)
  (
  some ((), ((true, ((), ())), (p1, ()))))
  (
  sel (!p0_0)
   (
   none)
   (
   some ((), ((p0_0, ((), ())), (p1, ()))))) := by kernel_rfl
set_option maxRecDepth 100000 in
theorem strings_Builder_copyCheck.say (N : Nat) : SayOk Tryz.prog (strings_Builder_copyCheck.S N) := sayOk_mk (N := N) (H := strings_Builder_copyCheck.H) (preps := [⟨[], [], [], []⟩]) (l := strings_Builder_copyCheck.says) (fn := Tryz.f96) (c := bodyOf Tryz.f96)
  (by kernel_rfl) (by kernel_rfl) (by kernel_rfl) (by kernel_rfl) (by kernel_rfl) (by kernel_rfl) (by kernel_rfl)
  (fun N => SayAll.nil) (fun a s => by kernel_rfl)

/-! ### (*strings.Builder).WriteString: function 73 -/
noncomputable def strings_Builder_WriteString.H : Hints := hintsOf []
noncomputable def strings_Builder_WriteString.says (N : Nat) : List Say := [strings_Builder_copyCheck.S N]
noncomputable def strings_Builder_WriteString.call (N : Nat) : CallK := callBy (strings_Builder_WriteString.says N)
noncomputable def strings_Builder_WriteString.qt (N : Nat) : FuncId → List PV → Sig → Cl := qtBy (strings_Builder_WriteString.says N)
noncomputable def strings_Builder_WriteString (N : Nat) (s : ByteArray) (p0_0 : Bool) (p1 : (List Int)) : Option ((Int × (Unit × Unit)) × ((Bool × (Unit × Unit)) × ((List Int) × Unit))) :=
  ofFn Tryz.prog strings_Builder_WriteString.call strings_Builder_WriteString.qt strings_Builder_WriteString.H N Tryz.f73 [.one (.ptr 0 0), ak_s] [.cells [.bp 0 89 5, .ot 1 5], .rows (.int .u8)] [ak_i, .any] [.cells [.bp 0 89 5, .ot 1 5], .rows (.int .u8)] [⟨[], [], [], []⟩] ((), (s, ())) ((p0_0, ((), ())), (p1, ()))
noncomputable def strings_Builder_WriteString.S (N : Nat) : Say := ⟨false, 73, [.one (.ptr 0 0), ak_s], [.cells [.bp 0 89 5, .ot 1 5], .rows (.int .u8)], [ak_i, .any], [.cells [.bp 0 89 5, .ot 1 5], .rows (.int .u8)], fun a s => strings_Builder_WriteString N a.2.1 s.1.1 s.2.1⟩
set_option maxRecDepth 100000 in
theorem strings_Builder_WriteString.eq (N : Nat) (s : ByteArray) (p0_0 : Bool) (p1 : (List Int)) : strings_Builder_WriteString N s p0_0 p1 =
 andK (strings_Builder_copyCheck N p0_0 p1) fun u1 =>
 chk ((decide (0 < (bytesL s).length)) && (decide (u1.2.2.1.length + (bytesL s).length < most))) (
 some (((s.size : Int), ((), ())), ((u1.2.1.1, ((), ())), ((u1.2.2.1 ++ (bytesL s)), ())))) := by kernel_rfl
set_option maxRecDepth 100000 in
theorem strings_Builder_WriteString.say (N : Nat) : SayOk Tryz.prog (strings_Builder_WriteString.S N) := sayOk_mk (N := N) (H := strings_Builder_WriteString.H) (preps := [⟨[], [], [], []⟩]) (l := strings_Builder_WriteString.says) (fn := Tryz.f73) (c := bodyOf Tryz.f73)
  (by kernel_rfl) (by kernel_rfl) (by kernel_rfl) (by kernel_rfl) (by kernel_rfl) (by kernel_rfl) (by kernel_rfl)
  (fun N => SayAll.cons (strings_Builder_copyCheck.say N) (SayAll.nil)) (fun a s => by kernel_rfl)

/-! ### (*strings.Builder).String: function 74 -/
noncomputable def strings_Builder_String.H : Hints := hintsOf []
noncomputable def strings_Builder_String.says (N : Nat) : List Say := []
noncomputable def strings_Builder_String.call (N : Nat) : CallK := callBy (strings_Builder_String.says N)
noncomputable def strings_Builder_String.qt (N : Nat) : FuncId → List PV → Sig → Cl := qtBy (strings_Builder_String.says N)
noncomputable def strings_Builder_String (N : Nat) (p0_0 : Bool) (p1 : (List Int)) : Option ((ByteArray × Unit) × ((Bool × (Unit × Unit)) × (Unit × Unit))) :=
  ofFn Tryz.prog strings_Builder_String.call strings_Builder_String.qt strings_Builder_String.H N Tryz.f74 [.one (.ptr 0 0)] [.cells [.bp 0 89 5, .ot 1 5], .rows (.int .u8)] [ak_s] [.cells [.bp 0 89 5, .any], .gone] [⟨[], [], [], []⟩] ((), ()) ((p0_0, ((), ())), (p1, ()))
noncomputable def strings_Builder_String.S (N : Nat) : Say := ⟨false, 74, [.one (.ptr 0 0)], [.cells [.bp 0 89 5, .ot 1 5], .rows (.int .u8)], [ak_s], [.cells [.bp 0 89 5, .any], .gone], fun a s => strings_Builder_String N s.1.1 s.2.1⟩
set_option maxRecDepth 100000 in
theorem strings_Builder_String.eq (N : Nat) (p0_0 : Bool) (p1 : (List Int)) : strings_Builder_String N p0_0 p1 =
 chk (decide (0 < p1.length)) (
 chk ((decide ((p1.length : Int) = (p1.length : Int))) && ((decide (0 < p1.length)) && (decide (p1.length ≤ 9223372036854775807)))) (
 some (((strL p1), ()), ((p0_0, ((), ())), ((), ()))))) := by kernel_rfl
set_option maxRecDepth 100000 in
theorem strings_Builder_String.say (N : Nat) : SayOk Tryz.prog (strings_Builder_String.S N) := sayOk_mk (N := N) (H := strings_Builder_String.H) (preps := [⟨[], [], [], []⟩]) (l := strings_Builder_String.says) (fn := Tryz.f74) (c := bodyOf Tryz.f74)
  (by kernel_rfl) (by kernel_rfl) (by kernel_rfl) (by kernel_rfl) (by kernel_rfl) (by kernel_rfl) (by kernel_rfl)
  (fun N => SayAll.nil) (fun a s => by kernel_rfl)

/-! ### loop.example/g00206/impl.sha: function 50 -/
noncomputable def impl_sha.H : Hints := hintsOf [(2000006, .loop ⟨.normal, [0], [4, 5, 6], [.one (.sh (.rows (.int .u32))), .one (.own 1), ak_i], [.gone, .rows (.int .u32)], [⟨[], [], [0], []⟩, ⟨[], [], [2], []⟩]⟩ [⟨(.exit 0), [], [4], [.one (.sh (.rows (.int .u32)))], [.gone, .rows (.int .u32)], [⟨[], [], [], []⟩]⟩]),
  (2000011, .loop ⟨.normal, [44, 45], [7, 46], [.one (.ptr 2 0), ak_i], [.gone, .rows (.int .u32), .cells [.bp 2 89 5, .ot 3 5], .rows (.int .u8)], [⟨[], [(2, (1, (.int .u8)))], [], [3]⟩, ⟨[], [], [], [3]⟩]⟩ [⟨(.exit 2), [], [7], [.one (.ptr 2 0)], [.gone, .rows (.int .u32), .cells [.bp 2 89 5, .ot 3 5], .rows (.int .u8)], [⟨[], [], [], [3]⟩]⟩])]
noncomputable def impl_sha.says (N : Nat) : List Say := [strings_Repeat.S N, impl_bigEndian.S N, impl_firstState.S N, impl_RoundWords.S N, impl_hashFrom.SB N, strings_Builder_WriteString.S N, strings_Builder_String.S N]
noncomputable def impl_sha.call (N : Nat) : CallK := callBy (impl_sha.says N)
noncomputable def impl_sha.qt (N : Nat) : FuncId → List PV → Sig → Cl := qtBy (impl_sha.says N)
noncomputable def impl_sha.l0.hd : Alt := ⟨.normal, [0], [4, 5, 6], [.one (.sh (.rows (.int .u32))), .one (.own 1), ak_i], [.gone, .rows (.int .u32)], [⟨[], [], [0], []⟩, ⟨[], [], [2], []⟩]⟩
noncomputable def impl_sha.l0.outs : List Alt := [⟨(.exit 0), [], [4], [.one (.sh (.rows (.int .u32)))], [.gone, .rows (.int .u32)], [⟨[], [], [], []⟩]⟩]
noncomputable def impl_sha.l0 (N : Nat) (s1 : ByteArray) (state : (List Int)) (i : Int) (p1 : (List Int)) : Option (((List Int) × Unit) × (Unit × ((List Int) × Unit))) :=
  loopK Tryz.prog impl_sha.call impl_sha.qt impl_sha.H (codeAt (bodyOf Tryz.f50) [1, 1, 1, 1, 1, 0, 1, 0, 0]) 2 impl_sha.l0.hd impl_sha.l0.outs [(0, .v (.string s1))] N ((state, ((), (i, ()))), ((), (p1, ())))
noncomputable def impl_sha.l1.hd : Alt := ⟨.normal, [44, 45], [7, 46], [.one (.ptr 2 0), ak_i], [.gone, .rows (.int .u32), .cells [.bp 2 89 5, .ot 3 5], .rows (.int .u8)], [⟨[], [(2, (1, (.int .u8)))], [], [3]⟩, ⟨[], [], [], [3]⟩]⟩
noncomputable def impl_sha.l1.outs : List Alt := [⟨(.exit 2), [], [7], [.one (.ptr 2 0)], [.gone, .rows (.int .u32), .cells [.bp 2 89 5, .ot 3 5], .rows (.int .u8)], [⟨[], [], [], [3]⟩]⟩]
noncomputable def impl_sha.l1 (N : Nat) (t44 : (List Int)) (t45 : Int) (t46 : Int) (p11 : (List Int)) (p2_0 : Bool) (p3 : (List Int)) : Option ((Unit × Unit) × (Unit × ((List Int) × ((Bool × (Unit × Unit)) × ((List Int) × Unit))))) :=
  loopK Tryz.prog impl_sha.call impl_sha.qt impl_sha.H (codeAt (bodyOf Tryz.f50) [1, 1, 1, 1, 1, 1, 1, 0, 1, 0, 0]) 3 impl_sha.l1.hd impl_sha.l1.outs [(44, .rows false (.int .u32) t44), (45, .v (.int .i64 t45))] N (((), (t46, ())), ((), (p11, ((p2_0, ((), ())), (p3, ())))))
noncomputable def impl_sha (N : Nat) (s : ByteArray) : Option ((ByteArray × Unit) × Unit) :=
  ofFn Tryz.prog impl_sha.call impl_sha.qt impl_sha.H N Tryz.f50 [ak_s] [] [ak_s] [] [⟨[], [], [], []⟩] (s, ()) ()
noncomputable def impl_sha.S (N : Nat) : Say := ⟨false, 50, [ak_s], [], [ak_s], [], fun a s => impl_sha N a.1⟩
set_option maxRecDepth 100000 in
theorem impl_sha.l1.eq (N : Nat) (t44 : (List Int)) (t45 : Int) (t46 : Int) (p11 : (List Int)) (p2_0 : Bool) (p3 : (List Int)) : impl_sha.l1 (N + 1) t44 t45 t46 p11 p2_0 p3 =
 sel (decide (t46 < t45))
  (
  chk ((decide (0 ≤ t46)) && (decide (t46 < (t44.length : Int)))) (
  andK (impl_bigEndian N (IntKind.u64.wrap (t44.getD (Int.toNat t46) 0)) 4) fun u7 =>
  andK (strings_Builder_WriteString N u7.1.1 p2_0 p3) fun u8 =>
  impl_sha.l1 N t44 t45 (IntKind.i64.wrap (t46 + 1)) p11 u8.2.1.1 u8.2.2.1))
  (
  some ((((), ()), ((), (p11, ((p2_0, ((), ())), (p3, ()))))))) := by kernel_rfl
set_option maxRecDepth 100000 in
theorem impl_sha.l0.eq (N : Nat) (s1 : ByteArray) (state : (List Int)) (i : Int) (p1 : (List Int)) : impl_sha.l0 (N + 1) s1 state i p1 =
 sel (decide (i < (s1.size : Int)))
  (
  chk ((decide (0 ≤ i)) && ((decide (i ≤ (IntKind.i64.wrap (i + 64)))) && (decide ((IntKind.i64.wrap (i + 64)) ≤ (s1.size : Int))))) (
  andK (impl_hashFrom N state (s1.extract (Int.toNat i) (Int.toNat (IntKind.i64.wrap (i + 64)))) p1) fun u5 =>
  impl_sha.l0 N s1 u5.2.1 (IntKind.i64.wrap (i + 64)) p1))
  (
  some (((state, ()), ((), (p1, ()))))) := by kernel_rfl
set_option maxRecDepth 100000 in
theorem impl_sha.eq (N : Nat) (s : ByteArray) : impl_sha N s =
 chk (decide (s.size + 1 ≤ 9223372036854775807)) (
 andK (strings_Repeat N (⟨#[0]⟩ : ByteArray) (Int.tmod (IntKind.i64.wrap (120 - (Int.tmod ((s ++ (⟨#[128]⟩ : ByteArray)).size : Int) 64))) 64)) fun u1 =>
 andK (impl_bigEndian N (IntKind.u64.wrap (IntKind.i64.wrap (8 * (s.size : Int)))) 8) fun u2 =>
 chk (decide (u1.1.1.size + u2.1.1.size ≤ 9223372036854775807)) (
 chk (decide ((s ++ (⟨#[128]⟩ : ByteArray)).size + (u1.1.1 ++ u2.1.1).size ≤ 9223372036854775807)) (
 andK (impl_firstState N) fun u3 =>
 andK (impl_RoundWords N) fun u4 =>
 andK (impl_sha.l0 N ((s ++ (⟨#[128]⟩ : ByteArray)) ++ (u1.1.1 ++ u2.1.1)) u3.2.1 0 u4.2.1) fun l6 =>
 andK (impl_sha.l1 N l6.1.1 (l6.1.1.length : Int) 0 l6.2.2.1 false []) fun l9 =>
 andK (strings_Builder_String N l9.2.2.2.1.1 l9.2.2.2.2.1) fun u10 =>
 some ((u10.1.1, ()), ())))) := by kernel_rfl
set_option maxRecDepth 100000 in
theorem impl_sha.say (N : Nat) : SayOk Tryz.prog (impl_sha.S N) := sayOk_mk (N := N) (H := impl_sha.H) (preps := [⟨[], [], [], []⟩]) (l := impl_sha.says) (fn := Tryz.f50) (c := bodyOf Tryz.f50)
  (by kernel_rfl) (by kernel_rfl) (by kernel_rfl) (by kernel_rfl) (by kernel_rfl) (by kernel_rfl) (by kernel_rfl)
  (fun N => SayAll.cons (strings_Repeat.say N) (SayAll.cons (impl_bigEndian.say N) (SayAll.cons (impl_firstState.say N) (SayAll.cons (impl_RoundWords.say N) (SayAll.cons (impl_hashFrom.sayB N) (SayAll.cons (strings_Builder_WriteString.say N) (SayAll.cons (strings_Builder_String.say N) (SayAll.nil)))))))) (fun a s => by kernel_rfl)

/-! ### loop.example/g00206/impl.score: function 26 -/
noncomputable def impl_score.H : Hints := hintsOf []
noncomputable def impl_score.says (N : Nat) : List Say := [impl_sha.S N, impl_numberOf.S N]
noncomputable def impl_score.call (N : Nat) : CallK := callBy (impl_score.says N)
noncomputable def impl_score.qt (N : Nat) : FuncId → List PV → Sig → Cl := qtBy (impl_score.says N)
noncomputable def impl_score (N : Nat) (backend : ByteArray) (key : ByteArray) : Option ((Int × Unit) × Unit) :=
  ofFn Tryz.prog impl_score.call impl_score.qt impl_score.H N Tryz.f26 [ak_s, ak_s] [] [ak_i] [] [⟨[], [], [], []⟩] (backend, (key, ())) ()
noncomputable def impl_score.S (N : Nat) : Say := ⟨false, 26, [ak_s, ak_s], [], [ak_i], [], fun a s => impl_score N a.1 a.2.1⟩
set_option maxRecDepth 100000 in
theorem impl_score.eq (N : Nat) (backend : ByteArray) (key : ByteArray) : impl_score N backend key =
 chk (decide (backend.size + 1 ≤ 9223372036854775807)) (
 chk (decide ((backend ++ (⟨#[0]⟩ : ByteArray)).size + key.size ≤ 9223372036854775807)) (
 andK (impl_sha N ((backend ++ (⟨#[0]⟩ : ByteArray)) ++ key)) fun u1 =>
 chk (decide (7 ≤ (u1.1.1.size : Int))) (
 andK (impl_numberOf N (u1.1.1.extract 0 7)) fun u2 =>
 some (((IntKind.i64.wrap u2.1.1), ()), ())))) := by kernel_rfl
set_option maxRecDepth 100000 in
theorem impl_score.say (N : Nat) : SayOk Tryz.prog (impl_score.S N) := sayOk_mk (N := N) (H := impl_score.H) (preps := [⟨[], [], [], []⟩]) (l := impl_score.says) (fn := Tryz.f26) (c := bodyOf Tryz.f26)
  (by kernel_rfl) (by kernel_rfl) (by kernel_rfl) (by kernel_rfl) (by kernel_rfl) (by kernel_rfl) (by kernel_rfl)
  (fun N => SayAll.cons (impl_sha.say N) (SayAll.cons (impl_numberOf.say N) (SayAll.nil))) (fun a s => by kernel_rfl)

/-! ### cmp.isNaN[int]: function 62 -/
noncomputable def cmp_isNaNint.H : Hints := hintsOf []
noncomputable def cmp_isNaNint.says (N : Nat) : List Say := []
noncomputable def cmp_isNaNint.call (N : Nat) : CallK := callBy (cmp_isNaNint.says N)
noncomputable def cmp_isNaNint.qt (N : Nat) : FuncId → List PV → Sig → Cl := qtBy (cmp_isNaNint.says N)
noncomputable def cmp_isNaNint (N : Nat) (x : Int) : Option ((Bool × Unit) × Unit) :=
  ofFn Tryz.prog cmp_isNaNint.call cmp_isNaNint.qt cmp_isNaNint.H N Tryz.f62 [ak_i] [] [ak_b] [] [⟨[], [], [], []⟩] (x, ()) ()
noncomputable def cmp_isNaNint.S (N : Nat) : Say := ⟨false, 62, [ak_i], [], [ak_b], [], fun a s => cmp_isNaNint N a.1⟩
set_option maxRecDepth 100000 in
theorem cmp_isNaNint.eq (N : Nat) (x : Int) : cmp_isNaNint N x =
 some (((!(decide (x = x))), ()), ()) := by kernel_rfl
set_option maxRecDepth 100000 in
theorem cmp_isNaNint.say (N : Nat) : SayOk Tryz.prog (cmp_isNaNint.S N) := sayOk_mk (N := N) (H := cmp_isNaNint.H) (preps := [⟨[], [], [], []⟩]) (l := cmp_isNaNint.says) (fn := Tryz.f62) (c := bodyOf Tryz.f62)
  (by kernel_rfl) (by kernel_rfl) (by kernel_rfl) (by kernel_rfl) (by kernel_rfl) (by kernel_rfl) (by kernel_rfl)
  (fun N => SayAll.nil) (fun a s => by kernel_rfl)

/-! ### cmp.Compare[int]: function 43 -/
noncomputable def cmp_Compareint.H : Hints := hintsOf []
noncomputable def cmp_Compareint.says (N : Nat) : List Say := [cmp_isNaNint.S N]
noncomputable def cmp_Compareint.call (N : Nat) : CallK := callBy (cmp_Compareint.says N)
noncomputable def cmp_Compareint.qt (N : Nat) : FuncId → List PV → Sig → Cl := qtBy (cmp_Compareint.says N)
noncomputable def cmp_Compareint (N : Nat) (x : Int) (y : Int) : Option ((Int × Unit) × Unit) :=
  ofFn Tryz.prog cmp_Compareint.call cmp_Compareint.qt cmp_Compareint.H N Tryz.f43 [ak_i, ak_i] [] [ak_i] [] [⟨[], [], [], []⟩] (x, (y, ())) ()
noncomputable def cmp_Compareint.S (N : Nat) : Say := ⟨false, 43, [ak_i, ak_i], [], [ak_i], [], fun a s => cmp_Compareint N a.1 a.2.1⟩
set_option maxRecDepth 100000 in
theorem cmp_Compareint.eq (N : Nat) (x : Int) (y : Int) : cmp_Compareint N x y =
 andK (cmp_isNaNint N x) fun u1 =>
 andK (cmp_isNaNint N y) fun u2 =>
 sel u1.1.1
  (
  sel u2.1.1
   (
   some ((0, ()), ()))
   (
   some (((-1), ()), ())))
  (
  sel u2.1.1
   (
   some ((1, ()), ()))
   (
   sel (decide (x < y))
    (
    some (((-1), ()), ()))
    (
    sel (decide (y < x))
     (
     some ((1, ()), ()))
     (
     some ((0, ()), ()))))) := by kernel_rfl
set_option maxRecDepth 100000 in
theorem cmp_Compareint.say (N : Nat) : SayOk Tryz.prog (cmp_Compareint.S N) := sayOk_mk (N := N) (H := cmp_Compareint.H) (preps := [⟨[], [], [], []⟩]) (l := cmp_Compareint.says) (fn := Tryz.f43) (c := bodyOf Tryz.f43)
  (by kernel_rfl) (by kernel_rfl) (by kernel_rfl) (by kernel_rfl) (by kernel_rfl) (by kernel_rfl) (by kernel_rfl)
  (fun N => SayAll.cons (cmp_isNaNint.say N) (SayAll.nil)) (fun a s => by kernel_rfl)

/-! ### loop.example/g00206/impl.ranked$1: function 42 -/
noncomputable def impl_ranked_1.H : Hints := hintsOf []
noncomputable def impl_ranked_1.says (N : Nat) : List Say := [impl_score.S N, cmp_Compareint.S N]
noncomputable def impl_ranked_1.call (N : Nat) : CallK := callBy (impl_ranked_1.says N)
noncomputable def impl_ranked_1.qt (N : Nat) : FuncId → List PV → Sig → Cl := qtBy (impl_ranked_1.says N)
noncomputable def impl_ranked_1 (N : Nat) (a : ByteArray) (b : ByteArray) (p0_0 : ByteArray) : Option ((Int × Unit) × ((ByteArray × Unit) × Unit)) :=
  ofFn Tryz.prog impl_ranked_1.call impl_ranked_1.qt impl_ranked_1.H N Tryz.f42 [ak_s, ak_s, .one (.ptr 0 0)] [.cells [ck_s]] [ak_i] [.cells [ck_s]] [⟨[], [], [], []⟩] (a, (b, ((), ()))) ((p0_0, ()), ())
noncomputable def impl_ranked_1.S (N : Nat) : Say := ⟨false, 42, [ak_s, ak_s, .one (.ptr 0 0)], [.cells [ck_s]], [ak_i], [.cells [ck_s]], fun a s => impl_ranked_1 N a.1 a.2.1 s.1.1⟩
set_option maxRecDepth 100000 in
theorem impl_ranked_1.eq (N : Nat) (a : ByteArray) (b : ByteArray) (p0_0 : ByteArray) : impl_ranked_1 N a b p0_0 =
 andK (impl_score N b p0_0) fun u1 =>
 andK (impl_score N a p0_0) fun u2 =>
 andK (cmp_Compareint N u1.1.1 u2.1.1) fun u3 =>
 some ((u3.1.1, ()), ((p0_0, ()), ())) := by kernel_rfl
set_option maxRecDepth 100000 in
theorem impl_ranked_1.say (N : Nat) : SayOk Tryz.prog (impl_ranked_1.S N) := sayOk_mk (N := N) (H := impl_ranked_1.H) (preps := [⟨[], [], [], []⟩]) (l := impl_ranked_1.says) (fn := Tryz.f42) (c := bodyOf Tryz.f42)
  (by kernel_rfl) (by kernel_rfl) (by kernel_rfl) (by kernel_rfl) (by kernel_rfl) (by kernel_rfl) (by kernel_rfl)
  (fun N => SayAll.cons (impl_score.say N) (SayAll.cons (cmp_Compareint.say N) (SayAll.nil))) (fun a s => by kernel_rfl)

/-! ### slices.insertionSortCmpFunc[string]: function 77 -/
noncomputable def slices_insertionSortCmpFuncstring.H : Hints := hintsOf [(5000004, .join [⟨.normal, [1, 2, 8, 9], [0, 3, 34], [.one (.own 0), .fn 42 [.ptr 1 0], ak_b], [.rows .str true, .cells [ck_s]], [⟨[], [], [], []⟩]⟩]),
  (2000004, .loop ⟨.normal, [1, 2, 8], [0, 3, 9], [.one (.own 0), .fn 42 [.ptr 1 0], ak_i], [.rows .str true, .cells [ck_s]], [⟨[], [], [], []⟩]⟩ [⟨(.exit 2), [1, 2, 8], [0, 3], [.one (.own 0), .fn 42 [.ptr 1 0]], [.rows .str true, .cells [ck_s]], [⟨[], [], [], []⟩]⟩]),
  (2000001, .loop ⟨.normal, [1, 2], [0, 3, 8], [.one (.own 0), .fn 42 [.ptr 1 0], ak_i], [.rows .str true, .cells [ck_s]], [⟨[], [], [], []⟩]⟩ [⟨(.exit 0), [], [], [], [.rows .str true, .cells [ck_s]], [⟨[], [], [], []⟩]⟩])]
noncomputable def slices_insertionSortCmpFuncstring.says (N : Nat) : List Say := [impl_ranked_1.S N]
noncomputable def slices_insertionSortCmpFuncstring.call (N : Nat) : CallK := callBy (slices_insertionSortCmpFuncstring.says N)
noncomputable def slices_insertionSortCmpFuncstring.qt (N : Nat) : FuncId → List PV → Sig → Cl := qtBy (slices_insertionSortCmpFuncstring.says N)
noncomputable def slices_insertionSortCmpFuncstring.l0.hd : Alt := ⟨.normal, [1, 2], [0, 3, 8], [.one (.own 0), .fn 42 [.ptr 1 0], ak_i], [.rows .str true, .cells [ck_s]], [⟨[], [], [], []⟩]⟩
noncomputable def slices_insertionSortCmpFuncstring.l0.outs : List Alt := [⟨(.exit 0), [], [], [], [.rows .str true, .cells [ck_s]], [⟨[], [], [], []⟩]⟩]
noncomputable def slices_insertionSortCmpFuncstring.l0 (N : Nat) (a1 : Int) (b1 : Int) (i : Int) (p01 : (List ByteArray)) (p1_01 : ByteArray) : Option (Unit × ((List ByteArray) × ((ByteArray × Unit) × Unit))) :=
  loopK Tryz.prog slices_insertionSortCmpFuncstring.call slices_insertionSortCmpFuncstring.qt slices_insertionSortCmpFuncstring.H (codeAt (bodyOf Tryz.f77) [1, 0, 0]) 2 slices_insertionSortCmpFuncstring.l0.hd slices_insertionSortCmpFuncstring.l0.outs [(1, .v (.int .i64 a1)), (2, .v (.int .i64 b1))] N (((), (((), ()), (i, ()))), (p01, ((p1_01, ()), ())))
noncomputable def slices_insertionSortCmpFuncstring.l1.hd : Alt := ⟨.normal, [1, 2, 8], [0, 3, 9], [.one (.own 0), .fn 42 [.ptr 1 0], ak_i], [.rows .str true, .cells [ck_s]], [⟨[], [], [], []⟩]⟩
noncomputable def slices_insertionSortCmpFuncstring.l1.outs : List Alt := [⟨(.exit 2), [1, 2, 8], [0, 3], [.one (.own 0), .fn 42 [.ptr 1 0]], [.rows .str true, .cells [ck_s]], [⟨[], [], [], []⟩]⟩]
noncomputable def slices_insertionSortCmpFuncstring.l1 (N : Nat) (a2 : Int) (b2 : Int) (i1 : Int) (j : Int) (p02 : (List ByteArray)) (p1_02 : ByteArray) : Option ((Unit × ((Unit × Unit) × Unit)) × ((List ByteArray) × ((ByteArray × Unit) × Unit))) :=
  loopK Tryz.prog slices_insertionSortCmpFuncstring.call slices_insertionSortCmpFuncstring.qt slices_insertionSortCmpFuncstring.H (codeAt (bodyOf Tryz.f77) [1, 0, 0, 1, 0, 0, 1, 0, 0]) 2 slices_insertionSortCmpFuncstring.l1.hd slices_insertionSortCmpFuncstring.l1.outs [(1, .v (.int .i64 a2)), (2, .v (.int .i64 b2)), (8, .v (.int .i64 i1))] N (((), (((), ()), (j, ()))), (p02, ((p1_02, ()), ())))
noncomputable def slices_insertionSortCmpFuncstring (N : Nat) (a : Int) (b : Int) (p0 : (List ByteArray)) (p1_0 : ByteArray) : Option (Unit × ((List ByteArray) × ((ByteArray × Unit) × Unit))) :=
  ofFn Tryz.prog slices_insertionSortCmpFuncstring.call slices_insertionSortCmpFuncstring.qt slices_insertionSortCmpFuncstring.H N Tryz.f77 [.one (.own 0), ak_i, ak_i, .fn 42 [.ptr 1 0]] [.rows .str, .cells [ck_s]] [] [.rows .str true, .cells [ck_s]] [⟨[], [], [], []⟩] ((), (a, (b, (((), ()), ())))) (p0, ((p1_0, ()), ()))
noncomputable def slices_insertionSortCmpFuncstring.S (N : Nat) : Say := ⟨false, 77, [.one (.own 0), ak_i, ak_i, .fn 42 [.ptr 1 0]], [.rows .str, .cells [ck_s]], [], [.rows .str true, .cells [ck_s]], fun a s => slices_insertionSortCmpFuncstring N a.2.1 a.2.2.1 s.1 s.2.1.1⟩
set_option maxRecDepth 100000 in
theorem slices_insertionSortCmpFuncstring.l1.eq (N : Nat) (a2 : Int) (b2 : Int) (i1 : Int) (j : Int) (p02 : (List ByteArray)) (p1_02 : ByteArray) : slices_insertionSortCmpFuncstring.l1 (N + 1) a2 b2 i1 j p02 p1_02 =
 andK (α := ((Unit × ((Unit × Unit) × (Bool × Unit))) × ((List ByteArray) × ((ByteArray × Unit) × Unit)))) (
  sel (decide (a2 < j))
   (
   chk ((decide (0 ≤ j)) && (decide (j < (p02.length : Int)))) (
   chk ((decide (0 ≤ (IntKind.i64.wrap (j - 1)))) && (decide ((IntKind.i64.wrap (j - 1)) < (p02.length : Int)))) (
   andK (impl_ranked_1 N (p02.getD (Int.toNat j) (⟨#[]⟩ : ByteArray)) (p02.getD (Int.toNat (IntKind.i64.wrap (j - 1))) (⟨#[]⟩ : ByteArray)) p1_02) fun u1 =>
   some ((((), (((), ()), ((decide (u1.1.1 < 0)), ()))), (p02, ((u1.2.1.1, ()), ())))))))
   (
   some ((((), (((), ()), (false, ()))), (p02, ((p1_02, ()), ())))))) fun j2 =>
 sel j2.1.2.2.1
  (
  chk ((decide (0 ≤ (IntKind.i64.wrap (j - 1)))) && (decide ((IntKind.i64.wrap (j - 1)) < (j2.2.1.length : Int)))) (
  chk ((decide (0 ≤ j)) && (decide (j < (j2.2.1.length : Int)))) (
  chk ((decide (0 ≤ j)) && (decide (j < (j2.2.1.length : Int)))) (
  chk ((decide (0 ≤ (IntKind.i64.wrap (j - 1)))) && (decide ((IntKind.i64.wrap (j - 1)) < ((j2.2.1.set (Int.toNat j) (j2.2.1.getD (Int.toNat (IntKind.i64.wrap (j - 1))) (⟨#[]⟩ : ByteArray))).length : Int)))) (
  slices_insertionSortCmpFuncstring.l1 N a2 b2 i1 (IntKind.i64.wrap (j - 1)) ((j2.2.1.set (Int.toNat j) (j2.2.1.getD (Int.toNat (IntKind.i64.wrap (j - 1))) (⟨#[]⟩ : ByteArray))).set (Int.toNat (IntKind.i64.wrap (j - 1))) (j2.2.1.getD (Int.toNat j) (⟨#[]⟩ : ByteArray))) j2.2.2.1.1)))))
  (
  some ((((), (((), ()), ())), (j2.2.1, ((j2.2.2.1.1, ()), ()))))) := by kernel_rfl
set_option maxRecDepth 100000 in
theorem slices_insertionSortCmpFuncstring.l0.eq (N : Nat) (a1 : Int) (b1 : Int) (i : Int) (p01 : (List ByteArray)) (p1_01 : ByteArray) : slices_insertionSortCmpFuncstring.l0 (N + 1) a1 b1 i p01 p1_01 =
 sel (decide (i < b1))
  (
  andK (slices_insertionSortCmpFuncstring.l1 N a1 b1 i i p01 p1_01) fun l3 =>
  slices_insertionSortCmpFuncstring.l0 N a1 b1 (IntKind.i64.wrap (i + 1)) l3.2.1 l3.2.2.1.1)
  (
  some (((), (p01, ((p1_01, ()), ()))))) := by kernel_rfl
set_option maxRecDepth 100000 in
theorem slices_insertionSortCmpFuncstring.eq (N : Nat) (a : Int) (b : Int) (p0 : (List ByteArray)) (p1_0 : ByteArray) : slices_insertionSortCmpFuncstring N a b p0 p1_0 =
 andK (slices_insertionSortCmpFuncstring.l0 N a b (IntKind.i64.wrap (a + 1)) p0 p1_0) fun l4 =>
 some ((), (l4.2.1, ((l4.2.2.1.1, ()), ()))) := by kernel_rfl
set_option maxRecDepth 100000 in
theorem slices_insertionSortCmpFuncstring.say (N : Nat) : SayOk Tryz.prog (slices_insertionSortCmpFuncstring.S N) := sayOk_mk (N := N) (H := slices_insertionSortCmpFuncstring.H) (preps := [⟨[], [], [], []⟩]) (l := slices_insertionSortCmpFuncstring.says) (fn := Tryz.f77) (c := bodyOf Tryz.f77)
  (by kernel_rfl) (by kernel_rfl) (by kernel_rfl) (by kernel_rfl) (by kernel_rfl) (by kernel_rfl) (by kernel_rfl)
  (fun N => SayAll.cons (impl_ranked_1.say N) (SayAll.nil)) (fun a s => by kernel_rfl)

/-! ### slices.stableCmpFunc[string]: function 61 -/
noncomputable def slices_stableCmpFuncstring.H : Hints := hintsOf [(2000002, .loop ⟨.normal, [1, 6], [0, 2, 7, 8], [.one (.own 0), .fn 42 [.ptr 1 0], ak_i, ak_i], [.rows .str true, .cells [ck_s]], [⟨[], [], [], []⟩]⟩ [⟨(.exit 0), [1, 6], [0, 2, 7], [.one (.own 0), .fn 42 [.ptr 1 0], ak_i], [.rows .str true, .cells [ck_s]], [⟨[], [], [], []⟩]⟩]),
  (2000009, .loop ⟨.normal, [1, 6], [0, 2, 7, 8], [.one (.own 0), .fn 42 [.ptr 1 0], ak_i, ak_i], [.rows .str true, .cells [ck_s]], [⟨[], [], [], []⟩]⟩ [⟨(.exit 4), [1, 6], [0, 2, 7], [.one (.own 0), .fn 42 [.ptr 1 0], ak_i], [.rows .str true, .cells [ck_s]], [⟨[], [], [], []⟩]⟩]),
  (2000007, .loop ⟨.normal, [1], [0, 2, 6], [.one (.own 0), .fn 42 [.ptr 1 0], ak_i], [.rows .str true, .cells [ck_s]], [⟨[], [], [], []⟩]⟩ [⟨(.exit 2), [], [], [], [.rows .str true, .cells [ck_s]], [⟨[], [], [], []⟩]⟩])]
noncomputable def slices_stableCmpFuncstring.says (N : Nat) : List Say := [slices_insertionSortCmpFuncstring.S N]
noncomputable def slices_stableCmpFuncstring.call (N : Nat) : CallK := callBy (slices_stableCmpFuncstring.says N)
noncomputable def slices_stableCmpFuncstring.qt (N : Nat) : FuncId → List PV → Sig → Cl := qtBy (slices_stableCmpFuncstring.says N)
noncomputable def slices_stableCmpFuncstring.l0.hd : Alt := ⟨.normal, [1, 6], [0, 2, 7, 8], [.one (.own 0), .fn 42 [.ptr 1 0], ak_i, ak_i], [.rows .str true, .cells [ck_s]], [⟨[], [], [], []⟩]⟩
noncomputable def slices_stableCmpFuncstring.l0.outs : List Alt := [⟨(.exit 0), [1, 6], [0, 2, 7], [.one (.own 0), .fn 42 [.ptr 1 0], ak_i], [.rows .str true, .cells [ck_s]], [⟨[], [], [], []⟩]⟩]
noncomputable def slices_stableCmpFuncstring.l0 (N : Nat) (n1 : Int) (a : Int) (b : Int) (p01 : (List ByteArray)) (p1_01 : ByteArray) : Option ((Unit × ((Unit × Unit) × (Int × Unit))) × ((List ByteArray) × ((ByteArray × Unit) × Unit))) :=
  loopK Tryz.prog slices_stableCmpFuncstring.call slices_stableCmpFuncstring.qt slices_stableCmpFuncstring.H (codeAt (bodyOf Tryz.f61) [1, 1, 0, 0, 0]) 2 slices_stableCmpFuncstring.l0.hd slices_stableCmpFuncstring.l0.outs [(1, .v (.int .i64 n1)), (6, .v (.int .i64 20))] N (((), (((), ()), (a, (b, ())))), (p01, ((p1_01, ()), ())))
noncomputable def slices_stableCmpFuncstring.l1.hd : Alt := ⟨.normal, [1], [0, 2, 6], [.one (.own 0), .fn 42 [.ptr 1 0], ak_i], [.rows .str true, .cells [ck_s]], [⟨[], [], [], []⟩]⟩
noncomputable def slices_stableCmpFuncstring.l1.outs : List Alt := [⟨(.exit 2), [], [], [], [.rows .str true, .cells [ck_s]], [⟨[], [], [], []⟩]⟩]
noncomputable def slices_stableCmpFuncstring.l1 (N : Nat) (n2 : Int) (blockSize : Int) (p02 : (List ByteArray)) (p1_02 : ByteArray) : Option (Unit × ((List ByteArray) × ((ByteArray × Unit) × Unit))) :=
  loopK Tryz.prog slices_stableCmpFuncstring.call slices_stableCmpFuncstring.qt slices_stableCmpFuncstring.H (codeAt (bodyOf Tryz.f61) [1, 1, 1, 1, 0, 0]) 2 slices_stableCmpFuncstring.l1.hd slices_stableCmpFuncstring.l1.outs [(1, .v (.int .i64 n2))] N (((), (((), ()), (blockSize, ()))), (p02, ((p1_02, ()), ())))
noncomputable def slices_stableCmpFuncstring.l2.hd : Alt := ⟨.normal, [1, 6], [0, 2, 7, 8], [.one (.own 0), .fn 42 [.ptr 1 0], ak_i, ak_i], [.rows .str true, .cells [ck_s]], [⟨[], [], [], []⟩]⟩
noncomputable def slices_stableCmpFuncstring.l2.outs : List Alt := [⟨(.exit 4), [1, 6], [0, 2, 7], [.one (.own 0), .fn 42 [.ptr 1 0], ak_i], [.rows .str true, .cells [ck_s]], [⟨[], [], [], []⟩]⟩]
noncomputable def slices_stableCmpFuncstring.l2 (N : Nat) (n3 : Int) (blockSize1 : Int) (a1 : Int) (b1 : Int) (p03 : (List ByteArray)) (p1_03 : ByteArray) : Option ((Unit × ((Unit × Unit) × (Int × Unit))) × ((List ByteArray) × ((ByteArray × Unit) × Unit))) :=
  loopK Tryz.prog slices_stableCmpFuncstring.call slices_stableCmpFuncstring.qt slices_stableCmpFuncstring.H (codeAt (bodyOf Tryz.f61) [1, 1, 1, 1, 0, 0, 1, 0, 1, 0, 0, 0]) 2 slices_stableCmpFuncstring.l2.hd slices_stableCmpFuncstring.l2.outs [(1, .v (.int .i64 n3)), (6, .v (.int .i64 blockSize1))] N (((), (((), ()), (a1, (b1, ())))), (p03, ((p1_03, ()), ())))
noncomputable def slices_stableCmpFuncstring (N : Nat) (n : Int) (p0 : (List ByteArray)) (p1_0 : ByteArray) : Option (Unit × ((List ByteArray) × ((ByteArray × Unit) × Unit))) :=
  ofFn Tryz.prog slices_stableCmpFuncstring.call slices_stableCmpFuncstring.qt slices_stableCmpFuncstring.H N Tryz.f61 [.one (.own 0), ak_i, .fn 42 [.ptr 1 0]] [.rows .str, .cells [ck_s]] [] [.rows .str true, .cells [ck_s]] [⟨[], [], [], []⟩] ((), (n, (((), ()), ()))) (p0, ((p1_0, ()), ()))
noncomputable def slices_stableCmpFuncstring.S (N : Nat) : Say := ⟨false, 61, [.one (.own 0), ak_i, .fn 42 [.ptr 1 0]], [.rows .str, .cells [ck_s]], [], [.rows .str true, .cells [ck_s]], fun a s => slices_stableCmpFuncstring N a.2.1 s.1 s.2.1.1⟩
set_option maxRecDepth 100000 in
theorem slices_stableCmpFuncstring.l2.eq (N : Nat) (n3 : Int) (blockSize1 : Int) (a1 : Int) (b1 : Int) (p03 : (List ByteArray)) (p1_03 : ByteArray) : slices_stableCmpFuncstring.l2 (N + 1) n3 blockSize1 a1 b1 p03 p1_03 =
 sel (decide (b1 ≤ n3))
  (
  none)
  (
  some ((((), (((), ()), (a1, ()))), (p03, ((p1_03, ()), ()))))) := by kernel_rfl
set_option maxRecDepth 100000 in
theorem slices_stableCmpFuncstring.l1.eq (N : Nat) (n2 : Int) (blockSize : Int) (p02 : (List ByteArray)) (p1_02 : ByteArray) : slices_stableCmpFuncstring.l1 (N + 1) n2 blockSize p02 p1_02 =
 sel (decide (blockSize < n2))
  (
  andK (slices_stableCmpFuncstring.l2 N n2 blockSize 0 (IntKind.i64.wrap (2 * blockSize)) p02 p1_02) fun l4 =>
  sel (decide ((IntKind.i64.wrap (l4.1.2.2.1 + blockSize)) < n2))
   (
   none)
   (
   slices_stableCmpFuncstring.l1 N n2 (IntKind.i64.wrap (blockSize * 2)) l4.2.1 l4.2.2.1.1))
  (
  some (((), (p02, ((p1_02, ()), ()))))) := by kernel_rfl
set_option maxRecDepth 100000 in
theorem slices_stableCmpFuncstring.l0.eq (N : Nat) (n1 : Int) (a : Int) (b : Int) (p01 : (List ByteArray)) (p1_01 : ByteArray) : slices_stableCmpFuncstring.l0 (N + 1) n1 a b p01 p1_01 =
 sel (decide (b ≤ n1))
  (
  andK (slices_insertionSortCmpFuncstring N a b p01 p1_01) fun u1 =>
  slices_stableCmpFuncstring.l0 N n1 b (IntKind.i64.wrap (b + 20)) u1.2.1 u1.2.2.1.1)
  (
  some ((((), (((), ()), (a, ()))), (p01, ((p1_01, ()), ()))))) := by kernel_rfl
set_option maxRecDepth 100000 in
theorem slices_stableCmpFuncstring.eq (N : Nat) (n : Int) (p0 : (List ByteArray)) (p1_0 : ByteArray) : slices_stableCmpFuncstring N n p0 p1_0 =
 andK (slices_stableCmpFuncstring.l0 N n 0 20 p0 p1_0) fun l2 =>
 andK (slices_insertionSortCmpFuncstring N l2.1.2.2.1 n l2.2.1 l2.2.2.1.1) fun u3 =>
 andK (slices_stableCmpFuncstring.l1 N n 20 u3.2.1 u3.2.2.1.1) fun l5 =>
 some ((), (l5.2.1, ((l5.2.2.1.1, ()), ()))) := by kernel_rfl
set_option maxRecDepth 100000 in
theorem slices_stableCmpFuncstring.say (N : Nat) : SayOk Tryz.prog (slices_stableCmpFuncstring.S N) := sayOk_mk (N := N) (H := slices_stableCmpFuncstring.H) (preps := [⟨[], [], [], []⟩]) (l := slices_stableCmpFuncstring.says) (fn := Tryz.f61) (c := bodyOf Tryz.f61)
  (by kernel_rfl) (by kernel_rfl) (by kernel_rfl) (by kernel_rfl) (by kernel_rfl) (by kernel_rfl) (by kernel_rfl)
  (fun N => SayAll.cons (slices_insertionSortCmpFuncstring.say N) (SayAll.nil)) (fun a s => by kernel_rfl)

/-! ### slices.SortStableFunc[[]string,string]: function 41 -/
noncomputable def slices_SortStableFuncstring_string.H : Hints := hintsOf []
noncomputable def slices_SortStableFuncstring_string.says (N : Nat) : List Say := [slices_stableCmpFuncstring.S N]
noncomputable def slices_SortStableFuncstring_string.call (N : Nat) : CallK := callBy (slices_SortStableFuncstring_string.says N)
noncomputable def slices_SortStableFuncstring_string.qt (N : Nat) : FuncId → List PV → Sig → Cl := qtBy (slices_SortStableFuncstring_string.says N)
noncomputable def slices_SortStableFuncstring_string (N : Nat) (p0 : (List ByteArray)) (p1_0 : ByteArray) : Option (Unit × ((List ByteArray) × ((ByteArray × Unit) × Unit))) :=
  ofFn Tryz.prog slices_SortStableFuncstring_string.call slices_SortStableFuncstring_string.qt slices_SortStableFuncstring_string.H N Tryz.f41 [.one (.own 0), .fn 42 [.ptr 1 0]] [.rows .str, .cells [ck_s]] [] [.rows .str true, .cells [ck_s]] [⟨[], [], [], []⟩] ((), (((), ()), ())) (p0, ((p1_0, ()), ()))
noncomputable def slices_SortStableFuncstring_string.S (N : Nat) : Say := ⟨false, 41, [.one (.own 0), .fn 42 [.ptr 1 0]], [.rows .str, .cells [ck_s]], [], [.rows .str true, .cells [ck_s]], fun a s => slices_SortStableFuncstring_string N s.1 s.2.1.1⟩
set_option maxRecDepth 100000 in
theorem slices_SortStableFuncstring_string.eq (N : Nat) (p0 : (List ByteArray)) (p1_0 : ByteArray) : slices_SortStableFuncstring_string N p0 p1_0 =
 andK (slices_stableCmpFuncstring N (p0.length : Int) p0 p1_0) fun u1 =>
 some ((), (u1.2.1, ((u1.2.2.1.1, ()), ()))) := by kernel_rfl
set_option maxRecDepth 100000 in
theorem slices_SortStableFuncstring_string.say (N : Nat) : SayOk Tryz.prog (slices_SortStableFuncstring_string.S N) := sayOk_mk (N := N) (H := slices_SortStableFuncstring_string.H) (preps := [⟨[], [], [], []⟩]) (l := slices_SortStableFuncstring_string.says) (fn := Tryz.f41) (c := bodyOf Tryz.f41)
  (by kernel_rfl) (by kernel_rfl) (by kernel_rfl) (by kernel_rfl) (by kernel_rfl) (by kernel_rfl) (by kernel_rfl)
  (fun N => SayAll.cons (slices_stableCmpFuncstring.say N) (SayAll.nil)) (fun a s => by kernel_rfl)

/-! ### loop.example/g00206/impl.ranked: function 21 -/
noncomputable def impl_ranked.H : Hints := hintsOf []
noncomputable def impl_ranked.says (N : Nat) : List Say := [slices_Clonestring_string.S N, slices_SortStableFuncstring_string.S N]
noncomputable def impl_ranked.call (N : Nat) : CallK := callBy (impl_ranked.says N)
noncomputable def impl_ranked.qt (N : Nat) : FuncId → List PV → Sig → Cl := qtBy (impl_ranked.says N)
noncomputable def impl_ranked (N : Nat) (l : (List ByteArray)) (key : ByteArray) : Option ((Unit × Unit) × ((List ByteArray) × Unit)) :=
  ofFn Tryz.prog impl_ranked.call impl_ranked.qt impl_ranked.H N Tryz.f21 [.one (.sh (.rows .str)), ak_s] [] [.one (.own 0)] [.rows .str] [⟨[], [], [], [1]⟩] (l, (key, ())) ()
noncomputable def impl_ranked.S (N : Nat) : Say := ⟨false, 21, [.one (.sh (.rows .str)), ak_s], [], [.one (.own 0)], [.rows .str], fun a s => impl_ranked N a.1 a.2.1⟩
set_option maxRecDepth 100000 in
theorem impl_ranked.eq (N : Nat) (l : (List ByteArray)) (key : ByteArray) : impl_ranked N l key =
 andK (slices_Clonestring_string N l) fun u1 =>
 andK (slices_SortStableFuncstring_string N u1.2.1 key) fun u2 =>
 some (((), ()), (u2.2.1, ())) := by kernel_rfl
set_option maxRecDepth 100000 in
theorem impl_ranked.say (N : Nat) : SayOk Tryz.prog (impl_ranked.S N) := sayOk_mk (N := N) (H := impl_ranked.H) (preps := [⟨[], [], [], [1]⟩]) (l := impl_ranked.says) (fn := Tryz.f21) (c := bodyOf Tryz.f21)
  (by kernel_rfl) (by kernel_rfl) (by kernel_rfl) (by kernel_rfl) (by kernel_rfl) (by kernel_rfl) (by kernel_rfl)
  (fun N => SayAll.cons (slices_Clonestring_string.say N) (SayAll.cons (slices_SortStableFuncstring_string.say N) (SayAll.nil))) (fun a s => by kernel_rfl)

/-! ### loop.example/g00206/impl.PickBackend: function 9 -/
noncomputable def impl_PickBackend.H : Hints := hintsOf [(5000001, .join [⟨.normal, [0, 1], [18], [ak_b], [], [⟨[], [], [], []⟩]⟩])]
noncomputable def impl_PickBackend.says (N : Nat) : List Say := [impl_GoodLive.S N, impl_keyOk.S N, impl_ranked.S N]
noncomputable def impl_PickBackend.call (N : Nat) : CallK := callBy (impl_PickBackend.says N)
noncomputable def impl_PickBackend.qt (N : Nat) : FuncId → List PV → Sig → Cl := qtBy (impl_PickBackend.says N)
noncomputable def impl_PickBackend (N : Nat) (l : (List ByteArray)) (key : ByteArray) : Option ((ByteArray × (Bool × Unit)) × Unit) :=
  ofFn Tryz.prog impl_PickBackend.call impl_PickBackend.qt impl_PickBackend.H N Tryz.f9 [.one (.sh (.rows .str)), ak_s] [] [ak_s, ak_b] [] [⟨[], [], [], []⟩] (l, (key, ())) ()
noncomputable def impl_PickBackend.S (N : Nat) : Say := ⟨false, 9, [.one (.sh (.rows .str)), ak_s], [], [ak_s, ak_b], [], fun a s => impl_PickBackend N a.1 a.2.1⟩
set_option maxRecDepth 100000 in
theorem impl_PickBackend.eq (N : Nat) (l : (List ByteArray)) (key : ByteArray) : impl_PickBackend N l key =
 andK (α := ((Bool × Unit) × Unit)) (
  andK (impl_GoodLive N l) fun u1 =>
  sel (!u1.1.1)
   (
   some (((true, ()), ())))
   (
   sel (decide ((l.length : Int) = 0))
    (
    some (((true, ()), ())))
    (
    andK (impl_keyOk N key) fun u2 =>
    some ((((!u2.1.1), ()), ()))))) fun j3 =>
 sel j3.1.1
  (
  some (((⟨#[]⟩ : ByteArray), (false, ())), ()))
  (
  andK (impl_ranked N l key) fun u4 =>
  chk (decide (0 < (u4.2.1.length : Int))) (
  some (((u4.2.1.getD 0 (⟨#[]⟩ : ByteArray)), (true, ())), ()))) := by kernel_rfl
set_option maxRecDepth 100000 in
theorem impl_PickBackend.say (N : Nat) : SayOk Tryz.prog (impl_PickBackend.S N) := sayOk_mk (N := N) (H := impl_PickBackend.H) (preps := [⟨[], [], [], []⟩]) (l := impl_PickBackend.says) (fn := Tryz.f9) (c := bodyOf Tryz.f9)
  (by kernel_rfl) (by kernel_rfl) (by kernel_rfl) (by kernel_rfl) (by kernel_rfl) (by kernel_rfl) (by kernel_rfl)
  (fun N => SayAll.cons (impl_GoodLive.say N) (SayAll.cons (impl_keyOk.say N) (SayAll.cons (impl_ranked.say N) (SayAll.nil)))) (fun a s => by kernel_rfl)
noncomputable def impl_PickBackend.SB (N : Nat) : Say := impl_PickBackend.S N |>.lent
theorem impl_PickBackend.sayB (N : Nat) : SayOk Tryz.prog (impl_PickBackend.SB N) := (impl_PickBackend.say N).lent

/-! ### loop.example/g00206/spec.l4Primes: function 63 -/
noncomputable def spec_l4Primes.H : Hints := hintsOf [(5000009, .join [⟨.normal, [0, 4, 15, 16], [3, 5, 14], [.one (.own 0), ak_b, .one (.own 0)], [.rows (.int .i64)], [⟨[], [], [], []⟩]⟩]),
  (2000007, .loop ⟨.normal, [0, 4, 15], [3, 5, 14, 16], [.one (.own 0), ak_b, .one (.own 0), ak_i], [.rows (.int .i64)], [⟨[], [], [], []⟩]⟩ [⟨(.exit 2), [0, 4], [3, 5], [.one (.own 0), ak_b], [.rows (.int .i64)], [⟨[], [], [], []⟩]⟩]),
  (4, .join [⟨.normal, [0, 4], [3], [.one (.own 0)], [.rows (.int .i64)], [⟨[], [], [], []⟩]⟩]),
  (2000003, .loop ⟨.normal, [0], [3, 4], [.one (.own 0), ak_i], [.rows (.int .i64)], [⟨[(3, (.int .i64))], [], [], [0]⟩, ⟨[], [], [], [0]⟩]⟩ [⟨(.exit 0), [], [3], [.one (.own 0)], [.rows (.int .i64)], [⟨[], [], [], [0]⟩]⟩])]
noncomputable def spec_l4Primes.says (N : Nat) : List Say := []
noncomputable def spec_l4Primes.call (N : Nat) : CallK := callBy (spec_l4Primes.says N)
noncomputable def spec_l4Primes.qt (N : Nat) : FuncId → List PV → Sig → Cl := qtBy (spec_l4Primes.says N)
noncomputable def spec_l4Primes.l0.hd : Alt := ⟨.normal, [0], [3, 4], [.one (.own 0), ak_i], [.rows (.int .i64)], [⟨[(3, (.int .i64))], [], [], [0]⟩, ⟨[], [], [], [0]⟩]⟩
noncomputable def spec_l4Primes.l0.outs : List Alt := [⟨(.exit 0), [], [3], [.one (.own 0)], [.rows (.int .i64)], [⟨[], [], [], [0]⟩]⟩]
noncomputable def spec_l4Primes.l0 (N : Nat) (n1 : Int) (p : Int) (p0 : (List Int)) : Option ((Unit × Unit) × ((List Int) × Unit)) :=
  loopK Tryz.prog spec_l4Primes.call spec_l4Primes.qt spec_l4Primes.H (codeAt (bodyOf Tryz.f63) [1, 1, 0, 1, 0, 0]) 0 spec_l4Primes.l0.hd spec_l4Primes.l0.outs [(0, .v (.int .i64 n1))] N (((), (p, ())), (p0, ()))
noncomputable def spec_l4Primes.l1.hd : Alt := ⟨.normal, [0, 4, 15], [3, 5, 14, 16], [.one (.own 0), ak_b, .one (.own 0), ak_i], [.rows (.int .i64)], [⟨[], [], [], []⟩]⟩
noncomputable def spec_l4Primes.l1.outs : List Alt := [⟨(.exit 2), [0, 4], [3, 5], [.one (.own 0), ak_b], [.rows (.int .i64)], [⟨[], [], [], []⟩]⟩]
noncomputable def spec_l4Primes.l1 (N : Nat) (n2 : Int) (p1 : Int) (t15 : Int) (prime : Bool) (t16 : Int) (p01 : (List Int)) : Option ((Unit × (Bool × Unit)) × ((List Int) × Unit)) :=
  loopK Tryz.prog spec_l4Primes.call spec_l4Primes.qt spec_l4Primes.H (codeAt (bodyOf Tryz.f63) [1, 1, 0, 1, 0, 0, 1, 0, 0, 1, 0, 1, 0, 0]) 1 spec_l4Primes.l1.hd spec_l4Primes.l1.outs [(0, .v (.int .i64 n2)), (4, .v (.int .i64 p1)), (15, .v (.int .i64 t15))] N (((), (prime, ((), (t16, ())))), (p01, ()))
noncomputable def spec_l4Primes (N : Nat) (n : Int) : Option ((Unit × Unit) × ((List Int) × Unit)) :=
  ofFn Tryz.prog spec_l4Primes.call spec_l4Primes.qt spec_l4Primes.H N Tryz.f63 [ak_i] [] [.one (.own 0)] [.rows (.int .i64)] [⟨[], [], [], [0]⟩] (n, ()) ()
noncomputable def spec_l4Primes.S (N : Nat) : Say := ⟨false, 63, [ak_i], [], [.one (.own 0)], [.rows (.int .i64)], fun a s => spec_l4Primes N a.1⟩
set_option maxRecDepth 100000 in
theorem spec_l4Primes.l1.eq (N : Nat) (n2 : Int) (p1 : Int) (t15 : Int) (prime : Bool) (t16 : Int) (p01 : (List Int)) : spec_l4Primes.l1 (N + 1) n2 p1 t15 prime t16 p01 =
 sel (decide (t16 < t15))
  (
  chk ((decide (0 ≤ t16)) && (decide (t16 < (p01.length : Int)))) (
  andK (α := ((Unit × (Bool × (Unit × Unit))) × ((List Int) × Unit))) (
   sel prime
    (
    chk ((p01.getD (Int.toNat t16) 0) != 0) (
    some ((((), ((!(decide ((Int.tmod p1 (p01.getD (Int.toNat t16) 0)) = 0))), ((), ()))), (p01, ())))))
    (
    some ((((), (false, ((), ()))), (p01, ()))))) fun j1 =>
  spec_l4Primes.l1 N n2 p1 t15 j1.1.2.1 (IntKind.i64.wrap (t16 + 1)) j1.2.1))
  (
  some ((((), (prime, ())), (p01, ())))) := by kernel_rfl
set_option maxRecDepth 100000 in
theorem spec_l4Primes.l0.eq (N : Nat) (n1 : Int) (p : Int) (p0 : (List Int)) : spec_l4Primes.l0 (N + 1) n1 p p0 =
 sel (decide ((p0.length : Int) < n1))
  (
  andK (α := ((Unit × Unit) × ((List Int) × Unit))) (
   andK (spec_l4Primes.l1 N n1 p (p0.length : Int) true 0 p0) fun l2 =>
   sel l2.1.2.1
    (
    chk (decide (l2.2.1.length + 1 < most)) (
    some ((((), ()), ((l2.2.1 ++ [p]), ())))))
    (
    some ((((), ()), (l2.2.1, ()))))) fun j3 =>
  spec_l4Primes.l0 N n1 (IntKind.i64.wrap (p + 1)) j3.2.1)
  (
  some ((((), ()), (p0, ())))) := by kernel_rfl
set_option maxRecDepth 100000 in
theorem spec_l4Primes.eq (N : Nat) (n : Int) : spec_l4Primes N n =
 andK (spec_l4Primes.l0 N n 2 []) fun l4 =>
 some (((), ()), (l4.2.1, ())) := by kernel_rfl
set_option maxRecDepth 100000 in
theorem spec_l4Primes.say (N : Nat) : SayOk Tryz.prog (spec_l4Primes.S N) := sayOk_mk (N := N) (H := spec_l4Primes.H) (preps := [⟨[], [], [], [0]⟩]) (l := spec_l4Primes.says) (fn := Tryz.f63) (c := bodyOf Tryz.f63)
  (by kernel_rfl) (by kernel_rfl) (by kernel_rfl) (by kernel_rfl) (by kernel_rfl) (by kernel_rfl) (by kernel_rfl)
  (fun N => SayAll.nil) (fun a s => by kernel_rfl)

/-! ### loop.example/g00206/spec.l4Times: function 99 -/
noncomputable def spec_l4Times.H : Hints := hintsOf [(2000007, .loop ⟨.normal, [0, 6, 7, 22, 23, 24, 29, 30], [5, 8, 31], [.one (.own 0), .one (.sh (.int .u64)), ak_i], [.rows (.int .u32)], [⟨[], [], [], []⟩]⟩ [⟨(.exit 2), [0, 6, 22, 23, 24], [5, 8], [.one (.own 0), .one (.sh (.int .u64))], [.rows (.int .u32)], [⟨[], [], [], []⟩]⟩]),
  (2000003, .loop ⟨.normal, [0, 22, 23], [5, 24], [.one (.own 0), ak_i], [.rows (.int .u32)], [⟨[], [], [], []⟩]⟩ [⟨(.exit 0), [], [5], [.one (.own 0)], [.rows (.int .u32)], [⟨[], [], [], []⟩]⟩])]
noncomputable def spec_l4Times.says (N : Nat) : List Say := []
noncomputable def spec_l4Times.call (N : Nat) : CallK := callBy (spec_l4Times.says N)
noncomputable def spec_l4Times.qt (N : Nat) : FuncId → List PV → Sig → Cl := qtBy (spec_l4Times.says N)
noncomputable def spec_l4Times.l0.hd : Alt := ⟨.normal, [0, 22, 23], [5, 24], [.one (.own 0), ak_i], [.rows (.int .u32)], [⟨[], [], [], []⟩]⟩
noncomputable def spec_l4Times.l0.outs : List Alt := [⟨(.exit 0), [], [5], [.one (.own 0)], [.rows (.int .u32)], [⟨[], [], [], []⟩]⟩]
noncomputable def spec_l4Times.l0 (N : Nat) (G1 : (List Int)) (t22 : (List Int)) (t24 : Int) (p0 : (List Int)) : Option ((Unit × Unit) × ((List Int) × Unit)) :=
  loopK Tryz.prog spec_l4Times.call spec_l4Times.qt spec_l4Times.H (codeAt (bodyOf Tryz.f99) [1, 1, 0, 1, 0, 0]) 1 spec_l4Times.l0.hd spec_l4Times.l0.outs [(0, .rows false (.int .u32) G1), (22, .rows true (.int .u64) t22), (23, .v (.int .i64 2))] N (((), (t24, ())), (p0, ()))
noncomputable def spec_l4Times.l1.hd : Alt := ⟨.normal, [0, 6, 7, 22, 23, 24, 29, 30], [5, 8, 31], [.one (.own 0), .one (.sh (.int .u64)), ak_i], [.rows (.int .u32)], [⟨[], [], [], []⟩]⟩
noncomputable def spec_l4Times.l1.outs : List Alt := [⟨(.exit 2), [0, 6, 22, 23, 24], [5, 8], [.one (.own 0), .one (.sh (.int .u64))], [.rows (.int .u32)], [⟨[], [], [], []⟩]⟩]
noncomputable def spec_l4Times.l1 (N : Nat) (G2 : (List Int)) (e : Int) (t : Int) (t221 : (List Int)) (t241 : Int) (t29 : (List Int)) (t30 : Int) (t1 : Int) (t31 : Int) (p01 : (List Int)) : Option ((Unit × (Int × Unit)) × ((List Int) × Unit)) :=
  loopK Tryz.prog spec_l4Times.call spec_l4Times.qt spec_l4Times.H (codeAt (bodyOf Tryz.f99) [1, 1, 0, 1, 0, 0, 1, 1, 0, 0, 1, 1, 0, 1, 0, 0]) 1 spec_l4Times.l1.hd spec_l4Times.l1.outs [(0, .rows false (.int .u32) G2), (6, .v (.int .i64 e)), (7, .v (.int .u64 t)), (22, .rows true (.int .u64) t221), (23, .v (.int .i64 2)), (24, .v (.int .i64 t241)), (29, .rows false (.int .u32) t29), (30, .v (.int .i64 t30))] N (((), (t1, (t31, ()))), (p01, ()))
noncomputable def spec_l4Times (N : Nat) (G : (List Int)) (o : Int) : Option ((Unit × Unit) × ((List Int) × Unit)) :=
  ofFn Tryz.prog spec_l4Times.call spec_l4Times.qt spec_l4Times.H N Tryz.f99 [.one (.sh (.rows (.int .u32))), ak_i] [] [.one (.own 0)] [.rows (.int .u32)] [⟨[], [], [], [0]⟩] (G, (o, ())) ()
noncomputable def spec_l4Times.S (N : Nat) : Say := ⟨false, 99, [.one (.sh (.rows (.int .u32))), ak_i], [], [.one (.own 0)], [.rows (.int .u32)], fun a s => spec_l4Times N a.1 a.2.1⟩
set_option maxRecDepth 100000 in
theorem spec_l4Times.l1.eq (N : Nat) (G2 : (List Int)) (e : Int) (t : Int) (t221 : (List Int)) (t241 : Int) (t29 : (List Int)) (t30 : Int) (t1 : Int) (t31 : Int) (p01 : (List Int)) : spec_l4Times.l1 (N + 1) G2 e t t221 t241 t29 t30 t1 t31 p01 =
 sel (decide (t31 < t30))
  (
  chk ((decide (0 ≤ t31)) && (decide (t31 < (t29.length : Int)))) (
  chk ((decide (0 ≤ (IntKind.i64.wrap (t31 + e)))) && (decide ((IntKind.i64.wrap (t31 + e)) < (p01.length : Int)))) (
  chk ((decide (0 ≤ (IntKind.i64.wrap (t31 + e)))) && (decide ((IntKind.i64.wrap (t31 + e)) < (p01.length : Int)))) (
  spec_l4Times.l1 N G2 e t t221 t241 t29 t30 (shrI .u64 (IntKind.u64.wrap ((IntKind.u64.wrap ((IntKind.u64.wrap ((IntKind.u64.wrap (t29.getD (Int.toNat t31) 0)) * t)) + (IntKind.u64.wrap (p01.getD (Int.toNat (IntKind.i64.wrap (t31 + e))) 0)))) + t1)) 32) (IntKind.i64.wrap (t31 + 1)) (p01.set (Int.toNat (IntKind.i64.wrap (t31 + e))) (IntKind.u32.wrap (IntKind.u64.wrap ((IntKind.u64.wrap ((IntKind.u64.wrap ((IntKind.u64.wrap (t29.getD (Int.toNat t31) 0)) * t)) + (IntKind.u64.wrap (p01.getD (Int.toNat (IntKind.i64.wrap (t31 + e))) 0)))) + t1))))))))
  (
  some ((((), (t1, ())), (p01, ())))) := by kernel_rfl
set_option maxRecDepth 100000 in
theorem spec_l4Times.l0.eq (N : Nat) (G1 : (List Int)) (t22 : (List Int)) (t24 : Int) (p0 : (List Int)) : spec_l4Times.l0 (N + 1) G1 t22 t24 p0 =
 sel (decide (t24 < 2))
  (
  chk ((decide (0 ≤ t24)) && (decide (t24 < (t22.length : Int)))) (
  andK (spec_l4Times.l1 N G1 t24 (t22.getD (Int.toNat t24) 0) t22 t24 G1 (G1.length : Int) 0 0 p0) fun l1 =>
  chk ((decide (0 ≤ (IntKind.i64.wrap ((G1.length : Int) + t24)))) && (decide ((IntKind.i64.wrap ((G1.length : Int) + t24)) < (l1.2.1.length : Int)))) (
  chk ((decide (0 ≤ (IntKind.i64.wrap ((G1.length : Int) + t24)))) && (decide ((IntKind.i64.wrap ((G1.length : Int) + t24)) < (l1.2.1.length : Int)))) (
  spec_l4Times.l0 N G1 t22 (IntKind.i64.wrap (t24 + 1)) (l1.2.1.set (Int.toNat (IntKind.i64.wrap ((G1.length : Int) + t24))) (IntKind.u32.wrap ((l1.2.1.getD (Int.toNat (IntKind.i64.wrap ((G1.length : Int) + t24))) 0) + (IntKind.u32.wrap l1.1.2.1))))))))
  (
  some ((((), ()), (p0, ())))) := by kernel_rfl
set_option maxRecDepth 100000 in
theorem spec_l4Times.eq (N : Nat) (G : (List Int)) (o : Int) : spec_l4Times N G o =
 chk ((decide (0 ≤ (IntKind.i64.wrap ((G.length : Int) + 2)))) && ((smallI (IntKind.i64.wrap ((G.length : Int) + 2))) && (decide ((IntKind.i64.wrap ((G.length : Int) + 2)) = (IntKind.i64.wrap ((G.length : Int) + 2)))))) (
 andK (spec_l4Times.l0 N G [(Go.bits .and .u64 (IntKind.u64.wrap o) 4294967295), (shrI .u64 (IntKind.u64.wrap o) 32)] 0 (List.replicate (Int.toNat (IntKind.i64.wrap ((G.length : Int) + 2))) (0 : Int))) fun l2 =>
 some (((), ()), (l2.2.1, ()))) := by kernel_rfl
set_option maxRecDepth 100000 in
theorem spec_l4Times.say (N : Nat) : SayOk Tryz.prog (spec_l4Times.S N) := sayOk_mk (N := N) (H := spec_l4Times.H) (preps := [⟨[], [], [], [0]⟩]) (l := spec_l4Times.says) (fn := Tryz.f99) (c := bodyOf Tryz.f99)
  (by kernel_rfl) (by kernel_rfl) (by kernel_rfl) (by kernel_rfl) (by kernel_rfl) (by kernel_rfl) (by kernel_rfl)
  (fun N => SayAll.nil) (fun a s => by kernel_rfl)
noncomputable def spec_l4Times.SB (N : Nat) : Say := spec_l4Times.S N |>.lent
theorem spec_l4Times.sayB (N : Nat) : SayOk Tryz.prog (spec_l4Times.SB N) := (spec_l4Times.say N).lent

/-! ### loop.example/g00206/spec.l4Fits: function 79 -/
noncomputable def spec_l4Fits.H : Hints := hintsOf [(2000003, .loop ⟨.normal, [0, 1, 2], [7, 8], [.one (.own 1), ak_i], [.gone, .rows (.int .u32)], [⟨[], [], [], [0]⟩, ⟨[], [], [], [2]⟩]⟩ [⟨(.exit 0), [1, 2], [7], [.one (.own 1)], [.gone, .rows (.int .u32)], [⟨[], [], [], [1]⟩]⟩]),
  (2000008, .loop ⟨.normal, [], [7, 9], [.one (.own 1), .one (.own 2)], [.gone, .rows (.int .u32), .rows (.int .u32)], [⟨[], [], [], []⟩]⟩ [⟨(.exit 2), [], [7, 9], [.one (.own 1), .one (.own 2)], [.gone, .rows (.int .u32), .rows (.int .u32)], [⟨[], [], [], []⟩]⟩]),
  (16, .join [⟨.normal, [10], [7, 9, 11], [.one (.own 1), .one (.own 2), .one (.sh (.int .u32))], [.gone, .rows (.int .u32), .rows (.int .u32)], [⟨[], [], [], []⟩]⟩]),
  (2000011, .loop ⟨.normal, [], [7, 9, 10], [.one (.own 1), .one (.own 2), ak_i], [.gone, .rows (.int .u32), .rows (.int .u32)], [⟨[], [], [], []⟩]⟩ [⟨.ret, [], [6], [ak_b], [.gone, .rows (.int .u32), .rows (.int .u32)], [⟨[], [], [], []⟩]⟩, ⟨(.exit 4), [], [], [], [.gone, .rows (.int .u32), .rows (.int .u32)], [⟨[], [], [], []⟩]⟩]),
  (8000001, .alts [12]),
  (8000009, .alts [35])]
noncomputable def spec_l4Fits.says (N : Nat) : List Say := [spec_l4Times.SB N]
noncomputable def spec_l4Fits.call (N : Nat) : CallK := callBy (spec_l4Fits.says N)
noncomputable def spec_l4Fits.qt (N : Nat) : FuncId → List PV → Sig → Cl := qtBy (spec_l4Fits.says N)
noncomputable def spec_l4Fits.l0.hd : Alt := ⟨.normal, [0, 1, 2], [7, 8], [.one (.own 1), ak_i], [.gone, .rows (.int .u32)], [⟨[], [], [], [0]⟩, ⟨[], [], [], [2]⟩]⟩
noncomputable def spec_l4Fits.l0.outs : List Alt := [⟨(.exit 0), [1, 2], [7], [.one (.own 1)], [.gone, .rows (.int .u32)], [⟨[], [], [], [1]⟩]⟩]
noncomputable def spec_l4Fits.l0 (N : Nat) (m1 : Int) (p1 : Int) (power1 : Int) (k : Int) (p11 : (List Int)) : Option ((Unit × Unit) × (Unit × ((List Int) × Unit))) :=
  loopK Tryz.prog spec_l4Fits.call spec_l4Fits.qt spec_l4Fits.H (codeAt (bodyOf Tryz.f79) [1, 1, 0, 1, 0, 0]) 1 spec_l4Fits.l0.hd spec_l4Fits.l0.outs [(0, .v (.int .i64 m1)), (1, .v (.int .i64 p1)), (2, .v (.int .i64 power1))] N (((), (k, ())), ((), (p11, ())))
noncomputable def spec_l4Fits.l1.hd : Alt := ⟨.normal, [], [7, 9], [.one (.own 1), .one (.own 2)], [.gone, .rows (.int .u32), .rows (.int .u32)], [⟨[], [], [], []⟩]⟩
noncomputable def spec_l4Fits.l1.outs : List Alt := [⟨(.exit 2), [], [7, 9], [.one (.own 1), .one (.own 2)], [.gone, .rows (.int .u32), .rows (.int .u32)], [⟨[], [], [], []⟩]⟩]
noncomputable def spec_l4Fits.l1 (N : Nat) (p12 : (List Int)) (p2 : (List Int)) : Option ((Unit × (Unit × Unit)) × (Unit × ((List Int) × ((List Int) × Unit)))) :=
  loopK Tryz.prog spec_l4Fits.call spec_l4Fits.qt spec_l4Fits.H (codeAt (bodyOf Tryz.f79) [1, 1, 1, 1, 1, 0, 0, 0]) 3 spec_l4Fits.l1.hd spec_l4Fits.l1.outs [] N (((), ((), ())), ((), (p12, (p2, ()))))
noncomputable def spec_l4Fits.l2.hd : Alt := ⟨.normal, [], [7, 9, 10], [.one (.own 1), .one (.own 2), ak_i], [.gone, .rows (.int .u32), .rows (.int .u32)], [⟨[], [], [], []⟩]⟩
noncomputable def spec_l4Fits.l2.outs : List Alt := [⟨.ret, [], [6], [ak_b], [.gone, .rows (.int .u32), .rows (.int .u32)], [⟨[], [], [], []⟩]⟩, ⟨(.exit 4), [], [], [], [.gone, .rows (.int .u32), .rows (.int .u32)], [⟨[], [], [], []⟩]⟩]
noncomputable def spec_l4Fits.l2 (N : Nat) (i : Int) (p13 : (List Int)) (p21 : (List Int)) : Option (((Bool × Unit) × (Unit × ((List Int) × ((List Int) × Unit)))) ⊕ (Unit × (Unit × ((List Int) × ((List Int) × Unit))))) :=
  loopK Tryz.prog spec_l4Fits.call spec_l4Fits.qt spec_l4Fits.H (codeAt (bodyOf Tryz.f79) [1, 1, 1, 1, 1, 1, 0, 1, 0, 0]) 3 spec_l4Fits.l2.hd spec_l4Fits.l2.outs [] N (((), ((), (i, ()))), ((), (p13, (p21, ()))))
noncomputable def spec_l4Fits (N : Nat) (m : Int) (p : Int) (power : Int) : Option ((Bool × Unit) × Unit) :=
  ofFn Tryz.prog spec_l4Fits.call spec_l4Fits.qt spec_l4Fits.H N Tryz.f79 [ak_i, ak_i, ak_i] [] [ak_b] [] [⟨[], [], [], []⟩] (m, (p, (power, ()))) ()
noncomputable def spec_l4Fits.S (N : Nat) : Say := ⟨false, 79, [ak_i, ak_i, ak_i], [], [ak_b], [], fun a s => spec_l4Fits N a.1 a.2.1 a.2.2.1⟩
set_option maxRecDepth 100000 in
theorem spec_l4Fits.l2.eq (N : Nat) (i : Int) (p13 : (List Int)) (p21 : (List Int)) : spec_l4Fits.l2 (N + 1) i p13 p21 =
 sel (decide (0 ≤ i))
  (
  andK (α := ((Unit × (Unit × (Int × Unit))) × (Unit × ((List Int) × ((List Int) × Unit))))) (
   sel (decide (i < (p21.length : Int)))
    (
    chk ((decide (0 ≤ i)) && (decide (i < (p21.length : Int)))) (
    some ((((), ((), ((p21.getD (Int.toNat i) 0), ()))), ((), (p13, (p21, ())))))))
    (
    some ((((), ((), (0, ()))), ((), (p13, (p21, ()))))))) fun j4 =>
  chk ((decide (0 ≤ i)) && (decide (i < (j4.2.2.1.length : Int)))) (
  sel (!(decide ((j4.2.2.1.getD (Int.toNat i) 0) = j4.1.2.2.1)))
   (
   chk ((decide (0 ≤ i)) && (decide (i < (j4.2.2.1.length : Int)))) (
   some (.inl (((decide ((j4.2.2.1.getD (Int.toNat i) 0) < j4.1.2.2.1)), ()), ((), (j4.2.2.1, (j4.2.2.2.1, ())))))))
   (
   spec_l4Fits.l2 N (IntKind.i64.wrap (i - 1)) j4.2.2.1 j4.2.2.2.1)))
  (
  some (.inr (((), ((), (p13, (p21, ()))))))) := by kernel_rfl
set_option maxRecDepth 100000 in
theorem spec_l4Fits.l1.eq (N : Nat) (p12 : (List Int)) (p2 : (List Int)) : spec_l4Fits.l1 (N + 1) p12 p2 =
 sel (decide ((p12.length : Int) < (p2.length : Int)))
  (
  chk (decide (p12.length + 1 < most)) (
  spec_l4Fits.l1 N (p12 ++ [0]) p2))
  (
  some ((((), ((), ())), ((), (p12, (p2, ())))))) := by kernel_rfl
set_option maxRecDepth 100000 in
theorem spec_l4Fits.l0.eq (N : Nat) (m1 : Int) (p1 : Int) (power1 : Int) (k : Int) (p11 : (List Int)) : spec_l4Fits.l0 (N + 1) m1 p1 power1 k p11 =
 sel (decide (k < power1))
  (
  andK (spec_l4Times N p11 m1) fun u1 =>
  spec_l4Fits.l0 N m1 p1 power1 (IntKind.i64.wrap (k + 1)) u1.2.1)
  (
  some ((((), ()), ((), (p11, ()))))) := by kernel_rfl
set_option maxRecDepth 100000 in
theorem spec_l4Fits.eq (N : Nat) (m : Int) (p : Int) (power : Int) : spec_l4Fits N m p power =
 andK (spec_l4Fits.l0 N m p power 0 [1]) fun l2 =>
 chk ((decide (0 ≤ (IntKind.i64.wrap (power + 1)))) && ((smallI (IntKind.i64.wrap (power + 1))) && (decide ((IntKind.i64.wrap (power + 1)) = (IntKind.i64.wrap (power + 1)))))) (
 chk ((decide (0 ≤ power)) && (decide (power < ((List.replicate (Int.toNat (IntKind.i64.wrap (power + 1))) (0 : Int)).length : Int)))) (
 andK (spec_l4Fits.l1 N l2.2.2.1 ((List.replicate (Int.toNat (IntKind.i64.wrap (power + 1))) (0 : Int)).set (Int.toNat power) (IntKind.u32.wrap p))) fun l3 =>
 andK (spec_l4Fits.l2 N (IntKind.i64.wrap ((l3.2.2.1.length : Int) - 1)) l3.2.2.1 l3.2.2.2.1) fun l5 =>
 orK l5 (fun x6 =>
  some ((x6.1.1, ()), ()))
  (fun x7 =>
  some ((true, ()), ())))) := by kernel_rfl
set_option maxRecDepth 100000 in
theorem spec_l4Fits.say (N : Nat) : SayOk Tryz.prog (spec_l4Fits.S N) := sayOk_mk (N := N) (H := spec_l4Fits.H) (preps := [⟨[], [], [], []⟩]) (l := spec_l4Fits.says) (fn := Tryz.f79) (c := bodyOf Tryz.f79)
  (by kernel_rfl) (by kernel_rfl) (by kernel_rfl) (by kernel_rfl) (by kernel_rfl) (by kernel_rfl) (by kernel_rfl)
  (fun N => SayAll.cons (spec_l4Times.sayB N) (SayAll.nil)) (fun a s => by kernel_rfl)

/-! ### loop.example/g00206/spec.l4Root: function 64 -/
noncomputable def spec_l4Root.H : Hints := hintsOf [(4, .join [⟨.normal, [0, 1, 6], [5], [ak_i], [], [⟨[], [], [], []⟩]⟩]),
  (2000003, .loop ⟨.normal, [0, 1], [5, 6], [ak_i, ak_i], [], [⟨[], [], [], []⟩]⟩ [⟨(.exit 0), [], [5], [ak_i], [], [⟨[], [], [], []⟩]⟩])]
noncomputable def spec_l4Root.says (N : Nat) : List Say := [spec_l4Fits.S N]
noncomputable def spec_l4Root.call (N : Nat) : CallK := callBy (spec_l4Root.says N)
noncomputable def spec_l4Root.qt (N : Nat) : FuncId → List PV → Sig → Cl := qtBy (spec_l4Root.says N)
noncomputable def spec_l4Root.l0.hd : Alt := ⟨.normal, [0, 1], [5, 6], [ak_i, ak_i], [], [⟨[], [], [], []⟩]⟩
noncomputable def spec_l4Root.l0.outs : List Alt := [⟨(.exit 0), [], [5], [ak_i], [], [⟨[], [], [], []⟩]⟩]
noncomputable def spec_l4Root.l0 (N : Nat) (p1 : Int) (power1 : Int) (n : Int) (bit : Int) : Option ((Int × Unit) × Unit) :=
  loopK Tryz.prog spec_l4Root.call spec_l4Root.qt spec_l4Root.H (codeAt (bodyOf Tryz.f64) [1, 1, 0, 1, 0, 0]) 0 spec_l4Root.l0.hd spec_l4Root.l0.outs [(0, .v (.int .i64 p1)), (1, .v (.int .i64 power1))] N ((n, (bit, ())), ())
noncomputable def spec_l4Root (N : Nat) (p : Int) (power : Int) : Option ((Int × Unit) × Unit) :=
  ofFn Tryz.prog spec_l4Root.call spec_l4Root.qt spec_l4Root.H N Tryz.f64 [ak_i, ak_i] [] [.one (.sh (.int .u32))] [] [⟨[], [], [], []⟩] (p, (power, ())) ()
noncomputable def spec_l4Root.S (N : Nat) : Say := ⟨false, 64, [ak_i, ak_i], [], [.one (.sh (.int .u32))], [], fun a s => spec_l4Root N a.1 a.2.1⟩
set_option maxRecDepth 100000 in
theorem spec_l4Root.l0.eq (N : Nat) (p1 : Int) (power1 : Int) (n : Int) (bit : Int) : spec_l4Root.l0 (N + 1) p1 power1 n bit =
 sel (decide (0 ≤ bit))
  (
  andK (α := ((Int × Unit) × Unit)) (
   chk (decide (0 ≤ (IntKind.u64.wrap bit))) (
   andK (spec_l4Fits N (Go.bits .or .i64 n (shlI .i64 1 (IntKind.u64.wrap bit))) p1 power1) fun u1 =>
   sel u1.1.1
    (
    some ((((Go.bits .or .i64 n (shlI .i64 1 (IntKind.u64.wrap bit))), ()), ())))
    (
    some (((n, ()), ()))))) fun j2 =>
  spec_l4Root.l0 N p1 power1 j2.1.1 (IntKind.i64.wrap (bit - 1)))
  (
  some (((n, ()), ()))) := by kernel_rfl
set_option maxRecDepth 100000 in
theorem spec_l4Root.eq (N : Nat) (p : Int) (power : Int) : spec_l4Root N p power =
 andK (spec_l4Root.l0 N p power 0 36) fun l3 =>
 some (((IntKind.u32.wrap l3.1.1), ()), ()) := by kernel_rfl
set_option maxRecDepth 100000 in
theorem spec_l4Root.say (N : Nat) : SayOk Tryz.prog (spec_l4Root.S N) := sayOk_mk (N := N) (H := spec_l4Root.H) (preps := [⟨[], [], [], []⟩]) (l := spec_l4Root.says) (fn := Tryz.f64) (c := bodyOf Tryz.f64)
  (by kernel_rfl) (by kernel_rfl) (by kernel_rfl) (by kernel_rfl) (by kernel_rfl) (by kernel_rfl) (by kernel_rfl)
  (fun N => SayAll.cons (spec_l4Fits.say N) (SayAll.nil)) (fun a s => by kernel_rfl)

/-! ### loop.example/g00206/spec.l4Words: function 44 -/
noncomputable def spec_l4Words.H : Hints := hintsOf [(2000003, .loop ⟨.normal, [1, 10], [5, 9, 11], [.one (.own 1), .one (.own 0), ak_i], [.rows (.int .i64), .rows (.int .u32)], [⟨[(5, (.int .u32))], [], [], [1]⟩, ⟨[], [], [], [1]⟩]⟩ [⟨(.exit 0), [], [5], [.one (.own 1)], [.rows (.int .i64), .rows (.int .u32)], [⟨[], [], [], [1]⟩]⟩])]
noncomputable def spec_l4Words.says (N : Nat) : List Say := [spec_l4Primes.S N, spec_l4Root.S N]
noncomputable def spec_l4Words.call (N : Nat) : CallK := callBy (spec_l4Words.says N)
noncomputable def spec_l4Words.qt (N : Nat) : FuncId → List PV → Sig → Cl := qtBy (spec_l4Words.says N)
noncomputable def spec_l4Words.l0.hd : Alt := ⟨.normal, [1, 10], [5, 9, 11], [.one (.own 1), .one (.own 0), ak_i], [.rows (.int .i64), .rows (.int .u32)], [⟨[(5, (.int .u32))], [], [], [1]⟩, ⟨[], [], [], [1]⟩]⟩
noncomputable def spec_l4Words.l0.outs : List Alt := [⟨(.exit 0), [], [5], [.one (.own 1)], [.rows (.int .i64), .rows (.int .u32)], [⟨[], [], [], [1]⟩]⟩]
noncomputable def spec_l4Words.l0 (N : Nat) (power1 : Int) (t10 : Int) (t11 : Int) (p0 : (List Int)) (p1 : (List Int)) : Option ((Unit × Unit) × ((List Int) × ((List Int) × Unit))) :=
  loopK Tryz.prog spec_l4Words.call spec_l4Words.qt spec_l4Words.H (codeAt (bodyOf Tryz.f44) [1, 1, 0, 1, 0, 0]) 1 spec_l4Words.l0.hd spec_l4Words.l0.outs [(1, .v (.int .i64 power1)), (10, .v (.int .i64 t10))] N (((), ((), (t11, ()))), (p0, (p1, ())))
noncomputable def spec_l4Words (N : Nat) (n : Int) (power : Int) : Option ((Unit × Unit) × ((List Int) × Unit)) :=
  ofFn Tryz.prog spec_l4Words.call spec_l4Words.qt spec_l4Words.H N Tryz.f44 [ak_i, ak_i] [] [.one (.own 0)] [.rows (.int .u32)] [⟨[], [], [], [1]⟩] (n, (power, ())) ()
noncomputable def spec_l4Words.S (N : Nat) : Say := ⟨false, 44, [ak_i, ak_i], [], [.one (.own 0)], [.rows (.int .u32)], fun a s => spec_l4Words N a.1 a.2.1⟩
set_option maxRecDepth 100000 in
theorem spec_l4Words.l0.eq (N : Nat) (power1 : Int) (t10 : Int) (t11 : Int) (p0 : (List Int)) (p1 : (List Int)) : spec_l4Words.l0 (N + 1) power1 t10 t11 p0 p1 =
 sel (decide (t11 < t10))
  (
  chk ((decide (0 ≤ t11)) && (decide (t11 < (p0.length : Int)))) (
  andK (spec_l4Root N (p0.getD (Int.toNat t11) 0) power1) fun u2 =>
  chk (decide (p1.length + 1 < most)) (
  spec_l4Words.l0 N power1 t10 (IntKind.i64.wrap (t11 + 1)) p0 (p1 ++ [u2.1.1]))))
  (
  some ((((), ()), (p0, (p1, ()))))) := by kernel_rfl
set_option maxRecDepth 100000 in
theorem spec_l4Words.eq (N : Nat) (n : Int) (power : Int) : spec_l4Words N n power =
 andK (spec_l4Primes N n) fun u1 =>
 andK (spec_l4Words.l0 N power (u1.2.1.length : Int) 0 u1.2.1 []) fun l3 =>
 some (((), ()), (l3.2.2.1, ())) := by kernel_rfl
set_option maxRecDepth 100000 in
theorem spec_l4Words.say (N : Nat) : SayOk Tryz.prog (spec_l4Words.S N) := sayOk_mk (N := N) (H := spec_l4Words.H) (preps := [⟨[], [], [], [1]⟩]) (l := spec_l4Words.says) (fn := Tryz.f44) (c := bodyOf Tryz.f44)
  (by kernel_rfl) (by kernel_rfl) (by kernel_rfl) (by kernel_rfl) (by kernel_rfl) (by kernel_rfl) (by kernel_rfl)
  (fun N => SayAll.cons (spec_l4Primes.say N) (SayAll.cons (spec_l4Root.say N) (SayAll.nil))) (fun a s => by kernel_rfl)

/-! ### loop.example/g00206/spec.l1Fixed: function 65 -/
noncomputable def spec_l1Fixed.H : Hints := hintsOf [(2000003, .loop ⟨.normal, [0], [5, 6], [.one (.own 0), ak_i], [.rows (.int .u8)], [⟨[(5, (.int .u8))], [], [], [0]⟩, ⟨[], [], [], [0]⟩]⟩ [⟨(.exit 0), [], [5], [.one (.own 0)], [.rows (.int .u8)], [⟨[], [], [], [0]⟩]⟩])]
noncomputable def spec_l1Fixed.says (N : Nat) : List Say := []
noncomputable def spec_l1Fixed.call (N : Nat) : CallK := callBy (spec_l1Fixed.says N)
noncomputable def spec_l1Fixed.qt (N : Nat) : FuncId → List PV → Sig → Cl := qtBy (spec_l1Fixed.says N)
noncomputable def spec_l1Fixed.l0.hd : Alt := ⟨.normal, [0], [5, 6], [.one (.own 0), ak_i], [.rows (.int .u8)], [⟨[(5, (.int .u8))], [], [], [0]⟩, ⟨[], [], [], [0]⟩]⟩
noncomputable def spec_l1Fixed.l0.outs : List Alt := [⟨(.exit 0), [], [5], [.one (.own 0)], [.rows (.int .u8)], [⟨[], [], [], [0]⟩]⟩]
noncomputable def spec_l1Fixed.l0 (N : Nat) (n1 : Int) (k : Int) (p0 : (List Int)) : Option ((Unit × Unit) × ((List Int) × Unit)) :=
  loopK Tryz.prog spec_l1Fixed.call spec_l1Fixed.qt spec_l1Fixed.H (codeAt (bodyOf Tryz.f65) [1, 1, 0, 1, 0, 0]) 0 spec_l1Fixed.l0.hd spec_l1Fixed.l0.outs [(0, .v (.int .i64 n1))] N (((), (k, ())), (p0, ()))
noncomputable def spec_l1Fixed (N : Nat) (n : Int) (many : Int) : Option ((ByteArray × Unit) × Unit) :=
  ofFn Tryz.prog spec_l1Fixed.call spec_l1Fixed.qt spec_l1Fixed.H N Tryz.f65 [ak_i, ak_i] [] [ak_s] [] [⟨[], [], [], []⟩] (n, (many, ())) ()
noncomputable def spec_l1Fixed.S (N : Nat) : Say := ⟨false, 65, [ak_i, ak_i], [], [ak_s], [], fun a s => spec_l1Fixed N a.1 a.2.1⟩
set_option maxRecDepth 100000 in
theorem spec_l1Fixed.l0.eq (N : Nat) (n1 : Int) (k : Int) (p0 : (List Int)) : spec_l1Fixed.l0 (N + 1) n1 k p0 =
 sel (decide (0 ≤ k))
  (
  chk (decide (0 ≤ (IntKind.u64.wrap (IntKind.i64.wrap (8 * k))))) (
  chk (decide (p0.length + 1 < most)) (
  spec_l1Fixed.l0 N n1 (IntKind.i64.wrap (k - 1)) (p0 ++ [(IntKind.u8.wrap (shrI .i64 n1 (IntKind.u64.wrap (IntKind.i64.wrap (8 * k)))))]))))
  (
  some ((((), ()), (p0, ())))) := by kernel_rfl
set_option maxRecDepth 100000 in
theorem spec_l1Fixed.eq (N : Nat) (n : Int) (many : Int) : spec_l1Fixed N n many =
 andK (spec_l1Fixed.l0 N n (IntKind.i64.wrap (many - 1)) []) fun l1 =>
 some (((strL l1.2.1), ()), ()) := by kernel_rfl
set_option maxRecDepth 100000 in
theorem spec_l1Fixed.say (N : Nat) : SayOk Tryz.prog (spec_l1Fixed.S N) := sayOk_mk (N := N) (H := spec_l1Fixed.H) (preps := [⟨[], [], [], []⟩]) (l := spec_l1Fixed.says) (fn := Tryz.f65) (c := bodyOf Tryz.f65)
  (by kernel_rfl) (by kernel_rfl) (by kernel_rfl) (by kernel_rfl) (by kernel_rfl) (by kernel_rfl) (by kernel_rfl)
  (fun N => SayAll.nil) (fun a s => by kernel_rfl)

/-! ### loop.example/g00206/spec.l1Big: function 45 -/
noncomputable def spec_l1Big.H : Hints := hintsOf [(2000003, .loop ⟨.normal, [0], [3, 4], [ak_i, ak_i], [], [⟨[], [], [], []⟩]⟩ [⟨(.exit 0), [], [3], [ak_i], [], [⟨[], [], [], []⟩]⟩])]
noncomputable def spec_l1Big.says (N : Nat) : List Say := []
noncomputable def spec_l1Big.call (N : Nat) : CallK := callBy (spec_l1Big.says N)
noncomputable def spec_l1Big.qt (N : Nat) : FuncId → List PV → Sig → Cl := qtBy (spec_l1Big.says N)
noncomputable def spec_l1Big.l0.hd : Alt := ⟨.normal, [0], [3, 4], [ak_i, ak_i], [], [⟨[], [], [], []⟩]⟩
noncomputable def spec_l1Big.l0.outs : List Alt := [⟨(.exit 0), [], [3], [ak_i], [], [⟨[], [], [], []⟩]⟩]
noncomputable def spec_l1Big.l0 (N : Nat) (s1 : ByteArray) (n : Int) (i : Int) : Option ((Int × Unit) × Unit) :=
  loopK Tryz.prog spec_l1Big.call spec_l1Big.qt spec_l1Big.H (codeAt (bodyOf Tryz.f45) [1, 1, 0, 1, 0, 0]) 0 spec_l1Big.l0.hd spec_l1Big.l0.outs [(0, .v (.string s1))] N ((n, (i, ())), ())
noncomputable def spec_l1Big (N : Nat) (s : ByteArray) : Option ((Int × Unit) × Unit) :=
  ofFn Tryz.prog spec_l1Big.call spec_l1Big.qt spec_l1Big.H N Tryz.f45 [ak_s] [] [ak_i] [] [⟨[], [], [], []⟩] (s, ()) ()
noncomputable def spec_l1Big.S (N : Nat) : Say := ⟨false, 45, [ak_s], [], [ak_i], [], fun a s => spec_l1Big N a.1⟩
set_option maxRecDepth 100000 in
theorem spec_l1Big.l0.eq (N : Nat) (s1 : ByteArray) (n : Int) (i : Int) : spec_l1Big.l0 (N + 1) s1 n i =
 sel (decide (i < (s1.size : Int)))
  (
  chk ((decide (0 ≤ i)) && (decide (i < (s1.size : Int)))) (
  spec_l1Big.l0 N s1 (Go.bits .or .i64 (shlI .i64 n 8) (IntKind.i64.wrap ((bytesL s1).getD (Int.toNat i) 0))) (IntKind.i64.wrap (i + 1))))
  (
  some (((n, ()), ()))) := by kernel_rfl
set_option maxRecDepth 100000 in
theorem spec_l1Big.eq (N : Nat) (s : ByteArray) : spec_l1Big N s =
 andK (spec_l1Big.l0 N s 0 0) fun l1 =>
 some ((l1.1.1, ()), ()) := by kernel_rfl
set_option maxRecDepth 100000 in
theorem spec_l1Big.say (N : Nat) : SayOk Tryz.prog (spec_l1Big.S N) := sayOk_mk (N := N) (H := spec_l1Big.H) (preps := [⟨[], [], [], []⟩]) (l := spec_l1Big.says) (fn := Tryz.f45) (c := bodyOf Tryz.f45)
  (by kernel_rfl) (by kernel_rfl) (by kernel_rfl) (by kernel_rfl) (by kernel_rfl) (by kernel_rfl) (by kernel_rfl)
  (fun N => SayAll.nil) (fun a s => by kernel_rfl)

/-! ### loop.example/g00206/spec.l4Right: function 80 -/
noncomputable def spec_l4Right.H : Hints := hintsOf []
noncomputable def spec_l4Right.says (N : Nat) : List Say := []
noncomputable def spec_l4Right.call (N : Nat) : CallK := callBy (spec_l4Right.says N)
noncomputable def spec_l4Right.qt (N : Nat) : FuncId → List PV → Sig → Cl := qtBy (spec_l4Right.says N)
noncomputable def spec_l4Right (N : Nat) (x : Int) (n : Int) : Option ((Int × Unit) × Unit) :=
  ofFn Tryz.prog spec_l4Right.call spec_l4Right.qt spec_l4Right.H N Tryz.f80 [.one (.sh (.int .u32)), .one (.sh (.int .u64))] [] [.one (.sh (.int .u32))] [] [⟨[], [], [], []⟩] (x, (n, ())) ()
noncomputable def spec_l4Right.S (N : Nat) : Say := ⟨false, 80, [.one (.sh (.int .u32)), .one (.sh (.int .u64))], [], [.one (.sh (.int .u32))], [], fun a s => spec_l4Right N a.1 a.2.1⟩
set_option maxRecDepth 100000 in
theorem spec_l4Right.eq (N : Nat) (x : Int) (n : Int) : spec_l4Right N x n =
 chk (decide (0 ≤ n)) (
 chk (decide (0 ≤ (IntKind.u64.wrap (32 - n)))) (
 some (((Go.bits .or .u32 (shrI .u32 x n) (shlI .u32 x (IntKind.u64.wrap (32 - n)))), ()), ()))) := by kernel_rfl
set_option maxRecDepth 100000 in
theorem spec_l4Right.say (N : Nat) : SayOk Tryz.prog (spec_l4Right.S N) := sayOk_mk (N := N) (H := spec_l4Right.H) (preps := [⟨[], [], [], []⟩]) (l := spec_l4Right.says) (fn := Tryz.f80) (c := bodyOf Tryz.f80)
  (by kernel_rfl) (by kernel_rfl) (by kernel_rfl) (by kernel_rfl) (by kernel_rfl) (by kernel_rfl) (by kernel_rfl)
  (fun N => SayAll.nil) (fun a s => by kernel_rfl)

/-! ### loop.example/g00206/spec.l4Round: function 66 -/
noncomputable def spec_l4Round.H : Hints := hintsOf [(4, .join [⟨.normal, [0, 1, 2, 8], [7], [.one (.own 0)], [.rows (.int .u32)], [⟨[], [], [], []⟩]⟩]),
  (2000003, .loop ⟨.normal, [0, 1, 2], [7, 8], [.one (.own 0), ak_i], [.rows (.int .u32)], [⟨[(7, (.int .u32))], [], [], [0]⟩, ⟨[], [], [], [0]⟩]⟩ [⟨(.exit 0), [0, 1], [7], [.one (.own 0)], [.rows (.int .u32)], [⟨[], [], [], [0]⟩]⟩]),
  (2000012, .loop ⟨.normal, [0, 1], [7, 11, 12], [.one (.own 0), .one (.own 2), ak_i], [.rows (.int .u32), .gone, .rows (.int .u32)], [⟨[], [], [], [1]⟩, ⟨[], [], [], [3]⟩]⟩ [⟨(.exit 2), [0], [11], [.one (.own 2)], [.rows (.int .u32), .gone, .rows (.int .u32)], [⟨[], [], [], [2]⟩]⟩]),
  (2000020, .loop ⟨.normal, [0, 178], [11, 179], [.one (.own 2), ak_i], [.rows (.int .u32), .gone, .rows (.int .u32)], [⟨[], [], [], []⟩]⟩ [⟨(.exit 4), [], [11], [.one (.own 2)], [.rows (.int .u32), .gone, .rows (.int .u32)], [⟨[], [], [], []⟩]⟩]),
  (8000006, .alts [34]),
  (8000009, .alts [76]),
  (8000010, .alts [78]),
  (8000018, .alts [176])]
noncomputable def spec_l4Round.says (N : Nat) : List Say := [spec_l1Big.S N, spec_l4Right.S N]
noncomputable def spec_l4Round.call (N : Nat) : CallK := callBy (spec_l4Round.says N)
noncomputable def spec_l4Round.qt (N : Nat) : FuncId → List PV → Sig → Cl := qtBy (spec_l4Round.says N)
noncomputable def spec_l4Round.l0.hd : Alt := ⟨.normal, [0, 1, 2], [7, 8], [.one (.own 0), ak_i], [.rows (.int .u32)], [⟨[(7, (.int .u32))], [], [], [0]⟩, ⟨[], [], [], [0]⟩]⟩
noncomputable def spec_l4Round.l0.outs : List Alt := [⟨(.exit 0), [0, 1], [7], [.one (.own 0)], [.rows (.int .u32)], [⟨[], [], [], [0]⟩]⟩]
noncomputable def spec_l4Round.l0 (N : Nat) (G1 : (List Int)) (o1 : (List Int)) (t1 : ByteArray) (t2 : Int) (p0 : (List Int)) : Option ((Unit × Unit) × ((List Int) × Unit)) :=
  loopK Tryz.prog spec_l4Round.call spec_l4Round.qt spec_l4Round.H (codeAt (bodyOf Tryz.f66) [1, 1, 0, 1, 0, 0]) 0 spec_l4Round.l0.hd spec_l4Round.l0.outs [(0, .rows false (.int .u32) G1), (1, .rows false (.int .u32) o1), (2, .v (.string t1))] N (((), (t2, ())), (p0, ()))
noncomputable def spec_l4Round.l1.hd : Alt := ⟨.normal, [0, 1], [7, 11, 12], [.one (.own 0), .one (.own 2), ak_i], [.rows (.int .u32), .gone, .rows (.int .u32)], [⟨[], [], [], [1]⟩, ⟨[], [], [], [3]⟩]⟩
noncomputable def spec_l4Round.l1.outs : List Alt := [⟨(.exit 2), [0], [11], [.one (.own 2)], [.rows (.int .u32), .gone, .rows (.int .u32)], [⟨[], [], [], [2]⟩]⟩]
noncomputable def spec_l4Round.l1 (N : Nat) (G2 : (List Int)) (o2 : (List Int)) (r : Int) (p01 : (List Int)) (p2 : (List Int)) : Option ((Unit × Unit) × ((List Int) × (Unit × ((List Int) × Unit)))) :=
  loopK Tryz.prog spec_l4Round.call spec_l4Round.qt spec_l4Round.H (codeAt (bodyOf Tryz.f66) [1, 1, 1, 1, 0, 1, 0, 0]) 2 spec_l4Round.l1.hd spec_l4Round.l1.outs [(0, .rows false (.int .u32) G2), (1, .rows false (.int .u32) o2)] N (((), ((), (r, ()))), (p01, ((), (p2, ()))))
noncomputable def spec_l4Round.l2.hd : Alt := ⟨.normal, [0, 178], [11, 179], [.one (.own 2), ak_i], [.rows (.int .u32), .gone, .rows (.int .u32)], [⟨[], [], [], []⟩]⟩
noncomputable def spec_l4Round.l2.outs : List Alt := [⟨(.exit 4), [], [11], [.one (.own 2)], [.rows (.int .u32), .gone, .rows (.int .u32)], [⟨[], [], [], []⟩]⟩]
noncomputable def spec_l4Round.l2 (N : Nat) (G3 : (List Int)) (t178 : Int) (t179 : Int) (p02 : (List Int)) (p21 : (List Int)) : Option ((Unit × Unit) × ((List Int) × (Unit × ((List Int) × Unit)))) :=
  loopK Tryz.prog spec_l4Round.call spec_l4Round.qt spec_l4Round.H (codeAt (bodyOf Tryz.f66) [1, 1, 1, 1, 1, 0, 1, 0, 0]) 3 spec_l4Round.l2.hd spec_l4Round.l2.outs [(0, .rows false (.int .u32) G3), (178, .v (.int .i64 t178))] N (((), (t179, ())), (p02, ((), (p21, ()))))
noncomputable def spec_l4Round (N : Nat) (G : (List Int)) (o : (List Int)) (t : ByteArray) : Option ((Unit × Unit) × ((List Int) × Unit)) :=
  ofFn Tryz.prog spec_l4Round.call spec_l4Round.qt spec_l4Round.H N Tryz.f66 [.one (.sh (.rows (.int .u32))), .one (.sh (.rows (.int .u32))), ak_s] [] [.one (.own 0)] [.rows (.int .u32)] [⟨[], [], [], [2]⟩] (G, (o, (t, ()))) ()
noncomputable def spec_l4Round.S (N : Nat) : Say := ⟨false, 66, [.one (.sh (.rows (.int .u32))), .one (.sh (.rows (.int .u32))), ak_s], [], [.one (.own 0)], [.rows (.int .u32)], fun a s => spec_l4Round N a.1 a.2.1 a.2.2.1⟩
set_option maxRecDepth 100000 in
theorem spec_l4Round.l2.eq (N : Nat) (G3 : (List Int)) (t178 : Int) (t179 : Int) (p02 : (List Int)) (p21 : (List Int)) : spec_l4Round.l2 (N + 1) G3 t178 t179 p02 p21 =
 sel (decide (t179 < t178))
  (
  chk ((decide (0 ≤ t179)) && (decide (t179 < (p21.length : Int)))) (
  chk ((decide (0 ≤ t179)) && (decide (t179 < (G3.length : Int)))) (
  chk ((decide (0 ≤ t179)) && (decide (t179 < (p21.length : Int)))) (
  spec_l4Round.l2 N G3 t178 (IntKind.i64.wrap (t179 + 1)) p02 (p21.set (Int.toNat t179) (IntKind.u32.wrap ((p21.getD (Int.toNat t179) 0) + (G3.getD (Int.toNat t179) 0))))))))
  (
  some ((((), ()), (p02, ((), (p21, ())))))) := by kernel_rfl
set_option maxRecDepth 100000 in
theorem spec_l4Round.l1.eq (N : Nat) (G2 : (List Int)) (o2 : (List Int)) (r : Int) (p01 : (List Int)) (p2 : (List Int)) : spec_l4Round.l1 (N + 1) G2 o2 r p01 p2 =
 sel (decide (r < 64))
  (
  chk (decide (4 < (p2.length : Int))) (
  chk (decide (0 < (p2.length : Int))) (
  chk (decide (7 < (p2.length : Int))) (
  andK (spec_l4Right N (p2.getD 4 0) 6) fun u8 =>
  andK (spec_l4Right N (p2.getD 4 0) 11) fun u9 =>
  andK (spec_l4Right N (p2.getD 4 0) 25) fun u10 =>
  chk (decide (5 < (p2.length : Int))) (
  chk (decide (6 < (p2.length : Int))) (
  chk ((decide (0 ≤ r)) && (decide (r < (o2.length : Int)))) (
  chk ((decide (0 ≤ r)) && (decide (r < (p01.length : Int)))) (
  andK (spec_l4Right N (p2.getD 0 0) 2) fun u11 =>
  andK (spec_l4Right N (p2.getD 0 0) 13) fun u12 =>
  andK (spec_l4Right N (p2.getD 0 0) 22) fun u13 =>
  chk (decide (1 < (p2.length : Int))) (
  chk (decide (2 < (p2.length : Int))) (
  chk (decide (1 < (p2.length : Int))) (
  chk (decide (2 < (p2.length : Int))) (
  chk (decide (1 < (p2.length : Int))) (
  chk (decide (2 < (p2.length : Int))) (
  chk (decide (3 < (p2.length : Int))) (
  chk (decide (5 < (p2.length : Int))) (
  chk (decide (6 < (p2.length : Int))) (
  spec_l4Round.l1 N G2 o2 (IntKind.i64.wrap (r + 1)) p01 [(IntKind.u32.wrap ((IntKind.u32.wrap ((IntKind.u32.wrap ((IntKind.u32.wrap ((IntKind.u32.wrap ((p2.getD 7 0) + (Go.bits .xor .u32 (Go.bits .xor .u32 u8.1.1 u9.1.1) u10.1.1))) + (Go.bits .xor .u32 (Go.bits .and .u32 (p2.getD 4 0) (p2.getD 5 0)) (Go.bits .and .u32 (Go.bits .xor .u32 4294967295 (p2.getD 4 0)) (p2.getD 6 0))))) + (o2.getD (Int.toNat r) 0))) + (p01.getD (Int.toNat r) 0))) + (IntKind.u32.wrap ((Go.bits .xor .u32 (Go.bits .xor .u32 u11.1.1 u12.1.1) u13.1.1) + (Go.bits .xor .u32 (Go.bits .xor .u32 (Go.bits .and .u32 (p2.getD 0 0) (p2.getD 1 0)) (Go.bits .and .u32 (p2.getD 0 0) (p2.getD 2 0))) (Go.bits .and .u32 (p2.getD 1 0) (p2.getD 2 0))))))), (p2.getD 0 0), (p2.getD 1 0), (p2.getD 2 0), (IntKind.u32.wrap ((p2.getD 3 0) + (IntKind.u32.wrap ((IntKind.u32.wrap ((IntKind.u32.wrap ((IntKind.u32.wrap ((p2.getD 7 0) + (Go.bits .xor .u32 (Go.bits .xor .u32 u8.1.1 u9.1.1) u10.1.1))) + (Go.bits .xor .u32 (Go.bits .and .u32 (p2.getD 4 0) (p2.getD 5 0)) (Go.bits .and .u32 (Go.bits .xor .u32 4294967295 (p2.getD 4 0)) (p2.getD 6 0))))) + (o2.getD (Int.toNat r) 0))) + (p01.getD (Int.toNat r) 0))))), (p2.getD 4 0), (p2.getD 5 0), (p2.getD 6 0)])))))))))))))))))
  (
  some ((((), ()), (p01, ((), (p2, ())))))) := by kernel_rfl
set_option maxRecDepth 100000 in
theorem spec_l4Round.l0.eq (N : Nat) (G1 : (List Int)) (o1 : (List Int)) (t1 : ByteArray) (t2 : Int) (p0 : (List Int)) : spec_l4Round.l0 (N + 1) G1 o1 t1 t2 p0 =
 sel (decide (t2 < 64))
  (
  andK (α := ((Unit × Unit) × ((List Int) × Unit))) (
   sel (decide (t2 < 16))
    (
    chk ((decide (0 ≤ (IntKind.i64.wrap (4 * t2)))) && ((decide ((IntKind.i64.wrap (4 * t2)) ≤ (IntKind.i64.wrap ((IntKind.i64.wrap (4 * t2)) + 4)))) && (decide ((IntKind.i64.wrap ((IntKind.i64.wrap (4 * t2)) + 4)) ≤ (t1.size : Int))))) (
    andK (spec_l1Big N (t1.extract (Int.toNat (IntKind.i64.wrap (4 * t2))) (Int.toNat (IntKind.i64.wrap ((IntKind.i64.wrap (4 * t2)) + 4))))) fun u1 =>
    chk (decide (p0.length + 1 < most)) (
    some ((((), ()), ((p0 ++ [(IntKind.u32.wrap u1.1.1)]), ()))))))
    (
    chk ((decide (0 ≤ (IntKind.i64.wrap (t2 - 15)))) && (decide ((IntKind.i64.wrap (t2 - 15)) < (p0.length : Int)))) (
    chk ((decide (0 ≤ (IntKind.i64.wrap (t2 - 2)))) && (decide ((IntKind.i64.wrap (t2 - 2)) < (p0.length : Int)))) (
    chk ((decide (0 ≤ (IntKind.i64.wrap (t2 - 16)))) && (decide ((IntKind.i64.wrap (t2 - 16)) < (p0.length : Int)))) (
    andK (spec_l4Right N (p0.getD (Int.toNat (IntKind.i64.wrap (t2 - 15))) 0) 7) fun u2 =>
    andK (spec_l4Right N (p0.getD (Int.toNat (IntKind.i64.wrap (t2 - 15))) 0) 18) fun u3 =>
    chk ((decide (0 ≤ (IntKind.i64.wrap (t2 - 7)))) && (decide ((IntKind.i64.wrap (t2 - 7)) < (p0.length : Int)))) (
    andK (spec_l4Right N (p0.getD (Int.toNat (IntKind.i64.wrap (t2 - 2))) 0) 17) fun u4 =>
    andK (spec_l4Right N (p0.getD (Int.toNat (IntKind.i64.wrap (t2 - 2))) 0) 19) fun u5 =>
    chk (decide (p0.length + 1 < most)) (
    some ((((), ()), ((p0 ++ [(IntKind.u32.wrap ((IntKind.u32.wrap ((IntKind.u32.wrap ((p0.getD (Int.toNat (IntKind.i64.wrap (t2 - 16))) 0) + (Go.bits .xor .u32 (Go.bits .xor .u32 u2.1.1 u3.1.1) (shrI .u32 (p0.getD (Int.toNat (IntKind.i64.wrap (t2 - 15))) 0) 3)))) + (p0.getD (Int.toNat (IntKind.i64.wrap (t2 - 7))) 0))) + (Go.bits .xor .u32 (Go.bits .xor .u32 u4.1.1 u5.1.1) (shrI .u32 (p0.getD (Int.toNat (IntKind.i64.wrap (t2 - 2))) 0) 10))))]), ())))))))))) fun j6 =>
  spec_l4Round.l0 N G1 o1 t1 (IntKind.i64.wrap (t2 + 1)) j6.2.1)
  (
  some ((((), ()), (p0, ())))) := by kernel_rfl
set_option maxRecDepth 100000 in
theorem spec_l4Round.eq (N : Nat) (G : (List Int)) (o : (List Int)) (t : ByteArray) : spec_l4Round N G o t =
 andK (spec_l4Round.l0 N G o t 0 []) fun l7 =>
 chk (decide (0 + G.length < most)) (
 andK (spec_l4Round.l1 N G o 0 l7.2.1 ([] ++ G)) fun l14 =>
 andK (spec_l4Round.l2 N G (l14.2.2.2.1.length : Int) 0 l14.2.1 l14.2.2.2.1) fun l15 =>
 some (((), ()), (l15.2.2.2.1, ()))) := by kernel_rfl
set_option maxRecDepth 100000 in
theorem spec_l4Round.say (N : Nat) : SayOk Tryz.prog (spec_l4Round.S N) := sayOk_mk (N := N) (H := spec_l4Round.H) (preps := [⟨[], [], [], [2]⟩]) (l := spec_l4Round.says) (fn := Tryz.f66) (c := bodyOf Tryz.f66)
  (by kernel_rfl) (by kernel_rfl) (by kernel_rfl) (by kernel_rfl) (by kernel_rfl) (by kernel_rfl) (by kernel_rfl)
  (fun N => SayAll.cons (spec_l1Big.say N) (SayAll.cons (spec_l4Right.say N) (SayAll.nil))) (fun a s => by kernel_rfl)
noncomputable def spec_l4Round.SB (N : Nat) : Say := spec_l4Round.S N |>.lent
theorem spec_l4Round.sayB (N : Nat) : SayOk Tryz.prog (spec_l4Round.SB N) := (spec_l4Round.say N).lent

/-! ### loop.example/g00206/spec.l4New: function 23 -/
noncomputable def spec_l4New_2.H : Hints := hintsOf []
noncomputable def spec_l4New_2.says (N : Nat) : List Say := [spec_l4Words.S N]
noncomputable def spec_l4New_2.call (N : Nat) : CallK := callBy (spec_l4New_2.says N)
noncomputable def spec_l4New_2.qt (N : Nat) : FuncId → List PV → Sig → Cl := qtBy (spec_l4New_2.says N)
noncomputable def spec_l4New_2 (N : Nat) : Option ((Unit × Unit) × (((List Int) × ((List Int) × Unit)) × Unit)) :=
  ofFn Tryz.prog spec_l4New_2.call spec_l4New_2.qt spec_l4New_2.H N Tryz.f23 [] [] [.one (.ptr 0 0)] [.cells [.sh (.rows (.int .u32)), .sh (.rows (.int .u32))]] [⟨[], [], [0, 1], [2]⟩] () ()
noncomputable def spec_l4New_2.S (N : Nat) : Say := ⟨false, 23, [], [], [.one (.ptr 0 0)], [.cells [.sh (.rows (.int .u32)), .sh (.rows (.int .u32))]], fun a s => spec_l4New_2 N⟩
set_option maxRecDepth 100000 in
theorem spec_l4New_2.eq (N : Nat) : spec_l4New_2 N =
 andK (spec_l4Words N 64 3) fun u1 =>
 andK (spec_l4Words N 8 2) fun u2 =>
 some (((), ()), ((u1.2.1, (u2.2.1, ())), ())) := by kernel_rfl
set_option maxRecDepth 100000 in
theorem spec_l4New_2.say (N : Nat) : SayOk Tryz.prog (spec_l4New_2.S N) := sayOk_mk (N := N) (H := spec_l4New_2.H) (preps := [⟨[], [], [0, 1], [2]⟩]) (l := spec_l4New_2.says) (fn := Tryz.f23) (c := bodyOf Tryz.f23)
  (by kernel_rfl) (by kernel_rfl) (by kernel_rfl) (by kernel_rfl) (by kernel_rfl) (by kernel_rfl) (by kernel_rfl)
  (fun N => SayAll.cons (spec_l4Words.say N) (SayAll.nil)) (fun a s => by kernel_rfl)

/-! ### (*loop.example/g00206/spec.l4H).sum: function 46 -/
noncomputable def spec_l4H_sum_2.H : Hints := hintsOf [(2000003, .loop ⟨.normal, [5], [0, 1], [.one (.ptr 0 0), ak_s], [.cells [.sh (.rows (.int .u32)), .sh (.rows (.int .u32))]], [⟨[], [], [], []⟩]⟩ [⟨(.exit 0), [5], [0, 1], [.one (.ptr 0 0), ak_s], [.cells [.sh (.rows (.int .u32)), .sh (.rows (.int .u32))]], [⟨[], [], [], []⟩]⟩]),
  (2000008, .loop ⟨.normal, [1], [0, 6, 7], [.one (.ptr 0 0), .one (.sh (.rows (.int .u32))), ak_i], [.cells [.sh (.rows (.int .u32)), .sh (.rows (.int .u32))]], [⟨[], [], [], []⟩, ⟨[], [], [1], []⟩]⟩ [⟨(.exit 2), [], [6], [.one (.sh (.rows (.int .u32)))], [.cells [.sh (.rows (.int .u32)), .sh (.rows (.int .u32))]], [⟨[], [], [], []⟩]⟩]),
  (2000013, .loop ⟨.normal, [47, 48], [8, 49], [ak_s, ak_i], [.cells [.sh (.rows (.int .u32)), .sh (.rows (.int .u32))]], [⟨[], [], [], []⟩]⟩ [⟨(.exit 4), [], [8], [ak_s], [.cells [.sh (.rows (.int .u32)), .sh (.rows (.int .u32))]], [⟨[], [], [], []⟩]⟩])]
noncomputable def spec_l4H_sum_2.says (N : Nat) : List Say := [spec_l1Fixed.S N, spec_l4Round.S N]
noncomputable def spec_l4H_sum_2.call (N : Nat) : CallK := callBy (spec_l4H_sum_2.says N)
noncomputable def spec_l4H_sum_2.qt (N : Nat) : FuncId → List PV → Sig → Cl := qtBy (spec_l4H_sum_2.says N)
noncomputable def spec_l4H_sum_2.l0.hd : Alt := ⟨.normal, [5], [0, 1], [.one (.ptr 0 0), ak_s], [.cells [.sh (.rows (.int .u32)), .sh (.rows (.int .u32))]], [⟨[], [], [], []⟩]⟩
noncomputable def spec_l4H_sum_2.l0.outs : List Alt := [⟨(.exit 0), [5], [0, 1], [.one (.ptr 0 0), ak_s], [.cells [.sh (.rows (.int .u32)), .sh (.rows (.int .u32))]], [⟨[], [], [], []⟩]⟩]
noncomputable def spec_l4H_sum_2.l0 (N : Nat) (n : Int) (s1 : ByteArray) (p0_01 : (List Int)) (p0_11 : (List Int)) : Option ((Unit × (ByteArray × Unit)) × (((List Int) × ((List Int) × Unit)) × Unit)) :=
  loopK Tryz.prog spec_l4H_sum_2.call spec_l4H_sum_2.qt spec_l4H_sum_2.H (codeAt (bodyOf Tryz.f46) [1, 1, 1, 0, 0, 0]) 1 spec_l4H_sum_2.l0.hd spec_l4H_sum_2.l0.outs [(5, .v (.int .i64 n))] N (((), (s1, ())), ((p0_01, (p0_11, ())), ()))
noncomputable def spec_l4H_sum_2.l1.hd : Alt := ⟨.normal, [1], [0, 6, 7], [.one (.ptr 0 0), .one (.sh (.rows (.int .u32))), ak_i], [.cells [.sh (.rows (.int .u32)), .sh (.rows (.int .u32))]], [⟨[], [], [], []⟩, ⟨[], [], [1], []⟩]⟩
noncomputable def spec_l4H_sum_2.l1.outs : List Alt := [⟨(.exit 2), [], [6], [.one (.sh (.rows (.int .u32)))], [.cells [.sh (.rows (.int .u32)), .sh (.rows (.int .u32))]], [⟨[], [], [], []⟩]⟩]
noncomputable def spec_l4H_sum_2.l1 (N : Nat) (s2 : ByteArray) (state : (List Int)) (atv : Int) (p0_02 : (List Int)) (p0_12 : (List Int)) : Option (((List Int) × Unit) × (((List Int) × ((List Int) × Unit)) × Unit)) :=
  loopK Tryz.prog spec_l4H_sum_2.call spec_l4H_sum_2.qt spec_l4H_sum_2.H (codeAt (bodyOf Tryz.f46) [1, 1, 1, 1, 1, 1, 0, 1, 0, 0]) 1 spec_l4H_sum_2.l1.hd spec_l4H_sum_2.l1.outs [(1, .v (.string s2))] N (((), (state, (atv, ()))), ((p0_02, (p0_12, ())), ()))
noncomputable def spec_l4H_sum_2.l2.hd : Alt := ⟨.normal, [47, 48], [8, 49], [ak_s, ak_i], [.cells [.sh (.rows (.int .u32)), .sh (.rows (.int .u32))]], [⟨[], [], [], []⟩]⟩
noncomputable def spec_l4H_sum_2.l2.outs : List Alt := [⟨(.exit 4), [], [8], [ak_s], [.cells [.sh (.rows (.int .u32)), .sh (.rows (.int .u32))]], [⟨[], [], [], []⟩]⟩]
noncomputable def spec_l4H_sum_2.l2 (N : Nat) (t47 : (List Int)) (t48 : Int) (out : ByteArray) (t49 : Int) (p0_03 : (List Int)) (p0_13 : (List Int)) : Option ((ByteArray × Unit) × (((List Int) × ((List Int) × Unit)) × Unit)) :=
  loopK Tryz.prog spec_l4H_sum_2.call spec_l4H_sum_2.qt spec_l4H_sum_2.H (codeAt (bodyOf Tryz.f46) [1, 1, 1, 1, 1, 1, 1, 1, 0, 1, 0, 0]) 1 spec_l4H_sum_2.l2.hd spec_l4H_sum_2.l2.outs [(47, .rows false (.int .u32) t47), (48, .v (.int .i64 t48))] N ((out, (t49, ())), ((p0_03, (p0_13, ())), ()))
noncomputable def spec_l4H_sum_2 (N : Nat) (s : ByteArray) (p0_0 : (List Int)) (p0_1 : (List Int)) : Option ((ByteArray × Unit) × (((List Int) × ((List Int) × Unit)) × Unit)) :=
  ofFn Tryz.prog spec_l4H_sum_2.call spec_l4H_sum_2.qt spec_l4H_sum_2.H N Tryz.f46 [.one (.ptr 0 0), ak_s] [.cells [.sh (.rows (.int .u32)), .sh (.rows (.int .u32))]] [ak_s] [.cells [.sh (.rows (.int .u32)), .sh (.rows (.int .u32))]] [⟨[], [], [], []⟩] ((), (s, ())) ((p0_0, (p0_1, ())), ())
noncomputable def spec_l4H_sum_2.S (N : Nat) : Say := ⟨false, 46, [.one (.ptr 0 0), ak_s], [.cells [.sh (.rows (.int .u32)), .sh (.rows (.int .u32))]], [ak_s], [.cells [.sh (.rows (.int .u32)), .sh (.rows (.int .u32))]], fun a s => spec_l4H_sum_2 N a.2.1 s.1.1 s.1.2.1⟩
set_option maxRecDepth 100000 in
theorem spec_l4H_sum_2.l2.eq (N : Nat) (t47 : (List Int)) (t48 : Int) (out : ByteArray) (t49 : Int) (p0_03 : (List Int)) (p0_13 : (List Int)) : spec_l4H_sum_2.l2 (N + 1) t47 t48 out t49 p0_03 p0_13 =
 sel (decide (t49 < t48))
  (
  chk ((decide (0 ≤ t49)) && (decide (t49 < (t47.length : Int)))) (
  andK (spec_l1Fixed N (IntKind.i64.wrap (t47.getD (Int.toNat t49) 0)) 4) fun u5 =>
  chk (decide (out.size + u5.1.1.size ≤ 9223372036854775807)) (
  spec_l4H_sum_2.l2 N t47 t48 (out ++ u5.1.1) (IntKind.i64.wrap (t49 + 1)) p0_03 p0_13)))
  (
  some (((out, ()), ((p0_03, (p0_13, ())), ())))) := by kernel_rfl
set_option maxRecDepth 100000 in
theorem spec_l4H_sum_2.l1.eq (N : Nat) (s2 : ByteArray) (state : (List Int)) (atv : Int) (p0_02 : (List Int)) (p0_12 : (List Int)) : spec_l4H_sum_2.l1 (N + 1) s2 state atv p0_02 p0_12 =
 sel (decide (atv < (s2.size : Int)))
  (
  chk ((decide (0 ≤ atv)) && ((decide (atv ≤ (IntKind.i64.wrap (atv + 64)))) && (decide ((IntKind.i64.wrap (atv + 64)) ≤ (s2.size : Int))))) (
  andK (spec_l4Round N state p0_02 (s2.extract (Int.toNat atv) (Int.toNat (IntKind.i64.wrap (atv + 64))))) fun u3 =>
  spec_l4H_sum_2.l1 N s2 u3.2.1 (IntKind.i64.wrap (atv + 64)) p0_02 p0_12))
  (
  some (((state, ()), ((p0_02, (p0_12, ())), ())))) := by kernel_rfl
set_option maxRecDepth 100000 in
theorem spec_l4H_sum_2.l0.eq (N : Nat) (n : Int) (s1 : ByteArray) (p0_01 : (List Int)) (p0_11 : (List Int)) : spec_l4H_sum_2.l0 (N + 1) n s1 p0_01 p0_11 =
 sel (!(decide ((Int.tmod (s1.size : Int) 64) = 56)))
  (
  chk (decide (s1.size + 1 ≤ 9223372036854775807)) (
  spec_l4H_sum_2.l0 N n (s1 ++ (⟨#[0]⟩ : ByteArray)) p0_01 p0_11))
  (
  some ((((), (s1, ())), ((p0_01, (p0_11, ())), ())))) := by kernel_rfl
set_option maxRecDepth 100000 in
theorem spec_l4H_sum_2.eq (N : Nat) (s : ByteArray) (p0_0 : (List Int)) (p0_1 : (List Int)) : spec_l4H_sum_2 N s p0_0 p0_1 =
 chk (decide (s.size + 1 ≤ 9223372036854775807)) (
 andK (spec_l4H_sum_2.l0 N (s.size : Int) (s ++ (⟨#[128]⟩ : ByteArray)) p0_0 p0_1) fun l1 =>
 andK (spec_l1Fixed N (IntKind.i64.wrap (8 * (s.size : Int))) 8) fun u2 =>
 chk (decide (l1.1.2.1.size + u2.1.1.size ≤ 9223372036854775807)) (
 andK (spec_l4H_sum_2.l1 N (l1.1.2.1 ++ u2.1.1) l1.2.1.2.1 0 l1.2.1.1 l1.2.1.2.1) fun l4 =>
 andK (spec_l4H_sum_2.l2 N l4.1.1 (l4.1.1.length : Int) (⟨#[]⟩ : ByteArray) 0 l4.2.1.1 l4.2.1.2.1) fun l6 =>
 some ((l6.1.1, ()), ((l6.2.1.1, (l6.2.1.2.1, ())), ())))) := by kernel_rfl
set_option maxRecDepth 100000 in
theorem spec_l4H_sum_2.say (N : Nat) : SayOk Tryz.prog (spec_l4H_sum_2.S N) := sayOk_mk (N := N) (H := spec_l4H_sum_2.H) (preps := [⟨[], [], [], []⟩]) (l := spec_l4H_sum_2.says) (fn := Tryz.f46) (c := bodyOf Tryz.f46)
  (by kernel_rfl) (by kernel_rfl) (by kernel_rfl) (by kernel_rfl) (by kernel_rfl) (by kernel_rfl) (by kernel_rfl)
  (fun N => SayAll.cons (spec_l1Fixed.say N) (SayAll.cons (spec_l4Round.say N) (SayAll.nil))) (fun a s => by kernel_rfl)

/-! ### loop.example/g00206/spec.l9Score: function 24 -/
noncomputable def spec_l9Score_2.H : Hints := hintsOf []
noncomputable def spec_l9Score_2.says (N : Nat) : List Say := [spec_l4H_sum_2.S N, spec_l1Big.S N]
noncomputable def spec_l9Score_2.call (N : Nat) : CallK := callBy (spec_l9Score_2.says N)
noncomputable def spec_l9Score_2.qt (N : Nat) : FuncId → List PV → Sig → Cl := qtBy (spec_l9Score_2.says N)
noncomputable def spec_l9Score_2 (N : Nat) (backend : ByteArray) (key : ByteArray) (p0_0 : (List Int)) (p0_1 : (List Int)) : Option ((Int × Unit) × (((List Int) × ((List Int) × Unit)) × Unit)) :=
  ofFn Tryz.prog spec_l9Score_2.call spec_l9Score_2.qt spec_l9Score_2.H N Tryz.f24 [.one (.ptr 0 0), ak_s, ak_s] [.cells [.sh (.rows (.int .u32)), .sh (.rows (.int .u32))]] [ak_i] [.cells [.sh (.rows (.int .u32)), .sh (.rows (.int .u32))]] [⟨[], [], [], []⟩] ((), (backend, (key, ()))) ((p0_0, (p0_1, ())), ())
noncomputable def spec_l9Score_2.S (N : Nat) : Say := ⟨false, 24, [.one (.ptr 0 0), ak_s, ak_s], [.cells [.sh (.rows (.int .u32)), .sh (.rows (.int .u32))]], [ak_i], [.cells [.sh (.rows (.int .u32)), .sh (.rows (.int .u32))]], fun a s => spec_l9Score_2 N a.2.1 a.2.2.1 s.1.1 s.1.2.1⟩
set_option maxRecDepth 100000 in
theorem spec_l9Score_2.eq (N : Nat) (backend : ByteArray) (key : ByteArray) (p0_0 : (List Int)) (p0_1 : (List Int)) : spec_l9Score_2 N backend key p0_0 p0_1 =
 chk (decide (backend.size + 1 ≤ 9223372036854775807)) (
 chk (decide ((backend ++ (⟨#[0]⟩ : ByteArray)).size + key.size ≤ 9223372036854775807)) (
 andK (spec_l4H_sum_2 N ((backend ++ (⟨#[0]⟩ : ByteArray)) ++ key) p0_0 p0_1) fun u1 =>
 chk (decide (7 ≤ (u1.1.1.size : Int))) (
 andK (spec_l1Big N (u1.1.1.extract 0 7)) fun u2 =>
 some ((u2.1.1, ()), ((u1.2.1.1, (u1.2.1.2.1, ())), ()))))) := by kernel_rfl
set_option maxRecDepth 100000 in
theorem spec_l9Score_2.say (N : Nat) : SayOk Tryz.prog (spec_l9Score_2.S N) := sayOk_mk (N := N) (H := spec_l9Score_2.H) (preps := [⟨[], [], [], []⟩]) (l := spec_l9Score_2.says) (fn := Tryz.f24) (c := bodyOf Tryz.f24)
  (by kernel_rfl) (by kernel_rfl) (by kernel_rfl) (by kernel_rfl) (by kernel_rfl) (by kernel_rfl) (by kernel_rfl)
  (fun N => SayAll.cons (spec_l4H_sum_2.say N) (SayAll.cons (spec_l1Big.say N) (SayAll.nil))) (fun a s => by kernel_rfl)

/-! ### loop.example/g00206/spec.l9Pick: function 36 -/
noncomputable def spec_l9Pick.H : Hints := hintsOf [(11, .join [⟨.normal, [1, 12, 13, 14], [5, 6, 7], [ak_s, ak_i, .one (.ptr 0 0)], [.cells [.sh (.rows (.int .u32)), .sh (.rows (.int .u32))]], [⟨[], [], [], []⟩]⟩]),
  (2000005, .loop ⟨.normal, [1, 12, 13], [5, 6, 7, 14], [ak_s, ak_i, .one (.ptr 0 0), ak_i], [.cells [.sh (.rows (.int .u32)), .sh (.rows (.int .u32))]], [⟨[], [], [], []⟩]⟩ [⟨(.exit 0), [], [5], [ak_s], [.cells [.sh (.rows (.int .u32)), .sh (.rows (.int .u32))]], [⟨[], [], [], []⟩]⟩])]
noncomputable def spec_l9Pick.says (N : Nat) : List Say := [spec_l4New_2.S N, spec_l9Score_2.S N]
noncomputable def spec_l9Pick.call (N : Nat) : CallK := callBy (spec_l9Pick.says N)
noncomputable def spec_l9Pick.qt (N : Nat) : FuncId → List PV → Sig → Cl := qtBy (spec_l9Pick.says N)
noncomputable def spec_l9Pick.l0.hd : Alt := ⟨.normal, [1, 12, 13], [5, 6, 7, 14], [ak_s, ak_i, .one (.ptr 0 0), ak_i], [.cells [.sh (.rows (.int .u32)), .sh (.rows (.int .u32))]], [⟨[], [], [], []⟩]⟩
noncomputable def spec_l9Pick.l0.outs : List Alt := [⟨(.exit 0), [], [5], [ak_s], [.cells [.sh (.rows (.int .u32)), .sh (.rows (.int .u32))]], [⟨[], [], [], []⟩]⟩]
noncomputable def spec_l9Pick.l0 (N : Nat) (key1 : ByteArray) (t12 : (List ByteArray)) (t13 : Int) (best : ByteArray) (mostv : Int) (t14 : Int) (p0_0 : (List Int)) (p0_1 : (List Int)) : Option ((ByteArray × Unit) × (((List Int) × ((List Int) × Unit)) × Unit)) :=
  loopK Tryz.prog spec_l9Pick.call spec_l9Pick.qt spec_l9Pick.H (codeAt (bodyOf Tryz.f36) [1, 1, 1, 1, 0, 1, 0, 0]) 1 spec_l9Pick.l0.hd spec_l9Pick.l0.outs [(1, .v (.string key1)), (12, .rows false .str t12), (13, .v (.int .i64 t13))] N ((best, (mostv, ((), (t14, ())))), ((p0_0, (p0_1, ())), ()))
noncomputable def spec_l9Pick (N : Nat) (l : (List ByteArray)) (key : ByteArray) : Option ((ByteArray × Unit) × Unit) :=
  ofFn Tryz.prog spec_l9Pick.call spec_l9Pick.qt spec_l9Pick.H N Tryz.f36 [.one (.sh (.rows .str)), ak_s] [] [ak_s] [] [⟨[], [], [], []⟩] (l, (key, ())) ()
noncomputable def spec_l9Pick.S (N : Nat) : Say := ⟨false, 36, [.one (.sh (.rows .str)), ak_s], [], [ak_s], [], fun a s => spec_l9Pick N a.1 a.2.1⟩
set_option maxRecDepth 100000 in
theorem spec_l9Pick.l0.eq (N : Nat) (key1 : ByteArray) (t12 : (List ByteArray)) (t13 : Int) (best : ByteArray) (mostv : Int) (t14 : Int) (p0_0 : (List Int)) (p0_1 : (List Int)) : spec_l9Pick.l0 (N + 1) key1 t12 t13 best mostv t14 p0_0 p0_1 =
 sel (decide (t14 < t13))
  (
  andK (α := ((ByteArray × (Int × (Unit × Unit))) × (((List Int) × ((List Int) × Unit)) × Unit))) (
   chk ((decide (0 ≤ t14)) && (decide (t14 < (t12.length : Int)))) (
   andK (spec_l9Score_2 N (t12.getD (Int.toNat t14) (⟨#[]⟩ : ByteArray)) key1 p0_0 p0_1) fun u2 =>
   sel (decide (mostv < u2.1.1))
    (
    some ((((t12.getD (Int.toNat t14) (⟨#[]⟩ : ByteArray)), (u2.1.1, ((), ()))), ((u2.2.1.1, (u2.2.1.2.1, ())), ()))))
    (
    some (((best, (mostv, ((), ()))), ((u2.2.1.1, (u2.2.1.2.1, ())), ())))))) fun j3 =>
  spec_l9Pick.l0 N key1 t12 t13 j3.1.1 j3.1.2.1 (IntKind.i64.wrap (t14 + 1)) j3.2.1.1 j3.2.1.2.1)
  (
  some (((best, ()), ((p0_0, (p0_1, ())), ())))) := by kernel_rfl
set_option maxRecDepth 100000 in
theorem spec_l9Pick.eq (N : Nat) (l : (List ByteArray)) (key : ByteArray) : spec_l9Pick N l key =
 andK (spec_l4New_2 N) fun u1 =>
 andK (spec_l9Pick.l0 N key l (l.length : Int) (⟨#[]⟩ : ByteArray) (-1) 0 u1.2.1.1 u1.2.1.2.1) fun l4 =>
 some ((l4.1.1, ()), ()) := by kernel_rfl
set_option maxRecDepth 100000 in
theorem spec_l9Pick.say (N : Nat) : SayOk Tryz.prog (spec_l9Pick.S N) := sayOk_mk (N := N) (H := spec_l9Pick.H) (preps := [⟨[], [], [], []⟩]) (l := spec_l9Pick.says) (fn := Tryz.f36) (c := bodyOf Tryz.f36)
  (by kernel_rfl) (by kernel_rfl) (by kernel_rfl) (by kernel_rfl) (by kernel_rfl) (by kernel_rfl) (by kernel_rfl)
  (fun N => SayAll.cons (spec_l4New_2.say N) (SayAll.cons (spec_l9Score_2.say N) (SayAll.nil))) (fun a s => by kernel_rfl)

/-! ### loop.example/g00206/spec.PickBackend: function 15 -/
noncomputable def spec_PickBackend.H : Hints := hintsOf [(5000001, .join [⟨.normal, [0, 1], [18], [ak_b], [], [⟨[], [], [], []⟩]⟩])]
noncomputable def spec_PickBackend.says (N : Nat) : List Say := [spec_GoodLive.S N, spec_l9Pick.S N]
noncomputable def spec_PickBackend.call (N : Nat) : CallK := callBy (spec_PickBackend.says N)
noncomputable def spec_PickBackend.qt (N : Nat) : FuncId → List PV → Sig → Cl := qtBy (spec_PickBackend.says N)
noncomputable def spec_PickBackend (N : Nat) (l : (List ByteArray)) (key : ByteArray) : Option ((ByteArray × (Bool × Unit)) × Unit) :=
  ofFn Tryz.prog spec_PickBackend.call spec_PickBackend.qt spec_PickBackend.H N Tryz.f15 [.one (.sh (.rows .str)), ak_s] [] [ak_s, ak_b] [] [⟨[], [], [], []⟩] (l, (key, ())) ()
noncomputable def spec_PickBackend.S (N : Nat) : Say := ⟨false, 15, [.one (.sh (.rows .str)), ak_s], [], [ak_s, ak_b], [], fun a s => spec_PickBackend N a.1 a.2.1⟩
set_option maxRecDepth 100000 in
theorem spec_PickBackend.eq (N : Nat) (l : (List ByteArray)) (key : ByteArray) : spec_PickBackend N l key =
 andK (α := ((Bool × Unit) × Unit)) (
  andK (spec_GoodLive N l) fun u1 =>
  sel (!u1.1.1)
   (
   some (((true, ()), ())))
   (
   sel (decide ((l.length : Int) = 0))
    (
    some (((true, ()), ())))
    (
    some ((((decide (100 < (key.size : Int))), ()), ()))))) fun j2 =>
 sel j2.1.1
  (
  some (((⟨#[]⟩ : ByteArray), (false, ())), ()))
  (
  andK (spec_l9Pick N l key) fun u3 =>
  some ((u3.1.1, (true, ())), ())) := by kernel_rfl
set_option maxRecDepth 100000 in
theorem spec_PickBackend.say (N : Nat) : SayOk Tryz.prog (spec_PickBackend.S N) := sayOk_mk (N := N) (H := spec_PickBackend.H) (preps := [⟨[], [], [], []⟩]) (l := spec_PickBackend.says) (fn := Tryz.f15) (c := bodyOf Tryz.f15)
  (by kernel_rfl) (by kernel_rfl) (by kernel_rfl) (by kernel_rfl) (by kernel_rfl) (by kernel_rfl) (by kernel_rfl)
  (fun N => SayAll.cons (spec_GoodLive.say N) (SayAll.cons (spec_l9Pick.say N) (SayAll.nil))) (fun a s => by kernel_rfl)
noncomputable def spec_PickBackend.SB (N : Nat) : Say := spec_PickBackend.S N |>.lent
theorem spec_PickBackend.sayB (N : Nat) : SayOk Tryz.prog (spec_PickBackend.SB N) := (spec_PickBackend.say N).lent

/-! ### loop.example/g00206/impl.MovedKeys$1: function 38 -/
noncomputable def impl_MovedKeys_1.H : Hints := hintsOf []
noncomputable def impl_MovedKeys_1.says (N : Nat) : List Say := [impl_keyOk.S N]
noncomputable def impl_MovedKeys_1.call (N : Nat) : CallK := callBy (impl_MovedKeys_1.says N)
noncomputable def impl_MovedKeys_1.qt (N : Nat) : FuncId → List PV → Sig → Cl := qtBy (impl_MovedKeys_1.says N)
noncomputable def impl_MovedKeys_1 (N : Nat) (key : ByteArray) : Option ((Bool × Unit) × Unit) :=
  ofFn Tryz.prog impl_MovedKeys_1.call impl_MovedKeys_1.qt impl_MovedKeys_1.H N Tryz.f38 [ak_s] [] [ak_b] [] [⟨[], [], [], []⟩] (key, ()) ()
noncomputable def impl_MovedKeys_1.S (N : Nat) : Say := ⟨false, 38, [ak_s], [], [ak_b], [], fun a s => impl_MovedKeys_1 N a.1⟩
set_option maxRecDepth 100000 in
theorem impl_MovedKeys_1.eq (N : Nat) (key : ByteArray) : impl_MovedKeys_1 N key =
 andK (impl_keyOk N key) fun u1 =>
 some (((!u1.1.1), ()), ()) := by kernel_rfl
set_option maxRecDepth 100000 in
theorem impl_MovedKeys_1.say (N : Nat) : SayOk Tryz.prog (impl_MovedKeys_1.S N) := sayOk_mk (N := N) (H := impl_MovedKeys_1.H) (preps := [⟨[], [], [], []⟩]) (l := impl_MovedKeys_1.says) (fn := Tryz.f38) (c := bodyOf Tryz.f38)
  (by kernel_rfl) (by kernel_rfl) (by kernel_rfl) (by kernel_rfl) (by kernel_rfl) (by kernel_rfl) (by kernel_rfl)
  (fun N => SayAll.cons (impl_keyOk.say N) (SayAll.nil)) (fun a s => by kernel_rfl)

/-! ### slices.IndexFunc[[]string,string]: function 57 -/
noncomputable def slices_IndexFuncstring_string.H : Hints := hintsOf [(2000002, .loop ⟨.normal, [0, 1, 7], [8], [ak_i], [], [⟨[], [], [], []⟩]⟩ [⟨.ret, [], [4], [ak_i], [], [⟨[], [], [], []⟩]⟩, ⟨(.exit 0), [], [], [], [], [⟨[], [], [], []⟩]⟩])]
noncomputable def slices_IndexFuncstring_string.says (N : Nat) : List Say := [impl_MovedKeys_1.S N]
noncomputable def slices_IndexFuncstring_string.call (N : Nat) : CallK := callBy (slices_IndexFuncstring_string.says N)
noncomputable def slices_IndexFuncstring_string.qt (N : Nat) : FuncId → List PV → Sig → Cl := qtBy (slices_IndexFuncstring_string.says N)
noncomputable def slices_IndexFuncstring_string.l0.hd : Alt := ⟨.normal, [0, 1, 7], [8], [ak_i], [], [⟨[], [], [], []⟩]⟩
noncomputable def slices_IndexFuncstring_string.l0.outs : List Alt := [⟨.ret, [], [4], [ak_i], [], [⟨[], [], [], []⟩]⟩, ⟨(.exit 0), [], [], [], [], [⟨[], [], [], []⟩]⟩]
noncomputable def slices_IndexFuncstring_string.l0 (N : Nat) (s1 : (List ByteArray)) (t7 : Int) (t8 : Int) : Option (((Int × Unit) × Unit) ⊕ (Unit × Unit)) :=
  loopK Tryz.prog slices_IndexFuncstring_string.call slices_IndexFuncstring_string.qt slices_IndexFuncstring_string.H (codeAt (bodyOf Tryz.f57) [1, 0, 1, 0, 0]) 0 slices_IndexFuncstring_string.l0.hd slices_IndexFuncstring_string.l0.outs [(0, .rows false .str s1), (1, .fn 38 []), (7, .v (.int .i64 t7))] N ((t8, ()), ())
noncomputable def slices_IndexFuncstring_string (N : Nat) (s : (List ByteArray)) : Option ((Int × Unit) × Unit) :=
  ofFn Tryz.prog slices_IndexFuncstring_string.call slices_IndexFuncstring_string.qt slices_IndexFuncstring_string.H N Tryz.f57 [.one (.sh (.rows .str)), .fn 38 []] [] [ak_i] [] [⟨[], [], [], []⟩] (s, ((), ())) ()
noncomputable def slices_IndexFuncstring_string.S (N : Nat) : Say := ⟨false, 57, [.one (.sh (.rows .str)), .fn 38 []], [], [ak_i], [], fun a s => slices_IndexFuncstring_string N a.1⟩
set_option maxRecDepth 100000 in
theorem slices_IndexFuncstring_string.l0.eq (N : Nat) (s1 : (List ByteArray)) (t7 : Int) (t8 : Int) : slices_IndexFuncstring_string.l0 (N + 1) s1 t7 t8 =
 sel (decide (t8 < t7))
  (
  chk ((decide (0 ≤ t8)) && (decide (t8 < (s1.length : Int)))) (
  andK (impl_MovedKeys_1 N (s1.getD (Int.toNat t8) (⟨#[]⟩ : ByteArray))) fun u1 =>
  sel u1.1.1
   (
   some (.inl ((t8, ()), ())))
   (
   slices_IndexFuncstring_string.l0 N s1 t7 (IntKind.i64.wrap (t8 + 1)))))
  (
  some (.inr (((), ())))) := by kernel_rfl
set_option maxRecDepth 100000 in
theorem slices_IndexFuncstring_string.eq (N : Nat) (s : (List ByteArray)) : slices_IndexFuncstring_string N s =
 andK (slices_IndexFuncstring_string.l0 N s (s.length : Int) 0) fun l2 =>
 orK l2 (fun x3 =>
  some ((x3.1.1, ()), ()))
  (fun x4 =>
  some (((-1), ()), ())) := by kernel_rfl
set_option maxRecDepth 100000 in
theorem slices_IndexFuncstring_string.say (N : Nat) : SayOk Tryz.prog (slices_IndexFuncstring_string.S N) := sayOk_mk (N := N) (H := slices_IndexFuncstring_string.H) (preps := [⟨[], [], [], []⟩]) (l := slices_IndexFuncstring_string.says) (fn := Tryz.f57) (c := bodyOf Tryz.f57)
  (by kernel_rfl) (by kernel_rfl) (by kernel_rfl) (by kernel_rfl) (by kernel_rfl) (by kernel_rfl) (by kernel_rfl)
  (fun N => SayAll.cons (impl_MovedKeys_1.say N) (SayAll.nil)) (fun a s => by kernel_rfl)

/-! ### slices.ContainsFunc[[]string,string]: function 37 -/
noncomputable def slices_ContainsFuncstring_string.H : Hints := hintsOf []
noncomputable def slices_ContainsFuncstring_string.says (N : Nat) : List Say := [slices_IndexFuncstring_string.S N]
noncomputable def slices_ContainsFuncstring_string.call (N : Nat) : CallK := callBy (slices_ContainsFuncstring_string.says N)
noncomputable def slices_ContainsFuncstring_string.qt (N : Nat) : FuncId → List PV → Sig → Cl := qtBy (slices_ContainsFuncstring_string.says N)
noncomputable def slices_ContainsFuncstring_string (N : Nat) (s : (List ByteArray)) : Option ((Bool × Unit) × Unit) :=
  ofFn Tryz.prog slices_ContainsFuncstring_string.call slices_ContainsFuncstring_string.qt slices_ContainsFuncstring_string.H N Tryz.f37 [.one (.sh (.rows .str)), .fn 38 []] [] [ak_b] [] [⟨[], [], [], []⟩] (s, ((), ())) ()
noncomputable def slices_ContainsFuncstring_string.S (N : Nat) : Say := ⟨false, 37, [.one (.sh (.rows .str)), .fn 38 []], [], [ak_b], [], fun a s => slices_ContainsFuncstring_string N a.1⟩
set_option maxRecDepth 100000 in
theorem slices_ContainsFuncstring_string.eq (N : Nat) (s : (List ByteArray)) : slices_ContainsFuncstring_string N s =
 andK (slices_IndexFuncstring_string N s) fun u1 =>
 some (((decide (0 ≤ u1.1.1)), ()), ()) := by kernel_rfl
set_option maxRecDepth 100000 in
theorem slices_ContainsFuncstring_string.say (N : Nat) : SayOk Tryz.prog (slices_ContainsFuncstring_string.S N) := sayOk_mk (N := N) (H := slices_ContainsFuncstring_string.H) (preps := [⟨[], [], [], []⟩]) (l := slices_ContainsFuncstring_string.says) (fn := Tryz.f37) (c := bodyOf Tryz.f37)
  (by kernel_rfl) (by kernel_rfl) (by kernel_rfl) (by kernel_rfl) (by kernel_rfl) (by kernel_rfl) (by kernel_rfl)
  (fun N => SayAll.cons (slices_IndexFuncstring_string.say N) (SayAll.nil)) (fun a s => by kernel_rfl)

/-! ### loop.example/g00206/impl.MovedKeys: function 16 -/
noncomputable def impl_MovedKeys.H : Hints := hintsOf [(5000002, .join [⟨.normal, [0, 1, 2], [39], [ak_b], [], [⟨[], [], [], []⟩]⟩]),
  (10, .join [⟨.normal, [0, 1, 41, 42, 43], [9], [.one (.own 0)], [.rows .str], [⟨[], [], [], []⟩]⟩]),
  (2000006, .loop ⟨.normal, [0, 1, 41, 42], [9, 43], [.one (.own 0), ak_i], [.rows .str], [⟨[(9, .str)], [], [], [0]⟩, ⟨[], [], [], [0]⟩]⟩ [⟨(.exit 0), [], [9], [.one (.own 0)], [.rows .str], [⟨[], [], [], [0]⟩]⟩])]
noncomputable def impl_MovedKeys.says (N : Nat) : List Say := [slices_ContainsFuncstring_string.S N, impl_GoodLive.S N, impl_ranked.S N]
noncomputable def impl_MovedKeys.call (N : Nat) : CallK := callBy (impl_MovedKeys.says N)
noncomputable def impl_MovedKeys.qt (N : Nat) : FuncId → List PV → Sig → Cl := qtBy (impl_MovedKeys.says N)
noncomputable def impl_MovedKeys.l0.hd : Alt := ⟨.normal, [0, 1, 41, 42], [9, 43], [.one (.own 0), ak_i], [.rows .str], [⟨[(9, .str)], [], [], [0]⟩, ⟨[], [], [], [0]⟩]⟩
noncomputable def impl_MovedKeys.l0.outs : List Alt := [⟨(.exit 0), [], [9], [.one (.own 0)], [.rows .str], [⟨[], [], [], [0]⟩]⟩]
noncomputable def impl_MovedKeys.l0 (N : Nat) (a1 : (List ByteArray)) (b1 : (List ByteArray)) (t41 : (List ByteArray)) (t42 : Int) (t43 : Int) (p0 : (List ByteArray)) : Option ((Unit × Unit) × ((List ByteArray) × Unit)) :=
  loopK Tryz.prog impl_MovedKeys.call impl_MovedKeys.qt impl_MovedKeys.H (codeAt (bodyOf Tryz.f16) [1, 1, 1, 1, 0, 1, 0, 0]) 0 impl_MovedKeys.l0.hd impl_MovedKeys.l0.outs [(0, .rows false .str a1), (1, .rows false .str b1), (41, .rows false .str t41), (42, .v (.int .i64 t42))] N (((), (t43, ())), (p0, ()))
noncomputable def impl_MovedKeys (N : Nat) (a : (List ByteArray)) (b : (List ByteArray)) (keys : (List ByteArray)) : Option ((Unit × (Bool × Unit)) × ((List ByteArray) × Unit)) :=
  ofFn Tryz.prog impl_MovedKeys.call impl_MovedKeys.qt impl_MovedKeys.H N Tryz.f16 [.one (.sh (.rows .str)), .one (.sh (.rows .str)), .one (.sh (.rows .str))] [] [.one (.own 0), ak_b] [.rows .str] [⟨[(0, .str)], [], [], [0]⟩, ⟨[], [], [], [0]⟩] (a, (b, (keys, ()))) ()
noncomputable def impl_MovedKeys.S (N : Nat) : Say := ⟨false, 16, [.one (.sh (.rows .str)), .one (.sh (.rows .str)), .one (.sh (.rows .str))], [], [.one (.own 0), ak_b], [.rows .str], fun a s => impl_MovedKeys N a.1 a.2.1 a.2.2.1⟩
set_option maxRecDepth 100000 in
theorem impl_MovedKeys.l0.eq (N : Nat) (a1 : (List ByteArray)) (b1 : (List ByteArray)) (t41 : (List ByteArray)) (t42 : Int) (t43 : Int) (p0 : (List ByteArray)) : impl_MovedKeys.l0 (N + 1) a1 b1 t41 t42 t43 p0 =
 sel (decide (t43 < t42))
  (
  andK (α := ((Unit × Unit) × ((List ByteArray) × Unit))) (
   chk ((decide (0 ≤ t43)) && (decide (t43 < (t41.length : Int)))) (
   andK (impl_ranked N a1 (t41.getD (Int.toNat t43) (⟨#[]⟩ : ByteArray))) fun u5 =>
   chk (decide (0 < (u5.2.1.length : Int))) (
   andK (impl_ranked N b1 (t41.getD (Int.toNat t43) (⟨#[]⟩ : ByteArray))) fun u6 =>
   chk (decide (0 < (u6.2.1.length : Int))) (
   sel (!(decide ((u5.2.1.getD 0 (⟨#[]⟩ : ByteArray)) = (u6.2.1.getD 0 (⟨#[]⟩ : ByteArray)))))
    (
    chk (decide (p0.length + 1 < most)) (
    some ((((), ()), ((p0 ++ [(t41.getD (Int.toNat t43) (⟨#[]⟩ : ByteArray))]), ())))))
    (
    some ((((), ()), (p0, ())))))))) fun j7 =>
  impl_MovedKeys.l0 N a1 b1 t41 t42 (IntKind.i64.wrap (t43 + 1)) j7.2.1)
  (
  some ((((), ()), (p0, ())))) := by kernel_rfl
set_option maxRecDepth 100000 in
theorem impl_MovedKeys.eq (N : Nat) (a : (List ByteArray)) (b : (List ByteArray)) (keys : (List ByteArray)) : impl_MovedKeys N a b keys =
 andK (slices_ContainsFuncstring_string N keys) fun u1 =>
 andK (α := ((Bool × Unit) × Unit)) (
  andK (impl_GoodLive N a) fun u2 =>
  sel (!u2.1.1)
   (
   some (((true, ()), ())))
   (
   andK (impl_GoodLive N b) fun u3 =>
   sel (!u3.1.1)
    (
    some (((true, ()), ())))
    (
    sel (decide ((a.length : Int) = 0))
     (
     some (((true, ()), ())))
     (
     sel (decide ((b.length : Int) = 0))
      (
      some (((true, ()), ())))
      (
      sel (decide (60 < (keys.length : Int)))
       (
       some (((true, ()), ())))
       (
       some (((u1.1.1, ()), ())))))))) fun j4 =>
 sel j4.1.1
  (
  some (((), (false, ())), ([], ())))
  (
  andK (impl_MovedKeys.l0 N a b keys (keys.length : Int) 0 []) fun l8 =>
  some (((), (true, ())), (l8.2.1, ()))) := by kernel_rfl
set_option maxRecDepth 100000 in
theorem impl_MovedKeys.say (N : Nat) : SayOk Tryz.prog (impl_MovedKeys.S N) := sayOk_mk (N := N) (H := impl_MovedKeys.H) (preps := [⟨[(0, .str)], [], [], [0]⟩, ⟨[], [], [], [0]⟩]) (l := impl_MovedKeys.says) (fn := Tryz.f16) (c := bodyOf Tryz.f16)
  (by kernel_rfl) (by kernel_rfl) (by kernel_rfl) (by kernel_rfl) (by kernel_rfl) (by kernel_rfl) (by kernel_rfl)
  (fun N => SayAll.cons (slices_ContainsFuncstring_string.say N) (SayAll.cons (impl_GoodLive.say N) (SayAll.cons (impl_ranked.say N) (SayAll.nil)))) (fun a s => by kernel_rfl)
noncomputable def impl_MovedKeys.SB (N : Nat) : Say := impl_MovedKeys.S N |>.lent
theorem impl_MovedKeys.sayB (N : Nat) : SayOk Tryz.prog (impl_MovedKeys.SB N) := (impl_MovedKeys.say N).lent

/-! ### slices.Insert[[]string,string]: function 39 -/
noncomputable def slices_Insertstring_string (N : Nat) (i : Int) (p0 : (List ByteArray)) (p1 : (List ByteArray)) : Option ((Unit × Unit) × ((List ByteArray) × ((List ByteArray) × Unit))) := insF p0 i p1
noncomputable def slices_Insertstring_string.S (N : Nat) : Say := insS 39
theorem slices_Insertstring_string.eq (N : Nat) (i : Int) (p0 : (List ByteArray)) (p1 : (List ByteArray)) : slices_Insertstring_string N i p0 p1 =
 chk (decide (0 ≤ i)) (
 chk (decide (i ≤ (p0.length : Int))) (
 chk (decide (0 < p1.length)) (
 chk (decide (p0.length + p1.length < 68719476736)) (
 some (((), ()), (insL p0 i p1, (p1, ()))))))) := rfl
theorem slices_Insertstring_string.say (N : Nat) : SayOk Tryz.prog (slices_Insertstring_string.S N) := ins_say

/-! ### loop.example/g00206/impl.AddBackend: function 17 -/
noncomputable def impl_AddBackend.H : Hints := hintsOf [(5000002, .join [⟨.normal, [0, 1, 6], [29], [ak_b], [], [⟨[], [], [], []⟩]⟩]),
  (8000004, .alts [34])]
noncomputable def impl_AddBackend.says (N : Nat) : List Say := [slices_BinarySearchstring_string.S N, impl_GoodLive.S N, impl_GoodBackend.S N, slices_Clonestring_string.S N, slices_Insertstring_string.S N]
noncomputable def impl_AddBackend.call (N : Nat) : CallK := callBy (impl_AddBackend.says N)
noncomputable def impl_AddBackend.qt (N : Nat) : FuncId → List PV → Sig → Cl := qtBy (impl_AddBackend.says N)
noncomputable def impl_AddBackend (N : Nat) (l : (List ByteArray)) (backend : ByteArray) : Option ((Unit × (Bool × Unit)) × ((List ByteArray) × Unit)) :=
  ofFn Tryz.prog impl_AddBackend.call impl_AddBackend.qt impl_AddBackend.H N Tryz.f17 [.one (.sh (.rows .str)), ak_s] [] [.one (.own 0), ak_b] [.rows .str] [⟨[(0, .str)], [], [], [0]⟩, ⟨[], [], [], [0]⟩] (l, (backend, ())) ()
noncomputable def impl_AddBackend.S (N : Nat) : Say := ⟨false, 17, [.one (.sh (.rows .str)), ak_s], [], [.one (.own 0), ak_b], [.rows .str], fun a s => impl_AddBackend N a.1 a.2.1⟩
set_option maxRecDepth 100000 in
theorem impl_AddBackend.eq (N : Nat) (l : (List ByteArray)) (backend : ByteArray) : impl_AddBackend N l backend =
 andK (slices_BinarySearchstring_string N l backend) fun u1 =>
 andK (α := ((Bool × Unit) × Unit)) (
  andK (impl_GoodLive N l) fun u2 =>
  sel (!u2.1.1)
   (
   some (((true, ()), ())))
   (
   andK (impl_GoodBackend N backend) fun u3 =>
   sel (!u3.1.1)
    (
    some (((true, ()), ())))
    (
    sel u1.1.2.1
     (
     some (((true, ()), ())))
     (
     some ((((decide (12 ≤ (l.length : Int))), ()), ())))))) fun j4 =>
 sel j4.1.1
  (
  some (((), (false, ())), ([], ())))
  (
  andK (slices_Clonestring_string N l) fun u5 =>
  andK (slices_Insertstring_string N u1.1.1 u5.2.1 [backend]) fun u6 =>
  some (((), (true, ())), (u6.2.1, ()))) := by kernel_rfl
set_option maxRecDepth 100000 in
theorem impl_AddBackend.say (N : Nat) : SayOk Tryz.prog (impl_AddBackend.S N) := sayOk_mk (N := N) (H := impl_AddBackend.H) (preps := [⟨[(0, .str)], [], [], [0]⟩, ⟨[], [], [], [0]⟩]) (l := impl_AddBackend.says) (fn := Tryz.f17) (c := bodyOf Tryz.f17)
  (by kernel_rfl) (by kernel_rfl) (by kernel_rfl) (by kernel_rfl) (by kernel_rfl) (by kernel_rfl) (by kernel_rfl)
  (fun N => SayAll.cons (slices_BinarySearchstring_string.say N) (SayAll.cons (impl_GoodLive.say N) (SayAll.cons (impl_GoodBackend.say N) (SayAll.cons (slices_Clonestring_string.say N) (SayAll.cons (slices_Insertstring_string.say N) (SayAll.nil)))))) (fun a s => by kernel_rfl)
noncomputable def impl_AddBackend.SB (N : Nat) : Say := impl_AddBackend.S N |>.lent
theorem impl_AddBackend.sayB (N : Nat) : SayOk Tryz.prog (impl_AddBackend.SB N) := (impl_AddBackend.say N).lent

/-! ### loop.example/g00206/spec.AddBackend: function 18 -/
noncomputable def spec_AddBackend.H : Hints := hintsOf [(5000002, .join [⟨.normal, [0, 1, 6], [30], [ak_b], [], [⟨[], [], [], []⟩]⟩])]
noncomputable def spec_AddBackend.says (N : Nat) : List Say := [spec_l9At.S N, spec_GoodLive.S N, spec_l8Backend.S N]
noncomputable def spec_AddBackend.call (N : Nat) : CallK := callBy (spec_AddBackend.says N)
noncomputable def spec_AddBackend.qt (N : Nat) : FuncId → List PV → Sig → Cl := qtBy (spec_AddBackend.says N)
noncomputable def spec_AddBackend (N : Nat) (l : (List ByteArray)) (backend : ByteArray) : Option ((Unit × (Bool × Unit)) × ((List ByteArray) × Unit)) :=
  ofFn Tryz.prog spec_AddBackend.call spec_AddBackend.qt spec_AddBackend.H N Tryz.f18 [.one (.sh (.rows .str)), ak_s] [] [.one (.own 0), ak_b] [.rows .str] [⟨[(0, .str)], [], [], [0]⟩, ⟨[], [], [], [0]⟩] (l, (backend, ())) ()
noncomputable def spec_AddBackend.S (N : Nat) : Say := ⟨false, 18, [.one (.sh (.rows .str)), ak_s], [], [.one (.own 0), ak_b], [.rows .str], fun a s => spec_AddBackend N a.1 a.2.1⟩
set_option maxRecDepth 100000 in
theorem spec_AddBackend.eq (N : Nat) (l : (List ByteArray)) (backend : ByteArray) : spec_AddBackend N l backend =
 andK (spec_l9At N l backend) fun u1 =>
 andK (α := ((Bool × Unit) × Unit)) (
  andK (spec_GoodLive N l) fun u2 =>
  sel (!u2.1.1)
   (
   some (((true, ()), ())))
   (
   sel u1.1.2.1
    (
    some (((true, ()), ())))
    (
    andK (spec_l8Backend N backend) fun u3 =>
    sel (!u3.1.1)
     (
     some (((true, ()), ())))
     (
     some ((((decide ((l.length : Int) = 12)), ()), ())))))) fun j4 =>
 sel j4.1.1
  (
  some (((), (false, ())), ([], ())))
  (
  chk ((decide (0 ≤ u1.1.1)) && (decide (u1.1.1 ≤ (l.length : Int)))) (
  chk (decide ((cut l 0 u1.1.1).length < most)) (
  chk (decide ((cut l 0 u1.1.1).length + 1 < most)) (
  chk ((decide (0 ≤ u1.1.1)) && ((decide (u1.1.1 ≤ (l.length : Int))) && (decide ((l.length : Int) ≤ (l.length : Int))))) (
  chk (decide (((cut l 0 u1.1.1) ++ [backend]).length + (cut l u1.1.1 (l.length : Int)).length < most)) (
  some (((), (true, ())), ((((cut l 0 u1.1.1) ++ [backend]) ++ (cut l u1.1.1 (l.length : Int))), ())))))))) := by kernel_rfl
set_option maxRecDepth 100000 in
theorem spec_AddBackend.say (N : Nat) : SayOk Tryz.prog (spec_AddBackend.S N) := sayOk_mk (N := N) (H := spec_AddBackend.H) (preps := [⟨[(0, .str)], [], [], [0]⟩, ⟨[], [], [], [0]⟩]) (l := spec_AddBackend.says) (fn := Tryz.f18) (c := bodyOf Tryz.f18)
  (by kernel_rfl) (by kernel_rfl) (by kernel_rfl) (by kernel_rfl) (by kernel_rfl) (by kernel_rfl) (by kernel_rfl)
  (fun N => SayAll.cons (spec_l9At.say N) (SayAll.cons (spec_GoodLive.say N) (SayAll.cons (spec_l8Backend.say N) (SayAll.nil)))) (fun a s => by kernel_rfl)
noncomputable def spec_AddBackend.SB (N : Nat) : Say := spec_AddBackend.S N |>.lent
theorem spec_AddBackend.sayB (N : Nat) : SayOk Tryz.prog (spec_AddBackend.SB N) := (spec_AddBackend.say N).lent

/-! ### loop.example/g00206/laws.FnRendezvous: function 4 -/
noncomputable def laws_FnRendezvous.H : Hints := hintsOf [(5000007, .join [⟨.normal, [6, 8, 10], [5, 9, 63], [.one (.own 0), .one (.own 2), ak_b], [.rows .str, .rows .str, .rows .str, .rows .str], [⟨[], [], [], []⟩]⟩]),
  (5000013, .join [⟨.normal, [6, 8, 10, 13], [5, 9, 86], [.one (.own 0), .one (.own 2), ak_b], [.rows .str, .rows .str, .rows .str, .rows .str], [⟨[], [], [], []⟩]⟩]),
  (5000015, .join [⟨.normal, [6, 8, 13], [5, 9, 92], [.one (.own 0), .one (.own 2), ak_b], [.rows .str, .rows .str, .rows .str, .rows .str], [⟨[], [], [], []⟩]⟩]),
  (5000018, .join [⟨.normal, [6, 8, 13], [5, 131], [.one (.own 0), ak_b], [.rows .str, .rows .str, .rows .str, .rows .str, .rows .str], [⟨[], [], [], []⟩]⟩]),
  (20, .join [⟨.ret, [], [4], [ak_b], [.rows .str, .rows .str, .rows .str, .rows .str], [⟨[], [], [], []⟩]⟩, ⟨.normal, [6, 8, 13], [5], [.one (.own 0)], [.rows .str, .rows .str, .rows .str, .rows .str], [⟨[], [], [], []⟩]⟩])]
noncomputable def laws_FnRendezvous.says (N : Nat) : List Say := [spec_DrawDropBackend.S N, spec_DrawPickBackend.S N, impl_DropBackend.SB N, spec_DropBackend.SB N, laws_sameTexts.SB N, impl_PickBackend.SB N, spec_PickBackend.SB N, impl_MovedKeys.SB N, impl_AddBackend.SB N, spec_AddBackend.SB N]
noncomputable def laws_FnRendezvous.call (N : Nat) : CallK := callBy (laws_FnRendezvous.says N)
noncomputable def laws_FnRendezvous.qt (N : Nat) : FuncId → List PV → Sig → Cl := qtBy (laws_FnRendezvous.says N)
noncomputable def laws_FnRendezvous (N : Nat) (G : (List Int)) (o : (List Int)) : Option ((Bool × Unit) × Unit) :=
  ofFn Tryz.prog laws_FnRendezvous.call laws_FnRendezvous.qt laws_FnRendezvous.H N Tryz.f4 [.one (.sh (.rows (.int .u8))), .one (.sh (.rows (.int .u8)))] [] [ak_b] [] [⟨[], [], [], []⟩] (G, (o, ())) ()
noncomputable def laws_FnRendezvous.S (N : Nat) : Say := ⟨false, 4, [.one (.sh (.rows (.int .u8))), .one (.sh (.rows (.int .u8)))], [], [ak_b], [], fun a s => laws_FnRendezvous N a.1 a.2.1⟩
set_option maxRecDepth 100000 in
theorem laws_FnRendezvous.eq (N : Nat) (G : (List Int)) (o : (List Int)) : laws_FnRendezvous N G o =
 sel (decide (1048576 < (IntKind.i64.wrap ((G.length : Int) + (o.length : Int)))))
  (
  some ((true, ()), ()))
  (
  andK (spec_DrawDropBackend N G) fun u1 =>
  andK (spec_DrawPickBackend N o) fun u2 =>
  andK (impl_DropBackend N u1.2.1 u1.1.2.1) fun u3 =>
  andK (spec_DropBackend N u1.2.1 u1.1.2.1) fun u4 =>
  andK (α := ((Unit × (Unit × (Bool × Unit))) × ((List ByteArray) × ((List ByteArray) × ((List ByteArray) × ((List ByteArray) × Unit)))))) (
   sel (!(u3.1.2.1 == u4.1.2.1))
    (
    some ((((), ((), (true, ()))), (u1.2.1, (u2.2.1, (u3.2.1, (u4.2.1, ())))))))
    (
    andK (laws_sameTexts N u3.2.1 u4.2.1) fun u5 =>
    some ((((), ((), ((!u5.1.1), ()))), (u1.2.1, (u2.2.1, (u3.2.1, (u4.2.1, ())))))))) fun j6 =>
  sel j6.1.2.2.1
   (
   some ((false, ()), ()))
   (
   sel (decide (100 < (u2.1.2.1.size : Int)))
    (
    some ((true, ()), ()))
    (
    andK (impl_PickBackend N j6.2.1 u2.1.2.1) fun u7 =>
    andK (spec_PickBackend N j6.2.1 u2.1.2.1) fun u8 =>
    andK (α := ((Unit × (Unit × (Bool × Unit))) × ((List ByteArray) × ((List ByteArray) × ((List ByteArray) × ((List ByteArray) × Unit)))))) (
     sel (!(u7.1.2.1 == u8.1.2.1))
      (
      some ((((), ((), (true, ()))), (j6.2.1, (j6.2.2.1, (j6.2.2.2.1, (j6.2.2.2.2.1, ())))))))
      (
      some ((((), ((), ((!(decide (u7.1.1 = u8.1.1))), ()))), (j6.2.1, (j6.2.2.1, (j6.2.2.2.1, (j6.2.2.2.2.1, ())))))))) fun j9 =>
    sel j9.1.2.2.1
     (
     some ((false, ()), ()))
     (
     andK (α := (((Bool × Unit) × ((List ByteArray) × ((List ByteArray) × ((List ByteArray) × ((List ByteArray) × Unit))))) ⊕ ((Unit × Unit) × ((List ByteArray) × ((List ByteArray) × ((List ByteArray) × ((List ByteArray) × Unit))))))) (
      andK (α := ((Unit × (Unit × (Bool × Unit))) × ((List ByteArray) × ((List ByteArray) × ((List ByteArray) × ((List ByteArray) × Unit)))))) (
       sel u3.1.2.1
        (
        some ((((), ((), ((decide (0 < (j9.2.2.2.1.length : Int))), ()))), (j9.2.1, (j9.2.2.1, (j9.2.2.2.1, (j9.2.2.2.2.1, ())))))))
        (
        some ((((), ((), (false, ()))), (j9.2.1, (j9.2.2.1, (j9.2.2.2.1, (j9.2.2.2.2.1, ())))))))) fun j10 =>
      sel j10.1.2.2.1
       (
       andK (impl_PickBackend N j10.2.2.2.1 u2.1.2.1) fun u11 =>
       andK (impl_MovedKeys N j10.2.1 j10.2.2.2.1 [u2.1.2.1]) fun u12 =>
       andK (α := ((Unit × (Bool × Unit)) × ((List ByteArray) × ((List ByteArray) × ((List ByteArray) × ((List ByteArray) × ((List ByteArray) × Unit))))))) (
        sel (!u11.1.2.1)
         (
         some ((((), (true, ())), (j10.2.1, (j10.2.2.1, (j10.2.2.2.1, (j10.2.2.2.2.1, (u12.2.1, ()))))))))
         (
         sel (!u12.1.2.1)
          (
          some ((((), (true, ())), (j10.2.1, (j10.2.2.1, (j10.2.2.2.1, (j10.2.2.2.2.1, (u12.2.1, ()))))))))
          (
          sel (!(decide (u7.1.1 = u1.1.2.1)))
           (
           sel (!(decide (u11.1.1 = u7.1.1)))
            (
            some ((((), (true, ())), (j10.2.1, (j10.2.2.1, (j10.2.2.2.1, (j10.2.2.2.2.1, (u12.2.1, ()))))))))
            (
            some ((((), ((!((decide ((u12.2.1.length : Int) = 1)) == (decide (u7.1.1 = u1.1.2.1)))), ())), (j10.2.1, (j10.2.2.1, (j10.2.2.2.1, (j10.2.2.2.2.1, (u12.2.1, ())))))))))
           (
           some ((((), ((!((decide ((u12.2.1.length : Int) = 1)) == (decide (u7.1.1 = u1.1.2.1)))), ())), (j10.2.1, (j10.2.2.1, (j10.2.2.2.1, (j10.2.2.2.2.1, (u12.2.1, ()))))))))))) fun j13 =>
       sel j13.1.2.1
        (
        some (.inl ((false, ()), (j13.2.1, (j13.2.2.1, (j13.2.2.2.1, (j13.2.2.2.2.1, ())))))))
        (
        some (.inr ((((), ()), (j13.2.1, (j13.2.2.1, (j13.2.2.2.1, (j13.2.2.2.2.1, ())))))))))
       (
       some (.inr ((((), ()), (j10.2.1, (j10.2.2.1, (j10.2.2.2.1, (j10.2.2.2.2.1, ()))))))))) fun j14 =>
     orK j14 (fun x15 =>
      some ((x15.1.1, ()), ()))
      (fun x16 =>
      andK (impl_AddBackend N x16.2.1 u1.1.2.1) fun u17 =>
      andK (spec_AddBackend N x16.2.1 u1.1.2.1) fun u18 =>
      sel (!(u17.1.2.1 == u18.1.2.1))
       (
       some ((false, ()), ()))
       (
       sel (!u17.1.2.1)
        (
        some (((decide ((u17.2.1.length : Int) = 0)), ()), ()))
        (
        andK (impl_PickBackend N u17.2.1 u2.1.2.1) fun u19 =>
        sel u19.1.2.1
         (
         sel (decide (u19.1.1 = u1.1.2.1))
          (
          some ((true, ()), ()))
          (
          some (((decide (u19.1.1 = u7.1.1)), ()), ())))
         (
         some ((false, ()), ()))))))))) := by kernel_rfl
set_option maxRecDepth 100000 in
theorem laws_FnRendezvous.say (N : Nat) : SayOk Tryz.prog (laws_FnRendezvous.S N) := sayOk_mk (N := N) (H := laws_FnRendezvous.H) (preps := [⟨[], [], [], []⟩]) (l := laws_FnRendezvous.says) (fn := Tryz.f4) (c := bodyOf Tryz.f4)
  (by kernel_rfl) (by kernel_rfl) (by kernel_rfl) (by kernel_rfl) (by kernel_rfl) (by kernel_rfl) (by kernel_rfl)
  (fun N => SayAll.cons (spec_DrawDropBackend.say N) (SayAll.cons (spec_DrawPickBackend.say N) (SayAll.cons (impl_DropBackend.sayB N) (SayAll.cons (spec_DropBackend.sayB N) (SayAll.cons (laws_sameTexts.sayB N) (SayAll.cons (impl_PickBackend.sayB N) (SayAll.cons (spec_PickBackend.sayB N) (SayAll.cons (impl_MovedKeys.sayB N) (SayAll.cons (impl_AddBackend.sayB N) (SayAll.cons (spec_AddBackend.sayB N) (SayAll.nil))))))))))) (fun a s => by kernel_rfl)

end Go.Proofs.YthkjjombaoffcaaGreatDoor.GFnRendezvous
