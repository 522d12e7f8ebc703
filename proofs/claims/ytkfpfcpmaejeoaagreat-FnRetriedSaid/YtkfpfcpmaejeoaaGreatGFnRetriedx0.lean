-- Written by a program of this session out of the translation; Lean checks it.
import Derived.Test.YtkfpfcpmaejeoaaGreatPmLaw
import Derived.Test.YtkfpfcpmaejeoaaGreatProg
import Derived.Test.YtkfpfcpmaejeoaaGreatShelf
set_option linter.unusedVariables false
namespace Go.Proofs.YtkfpfcpmaejeoaaGreat.GFnRetried
open Go Go.Proofs Go.Proofs.YtkfpfcpmaejeoaaGreatPM

/-! ### (*loop.example/g00206/spec.l1Cur).next: function 98 -/
noncomputable def spec_l1Cur_next.H : Hints := hintsOf [(4, .join [⟨.normal, [], [0, 3], [.one (.ptr 0 0), ak_i], [.cells [.sh (.rows (.int .u8)), ck_i, .sh (.int .u64)]], [⟨[], [], [], []⟩]⟩])]
noncomputable def spec_l1Cur_next.says (N : Nat) : List Say := []
noncomputable def spec_l1Cur_next.call (N : Nat) : CallK := callBy (spec_l1Cur_next.says N)
noncomputable def spec_l1Cur_next.qt (N : Nat) : FuncId → List PV → Sig → Cl := qtBy (spec_l1Cur_next.says N)
noncomputable def spec_l1Cur_next (N : Nat) (p0_0 : (List Int)) (p0_1 : Int) (p0_2 : Int) : Option ((Int × Unit) × (((List Int) × (Int × (Int × Unit))) × Unit)) :=
  ofFn Tryz.prog spec_l1Cur_next.call spec_l1Cur_next.qt spec_l1Cur_next.H N Tryz.f98 [.one (.ptr 0 0)] [.cells [.sh (.rows (.int .u8)), ck_i, .sh (.int .u64)]] [ak_i] [.cells [.sh (.rows (.int .u8)), ck_i, .sh (.int .u64)]] [⟨[], [], [], []⟩] ((), ()) ((p0_0, (p0_1, (p0_2, ()))), ())
noncomputable def spec_l1Cur_next.S (N : Nat) : Say := ⟨false, 98, [.one (.ptr 0 0)], [.cells [.sh (.rows (.int .u8)), ck_i, .sh (.int .u64)]], [ak_i], [.cells [.sh (.rows (.int .u8)), ck_i, .sh (.int .u64)]], fun a s => spec_l1Cur_next N s.1.1 s.1.2.1 s.1.2.2.1⟩
set_option maxRecDepth 100000 in
theorem spec_l1Cur_next.eq (N : Nat) (p0_0 : (List Int)) (p0_1 : Int) (p0_2 : Int) : spec_l1Cur_next N p0_0 p0_1 p0_2 =
 andK (α := ((Unit × (Int × Unit)) × (((List Int) × (Int × (Int × Unit))) × Unit))) (
  sel (decide (p0_1 < (p0_0.length : Int)))
   (
   chk ((decide (0 ≤ p0_1)) && (decide (p0_1 < (p0_0.length : Int)))) (
   some ((((), ((IntKind.i64.wrap (p0_0.getD (Int.toNat p0_1) 0)), ())), ((p0_0, (p0_1, (p0_2, ()))), ())))))
   (
   some ((((), (0, ())), ((p0_0, (p0_1, (p0_2, ()))), ()))))) fun j1 =>
 sel (decide ((IntKind.i64.wrap (j1.2.1.2.1 + 1)) ≤ (j1.2.1.1.length : Int)))
  (
  some ((j1.1.2.1, ()), ((j1.2.1.1, ((IntKind.i64.wrap (j1.2.1.2.1 + 1)), ((IntKind.u64.wrap ((IntKind.u64.wrap ((IntKind.u64.wrap (j1.2.1.2.2.1 * 6364136223846793005)) + (IntKind.u64.wrap j1.1.2.1))) + 1442695040888963407)), ()))), ())))
  (
  some (((IntKind.i64.wrap (Go.bits .and .u64 (shrI .u64 (IntKind.u64.wrap ((IntKind.u64.wrap ((IntKind.u64.wrap (j1.2.1.2.2.1 * 6364136223846793005)) + (IntKind.u64.wrap j1.1.2.1))) + 1442695040888963407)) 40) 255)), ()), ((j1.2.1.1, ((IntKind.i64.wrap (j1.2.1.2.1 + 1)), ((IntKind.u64.wrap ((IntKind.u64.wrap ((IntKind.u64.wrap (j1.2.1.2.2.1 * 6364136223846793005)) + (IntKind.u64.wrap j1.1.2.1))) + 1442695040888963407)), ()))), ()))) := by kernel_rfl
set_option maxRecDepth 100000 in
theorem spec_l1Cur_next.say (N : Nat) : SayOk Tryz.prog (spec_l1Cur_next.S N) := sayOk_mk (N := N) (H := spec_l1Cur_next.H) (preps := [⟨[], [], [], []⟩]) (l := spec_l1Cur_next.says) (fn := Tryz.f98) (c := bodyOf Tryz.f98)
  (by kernel_rfl) (by kernel_rfl) (by kernel_rfl) (by kernel_rfl) (by kernel_rfl) (by kernel_rfl) (by kernel_rfl)
  (fun N => SayAll.nil) (fun a s => by kernel_rfl)

/-! ### (*loop.example/g00206/spec.l1Cur).pick: function 73 -/
noncomputable def spec_l1Cur_pick.H : Hints := hintsOf []
noncomputable def spec_l1Cur_pick.says (N : Nat) : List Say := [spec_l1Cur_next.S N]
noncomputable def spec_l1Cur_pick.call (N : Nat) : CallK := callBy (spec_l1Cur_pick.says N)
noncomputable def spec_l1Cur_pick.qt (N : Nat) : FuncId → List PV → Sig → Cl := qtBy (spec_l1Cur_pick.says N)
noncomputable def spec_l1Cur_pick (N : Nat) (n : Int) (p0_0 : (List Int)) (p0_1 : Int) (p0_2 : Int) : Option ((Int × Unit) × (((List Int) × (Int × (Int × Unit))) × Unit)) :=
  ofFn Tryz.prog spec_l1Cur_pick.call spec_l1Cur_pick.qt spec_l1Cur_pick.H N Tryz.f73 [.one (.ptr 0 0), ak_i] [.cells [.sh (.rows (.int .u8)), ck_i, .sh (.int .u64)]] [ak_i] [.cells [.sh (.rows (.int .u8)), ck_i, .sh (.int .u64)]] [⟨[], [], [], []⟩] ((), (n, ())) ((p0_0, (p0_1, (p0_2, ()))), ())
noncomputable def spec_l1Cur_pick.S (N : Nat) : Say := ⟨false, 73, [.one (.ptr 0 0), ak_i], [.cells [.sh (.rows (.int .u8)), ck_i, .sh (.int .u64)]], [ak_i], [.cells [.sh (.rows (.int .u8)), ck_i, .sh (.int .u64)]], fun a s => spec_l1Cur_pick N a.2.1 s.1.1 s.1.2.1 s.1.2.2.1⟩
set_option maxRecDepth 100000 in
theorem spec_l1Cur_pick.eq (N : Nat) (n : Int) (p0_0 : (List Int)) (p0_1 : Int) (p0_2 : Int) : spec_l1Cur_pick N n p0_0 p0_1 p0_2 =
 sel (decide (n ≤ 1))
  (
  some ((0, ()), ((p0_0, (p0_1, (p0_2, ()))), ())))
  (
  andK (spec_l1Cur_next N p0_0 p0_1 p0_2) fun u1 =>
  sel (decide (200 < n))
   (
   andK (spec_l1Cur_next N u1.2.1.1 u1.2.1.2.1 u1.2.1.2.2.1) fun u2 =>
   chk (n != 0) (
   some (((Int.tmod (IntKind.i64.wrap ((IntKind.i64.wrap (u1.1.1 * 256)) + u2.1.1)) n), ()), ((u2.2.1.1, (u2.2.1.2.1, (u2.2.1.2.2.1, ()))), ()))))
   (
   chk (n != 0) (
   some (((Int.tmod u1.1.1 n), ()), ((u1.2.1.1, (u1.2.1.2.1, (u1.2.1.2.2.1, ()))), ()))))) := by kernel_rfl
set_option maxRecDepth 100000 in
theorem spec_l1Cur_pick.say (N : Nat) : SayOk Tryz.prog (spec_l1Cur_pick.S N) := sayOk_mk (N := N) (H := spec_l1Cur_pick.H) (preps := [⟨[], [], [], []⟩]) (l := spec_l1Cur_pick.says) (fn := Tryz.f73) (c := bodyOf Tryz.f73)
  (by kernel_rfl) (by kernel_rfl) (by kernel_rfl) (by kernel_rfl) (by kernel_rfl) (by kernel_rfl) (by kernel_rfl)
  (fun N => SayAll.cons (spec_l1Cur_next.say N) (SayAll.nil)) (fun a s => by kernel_rfl)

/-! ### (*loop.example/g00206/spec.l1Cur).one: function 34 -/
noncomputable def spec_l1Cur_one.H : Hints := hintsOf []
noncomputable def spec_l1Cur_one.says (N : Nat) : List Say := [spec_l1Cur_pick.S N]
noncomputable def spec_l1Cur_one.call (N : Nat) : CallK := callBy (spec_l1Cur_one.says N)
noncomputable def spec_l1Cur_one.qt (N : Nat) : FuncId → List PV → Sig → Cl := qtBy (spec_l1Cur_one.says N)
noncomputable def spec_l1Cur_one (N : Nat) (n : Int) (p0_0 : (List Int)) (p0_1 : Int) (p0_2 : Int) : Option ((Bool × Unit) × (((List Int) × (Int × (Int × Unit))) × Unit)) :=
  ofFn Tryz.prog spec_l1Cur_one.call spec_l1Cur_one.qt spec_l1Cur_one.H N Tryz.f34 [.one (.ptr 0 0), ak_i] [.cells [.sh (.rows (.int .u8)), ck_i, .sh (.int .u64)]] [ak_b] [.cells [.sh (.rows (.int .u8)), ck_i, .sh (.int .u64)]] [⟨[], [], [], []⟩] ((), (n, ())) ((p0_0, (p0_1, (p0_2, ()))), ())
noncomputable def spec_l1Cur_one.S (N : Nat) : Say := ⟨false, 34, [.one (.ptr 0 0), ak_i], [.cells [.sh (.rows (.int .u8)), ck_i, .sh (.int .u64)]], [ak_b], [.cells [.sh (.rows (.int .u8)), ck_i, .sh (.int .u64)]], fun a s => spec_l1Cur_one N a.2.1 s.1.1 s.1.2.1 s.1.2.2.1⟩
set_option maxRecDepth 100000 in
theorem spec_l1Cur_one.eq (N : Nat) (n : Int) (p0_0 : (List Int)) (p0_1 : Int) (p0_2 : Int) : spec_l1Cur_one N n p0_0 p0_1 p0_2 =
 andK (spec_l1Cur_pick N n p0_0 p0_1 p0_2) fun u1 =>
 some (((decide (u1.1.1 = 0)), ()), ((u1.2.1.1, (u1.2.1.2.1, (u1.2.1.2.2.1, ()))), ())) := by kernel_rfl
set_option maxRecDepth 100000 in
theorem spec_l1Cur_one.say (N : Nat) : SayOk Tryz.prog (spec_l1Cur_one.S N) := sayOk_mk (N := N) (H := spec_l1Cur_one.H) (preps := [⟨[], [], [], []⟩]) (l := spec_l1Cur_one.says) (fn := Tryz.f34) (c := bodyOf Tryz.f34)
  (by kernel_rfl) (by kernel_rfl) (by kernel_rfl) (by kernel_rfl) (by kernel_rfl) (by kernel_rfl) (by kernel_rfl)
  (fun N => SayAll.cons (spec_l1Cur_pick.say N) (SayAll.nil)) (fun a s => by kernel_rfl)

/-! ### (*loop.example/g00206/spec.l1Cur).among: function 75 -/
noncomputable def spec_l1Cur_among.H : Hints := hintsOf []
noncomputable def spec_l1Cur_among.says (N : Nat) : List Say := [spec_l1Cur_pick.S N]
noncomputable def spec_l1Cur_among.call (N : Nat) : CallK := callBy (spec_l1Cur_among.says N)
noncomputable def spec_l1Cur_among.qt (N : Nat) : FuncId → List PV → Sig → Cl := qtBy (spec_l1Cur_among.says N)
noncomputable def spec_l1Cur_among (N : Nat) (list : (List Int)) (p0_0 : (List Int)) (p0_1 : Int) (p0_2 : Int) : Option ((Int × Unit) × (((List Int) × (Int × (Int × Unit))) × Unit)) :=
  ofFn Tryz.prog spec_l1Cur_among.call spec_l1Cur_among.qt spec_l1Cur_among.H N Tryz.f75 [.one (.ptr 0 0), .one (.sh (.rows (.int .i64)))] [.cells [.sh (.rows (.int .u8)), ck_i, .sh (.int .u64)]] [ak_i] [.cells [.sh (.rows (.int .u8)), ck_i, .sh (.int .u64)]] [⟨[], [], [], []⟩] ((), (list, ())) ((p0_0, (p0_1, (p0_2, ()))), ())
noncomputable def spec_l1Cur_among.S (N : Nat) : Say := ⟨false, 75, [.one (.ptr 0 0), .one (.sh (.rows (.int .i64)))], [.cells [.sh (.rows (.int .u8)), ck_i, .sh (.int .u64)]], [ak_i], [.cells [.sh (.rows (.int .u8)), ck_i, .sh (.int .u64)]], fun a s => spec_l1Cur_among N a.2.1 s.1.1 s.1.2.1 s.1.2.2.1⟩
set_option maxRecDepth 100000 in
theorem spec_l1Cur_among.eq (N : Nat) (list : (List Int)) (p0_0 : (List Int)) (p0_1 : Int) (p0_2 : Int) : spec_l1Cur_among N list p0_0 p0_1 p0_2 =
 andK (spec_l1Cur_pick N (list.length : Int) p0_0 p0_1 p0_2) fun u1 =>
 chk ((decide (0 ≤ u1.1.1)) && (decide (u1.1.1 < (list.length : Int)))) (
 some (((list.getD (Int.toNat u1.1.1) 0), ()), ((u1.2.1.1, (u1.2.1.2.1, (u1.2.1.2.2.1, ()))), ()))) := by kernel_rfl
set_option maxRecDepth 100000 in
theorem spec_l1Cur_among.say (N : Nat) : SayOk Tryz.prog (spec_l1Cur_among.S N) := sayOk_mk (N := N) (H := spec_l1Cur_among.H) (preps := [⟨[], [], [], []⟩]) (l := spec_l1Cur_among.says) (fn := Tryz.f75) (c := bodyOf Tryz.f75)
  (by kernel_rfl) (by kernel_rfl) (by kernel_rfl) (by kernel_rfl) (by kernel_rfl) (by kernel_rfl) (by kernel_rfl)
  (fun N => SayAll.cons (spec_l1Cur_pick.say N) (SayAll.nil)) (fun a s => by kernel_rfl)

/-! ### (*loop.example/g00206/spec.l1Cur).sizedBytes: function 74 -/
noncomputable def spec_l1Cur_sizedBytes.H : Hints := hintsOf [(2000003, .loop ⟨.normal, [10], [0, 5, 11], [.one (.ptr 0 0), .one (.own 1), ak_i], [.cells [.sh (.rows (.int .u8)), ck_i, .sh (.int .u64)], .rows (.int .u8)], [⟨[], [], [], []⟩]⟩ [⟨(.exit 0), [], [5], [.one (.own 1)], [.cells [.sh (.rows (.int .u8)), ck_i, .sh (.int .u64)], .rows (.int .u8)], [⟨[], [], [], []⟩]⟩])]
noncomputable def spec_l1Cur_sizedBytes.says (N : Nat) : List Say := [spec_l1Cur_pick.S N]
noncomputable def spec_l1Cur_sizedBytes.call (N : Nat) : CallK := callBy (spec_l1Cur_sizedBytes.says N)
noncomputable def spec_l1Cur_sizedBytes.qt (N : Nat) : FuncId → List PV → Sig → Cl := qtBy (spec_l1Cur_sizedBytes.says N)
noncomputable def spec_l1Cur_sizedBytes.l0.hd : Alt := ⟨.normal, [10], [0, 5, 11], [.one (.ptr 0 0), .one (.own 1), ak_i], [.cells [.sh (.rows (.int .u8)), ck_i, .sh (.int .u64)], .rows (.int .u8)], [⟨[], [], [], []⟩]⟩
noncomputable def spec_l1Cur_sizedBytes.l0.outs : List Alt := [⟨(.exit 0), [], [5], [.one (.own 1)], [.cells [.sh (.rows (.int .u8)), ck_i, .sh (.int .u64)], .rows (.int .u8)], [⟨[], [], [], []⟩]⟩]
noncomputable def spec_l1Cur_sizedBytes.l0 (N : Nat) (t10 : Int) (t11 : Int) (p0_01 : (List Int)) (p0_11 : Int) (p0_21 : Int) (p1 : (List Int)) : Option ((Unit × Unit) × (((List Int) × (Int × (Int × Unit))) × ((List Int) × Unit))) :=
  loopK Tryz.prog spec_l1Cur_sizedBytes.call spec_l1Cur_sizedBytes.qt spec_l1Cur_sizedBytes.H (codeAt (bodyOf Tryz.f74) [1, 1, 0, 1, 0, 0]) 2 spec_l1Cur_sizedBytes.l0.hd spec_l1Cur_sizedBytes.l0.outs [(10, .v (.int .i64 t10))] N (((), ((), (t11, ()))), ((p0_01, (p0_11, (p0_21, ()))), (p1, ())))
noncomputable def spec_l1Cur_sizedBytes (N : Nat) (n : Int) (p0_0 : (List Int)) (p0_1 : Int) (p0_2 : Int) : Option ((Unit × Unit) × (((List Int) × (Int × (Int × Unit))) × ((List Int) × Unit))) :=
  ofFn Tryz.prog spec_l1Cur_sizedBytes.call spec_l1Cur_sizedBytes.qt spec_l1Cur_sizedBytes.H N Tryz.f74 [.one (.ptr 0 0), ak_i] [.cells [.sh (.rows (.int .u8)), ck_i, .sh (.int .u64)]] [.one (.own 1)] [.cells [.sh (.rows (.int .u8)), ck_i, .sh (.int .u64)], .rows (.int .u8)] [⟨[], [], [], [1]⟩] ((), (n, ())) ((p0_0, (p0_1, (p0_2, ()))), ())
noncomputable def spec_l1Cur_sizedBytes.S (N : Nat) : Say := ⟨false, 74, [.one (.ptr 0 0), ak_i], [.cells [.sh (.rows (.int .u8)), ck_i, .sh (.int .u64)]], [.one (.own 1)], [.cells [.sh (.rows (.int .u8)), ck_i, .sh (.int .u64)], .rows (.int .u8)], fun a s => spec_l1Cur_sizedBytes N a.2.1 s.1.1 s.1.2.1 s.1.2.2.1⟩
set_option maxRecDepth 100000 in
theorem spec_l1Cur_sizedBytes.l0.eq (N : Nat) (t10 : Int) (t11 : Int) (p0_01 : (List Int)) (p0_11 : Int) (p0_21 : Int) (p1 : (List Int)) : spec_l1Cur_sizedBytes.l0 (N + 1) t10 t11 p0_01 p0_11 p0_21 p1 =
 sel (decide (t11 < t10))
  (
  andK (spec_l1Cur_pick N 256 p0_01 p0_11 p0_21) fun u1 =>
  chk ((decide (0 ≤ t11)) && (decide (t11 < (p1.length : Int)))) (
  spec_l1Cur_sizedBytes.l0 N t10 (IntKind.i64.wrap (t11 + 1)) u1.2.1.1 u1.2.1.2.1 u1.2.1.2.2.1 (p1.set (Int.toNat t11) (IntKind.u8.wrap u1.1.1))))
  (
  some ((((), ()), ((p0_01, (p0_11, (p0_21, ()))), (p1, ()))))) := by kernel_rfl
set_option maxRecDepth 100000 in
theorem spec_l1Cur_sizedBytes.eq (N : Nat) (n : Int) (p0_0 : (List Int)) (p0_1 : Int) (p0_2 : Int) : spec_l1Cur_sizedBytes N n p0_0 p0_1 p0_2 =
 chk ((decide (0 ≤ n)) && ((smallI n) && (decide (n = n)))) (
 andK (spec_l1Cur_sizedBytes.l0 N ((List.replicate (Int.toNat n) (0 : Int)).length : Int) 0 p0_0 p0_1 p0_2 (List.replicate (Int.toNat n) (0 : Int))) fun l2 =>
 some (((), ()), ((l2.2.1.1, (l2.2.1.2.1, (l2.2.1.2.2.1, ()))), (l2.2.2.1, ())))) := by kernel_rfl
set_option maxRecDepth 100000 in
theorem spec_l1Cur_sizedBytes.say (N : Nat) : SayOk Tryz.prog (spec_l1Cur_sizedBytes.S N) := sayOk_mk (N := N) (H := spec_l1Cur_sizedBytes.H) (preps := [⟨[], [], [], [1]⟩]) (l := spec_l1Cur_sizedBytes.says) (fn := Tryz.f74) (c := bodyOf Tryz.f74)
  (by kernel_rfl) (by kernel_rfl) (by kernel_rfl) (by kernel_rfl) (by kernel_rfl) (by kernel_rfl) (by kernel_rfl)
  (fun N => SayAll.cons (spec_l1Cur_pick.say N) (SayAll.nil)) (fun a s => by kernel_rfl)

/-! ### (*loop.example/g00206/spec.l1Cur).id: function 35 -/
noncomputable def spec_l1Cur_id.H : Hints := hintsOf [(4, .join [⟨.normal, [], [0, 3], [.one (.ptr 0 0), ak_i], [.cells [.sh (.rows (.int .u8)), ck_i, .sh (.int .u64)]], [⟨[], [], [], []⟩]⟩])]
noncomputable def spec_l1Cur_id.says (N : Nat) : List Say := [spec_l1Cur_pick.S N, spec_l1Cur_one.S N, spec_l1Cur_among.S N, spec_l1Cur_sizedBytes.S N]
noncomputable def spec_l1Cur_id.call (N : Nat) : CallK := callBy (spec_l1Cur_id.says N)
noncomputable def spec_l1Cur_id.qt (N : Nat) : FuncId → List PV → Sig → Cl := qtBy (spec_l1Cur_id.says N)
noncomputable def spec_l1Cur_id (N : Nat) (p0_0 : (List Int)) (p0_1 : Int) (p0_2 : Int) : Option ((ByteArray × Unit) × (((List Int) × (Int × (Int × Unit))) × Unit)) :=
  ofFn Tryz.prog spec_l1Cur_id.call spec_l1Cur_id.qt spec_l1Cur_id.H N Tryz.f35 [.one (.ptr 0 0)] [.cells [.sh (.rows (.int .u8)), ck_i, .sh (.int .u64)]] [ak_s] [.cells [.sh (.rows (.int .u8)), ck_i, .sh (.int .u64)]] [⟨[], [], [], []⟩] ((), ()) ((p0_0, (p0_1, (p0_2, ()))), ())
noncomputable def spec_l1Cur_id.S (N : Nat) : Say := ⟨false, 35, [.one (.ptr 0 0)], [.cells [.sh (.rows (.int .u8)), ck_i, .sh (.int .u64)]], [ak_s], [.cells [.sh (.rows (.int .u8)), ck_i, .sh (.int .u64)]], fun a s => spec_l1Cur_id N s.1.1 s.1.2.1 s.1.2.2.1⟩
set_option maxRecDepth 100000 in
theorem spec_l1Cur_id.eq (N : Nat) (p0_0 : (List Int)) (p0_1 : Int) (p0_2 : Int) : spec_l1Cur_id N p0_0 p0_1 p0_2 =
 andK (spec_l1Cur_pick N 10 p0_0 p0_1 p0_2) fun u1 =>
 andK (α := ((Unit × (Int × Unit)) × (((List Int) × (Int × (Int × Unit))) × Unit))) (
  andK (spec_l1Cur_one N 12 u1.2.1.1 u1.2.1.2.1 u1.2.1.2.2.1) fun u2 =>
  sel u2.1.1
   (
   andK (spec_l1Cur_among N [20, 21, 0] u2.2.1.1 u2.2.1.2.1 u2.2.1.2.2.1) fun u3 =>
   some ((((), (u3.1.1, ())), ((u3.2.1.1, (u3.2.1.2.1, (u3.2.1.2.2.1, ()))), ()))))
   (
   some ((((), (u1.1.1, ())), ((u2.2.1.1, (u2.2.1.2.1, (u2.2.1.2.2.1, ()))), ()))))) fun j4 =>
 andK (spec_l1Cur_sizedBytes N j4.1.2.1 j4.2.1.1 j4.2.1.2.1 j4.2.1.2.2.1) fun u5 =>
 some (((strL u5.2.2.1), ()), ((u5.2.1.1, (u5.2.1.2.1, (u5.2.1.2.2.1, ()))), ())) := by kernel_rfl
set_option maxRecDepth 100000 in
theorem spec_l1Cur_id.say (N : Nat) : SayOk Tryz.prog (spec_l1Cur_id.S N) := sayOk_mk (N := N) (H := spec_l1Cur_id.H) (preps := [⟨[], [], [], []⟩]) (l := spec_l1Cur_id.says) (fn := Tryz.f35) (c := bodyOf Tryz.f35)
  (by kernel_rfl) (by kernel_rfl) (by kernel_rfl) (by kernel_rfl) (by kernel_rfl) (by kernel_rfl) (by kernel_rfl)
  (fun N => SayAll.cons (spec_l1Cur_pick.say N) (SayAll.cons (spec_l1Cur_one.say N) (SayAll.cons (spec_l1Cur_among.say N) (SayAll.cons (spec_l1Cur_sizedBytes.say N) (SayAll.nil))))) (fun a s => by kernel_rfl)

/-! ### (*loop.example/g00206/spec.l1Cur).header: function 33 -/
noncomputable def spec_l1Cur_header.H : Hints := hintsOf [(5, .join [⟨.normal, [], [0, 2, 3], [.one (.ptr 0 0), .one (.ptr 1 0), .one (.ptr 3 0)], [.cells [.sh (.rows (.int .u8)), ck_i, .sh (.int .u64)], .cells [ck_i, ck_i, ck_i, ck_s, ck_s, ck_s, ck_s, .nil], .rows (.int .u8), .cells [ck_i, ck_i, ck_i, ck_s, ck_s, ck_s, ck_s, .nil]], [⟨[], [], [], []⟩]⟩]),
  (5000005, .join [⟨.normal, [], [0, 2, 3, 34], [.one (.ptr 0 0), .one (.ptr 1 0), .one (.ptr 3 0), ak_b], [.cells [.sh (.rows (.int .u8)), ck_i, .sh (.int .u64)], .cells [ck_i, ck_i, ck_i, ck_s, ck_s, ck_s, ck_s, .nil], .rows (.int .u8), .cells [ck_i, ck_i, ck_i, ck_s, ck_s, ck_s, ck_s, .nil]], [⟨[], [], [], []⟩]⟩]),
  (7, .join [⟨.normal, [], [0, 2, 3], [.one (.ptr 0 0), .one (.ptr 1 0), .one (.ptr 3 0)], [.cells [.sh (.rows (.int .u8)), ck_i, .sh (.int .u64)], .cells [ck_i, ck_i, ck_i, ck_s, ck_s, ck_s, ck_s, .nil], .rows (.int .u8), .cells [ck_i, ck_i, ck_i, ck_s, ck_s, ck_s, ck_s, .nil]], [⟨[], [], [], []⟩]⟩]),
  (2000011, .loop ⟨.normal, [], [0, 2, 3, 4], [.one (.ptr 0 0), .one (.ptr 1 0), .one (.ptr 3 0), ak_i], [.cells [.sh (.rows (.int .u8)), ck_i, .sh (.int .u64)], .cells [ck_i, ck_i, ck_i, ck_s, ck_s, ck_s, ck_s, .nil], .rows (.int .u8), .cells [ck_i, ck_i, ck_i, ck_s, ck_s, ck_s, ck_s, .own 4], .rows (.int .i64)], [⟨[], [(3, (7, (.int .i64)))], [], [4]⟩, ⟨[], [], [], [4]⟩]⟩ [⟨(.exit 0), [], [0, 2, 3], [.one (.ptr 0 0), .one (.ptr 1 0), .one (.ptr 3 0)], [.cells [.sh (.rows (.int .u8)), ck_i, .sh (.int .u64)], .cells [ck_i, ck_i, ck_i, ck_s, ck_s, ck_s, ck_s, .nil], .rows (.int .u8), .cells [ck_i, ck_i, ck_i, ck_s, ck_s, ck_s, ck_s, .own 4], .rows (.int .i64)], [⟨[], [], [], [4]⟩]⟩]),
  (14, .join [⟨.normal, [], [0, 2, 3], [.one (.ptr 0 0), .one (.ptr 1 0), .one (.ptr 3 0)], [.cells [.sh (.rows (.int .u8)), ck_i, .sh (.int .u64)], .cells [ck_i, ck_i, ck_i, ck_s, ck_s, ck_s, ck_s, .nil], .rows (.int .u8), .cells [ck_i, ck_i, ck_i, ck_s, ck_s, ck_s, ck_s, .own 4], .rows (.int .i64)], [⟨[], [], [], [4]⟩, ⟨[], [(3, (7, (.int .i64)))], [], [4]⟩]⟩])]
noncomputable def spec_l1Cur_header.says (N : Nat) : List Say := [spec_l1Cur_pick.S N, spec_l1Cur_id.S N, spec_l1Cur_sizedBytes.S N, spec_l1Cur_among.S N, spec_l1Cur_one.S N]
noncomputable def spec_l1Cur_header.call (N : Nat) : CallK := callBy (spec_l1Cur_header.says N)
noncomputable def spec_l1Cur_header.qt (N : Nat) : FuncId → List PV → Sig → Cl := qtBy (spec_l1Cur_header.says N)
noncomputable def spec_l1Cur_header.l0.hd : Alt := ⟨.normal, [], [0, 2, 3, 4], [.one (.ptr 0 0), .one (.ptr 1 0), .one (.ptr 3 0), ak_i], [.cells [.sh (.rows (.int .u8)), ck_i, .sh (.int .u64)], .cells [ck_i, ck_i, ck_i, ck_s, ck_s, ck_s, ck_s, .nil], .rows (.int .u8), .cells [ck_i, ck_i, ck_i, ck_s, ck_s, ck_s, ck_s, .own 4], .rows (.int .i64)], [⟨[], [(3, (7, (.int .i64)))], [], [4]⟩, ⟨[], [], [], [4]⟩]⟩
noncomputable def spec_l1Cur_header.l0.outs : List Alt := [⟨(.exit 0), [], [0, 2, 3], [.one (.ptr 0 0), .one (.ptr 1 0), .one (.ptr 3 0)], [.cells [.sh (.rows (.int .u8)), ck_i, .sh (.int .u64)], .cells [ck_i, ck_i, ck_i, ck_s, ck_s, ck_s, ck_s, .nil], .rows (.int .u8), .cells [ck_i, ck_i, ck_i, ck_s, ck_s, ck_s, ck_s, .own 4], .rows (.int .i64)], [⟨[], [], [], [4]⟩]⟩]
noncomputable def spec_l1Cur_header.l0 (N : Nat) (o : Int) (p0_01 : (List Int)) (p0_11 : Int) (p0_21 : Int) (p1_0 : Int) (p1_1 : Int) (p1_2 : Int) (p1_3 : ByteArray) (p1_4 : ByteArray) (p1_5 : ByteArray) (p1_6 : ByteArray) (p2 : (List Int)) (p3_0 : Int) (p3_1 : Int) (p3_2 : Int) (p3_3 : ByteArray) (p3_4 : ByteArray) (p3_5 : ByteArray) (p3_6 : ByteArray) (p4 : (List Int)) : Option ((Unit × (Unit × (Unit × Unit))) × (((List Int) × (Int × (Int × Unit))) × ((Int × (Int × (Int × (ByteArray × (ByteArray × (ByteArray × (ByteArray × (Unit × Unit)))))))) × ((List Int) × ((Int × (Int × (Int × (ByteArray × (ByteArray × (ByteArray × (ByteArray × (Unit × Unit)))))))) × ((List Int) × Unit)))))) :=
  loopK Tryz.prog spec_l1Cur_header.call spec_l1Cur_header.qt spec_l1Cur_header.H (codeAt (bodyOf Tryz.f33) [1, 1, 1, 1, 0, 1, 0, 1, 1, 1, 0, 0]) 4 spec_l1Cur_header.l0.hd spec_l1Cur_header.l0.outs [] N (((), ((), ((), (o, ())))), ((p0_01, (p0_11, (p0_21, ()))), ((p1_0, (p1_1, (p1_2, (p1_3, (p1_4, (p1_5, (p1_6, ((), ())))))))), (p2, ((p3_0, (p3_1, (p3_2, (p3_3, (p3_4, (p3_5, (p3_6, ((), ())))))))), (p4, ()))))))
noncomputable def spec_l1Cur_header (N : Nat) (p0_0 : (List Int)) (p0_1 : Int) (p0_2 : Int) : Option (((Int × (Int × (Int × (ByteArray × (ByteArray × (ByteArray × (ByteArray × (Unit × Unit)))))))) × Unit) × (((List Int) × (Int × (Int × Unit))) × ((List Int) × Unit))) :=
  ofFn Tryz.prog spec_l1Cur_header.call spec_l1Cur_header.qt spec_l1Cur_header.H N Tryz.f33 [.one (.ptr 0 0)] [.cells [.sh (.rows (.int .u8)), ck_i, .sh (.int .u64)]] [.agg [ck_i, ck_i, ck_i, ck_s, ck_s, ck_s, ck_s, .own 1]] [.cells [.sh (.rows (.int .u8)), ck_i, .sh (.int .u64)], .rows (.int .i64)] [⟨[], [], [], [4]⟩] ((), ()) ((p0_0, (p0_1, (p0_2, ()))), ())
noncomputable def spec_l1Cur_header.S (N : Nat) : Say := ⟨false, 33, [.one (.ptr 0 0)], [.cells [.sh (.rows (.int .u8)), ck_i, .sh (.int .u64)]], [.agg [ck_i, ck_i, ck_i, ck_s, ck_s, ck_s, ck_s, .own 1]], [.cells [.sh (.rows (.int .u8)), ck_i, .sh (.int .u64)], .rows (.int .i64)], fun a s => spec_l1Cur_header N s.1.1 s.1.2.1 s.1.2.2.1⟩
set_option maxRecDepth 100000 in
theorem spec_l1Cur_header.l0.eq (N : Nat) (o : Int) (p0_01 : (List Int)) (p0_11 : Int) (p0_21 : Int) (p1_0 : Int) (p1_1 : Int) (p1_2 : Int) (p1_3 : ByteArray) (p1_4 : ByteArray) (p1_5 : ByteArray) (p1_6 : ByteArray) (p2 : (List Int)) (p3_0 : Int) (p3_1 : Int) (p3_2 : Int) (p3_3 : ByteArray) (p3_4 : ByteArray) (p3_5 : ByteArray) (p3_6 : ByteArray) (p4 : (List Int)) : spec_l1Cur_header.l0 (N + 1) o p0_01 p0_11 p0_21 p1_0 p1_1 p1_2 p1_3 p1_4 p1_5 p1_6 p2 p3_0 p3_1 p3_2 p3_3 p3_4 p3_5 p3_6 p4 =
 sel (decide (0 < o))
  (
  andK (spec_l1Cur_among N [0, 1, 4294967295, 7] p0_01 p0_11 p0_21) fun u15 =>
  chk (decide (p4.length + 1 < most)) (
  spec_l1Cur_header.l0 N (IntKind.i64.wrap (o - 1)) u15.2.1.1 u15.2.1.2.1 u15.2.1.2.2.1 p1_0 p1_1 p1_2 p1_3 p1_4 p1_5 p1_6 p2 p3_0 p3_1 p3_2 p3_3 p3_4 p3_5 p3_6 (p4 ++ [u15.1.1])))
  (
  some ((((), ((), ((), ()))), ((p0_01, (p0_11, (p0_21, ()))), ((p1_0, (p1_1, (p1_2, (p1_3, (p1_4, (p1_5, (p1_6, ((), ())))))))), (p2, ((p3_0, (p3_1, (p3_2, (p3_3, (p3_4, (p3_5, (p3_6, ((), ())))))))), (p4, ())))))))) := by kernel_rfl
set_option maxRecDepth 100000 in
theorem spec_l1Cur_header.eq (N : Nat) (p0_0 : (List Int)) (p0_1 : Int) (p0_2 : Int) : spec_l1Cur_header N p0_0 p0_1 p0_2 =
 andK (spec_l1Cur_pick N 6 p0_0 p0_1 p0_2) fun u1 =>
 andK (spec_l1Cur_pick N 16 u1.2.1.1 u1.2.1.2.1 u1.2.1.2.2.1) fun u2 =>
 andK (spec_l1Cur_id N u2.2.1.1 u2.2.1.2.1 u2.2.1.2.2.1) fun u3 =>
 andK (spec_l1Cur_pick N 20 u3.2.1.1 u3.2.1.2.1 u3.2.1.2.2.1) fun u4 =>
 andK (spec_l1Cur_sizedBytes N (IntKind.i64.wrap (1 + u4.1.1)) u4.2.1.1 u4.2.1.2.1 u4.2.1.2.2.1) fun u5 =>
 andK (α := ((Unit × (Unit × (Unit × Unit))) × (((List Int) × (Int × (Int × Unit))) × ((Int × (Int × (Int × (ByteArray × (ByteArray × (ByteArray × (ByteArray × (Unit × Unit)))))))) × ((List Int) × ((Int × (Int × (Int × (ByteArray × (ByteArray × (ByteArray × (ByteArray × (Unit × Unit)))))))) × Unit)))))) (
  sel (!(decide (u1.1.1 = 5)))
   (
   andK (spec_l1Cur_id N u5.2.1.1 u5.2.1.2.1 u5.2.1.2.2.1) fun u6 =>
   andK (spec_l1Cur_among N [1, 1, 4294967295, 1798521807] u6.2.1.1 u6.2.1.2.1 u6.2.1.2.2.1) fun u7 =>
   some ((((), ((), ((), ()))), ((u7.2.1.1, (u7.2.1.2.1, (u7.2.1.2.2.1, ()))), ((0, (0, (0, ((⟨#[]⟩ : ByteArray), ((⟨#[]⟩ : ByteArray), ((⟨#[]⟩ : ByteArray), ((⟨#[]⟩ : ByteArray), ((), ())))))))), (u5.2.2.1, ((u1.1.1, (u2.1.1, (u7.1.1, (u3.1.1, (u6.1.1, ((⟨#[]⟩ : ByteArray), ((strL u5.2.2.1), ((), ())))))))), ())))))))
   (
   some ((((), ((), ((), ()))), ((u5.2.1.1, (u5.2.1.2.1, (u5.2.1.2.2.1, ()))), ((0, (0, (0, ((⟨#[]⟩ : ByteArray), ((⟨#[]⟩ : ByteArray), ((⟨#[]⟩ : ByteArray), ((⟨#[]⟩ : ByteArray), ((), ())))))))), (u5.2.2.1, ((u1.1.1, (u2.1.1, (0, (u3.1.1, ((⟨#[]⟩ : ByteArray), ((⟨#[]⟩ : ByteArray), ((strL u5.2.2.1), ((), ())))))))), ())))))))) fun j8 =>
 andK (α := ((Unit × (Unit × (Unit × Unit))) × (((List Int) × (Int × (Int × Unit))) × ((Int × (Int × (Int × (ByteArray × (ByteArray × (ByteArray × (ByteArray × (Unit × Unit)))))))) × ((List Int) × ((Int × (Int × (Int × (ByteArray × (ByteArray × (ByteArray × (ByteArray × (Unit × Unit)))))))) × Unit)))))) (
  andK (α := ((Unit × (Unit × (Unit × (Bool × Unit)))) × (((List Int) × (Int × (Int × Unit))) × ((Int × (Int × (Int × (ByteArray × (ByteArray × (ByteArray × (ByteArray × (Unit × Unit)))))))) × ((List Int) × ((Int × (Int × (Int × (ByteArray × (ByteArray × (ByteArray × (ByteArray × (Unit × Unit)))))))) × Unit)))))) (
   sel (decide (j8.2.2.2.2.1.1 = 0))
    (
    andK (spec_l1Cur_one N 2 j8.2.1.1 j8.2.1.2.1 j8.2.1.2.2.1) fun u9 =>
    some ((((), ((), ((), (u9.1.1, ())))), ((u9.2.1.1, (u9.2.1.2.1, (u9.2.1.2.2.1, ()))), ((j8.2.2.1.1, (j8.2.2.1.2.1, (j8.2.2.1.2.2.1, (j8.2.2.1.2.2.2.1, (j8.2.2.1.2.2.2.2.1, (j8.2.2.1.2.2.2.2.2.1, (j8.2.2.1.2.2.2.2.2.2.1, ((), ())))))))), (j8.2.2.2.1, ((j8.2.2.2.2.1.1, (j8.2.2.2.2.1.2.1, (j8.2.2.2.2.1.2.2.1, (j8.2.2.2.2.1.2.2.2.1, (j8.2.2.2.2.1.2.2.2.2.1, (j8.2.2.2.2.1.2.2.2.2.2.1, (j8.2.2.2.2.1.2.2.2.2.2.2.1, ((), ())))))))), ())))))))
    (
    some ((((), ((), ((), (false, ())))), ((j8.2.1.1, (j8.2.1.2.1, (j8.2.1.2.2.1, ()))), ((j8.2.2.1.1, (j8.2.2.1.2.1, (j8.2.2.1.2.2.1, (j8.2.2.1.2.2.2.1, (j8.2.2.1.2.2.2.2.1, (j8.2.2.1.2.2.2.2.2.1, (j8.2.2.1.2.2.2.2.2.2.1, ((), ())))))))), (j8.2.2.2.1, ((j8.2.2.2.2.1.1, (j8.2.2.2.2.1.2.1, (j8.2.2.2.2.1.2.2.1, (j8.2.2.2.2.1.2.2.2.1, (j8.2.2.2.2.1.2.2.2.2.1, (j8.2.2.2.2.1.2.2.2.2.2.1, (j8.2.2.2.2.1.2.2.2.2.2.2.1, ((), ())))))))), ())))))))) fun j10 =>
  sel j10.1.2.2.2.1
   (
   andK (spec_l1Cur_pick N 80 j10.2.1.1 j10.2.1.2.1 j10.2.1.2.2.1) fun u11 =>
   andK (spec_l1Cur_sizedBytes N u11.1.1 u11.2.1.1 u11.2.1.2.1 u11.2.1.2.2.1) fun u12 =>
   some ((((), ((), ((), ()))), ((u12.2.1.1, (u12.2.1.2.1, (u12.2.1.2.2.1, ()))), ((j10.2.2.1.1, (j10.2.2.1.2.1, (j10.2.2.1.2.2.1, (j10.2.2.1.2.2.2.1, (j10.2.2.1.2.2.2.2.1, (j10.2.2.1.2.2.2.2.2.1, (j10.2.2.1.2.2.2.2.2.2.1, ((), ())))))))), (j10.2.2.2.1, ((j10.2.2.2.2.1.1, (j10.2.2.2.2.1.2.1, (j10.2.2.2.2.1.2.2.1, (j10.2.2.2.2.1.2.2.2.1, (j10.2.2.2.2.1.2.2.2.2.1, ((strL u12.2.2.1), (j10.2.2.2.2.1.2.2.2.2.2.2.1, ((), ())))))))), ())))))))
   (
   some ((((), ((), ((), ()))), ((j10.2.1.1, (j10.2.1.2.1, (j10.2.1.2.2.1, ()))), ((j10.2.2.1.1, (j10.2.2.1.2.1, (j10.2.2.1.2.2.1, (j10.2.2.1.2.2.2.1, (j10.2.2.1.2.2.2.2.1, (j10.2.2.1.2.2.2.2.2.1, (j10.2.2.1.2.2.2.2.2.2.1, ((), ())))))))), (j10.2.2.2.1, ((j10.2.2.2.2.1.1, (j10.2.2.2.2.1.2.1, (j10.2.2.2.2.1.2.2.1, (j10.2.2.2.2.1.2.2.2.1, (j10.2.2.2.2.1.2.2.2.2.1, (j10.2.2.2.2.1.2.2.2.2.2.1, (j10.2.2.2.2.1.2.2.2.2.2.2.1, ((), ())))))))), ())))))))) fun j13 =>
 andK (α := ((Unit × (Unit × (Unit × Unit))) × (((List Int) × (Int × (Int × Unit))) × ((Int × (Int × (Int × (ByteArray × (ByteArray × (ByteArray × (ByteArray × (Unit × Unit)))))))) × ((List Int) × ((Int × (Int × (Int × (ByteArray × (ByteArray × (ByteArray × (ByteArray × (Unit × Unit)))))))) × ((List Int) × Unit))))))) (
  sel (decide (j13.2.2.2.2.1.1 = 4))
   (
   andK (spec_l1Cur_pick N 4 j13.2.1.1 j13.2.1.2.1 j13.2.1.2.2.1) fun u14 =>
   andK (spec_l1Cur_header.l0 N (IntKind.i64.wrap (1 + u14.1.1)) u14.2.1.1 u14.2.1.2.1 u14.2.1.2.2.1 j13.2.2.1.1 j13.2.2.1.2.1 j13.2.2.1.2.2.1 j13.2.2.1.2.2.2.1 j13.2.2.1.2.2.2.2.1 j13.2.2.1.2.2.2.2.2.1 j13.2.2.1.2.2.2.2.2.2.1 j13.2.2.2.1 j13.2.2.2.2.1.1 j13.2.2.2.2.1.2.1 0 j13.2.2.2.2.1.2.2.2.1 j13.2.2.2.2.1.2.2.2.2.1 j13.2.2.2.2.1.2.2.2.2.2.1 (⟨#[]⟩ : ByteArray) []) fun l16 =>
   some ((((), ((), ((), ()))), ((l16.2.1.1, (l16.2.1.2.1, (l16.2.1.2.2.1, ()))), ((l16.2.2.1.1, (l16.2.2.1.2.1, (l16.2.2.1.2.2.1, (l16.2.2.1.2.2.2.1, (l16.2.2.1.2.2.2.2.1, (l16.2.2.1.2.2.2.2.2.1, (l16.2.2.1.2.2.2.2.2.2.1, ((), ())))))))), (l16.2.2.2.1, ((l16.2.2.2.2.1.1, (l16.2.2.2.2.1.2.1, (l16.2.2.2.2.1.2.2.1, (l16.2.2.2.2.1.2.2.2.1, (l16.2.2.2.2.1.2.2.2.2.1, (l16.2.2.2.2.1.2.2.2.2.2.1, (l16.2.2.2.2.1.2.2.2.2.2.2.1, ((), ())))))))), (l16.2.2.2.2.2.1, ()))))))))
   (
   some ((((), ((), ((), ()))), ((j13.2.1.1, (j13.2.1.2.1, (j13.2.1.2.2.1, ()))), ((j13.2.2.1.1, (j13.2.2.1.2.1, (j13.2.2.1.2.2.1, (j13.2.2.1.2.2.2.1, (j13.2.2.1.2.2.2.2.1, (j13.2.2.1.2.2.2.2.2.1, (j13.2.2.1.2.2.2.2.2.2.1, ((), ())))))))), (j13.2.2.2.1, ((j13.2.2.2.2.1.1, (j13.2.2.2.2.1.2.1, (j13.2.2.2.2.1.2.2.1, (j13.2.2.2.2.1.2.2.2.1, (j13.2.2.2.2.1.2.2.2.2.1, (j13.2.2.2.2.1.2.2.2.2.2.1, (j13.2.2.2.2.1.2.2.2.2.2.2.1, ((), ())))))))), ([], ()))))))))) fun j17 =>
 andK (spec_l1Cur_pick N 40 j17.2.1.1 j17.2.1.2.1 j17.2.1.2.2.1) fun u18 =>
 sel (decide (u18.1.1 = 0))
  (
  some (((j17.2.2.2.2.1.1, (16, (j17.2.2.2.2.1.2.2.1, (j17.2.2.2.2.1.2.2.2.1, (j17.2.2.2.2.1.2.2.2.2.1, (j17.2.2.2.2.1.2.2.2.2.2.1, (j17.2.2.2.2.1.2.2.2.2.2.2.1, ((), ())))))))), ()), ((u18.2.1.1, (u18.2.1.2.1, (u18.2.1.2.2.1, ()))), (j17.2.2.2.2.2.1, ()))))
  (
  sel (decide (u18.1.1 = 1))
   (
   andK (spec_l1Cur_among N [(-1), 0, 4294967296] u18.2.1.1 u18.2.1.2.1 u18.2.1.2.2.1) fun u19 =>
   some (((j17.2.2.2.2.1.1, (j17.2.2.2.2.1.2.1, (u19.1.1, (j17.2.2.2.2.1.2.2.2.1, (j17.2.2.2.2.1.2.2.2.2.1, (j17.2.2.2.2.1.2.2.2.2.2.1, (j17.2.2.2.2.1.2.2.2.2.2.2.1, ((), ())))))))), ()), ((u19.2.1.1, (u19.2.1.2.1, (u19.2.1.2.2.1, ()))), (j17.2.2.2.2.2.1, ()))))
   (
   sel (decide (u18.1.1 = 2))
    (
    andK (spec_l1Cur_among N [0, 1200, 1201] u18.2.1.1 u18.2.1.2.1 u18.2.1.2.2.1) fun u20 =>
    chk ((decide (0 ≤ u20.1.1)) && ((smallI u20.1.1) && (decide (u20.1.1 = u20.1.1)))) (
    some (((j17.2.2.2.2.1.1, (j17.2.2.2.2.1.2.1, (j17.2.2.2.2.1.2.2.1, (j17.2.2.2.2.1.2.2.2.1, (j17.2.2.2.2.1.2.2.2.2.1, (j17.2.2.2.2.1.2.2.2.2.2.1, ((strL (List.replicate (Int.toNat u20.1.1) (0 : Int))), ((), ())))))))), ()), ((u20.2.1.1, (u20.2.1.2.1, (u20.2.1.2.2.1, ()))), (j17.2.2.2.2.2.1, ())))))
    (
    sel (decide (u18.1.1 = 3))
     (
     some (((j17.2.2.2.2.1.1, (j17.2.2.2.2.1.2.1, (j17.2.2.2.2.1.2.2.1, (j17.2.2.2.2.1.2.2.2.1, (j17.2.2.2.2.1.2.2.2.2.1, ((⟨#[116]⟩ : ByteArray), (j17.2.2.2.2.1.2.2.2.2.2.2.1, ((), ())))))))), ()), ((u18.2.1.1, (u18.2.1.2.1, (u18.2.1.2.2.1, ()))), (j17.2.2.2.2.2.1, ()))))
     (
     some (((j17.2.2.2.2.1.1, (j17.2.2.2.2.1.2.1, (j17.2.2.2.2.1.2.2.1, (j17.2.2.2.2.1.2.2.2.1, (j17.2.2.2.2.1.2.2.2.2.1, (j17.2.2.2.2.1.2.2.2.2.2.1, (j17.2.2.2.2.1.2.2.2.2.2.2.1, ((), ())))))))), ()), ((u18.2.1.1, (u18.2.1.2.1, (u18.2.1.2.2.1, ()))), (j17.2.2.2.2.2.1, ()))))))) := by kernel_rfl
set_option maxRecDepth 100000 in
theorem spec_l1Cur_header.say (N : Nat) : SayOk Tryz.prog (spec_l1Cur_header.S N) := sayOk_mk (N := N) (H := spec_l1Cur_header.H) (preps := [⟨[], [], [], [4]⟩]) (l := spec_l1Cur_header.says) (fn := Tryz.f33) (c := bodyOf Tryz.f33)
  (by kernel_rfl) (by kernel_rfl) (by kernel_rfl) (by kernel_rfl) (by kernel_rfl) (by kernel_rfl) (by kernel_rfl)
  (fun N => SayAll.cons (spec_l1Cur_pick.say N) (SayAll.cons (spec_l1Cur_id.say N) (SayAll.cons (spec_l1Cur_sizedBytes.say N) (SayAll.cons (spec_l1Cur_among.say N) (SayAll.cons (spec_l1Cur_one.say N) (SayAll.nil)))))) (fun a s => by kernel_rfl)

/-! ### (*loop.example/g00206/spec.l1Cur).short: function 36 -/
noncomputable def spec_l1Cur_short.H : Hints := hintsOf [(4, .join [⟨.normal, [], [0, 3], [.one (.ptr 0 0), ak_i], [.cells [.sh (.rows (.int .u8)), ck_i, .sh (.int .u64)]], [⟨[], [], [], []⟩]⟩])]
noncomputable def spec_l1Cur_short.says (N : Nat) : List Say := [spec_l1Cur_pick.S N, spec_l1Cur_one.S N, spec_l1Cur_among.S N, spec_l1Cur_sizedBytes.S N]
noncomputable def spec_l1Cur_short.call (N : Nat) : CallK := callBy (spec_l1Cur_short.says N)
noncomputable def spec_l1Cur_short.qt (N : Nat) : FuncId → List PV → Sig → Cl := qtBy (spec_l1Cur_short.says N)
noncomputable def spec_l1Cur_short (N : Nat) (p0_0 : (List Int)) (p0_1 : Int) (p0_2 : Int) : Option ((ByteArray × Unit) × (((List Int) × (Int × (Int × Unit))) × Unit)) :=
  ofFn Tryz.prog spec_l1Cur_short.call spec_l1Cur_short.qt spec_l1Cur_short.H N Tryz.f36 [.one (.ptr 0 0)] [.cells [.sh (.rows (.int .u8)), ck_i, .sh (.int .u64)]] [ak_s] [.cells [.sh (.rows (.int .u8)), ck_i, .sh (.int .u64)]] [⟨[], [], [], []⟩] ((), ()) ((p0_0, (p0_1, (p0_2, ()))), ())
noncomputable def spec_l1Cur_short.S (N : Nat) : Say := ⟨false, 36, [.one (.ptr 0 0)], [.cells [.sh (.rows (.int .u8)), ck_i, .sh (.int .u64)]], [ak_s], [.cells [.sh (.rows (.int .u8)), ck_i, .sh (.int .u64)]], fun a s => spec_l1Cur_short N s.1.1 s.1.2.1 s.1.2.2.1⟩
set_option maxRecDepth 100000 in
theorem spec_l1Cur_short.eq (N : Nat) (p0_0 : (List Int)) (p0_1 : Int) (p0_2 : Int) : spec_l1Cur_short N p0_0 p0_1 p0_2 =
 andK (spec_l1Cur_pick N 40 p0_0 p0_1 p0_2) fun u1 =>
 andK (α := ((Unit × (Int × Unit)) × (((List Int) × (Int × (Int × Unit))) × Unit))) (
  andK (spec_l1Cur_one N 8 u1.2.1.1 u1.2.1.2.1 u1.2.1.2.2.1) fun u2 =>
  sel u2.1.1
   (
   andK (spec_l1Cur_among N [0, 15, 16, 17, 32] u2.2.1.1 u2.2.1.2.1 u2.2.1.2.2.1) fun u3 =>
   some ((((), (u3.1.1, ())), ((u3.2.1.1, (u3.2.1.2.1, (u3.2.1.2.2.1, ()))), ()))))
   (
   some ((((), (u1.1.1, ())), ((u2.2.1.1, (u2.2.1.2.1, (u2.2.1.2.2.1, ()))), ()))))) fun j4 =>
 andK (spec_l1Cur_sizedBytes N j4.1.2.1 j4.2.1.1 j4.2.1.2.1 j4.2.1.2.2.1) fun u5 =>
 some (((strL u5.2.2.1), ()), ((u5.2.1.1, (u5.2.1.2.1, (u5.2.1.2.2.1, ()))), ())) := by kernel_rfl
set_option maxRecDepth 100000 in
theorem spec_l1Cur_short.say (N : Nat) : SayOk Tryz.prog (spec_l1Cur_short.S N) := sayOk_mk (N := N) (H := spec_l1Cur_short.H) (preps := [⟨[], [], [], []⟩]) (l := spec_l1Cur_short.says) (fn := Tryz.f36) (c := bodyOf Tryz.f36)
  (by kernel_rfl) (by kernel_rfl) (by kernel_rfl) (by kernel_rfl) (by kernel_rfl) (by kernel_rfl) (by kernel_rfl)
  (fun N => SayAll.cons (spec_l1Cur_pick.say N) (SayAll.cons (spec_l1Cur_one.say N) (SayAll.cons (spec_l1Cur_among.say N) (SayAll.cons (spec_l1Cur_sizedBytes.say N) (SayAll.nil))))) (fun a s => by kernel_rfl)

/-! ### loop.example/g00206/spec.DrawRetryPacket: function 13 -/
noncomputable def spec_DrawRetryPacket.H : Hints := hintsOf [(5, .join [⟨.normal, [], [2, 5, 6], [.one (.ptr 0 0), .one (.ptr 1 0), .one (.ptr 3 0)], [.cells [ck_i, ck_i, ck_i, ck_s, ck_s, ck_s, ck_s, .nil], .cells [.sh (.rows (.int .u8)), ck_i, .sh (.int .u64)], .gone, .cells [ck_i, ck_i, ck_i, ck_s, ck_s, ck_s, ck_s, .sh (.rows (.int .i64))]], [⟨[], [(3, (7, (.int .i64)))], [4], []⟩, ⟨[], [], [2], []⟩]⟩])]
noncomputable def spec_DrawRetryPacket.says (N : Nat) : List Say := [spec_l1Cur_header.S N, spec_l1Cur_one.S N, spec_l1Cur_id.S N, spec_l1Cur_short.S N]
noncomputable def spec_DrawRetryPacket.call (N : Nat) : CallK := callBy (spec_DrawRetryPacket.says N)
noncomputable def spec_DrawRetryPacket.qt (N : Nat) : FuncId → List PV → Sig → Cl := qtBy (spec_DrawRetryPacket.says N)
noncomputable def spec_DrawRetryPacket (N : Nat) (code : (List Int)) : Option (((Int × (Int × (Int × (ByteArray × (ByteArray × (ByteArray × (ByteArray × ((List Int) × Unit)))))))) × (ByteArray × (ByteArray × Unit))) × Unit) :=
  ofFn Tryz.prog spec_DrawRetryPacket.call spec_DrawRetryPacket.qt spec_DrawRetryPacket.H N Tryz.f13 [.one (.sh (.rows (.int .u8)))] [] [.agg [ck_i, ck_i, ck_i, ck_s, ck_s, ck_s, ck_s, .sh (.rows (.int .i64))], ak_s, ak_s] [] [⟨[], [], [], []⟩] (code, ()) ()
noncomputable def spec_DrawRetryPacket.S (N : Nat) : Say := ⟨false, 13, [.one (.sh (.rows (.int .u8)))], [], [.agg [ck_i, ck_i, ck_i, ck_s, ck_s, ck_s, ck_s, .sh (.rows (.int .i64))], ak_s, ak_s], [], fun a s => spec_DrawRetryPacket N a.1⟩
set_option maxRecDepth 100000 in
theorem spec_DrawRetryPacket.eq (N : Nat) (code : (List Int)) : spec_DrawRetryPacket N code =
 andK (spec_l1Cur_header N code 0 0) fun u1 =>
 andK (α := ((Unit × (Unit × (Unit × Unit))) × ((Int × (Int × (Int × (ByteArray × (ByteArray × (ByteArray × (ByteArray × (Unit × Unit)))))))) × (((List Int) × (Int × (Int × Unit))) × (Unit × ((Int × (Int × (Int × (ByteArray × (ByteArray × (ByteArray × (ByteArray × ((List Int) × Unit)))))))) × Unit)))))) (
  andK (spec_l1Cur_one N 2 u1.2.1.1 u1.2.1.2.1 u1.2.1.2.2.1) fun u2 =>
  sel u2.1.1
   (
   andK (spec_l1Cur_id N u2.2.1.1 u2.2.1.2.1 u2.2.1.2.2.1) fun u3 =>
   andK (spec_l1Cur_id N u3.2.1.1 u3.2.1.2.1 u3.2.1.2.2.1) fun u4 =>
   some ((((), ((), ((), ()))), ((0, (0, (0, ((⟨#[]⟩ : ByteArray), ((⟨#[]⟩ : ByteArray), ((⟨#[]⟩ : ByteArray), ((⟨#[]⟩ : ByteArray), ((), ())))))))), ((u4.2.1.1, (u4.2.1.2.1, (u4.2.1.2.2.1, ()))), ((), ((0, (0, (1, (u3.1.1, (u4.1.1, ((⟨#[]⟩ : ByteArray), ((⟨#[112]⟩ : ByteArray), ([], ())))))))), ())))))))
   (
   some ((((), ((), ((), ()))), ((0, (0, (0, ((⟨#[]⟩ : ByteArray), ((⟨#[]⟩ : ByteArray), ((⟨#[]⟩ : ByteArray), ((⟨#[]⟩ : ByteArray), ((), ())))))))), ((u2.2.1.1, (u2.2.1.2.1, (u2.2.1.2.2.1, ()))), ((), ((u1.1.1.1, (u1.1.1.2.1, (u1.1.1.2.2.1, (u1.1.1.2.2.2.1, (u1.1.1.2.2.2.2.1, (u1.1.1.2.2.2.2.2.1, (u1.1.1.2.2.2.2.2.2.1, (u1.2.2.1, ())))))))), ())))))))) fun j5 =>
 andK (spec_l1Cur_short N j5.2.2.1.1 j5.2.2.1.2.1 j5.2.2.1.2.2.1) fun u6 =>
 andK (spec_l1Cur_id N u6.2.1.1 u6.2.1.2.1 u6.2.1.2.2.1) fun u7 =>
 some (((j5.2.2.2.2.1.1, (j5.2.2.2.2.1.2.1, (j5.2.2.2.2.1.2.2.1, (j5.2.2.2.2.1.2.2.2.1, (j5.2.2.2.2.1.2.2.2.2.1, (j5.2.2.2.2.1.2.2.2.2.2.1, (j5.2.2.2.2.1.2.2.2.2.2.2.1, (j5.2.2.2.2.1.2.2.2.2.2.2.2.1, ())))))))), (u6.1.1, (u7.1.1, ()))), ()) := by kernel_rfl
set_option maxRecDepth 100000 in
theorem spec_DrawRetryPacket.say (N : Nat) : SayOk Tryz.prog (spec_DrawRetryPacket.S N) := sayOk_mk (N := N) (H := spec_DrawRetryPacket.H) (preps := [⟨[], [], [], []⟩]) (l := spec_DrawRetryPacket.says) (fn := Tryz.f13) (c := bodyOf Tryz.f13)
  (by kernel_rfl) (by kernel_rfl) (by kernel_rfl) (by kernel_rfl) (by kernel_rfl) (by kernel_rfl) (by kernel_rfl)
  (fun N => SayAll.cons (spec_l1Cur_header.say N) (SayAll.cons (spec_l1Cur_one.say N) (SayAll.cons (spec_l1Cur_id.say N) (SayAll.cons (spec_l1Cur_short.say N) (SayAll.nil))))) (fun a s => by kernel_rfl)

/-! ### loop.example/g00206/impl.in: function 28 -/
noncomputable def impl_in.H : Hints := hintsOf []
noncomputable def impl_in.says (N : Nat) : List Say := []
noncomputable def impl_in.call (N : Nat) : CallK := callBy (impl_in.says N)
noncomputable def impl_in.qt (N : Nat) : FuncId → List PV → Sig → Cl := qtBy (impl_in.says N)
noncomputable def impl_in (N : Nat) (n : Int) (low : Int) (high : Int) : Option ((Bool × Unit) × Unit) :=
  ofFn Tryz.prog impl_in.call impl_in.qt impl_in.H N Tryz.f28 [ak_i, ak_i, ak_i] [] [ak_b] [] [⟨[], [], [], []⟩] (n, (low, (high, ()))) ()
noncomputable def impl_in.S (N : Nat) : Say := ⟨false, 28, [ak_i, ak_i, ak_i], [], [ak_b], [], fun a s => impl_in N a.1 a.2.1 a.2.2.1⟩
set_option maxRecDepth 100000 in
theorem impl_in.eq (N : Nat) (n : Int) (low : Int) (high : Int) : impl_in N n low high =
 sel (decide (low ≤ n))
  (
  some (((decide (n ≤ high)), ()), ()))
  (
  some ((false, ()), ())) := by kernel_rfl
set_option maxRecDepth 100000 in
theorem impl_in.say (N : Nat) : SayOk Tryz.prog (impl_in.S N) := sayOk_mk (N := N) (H := impl_in.H) (preps := [⟨[], [], [], []⟩]) (l := impl_in.says) (fn := Tryz.f28) (c := bodyOf Tryz.f28)
  (by kernel_rfl) (by kernel_rfl) (by kernel_rfl) (by kernel_rfl) (by kernel_rfl) (by kernel_rfl) (by kernel_rfl)
  (fun N => SayAll.nil) (fun a s => by kernel_rfl)

/-! ### loop.example/g00206/impl.long: function 66 -/
noncomputable def impl_long.H : Hints := hintsOf []
noncomputable def impl_long.says (N : Nat) : List Say := [impl_in.S N]
noncomputable def impl_long.call (N : Nat) : CallK := callBy (impl_long.says N)
noncomputable def impl_long.qt (N : Nat) : FuncId → List PV → Sig → Cl := qtBy (impl_long.says N)
noncomputable def impl_long (N : Nat) (form : Int) : Option ((Bool × Unit) × Unit) :=
  ofFn Tryz.prog impl_long.call impl_long.qt impl_long.H N Tryz.f66 [ak_i] [] [ak_b] [] [⟨[], [], [], []⟩] (form, ()) ()
noncomputable def impl_long.S (N : Nat) : Say := ⟨false, 66, [ak_i], [], [ak_b], [], fun a s => impl_long N a.1⟩
set_option maxRecDepth 100000 in
theorem impl_long.eq (N : Nat) (form : Int) : impl_long N form =
 andK (impl_in N form 0 3) fun u1 =>
 some ((u1.1.1, ()), ()) := by kernel_rfl
set_option maxRecDepth 100000 in
theorem impl_long.say (N : Nat) : SayOk Tryz.prog (impl_long.S N) := sayOk_mk (N := N) (H := impl_long.H) (preps := [⟨[], [], [], []⟩]) (l := impl_long.says) (fn := Tryz.f66) (c := bodyOf Tryz.f66)
  (by kernel_rfl) (by kernel_rfl) (by kernel_rfl) (by kernel_rfl) (by kernel_rfl) (by kernel_rfl) (by kernel_rfl)
  (fun N => SayAll.cons (impl_in.say N) (SayAll.nil)) (fun a s => by kernel_rfl)

/-! ### loop.example/g00206/impl.isVersion: function 67 -/
noncomputable def impl_isVersion.H : Hints := hintsOf []
noncomputable def impl_isVersion.says (N : Nat) : List Say := [impl_in.S N]
noncomputable def impl_isVersion.call (N : Nat) : CallK := callBy (impl_isVersion.says N)
noncomputable def impl_isVersion.qt (N : Nat) : FuncId → List PV → Sig → Cl := qtBy (impl_isVersion.says N)
noncomputable def impl_isVersion (N : Nat) (n : Int) : Option ((Bool × Unit) × Unit) :=
  ofFn Tryz.prog impl_isVersion.call impl_isVersion.qt impl_isVersion.H N Tryz.f67 [ak_i] [] [ak_b] [] [⟨[], [], [], []⟩] (n, ()) ()
noncomputable def impl_isVersion.S (N : Nat) : Say := ⟨false, 67, [ak_i], [], [ak_b], [], fun a s => impl_isVersion N a.1⟩
set_option maxRecDepth 100000 in
theorem impl_isVersion.eq (N : Nat) (n : Int) : impl_isVersion N n =
 andK (impl_in N n 1 4294967295) fun u1 =>
 some ((u1.1.1, ()), ()) := by kernel_rfl
set_option maxRecDepth 100000 in
theorem impl_isVersion.say (N : Nat) : SayOk Tryz.prog (impl_isVersion.S N) := sayOk_mk (N := N) (H := impl_isVersion.H) (preps := [⟨[], [], [], []⟩]) (l := impl_isVersion.says) (fn := Tryz.f67) (c := bodyOf Tryz.f67)
  (by kernel_rfl) (by kernel_rfl) (by kernel_rfl) (by kernel_rfl) (by kernel_rfl) (by kernel_rfl) (by kernel_rfl)
  (fun N => SayAll.cons (impl_in.say N) (SayAll.nil)) (fun a s => by kernel_rfl)

/-! ### loop.example/g00206/impl.GoodHeader$1: function 69 -/
noncomputable def impl_GoodHeader_1.H : Hints := hintsOf []
noncomputable def impl_GoodHeader_1.says (N : Nat) : List Say := [impl_in.S N]
noncomputable def impl_GoodHeader_1.call (N : Nat) : CallK := callBy (impl_GoodHeader_1.says N)
noncomputable def impl_GoodHeader_1.qt (N : Nat) : FuncId → List PV → Sig → Cl := qtBy (impl_GoodHeader_1.says N)
noncomputable def impl_GoodHeader_1 (N : Nat) (n : Int) : Option ((Bool × Unit) × Unit) :=
  ofFn Tryz.prog impl_GoodHeader_1.call impl_GoodHeader_1.qt impl_GoodHeader_1.H N Tryz.f69 [ak_i] [] [ak_b] [] [⟨[], [], [], []⟩] (n, ()) ()
noncomputable def impl_GoodHeader_1.S (N : Nat) : Say := ⟨false, 69, [ak_i], [], [ak_b], [], fun a s => impl_GoodHeader_1 N a.1⟩
set_option maxRecDepth 100000 in
theorem impl_GoodHeader_1.eq (N : Nat) (n : Int) : impl_GoodHeader_1 N n =
 andK (impl_in N n 0 4294967295) fun u1 =>
 some (((!u1.1.1), ()), ()) := by kernel_rfl
set_option maxRecDepth 100000 in
theorem impl_GoodHeader_1.say (N : Nat) : SayOk Tryz.prog (impl_GoodHeader_1.S N) := sayOk_mk (N := N) (H := impl_GoodHeader_1.H) (preps := [⟨[], [], [], []⟩]) (l := impl_GoodHeader_1.says) (fn := Tryz.f69) (c := bodyOf Tryz.f69)
  (by kernel_rfl) (by kernel_rfl) (by kernel_rfl) (by kernel_rfl) (by kernel_rfl) (by kernel_rfl) (by kernel_rfl)
  (fun N => SayAll.cons (impl_in.say N) (SayAll.nil)) (fun a s => by kernel_rfl)

/-! ### slices.IndexFunc[[]int,int]: function 96 -/
noncomputable def slices_IndexFuncint_int.H : Hints := hintsOf [(2000002, .loop ⟨.normal, [0, 1, 7], [8], [ak_i], [], [⟨[], [], [], []⟩]⟩ [⟨.ret, [], [4], [ak_i], [], [⟨[], [], [], []⟩]⟩, ⟨(.exit 0), [], [], [], [], [⟨[], [], [], []⟩]⟩])]
noncomputable def slices_IndexFuncint_int.says (N : Nat) : List Say := [impl_GoodHeader_1.S N]
noncomputable def slices_IndexFuncint_int.call (N : Nat) : CallK := callBy (slices_IndexFuncint_int.says N)
noncomputable def slices_IndexFuncint_int.qt (N : Nat) : FuncId → List PV → Sig → Cl := qtBy (slices_IndexFuncint_int.says N)
noncomputable def slices_IndexFuncint_int.l0.hd : Alt := ⟨.normal, [0, 1, 7], [8], [ak_i], [], [⟨[], [], [], []⟩]⟩
noncomputable def slices_IndexFuncint_int.l0.outs : List Alt := [⟨.ret, [], [4], [ak_i], [], [⟨[], [], [], []⟩]⟩, ⟨(.exit 0), [], [], [], [], [⟨[], [], [], []⟩]⟩]
noncomputable def slices_IndexFuncint_int.l0 (N : Nat) (s1 : (List Int)) (t7 : Int) (t8 : Int) : Option (((Int × Unit) × Unit) ⊕ (Unit × Unit)) :=
  loopK Tryz.prog slices_IndexFuncint_int.call slices_IndexFuncint_int.qt slices_IndexFuncint_int.H (codeAt (bodyOf Tryz.f96) [1, 0, 1, 0, 0]) 0 slices_IndexFuncint_int.l0.hd slices_IndexFuncint_int.l0.outs [(0, .rows false (.int .i64) s1), (1, .fn 69 []), (7, .v (.int .i64 t7))] N ((t8, ()), ())
noncomputable def slices_IndexFuncint_int (N : Nat) (s : (List Int)) : Option ((Int × Unit) × Unit) :=
  ofFn Tryz.prog slices_IndexFuncint_int.call slices_IndexFuncint_int.qt slices_IndexFuncint_int.H N Tryz.f96 [.one (.sh (.rows (.int .i64))), .fn 69 []] [] [ak_i] [] [⟨[], [], [], []⟩] (s, ((), ())) ()
noncomputable def slices_IndexFuncint_int.S (N : Nat) : Say := ⟨false, 96, [.one (.sh (.rows (.int .i64))), .fn 69 []], [], [ak_i], [], fun a s => slices_IndexFuncint_int N a.1⟩
set_option maxRecDepth 100000 in
theorem slices_IndexFuncint_int.l0.eq (N : Nat) (s1 : (List Int)) (t7 : Int) (t8 : Int) : slices_IndexFuncint_int.l0 (N + 1) s1 t7 t8 =
 sel (decide (t8 < t7))
  (
  chk ((decide (0 ≤ t8)) && (decide (t8 < (s1.length : Int)))) (
  andK (impl_GoodHeader_1 N (s1.getD (Int.toNat t8) 0)) fun u1 =>
  sel u1.1.1
   (
   some (.inl ((t8, ()), ())))
   (
   slices_IndexFuncint_int.l0 N s1 t7 (IntKind.i64.wrap (t8 + 1)))))
  (
  some (.inr (((), ())))) := by kernel_rfl
set_option maxRecDepth 100000 in
theorem slices_IndexFuncint_int.eq (N : Nat) (s : (List Int)) : slices_IndexFuncint_int N s =
 andK (slices_IndexFuncint_int.l0 N s (s.length : Int) 0) fun l2 =>
 orK l2 (fun x3 =>
  some ((x3.1.1, ()), ()))
  (fun x4 =>
  some (((-1), ()), ())) := by kernel_rfl
set_option maxRecDepth 100000 in
theorem slices_IndexFuncint_int.say (N : Nat) : SayOk Tryz.prog (slices_IndexFuncint_int.S N) := sayOk_mk (N := N) (H := slices_IndexFuncint_int.H) (preps := [⟨[], [], [], []⟩]) (l := slices_IndexFuncint_int.says) (fn := Tryz.f96) (c := bodyOf Tryz.f96)
  (by kernel_rfl) (by kernel_rfl) (by kernel_rfl) (by kernel_rfl) (by kernel_rfl) (by kernel_rfl) (by kernel_rfl)
  (fun N => SayAll.cons (impl_GoodHeader_1.say N) (SayAll.nil)) (fun a s => by kernel_rfl)

/-! ### slices.ContainsFunc[[]int,int]: function 68 -/
noncomputable def slices_ContainsFuncint_int.H : Hints := hintsOf []
noncomputable def slices_ContainsFuncint_int.says (N : Nat) : List Say := [slices_IndexFuncint_int.S N]
noncomputable def slices_ContainsFuncint_int.call (N : Nat) : CallK := callBy (slices_ContainsFuncint_int.says N)
noncomputable def slices_ContainsFuncint_int.qt (N : Nat) : FuncId → List PV → Sig → Cl := qtBy (slices_ContainsFuncint_int.says N)
noncomputable def slices_ContainsFuncint_int (N : Nat) (s : (List Int)) : Option ((Bool × Unit) × Unit) :=
  ofFn Tryz.prog slices_ContainsFuncint_int.call slices_ContainsFuncint_int.qt slices_ContainsFuncint_int.H N Tryz.f68 [.one (.sh (.rows (.int .i64))), .fn 69 []] [] [ak_b] [] [⟨[], [], [], []⟩] (s, ((), ())) ()
noncomputable def slices_ContainsFuncint_int.S (N : Nat) : Say := ⟨false, 68, [.one (.sh (.rows (.int .i64))), .fn 69 []], [], [ak_b], [], fun a s => slices_ContainsFuncint_int N a.1⟩
set_option maxRecDepth 100000 in
theorem slices_ContainsFuncint_int.eq (N : Nat) (s : (List Int)) : slices_ContainsFuncint_int N s =
 andK (slices_IndexFuncint_int N s) fun u1 =>
 some (((decide (0 ≤ u1.1.1)), ()), ()) := by kernel_rfl
set_option maxRecDepth 100000 in
theorem slices_ContainsFuncint_int.say (N : Nat) : SayOk Tryz.prog (slices_ContainsFuncint_int.S N) := sayOk_mk (N := N) (H := slices_ContainsFuncint_int.H) (preps := [⟨[], [], [], []⟩]) (l := slices_ContainsFuncint_int.says) (fn := Tryz.f68) (c := bodyOf Tryz.f68)
  (by kernel_rfl) (by kernel_rfl) (by kernel_rfl) (by kernel_rfl) (by kernel_rfl) (by kernel_rfl) (by kernel_rfl)
  (fun N => SayAll.cons (slices_IndexFuncint_int.say N) (SayAll.nil)) (fun a s => by kernel_rfl)

/-! ### loop.example/g00206/impl.GoodHeader: function 27 -/
noncomputable def impl_GoodHeader.H : Hints := hintsOf [(5000001, .join [⟨.normal, [], [1, 31], [.one (.ptr 0 0), ak_b], [.cells [ck_i, ck_i, ck_i, ck_s, ck_s, ck_s, ck_s, .sh (.rows (.int .i64))]], [⟨[], [], [], []⟩]⟩]),
  (5000003, .join [⟨.normal, [], [1, 50], [.one (.ptr 0 0), ak_b], [.cells [ck_i, ck_i, ck_i, ck_s, ck_s, ck_s, ck_s, .sh (.rows (.int .i64))]], [⟨[], [], [], []⟩]⟩]),
  (5000006, .join [⟨.normal, [], [2], [ak_b], [.cells [ck_i, ck_i, ck_i, ck_s, ck_s, ck_s, ck_s, .sh (.rows (.int .i64))]], [⟨[], [], [], []⟩]⟩]),
  (5000009, .join [⟨.normal, [], [2], [ak_b], [.cells [ck_i, ck_i, ck_i, ck_s, ck_s, ck_s, ck_s, .sh (.rows (.int .i64))]], [⟨[], [], [], []⟩]⟩])]
noncomputable def impl_GoodHeader.says (N : Nat) : List Say := [impl_in.S N, impl_long.S N, impl_isVersion.S N, slices_ContainsFuncint_int.S N]
noncomputable def impl_GoodHeader.call (N : Nat) : CallK := callBy (impl_GoodHeader.says N)
noncomputable def impl_GoodHeader.qt (N : Nat) : FuncId → List PV → Sig → Cl := qtBy (impl_GoodHeader.says N)
noncomputable def impl_GoodHeader (N : Nat) (G_0 : Int) (G_1 : Int) (G_2 : Int) (G_3 : ByteArray) (G_4 : ByteArray) (G_5 : ByteArray) (G_6 : ByteArray) (G_7 : (List Int)) : Option ((Bool × Unit) × Unit) :=
  ofFn Tryz.prog impl_GoodHeader.call impl_GoodHeader.qt impl_GoodHeader.H N Tryz.f27 [.agg [ck_i, ck_i, ck_i, ck_s, ck_s, ck_s, ck_s, .sh (.rows (.int .i64))]] [] [ak_b] [] [⟨[], [], [], []⟩] ((G_0, (G_1, (G_2, (G_3, (G_4, (G_5, (G_6, (G_7, ())))))))), ()) ()
noncomputable def impl_GoodHeader.S (N : Nat) : Say := ⟨false, 27, [.agg [ck_i, ck_i, ck_i, ck_s, ck_s, ck_s, ck_s, .sh (.rows (.int .i64))]], [], [ak_b], [], fun a s => impl_GoodHeader N a.1.1 a.1.2.1 a.1.2.2.1 a.1.2.2.2.1 a.1.2.2.2.2.1 a.1.2.2.2.2.2.1 a.1.2.2.2.2.2.2.1 a.1.2.2.2.2.2.2.2.1⟩
set_option maxRecDepth 100000 in
theorem impl_GoodHeader.eq (N : Nat) (G_0 : Int) (G_1 : Int) (G_2 : Int) (G_3 : ByteArray) (G_4 : ByteArray) (G_5 : ByteArray) (G_6 : ByteArray) (G_7 : (List Int)) : impl_GoodHeader N G_0 G_1 G_2 G_3 G_4 G_5 G_6 G_7 =
 andK (α := ((Unit × (Bool × Unit)) × ((Int × (Int × (Int × (ByteArray × (ByteArray × (ByteArray × (ByteArray × ((List Int) × Unit)))))))) × Unit))) (
  sel (decide (20 < (G_3.size : Int)))
   (
   some ((((), (true, ())), ((G_0, (G_1, (G_2, (G_3, (G_4, (G_5, (G_6, (G_7, ())))))))), ()))))
   (
   sel (decide (20 < (G_4.size : Int)))
    (
    some ((((), (true, ())), ((G_0, (G_1, (G_2, (G_3, (G_4, (G_5, (G_6, (G_7, ())))))))), ()))))
    (
    andK (impl_in N G_1 0 15) fun u1 =>
    sel (!u1.1.1)
     (
     some ((((), (true, ())), ((G_0, (G_1, (G_2, (G_3, (G_4, (G_5, (G_6, (G_7, ())))))))), ()))))
     (
     sel (decide (200 < (G_5.size : Int)))
      (
      some ((((), (true, ())), ((G_0, (G_1, (G_2, (G_3, (G_4, (G_5, (G_6, (G_7, ())))))))), ()))))
      (
      some ((((), ((decide (1200 < (G_6.size : Int))), ())), ((G_0, (G_1, (G_2, (G_3, (G_4, (G_5, (G_6, (G_7, ())))))))), ())))))))) fun j2 =>
 sel j2.1.2.1
  (
  some ((false, ()), ()))
  (
  andK (α := ((Unit × (Bool × Unit)) × ((Int × (Int × (Int × (ByteArray × (ByteArray × (ByteArray × (ByteArray × ((List Int) × Unit)))))))) × Unit))) (
   sel (!(decide (j2.2.1.1 = 0)))
    (
    sel (!(decide (j2.2.1.2.2.2.2.2.1 = (⟨#[]⟩ : ByteArray))))
     (
     some ((((), (true, ())), ((j2.2.1.1, (j2.2.1.2.1, (j2.2.1.2.2.1, (j2.2.1.2.2.2.1, (j2.2.1.2.2.2.2.1, (j2.2.1.2.2.2.2.2.1, (j2.2.1.2.2.2.2.2.2.1, (j2.2.1.2.2.2.2.2.2.2.1, ())))))))), ()))))
     (
     sel (!(decide (j2.2.1.1 = 4)))
      (
      some ((((), ((decide (0 < (j2.2.1.2.2.2.2.2.2.2.1.length : Int))), ())), ((j2.2.1.1, (j2.2.1.2.1, (j2.2.1.2.2.1, (j2.2.1.2.2.2.1, (j2.2.1.2.2.2.2.1, (j2.2.1.2.2.2.2.2.1, (j2.2.1.2.2.2.2.2.2.1, (j2.2.1.2.2.2.2.2.2.2.1, ())))))))), ()))))
      (
      some ((((), (false, ())), ((j2.2.1.1, (j2.2.1.2.1, (j2.2.1.2.2.1, (j2.2.1.2.2.2.1, (j2.2.1.2.2.2.2.1, (j2.2.1.2.2.2.2.2.1, (j2.2.1.2.2.2.2.2.2.1, (j2.2.1.2.2.2.2.2.2.2.1, ())))))))), ()))))))
    (
    sel (!(decide (j2.2.1.1 = 4)))
     (
     some ((((), ((decide (0 < (j2.2.1.2.2.2.2.2.2.2.1.length : Int))), ())), ((j2.2.1.1, (j2.2.1.2.1, (j2.2.1.2.2.1, (j2.2.1.2.2.2.1, (j2.2.1.2.2.2.2.1, (j2.2.1.2.2.2.2.2.1, (j2.2.1.2.2.2.2.2.2.1, (j2.2.1.2.2.2.2.2.2.2.1, ())))))))), ()))))
     (
     some ((((), (false, ())), ((j2.2.1.1, (j2.2.1.2.1, (j2.2.1.2.2.1, (j2.2.1.2.2.2.1, (j2.2.1.2.2.2.2.1, (j2.2.1.2.2.2.2.2.1, (j2.2.1.2.2.2.2.2.2.1, (j2.2.1.2.2.2.2.2.2.2.1, ())))))))), ())))))) fun j3 =>
  sel j3.1.2.1
   (
   some ((false, ()), ()))
   (
   andK (impl_long N j3.2.1.1) fun u4 =>
   sel u4.1.1
    (
    andK (α := ((Bool × Unit) × ((Int × (Int × (Int × (ByteArray × (ByteArray × (ByteArray × (ByteArray × ((List Int) × Unit)))))))) × Unit))) (
     andK (impl_isVersion N j3.2.1.2.2.1) fun u5 =>
     sel u5.1.1
      (
      some ((((!(decide (j3.2.1.2.2.2.2.2.2.1 = (⟨#[]⟩ : ByteArray)))), ()), ((j3.2.1.1, (j3.2.1.2.1, (j3.2.1.2.2.1, (j3.2.1.2.2.2.1, (j3.2.1.2.2.2.2.1, (j3.2.1.2.2.2.2.2.1, (j3.2.1.2.2.2.2.2.2.1, (j3.2.1.2.2.2.2.2.2.2.1, ())))))))), ()))))
      (
      some (((false, ()), ((j3.2.1.1, (j3.2.1.2.1, (j3.2.1.2.2.1, (j3.2.1.2.2.2.1, (j3.2.1.2.2.2.2.1, (j3.2.1.2.2.2.2.2.1, (j3.2.1.2.2.2.2.2.2.1, (j3.2.1.2.2.2.2.2.2.2.1, ())))))))), ()))))) fun j6 =>
    some ((j6.1.1, ()), ()))
    (
    sel (decide (j3.2.1.1 = 4))
     (
     andK (slices_ContainsFuncint_int N j3.2.1.2.2.2.2.2.2.2.1) fun u7 =>
     andK (α := ((Bool × Unit) × ((Int × (Int × (Int × (ByteArray × (ByteArray × (ByteArray × (ByteArray × ((List Int) × Unit)))))))) × Unit))) (
      sel (decide (j3.2.1.2.2.1 = 0))
       (
       sel (decide (j3.2.1.2.2.2.2.2.2.1 = (⟨#[]⟩ : ByteArray)))
        (
        andK (impl_in N (j3.2.1.2.2.2.2.2.2.2.1.length : Int) 1 20) fun u8 =>
        sel u8.1.1
         (
         some ((((!u7.1.1), ()), ((j3.2.1.1, (j3.2.1.2.1, (j3.2.1.2.2.1, (j3.2.1.2.2.2.1, (j3.2.1.2.2.2.2.1, (j3.2.1.2.2.2.2.2.1, (j3.2.1.2.2.2.2.2.2.1, (j3.2.1.2.2.2.2.2.2.2.1, ())))))))), ()))))
         (
         some (((false, ()), ((j3.2.1.1, (j3.2.1.2.1, (j3.2.1.2.2.1, (j3.2.1.2.2.2.1, (j3.2.1.2.2.2.2.1, (j3.2.1.2.2.2.2.2.1, (j3.2.1.2.2.2.2.2.2.1, (j3.2.1.2.2.2.2.2.2.2.1, ())))))))), ())))))
        (
        some (((false, ()), ((j3.2.1.1, (j3.2.1.2.1, (j3.2.1.2.2.1, (j3.2.1.2.2.2.1, (j3.2.1.2.2.2.2.1, (j3.2.1.2.2.2.2.2.1, (j3.2.1.2.2.2.2.2.2.1, (j3.2.1.2.2.2.2.2.2.2.1, ())))))))), ())))))
       (
       some (((false, ()), ((j3.2.1.1, (j3.2.1.2.1, (j3.2.1.2.2.1, (j3.2.1.2.2.2.1, (j3.2.1.2.2.2.2.1, (j3.2.1.2.2.2.2.2.1, (j3.2.1.2.2.2.2.2.2.1, (j3.2.1.2.2.2.2.2.2.2.1, ())))))))), ()))))) fun j9 =>
     some ((j9.1.1, ()), ()))
     (
     sel (decide (j3.2.1.1 = 5))
      (
      sel (decide (j3.2.1.2.2.1 = 0))
       (
       some (((decide (j3.2.1.2.2.2.2.1 = (⟨#[]⟩ : ByteArray))), ()), ()))
       (
       some ((false, ()), ())))
      (
      some ((false, ()), ())))))) := by kernel_rfl
set_option maxRecDepth 100000 in
theorem impl_GoodHeader.say (N : Nat) : SayOk Tryz.prog (impl_GoodHeader.S N) := sayOk_mk (N := N) (H := impl_GoodHeader.H) (preps := [⟨[], [], [], []⟩]) (l := impl_GoodHeader.says) (fn := Tryz.f27) (c := bodyOf Tryz.f27)
  (by kernel_rfl) (by kernel_rfl) (by kernel_rfl) (by kernel_rfl) (by kernel_rfl) (by kernel_rfl) (by kernel_rfl)
  (fun N => SayAll.cons (impl_in.say N) (SayAll.cons (impl_long.say N) (SayAll.cons (impl_isVersion.say N) (SayAll.cons (slices_ContainsFuncint_int.say N) (SayAll.nil))))) (fun a s => by kernel_rfl)

/-! ### loop.example/g00206/impl.bigEndian: function 70 -/
noncomputable def impl_bigEndian.H : Hints := hintsOf [(2000003, .loop ⟨.normal, [], [0, 5, 6], [.one (.sh (.int .u64)), .one (.own 0), ak_i], [.rows (.int .u8)], [⟨[], [], [], []⟩]⟩ [⟨(.exit 0), [], [5], [.one (.own 0)], [.rows (.int .u8)], [⟨[], [], [], []⟩]⟩])]
noncomputable def impl_bigEndian.says (N : Nat) : List Say := []
noncomputable def impl_bigEndian.call (N : Nat) : CallK := callBy (impl_bigEndian.says N)
noncomputable def impl_bigEndian.qt (N : Nat) : FuncId → List PV → Sig → Cl := qtBy (impl_bigEndian.says N)
noncomputable def impl_bigEndian.l0.hd : Alt := ⟨.normal, [], [0, 5, 6], [.one (.sh (.int .u64)), .one (.own 0), ak_i], [.rows (.int .u8)], [⟨[], [], [], []⟩]⟩
noncomputable def impl_bigEndian.l0.outs : List Alt := [⟨(.exit 0), [], [5], [.one (.own 0)], [.rows (.int .u8)], [⟨[], [], [], []⟩]⟩]
noncomputable def impl_bigEndian.l0 (N : Nat) (n1 : Int) (i : Int) (p0 : (List Int)) : Option ((Unit × Unit) × ((List Int) × Unit)) :=
  loopK Tryz.prog impl_bigEndian.call impl_bigEndian.qt impl_bigEndian.H (codeAt (bodyOf Tryz.f70) [1, 1, 0, 1, 0, 0]) 1 impl_bigEndian.l0.hd impl_bigEndian.l0.outs [] N ((n1, ((), (i, ()))), (p0, ()))
noncomputable def impl_bigEndian (N : Nat) (n : Int) (many : Int) : Option ((ByteArray × Unit) × Unit) :=
  ofFn Tryz.prog impl_bigEndian.call impl_bigEndian.qt impl_bigEndian.H N Tryz.f70 [.one (.sh (.int .u64)), ak_i] [] [ak_s] [] [⟨[], [], [], []⟩] (n, (many, ())) ()
noncomputable def impl_bigEndian.S (N : Nat) : Say := ⟨false, 70, [.one (.sh (.int .u64)), ak_i], [], [ak_s], [], fun a s => impl_bigEndian N a.1 a.2.1⟩
set_option maxRecDepth 100000 in
theorem impl_bigEndian.l0.eq (N : Nat) (n1 : Int) (i : Int) (p0 : (List Int)) : impl_bigEndian.l0 (N + 1) n1 i p0 =
 sel (decide (0 ≤ i))
  (
  chk ((decide (0 ≤ i)) && (decide (i < (p0.length : Int)))) (
  impl_bigEndian.l0 N (shrI .u64 n1 8) (IntKind.i64.wrap (i - 1)) (p0.set (Int.toNat i) (IntKind.u8.wrap n1))))
  (
  some ((((), ()), (p0, ())))) := by kernel_rfl
set_option maxRecDepth 100000 in
theorem impl_bigEndian.eq (N : Nat) (n : Int) (many : Int) : impl_bigEndian N n many =
 chk ((decide (0 ≤ many)) && ((smallI many) && (decide (many = many)))) (
 andK (impl_bigEndian.l0 N n (IntKind.i64.wrap (many - 1)) (List.replicate (Int.toNat many) (0 : Int))) fun l1 =>
 some (((strL l1.2.1), ()), ())) := by kernel_rfl
set_option maxRecDepth 100000 in
theorem impl_bigEndian.say (N : Nat) : SayOk Tryz.prog (impl_bigEndian.S N) := sayOk_mk (N := N) (H := impl_bigEndian.H) (preps := [⟨[], [], [], []⟩]) (l := impl_bigEndian.says) (fn := Tryz.f70) (c := bodyOf Tryz.f70)
  (by kernel_rfl) (by kernel_rfl) (by kernel_rfl) (by kernel_rfl) (by kernel_rfl) (by kernel_rfl) (by kernel_rfl)
  (fun N => SayAll.nil) (fun a s => by kernel_rfl)

/-! ### loop.example/g00206/impl.byteCounted: function 40 -/
noncomputable def impl_byteCounted.H : Hints := hintsOf []
noncomputable def impl_byteCounted.says (N : Nat) : List Say := [impl_bigEndian.S N]
noncomputable def impl_byteCounted.call (N : Nat) : CallK := callBy (impl_byteCounted.says N)
noncomputable def impl_byteCounted.qt (N : Nat) : FuncId → List PV → Sig → Cl := qtBy (impl_byteCounted.says N)
noncomputable def impl_byteCounted (N : Nat) (s : ByteArray) : Option ((ByteArray × Unit) × Unit) :=
  ofFn Tryz.prog impl_byteCounted.call impl_byteCounted.qt impl_byteCounted.H N Tryz.f40 [ak_s] [] [ak_s] [] [⟨[], [], [], []⟩] (s, ()) ()
noncomputable def impl_byteCounted.S (N : Nat) : Say := ⟨false, 40, [ak_s], [], [ak_s], [], fun a s => impl_byteCounted N a.1⟩
set_option maxRecDepth 100000 in
theorem impl_byteCounted.eq (N : Nat) (s : ByteArray) : impl_byteCounted N s =
 andK (impl_bigEndian N (IntKind.u64.wrap (s.size : Int)) 1) fun u1 =>
 chk (decide (u1.1.1.size + s.size ≤ 9223372036854775807)) (
 some (((u1.1.1 ++ s), ()), ())) := by kernel_rfl
set_option maxRecDepth 100000 in
theorem impl_byteCounted.say (N : Nat) : SayOk Tryz.prog (impl_byteCounted.S N) := sayOk_mk (N := N) (H := impl_byteCounted.H) (preps := [⟨[], [], [], []⟩]) (l := impl_byteCounted.says) (fn := Tryz.f40) (c := bodyOf Tryz.f40)
  (by kernel_rfl) (by kernel_rfl) (by kernel_rfl) (by kernel_rfl) (by kernel_rfl) (by kernel_rfl) (by kernel_rfl)
  (fun N => SayAll.cons (impl_bigEndian.say N) (SayAll.nil)) (fun a s => by kernel_rfl)

/-! ### (*loop.example/g00206/impl.Header).ids: function 71 -/
noncomputable def impl_Header_ids.H : Hints := hintsOf []
noncomputable def impl_Header_ids.says (N : Nat) : List Say := [impl_byteCounted.S N]
noncomputable def impl_Header_ids.call (N : Nat) : CallK := callBy (impl_Header_ids.says N)
noncomputable def impl_Header_ids.qt (N : Nat) : FuncId → List PV → Sig → Cl := qtBy (impl_Header_ids.says N)
noncomputable def impl_Header_ids (N : Nat) (p0_0 : Int) (p0_1 : Int) (p0_2 : Int) (p0_3 : ByteArray) (p0_4 : ByteArray) (p0_5 : ByteArray) (p0_6 : ByteArray) : Option ((ByteArray × Unit) × ((Int × (Int × (Int × (ByteArray × (ByteArray × (ByteArray × (ByteArray × (Unit × Unit)))))))) × Unit)) :=
  ofFn Tryz.prog impl_Header_ids.call impl_Header_ids.qt impl_Header_ids.H N Tryz.f71 [.one (.ptr 0 0)] [.cells [ck_i, ck_i, ck_i, ck_s, ck_s, ck_s, ck_s, .nil]] [ak_s] [.cells [ck_i, ck_i, ck_i, ck_s, ck_s, ck_s, ck_s, .nil]] [⟨[], [], [], []⟩] ((), ()) ((p0_0, (p0_1, (p0_2, (p0_3, (p0_4, (p0_5, (p0_6, ((), ())))))))), ())
noncomputable def impl_Header_ids.S (N : Nat) : Say := ⟨false, 71, [.one (.ptr 0 0)], [.cells [ck_i, ck_i, ck_i, ck_s, ck_s, ck_s, ck_s, .nil]], [ak_s], [.cells [ck_i, ck_i, ck_i, ck_s, ck_s, ck_s, ck_s, .nil]], fun a s => impl_Header_ids N s.1.1 s.1.2.1 s.1.2.2.1 s.1.2.2.2.1 s.1.2.2.2.2.1 s.1.2.2.2.2.2.1 s.1.2.2.2.2.2.2.1⟩
set_option maxRecDepth 100000 in
theorem impl_Header_ids.eq (N : Nat) (p0_0 : Int) (p0_1 : Int) (p0_2 : Int) (p0_3 : ByteArray) (p0_4 : ByteArray) (p0_5 : ByteArray) (p0_6 : ByteArray) : impl_Header_ids N p0_0 p0_1 p0_2 p0_3 p0_4 p0_5 p0_6 =
 andK (impl_byteCounted N p0_3) fun u1 =>
 andK (impl_byteCounted N p0_4) fun u2 =>
 chk (decide (u1.1.1.size + u2.1.1.size ≤ 9223372036854775807)) (
 some (((u1.1.1 ++ u2.1.1), ()), ((p0_0, (p0_1, (p0_2, (p0_3, (p0_4, (p0_5, (p0_6, ((), ())))))))), ()))) := by kernel_rfl
set_option maxRecDepth 100000 in
theorem impl_Header_ids.say (N : Nat) : SayOk Tryz.prog (impl_Header_ids.S N) := sayOk_mk (N := N) (H := impl_Header_ids.H) (preps := [⟨[], [], [], []⟩]) (l := impl_Header_ids.says) (fn := Tryz.f71) (c := bodyOf Tryz.f71)
  (by kernel_rfl) (by kernel_rfl) (by kernel_rfl) (by kernel_rfl) (by kernel_rfl) (by kernel_rfl) (by kernel_rfl)
  (fun N => SayAll.cons (impl_byteCounted.say N) (SayAll.nil)) (fun a s => by kernel_rfl)

/-! ### loop.example/g00206/impl.varintSize: function 120 -/
noncomputable def impl_varintSize.H : Hints := hintsOf []
noncomputable def impl_varintSize.says (N : Nat) : List Say := []
noncomputable def impl_varintSize.call (N : Nat) : CallK := callBy (impl_varintSize.says N)
noncomputable def impl_varintSize.qt (N : Nat) : FuncId → List PV → Sig → Cl := qtBy (impl_varintSize.says N)
noncomputable def impl_varintSize (N : Nat) (n : Int) : Option ((Int × Unit) × Unit) :=
  ofFn Tryz.prog impl_varintSize.call impl_varintSize.qt impl_varintSize.H N Tryz.f120 [ak_i] [] [ak_i] [] [⟨[], [], [], []⟩] (n, ()) ()
noncomputable def impl_varintSize.S (N : Nat) : Say := ⟨false, 120, [ak_i], [], [ak_i], [], fun a s => impl_varintSize N a.1⟩
set_option maxRecDepth 100000 in
theorem impl_varintSize.eq (N : Nat) (n : Int) : impl_varintSize N n =
 sel (decide (n < 64))
  (
  some ((1, ()), ()))
  (
  sel (decide (n < 16384))
   (
   some ((2, ()), ()))
   (
   sel (decide (n < 1073741824))
    (
    some ((4, ()), ()))
    (
    some ((8, ()), ())))) := by kernel_rfl
set_option maxRecDepth 100000 in
theorem impl_varintSize.say (N : Nat) : SayOk Tryz.prog (impl_varintSize.S N) := sayOk_mk (N := N) (H := impl_varintSize.H) (preps := [⟨[], [], [], []⟩]) (l := impl_varintSize.says) (fn := Tryz.f120) (c := bodyOf Tryz.f120)
  (by kernel_rfl) (by kernel_rfl) (by kernel_rfl) (by kernel_rfl) (by kernel_rfl) (by kernel_rfl) (by kernel_rfl)
  (fun N => SayAll.nil) (fun a s => by kernel_rfl)

/-! ### loop.example/g00206/impl.varint: function 97 -/
noncomputable def impl_varint.H : Hints := hintsOf []
noncomputable def impl_varint.says (N : Nat) : List Say := [impl_varintSize.S N, impl_bigEndian.S N]
noncomputable def impl_varint.call (N : Nat) : CallK := callBy (impl_varint.says N)
noncomputable def impl_varint.qt (N : Nat) : FuncId → List PV → Sig → Cl := qtBy (impl_varint.says N)
noncomputable def impl_varint (N : Nat) (n : Int) : Option ((ByteArray × Unit) × Unit) :=
  ofFn Tryz.prog impl_varint.call impl_varint.qt impl_varint.H N Tryz.f97 [ak_i] [] [ak_s] [] [⟨[], [], [], []⟩] (n, ()) ()
noncomputable def impl_varint.S (N : Nat) : Say := ⟨false, 97, [ak_i], [], [ak_s], [], fun a s => impl_varint N a.1⟩
set_option maxRecDepth 100000 in
theorem impl_varint.eq (N : Nat) (n : Int) : impl_varint N n =
 andK (impl_varintSize N n) fun u1 =>
 chk (hasK u1.1.1 [(8, 3), (4, 2), (2, 1), (1, 0)]) (
 chk (decide (0 ≤ (IntKind.i64.wrap ((IntKind.i64.wrap (8 * u1.1.1)) - 2)))) (
 andK (impl_bigEndian N (Go.bits .or .u64 (IntKind.u64.wrap n) (shlI .u64 (getK u1.1.1 [(8, 3), (4, 2), (2, 1), (1, 0)]) (IntKind.i64.wrap ((IntKind.i64.wrap (8 * u1.1.1)) - 2)))) u1.1.1) fun u2 =>
 some ((u2.1.1, ()), ()))) := by kernel_rfl
set_option maxRecDepth 100000 in
theorem impl_varint.say (N : Nat) : SayOk Tryz.prog (impl_varint.S N) := sayOk_mk (N := N) (H := impl_varint.H) (preps := [⟨[], [], [], []⟩]) (l := impl_varint.says) (fn := Tryz.f97) (c := bodyOf Tryz.f97)
  (by kernel_rfl) (by kernel_rfl) (by kernel_rfl) (by kernel_rfl) (by kernel_rfl) (by kernel_rfl) (by kernel_rfl)
  (fun N => SayAll.cons (impl_varintSize.say N) (SayAll.cons (impl_bigEndian.say N) (SayAll.nil))) (fun a s => by kernel_rfl)

/-! ### loop.example/g00206/impl.counted: function 72 -/
noncomputable def impl_counted.H : Hints := hintsOf []
noncomputable def impl_counted.says (N : Nat) : List Say := [impl_varint.S N]
noncomputable def impl_counted.call (N : Nat) : CallK := callBy (impl_counted.says N)
noncomputable def impl_counted.qt (N : Nat) : FuncId → List PV → Sig → Cl := qtBy (impl_counted.says N)
noncomputable def impl_counted (N : Nat) (s : ByteArray) : Option ((ByteArray × Unit) × Unit) :=
  ofFn Tryz.prog impl_counted.call impl_counted.qt impl_counted.H N Tryz.f72 [ak_s] [] [ak_s] [] [⟨[], [], [], []⟩] (s, ()) ()
noncomputable def impl_counted.S (N : Nat) : Say := ⟨false, 72, [ak_s], [], [ak_s], [], fun a s => impl_counted N a.1⟩
set_option maxRecDepth 100000 in
theorem impl_counted.eq (N : Nat) (s : ByteArray) : impl_counted N s =
 andK (impl_varint N (s.size : Int)) fun u1 =>
 chk (decide (u1.1.1.size + s.size ≤ 9223372036854775807)) (
 some (((u1.1.1 ++ s), ()), ())) := by kernel_rfl
set_option maxRecDepth 100000 in
theorem impl_counted.say (N : Nat) : SayOk Tryz.prog (impl_counted.S N) := sayOk_mk (N := N) (H := impl_counted.H) (preps := [⟨[], [], [], []⟩]) (l := impl_counted.says) (fn := Tryz.f72) (c := bodyOf Tryz.f72)
  (by kernel_rfl) (by kernel_rfl) (by kernel_rfl) (by kernel_rfl) (by kernel_rfl) (by kernel_rfl) (by kernel_rfl)
  (fun N => SayAll.cons (impl_varint.say N) (SayAll.nil)) (fun a s => by kernel_rfl)

/-! ### (*loop.example/g00206/impl.Header).bytes: function 29 -/
noncomputable def impl_Header_bytes.H : Hints := hintsOf [(2000007, .loop ⟨.normal, [47, 48], [3, 49], [ak_s, ak_i], [.cells [ck_i, ck_i, ck_i, ck_s, ck_s, ck_s, ck_s, .nil]], [⟨[], [], [], []⟩]⟩ [⟨(.exit 1), [], [3], [ak_s], [.cells [ck_i, ck_i, ck_i, ck_s, ck_s, ck_s, ck_s, .nil]], [⟨[], [], [], []⟩]⟩]),
  (15, .join [⟨.normal, [], [0, 6], [.one (.ptr 0 0), ak_s], [.cells [ck_i, ck_i, ck_i, ck_s, ck_s, ck_s, ck_s, .nil]], [⟨[], [], [], []⟩]⟩]),
  (17, .join [⟨.normal, [], [0, 6], [.one (.ptr 0 0), ak_s], [.cells [ck_i, ck_i, ck_i, ck_s, ck_s, ck_s, ck_s, .nil]], [⟨[], [], [], []⟩]⟩])]
noncomputable def impl_Header_bytes.says (N : Nat) : List Say := [impl_bigEndian.S N, impl_Header_ids.S N, impl_counted.S N]
noncomputable def impl_Header_bytes.call (N : Nat) : CallK := callBy (impl_Header_bytes.says N)
noncomputable def impl_Header_bytes.qt (N : Nat) : FuncId → List PV → Sig → Cl := qtBy (impl_Header_bytes.says N)
noncomputable def impl_Header_bytes.l0.hd : Alt := ⟨.normal, [47, 48], [3, 49], [ak_s, ak_i], [.cells [ck_i, ck_i, ck_i, ck_s, ck_s, ck_s, ck_s, .nil]], [⟨[], [], [], []⟩]⟩
noncomputable def impl_Header_bytes.l0.outs : List Alt := [⟨(.exit 1), [], [3], [ak_s], [.cells [ck_i, ck_i, ck_i, ck_s, ck_s, ck_s, ck_s, .nil]], [⟨[], [], [], []⟩]⟩]
noncomputable def impl_Header_bytes.l0 (N : Nat) (C : ByteArray) (t49 : Int) (p0_01 : Int) (p0_11 : Int) (p0_21 : Int) (p0_31 : ByteArray) (p0_41 : ByteArray) (p0_51 : ByteArray) (p0_61 : ByteArray) : Option ((ByteArray × Unit) × ((Int × (Int × (Int × (ByteArray × (ByteArray × (ByteArray × (ByteArray × (Unit × Unit)))))))) × Unit)) :=
  loopK Tryz.prog impl_Header_bytes.call impl_Header_bytes.qt impl_Header_bytes.H (codeAt (bodyOf Tryz.f29) [1, 0, 1, 0, 1, 1, 1, 0, 1, 0, 1, 0, 0]) 1 impl_Header_bytes.l0.hd impl_Header_bytes.l0.outs [(47, .v (.slice none 0 0)), (48, .v (.int .i64 0))] N ((C, (t49, ())), ((p0_01, (p0_11, (p0_21, (p0_31, (p0_41, (p0_51, (p0_61, ((), ())))))))), ()))
noncomputable def impl_Header_bytes (N : Nat) (p0_0 : Int) (p0_1 : Int) (p0_2 : Int) (p0_3 : ByteArray) (p0_4 : ByteArray) (p0_5 : ByteArray) (p0_6 : ByteArray) : Option ((ByteArray × Unit) × ((Int × (Int × (Int × (ByteArray × (ByteArray × (ByteArray × (ByteArray × (Unit × Unit)))))))) × Unit)) :=
  ofFn Tryz.prog impl_Header_bytes.call impl_Header_bytes.qt impl_Header_bytes.H N Tryz.f29 [.one (.ptr 0 0)] [.cells [ck_i, ck_i, ck_i, ck_s, ck_s, ck_s, ck_s, .nil]] [ak_s] [.cells [ck_i, ck_i, ck_i, ck_s, ck_s, ck_s, ck_s, .nil]] [⟨[], [], [], []⟩] ((), ()) ((p0_0, (p0_1, (p0_2, (p0_3, (p0_4, (p0_5, (p0_6, ((), ())))))))), ())
noncomputable def impl_Header_bytes.S (N : Nat) : Say := ⟨false, 29, [.one (.ptr 0 0)], [.cells [ck_i, ck_i, ck_i, ck_s, ck_s, ck_s, ck_s, .nil]], [ak_s], [.cells [ck_i, ck_i, ck_i, ck_s, ck_s, ck_s, ck_s, .nil]], fun a s => impl_Header_bytes N s.1.1 s.1.2.1 s.1.2.2.1 s.1.2.2.2.1 s.1.2.2.2.2.1 s.1.2.2.2.2.2.1 s.1.2.2.2.2.2.2.1⟩
set_option maxRecDepth 100000 in
theorem impl_Header_bytes.l0.eq (N : Nat) (C : ByteArray) (t49 : Int) (p0_01 : Int) (p0_11 : Int) (p0_21 : Int) (p0_31 : ByteArray) (p0_41 : ByteArray) (p0_51 : ByteArray) (p0_61 : ByteArray) : impl_Header_bytes.l0 (N + 1) C t49 p0_01 p0_11 p0_21 p0_31 p0_41 p0_51 p0_61 =
 sel (decide (t49 < 0))
  (
  none)
  (
  some (((C, ()), ((p0_01, (p0_11, (p0_21, (p0_31, (p0_41, (p0_51, (p0_61, ((), ())))))))), ())))) := by kernel_rfl
set_option maxRecDepth 100000 in
theorem impl_Header_bytes.eq (N : Nat) (p0_0 : Int) (p0_1 : Int) (p0_2 : Int) (p0_3 : ByteArray) (p0_4 : ByteArray) (p0_5 : ByteArray) (p0_6 : ByteArray) : impl_Header_bytes N p0_0 p0_1 p0_2 p0_3 p0_4 p0_5 p0_6 =
 sel (decide (p0_0 = 5))
  (
  andK (impl_bigEndian N (IntKind.u64.wrap (IntKind.i64.wrap (64 + p0_1))) 1) fun u1 =>
  chk (decide (u1.1.1.size + p0_3.size ≤ 9223372036854775807)) (
  chk (decide ((u1.1.1 ++ p0_3).size + p0_6.size ≤ 9223372036854775807)) (
  some ((((u1.1.1 ++ p0_3) ++ p0_6), ()), ((p0_0, (p0_1, (p0_2, (p0_3, (p0_4, (p0_5, (p0_6, ((), ())))))))), ())))))
  (
  sel (decide (p0_0 = 4))
   (
   andK (impl_bigEndian N (IntKind.u64.wrap (IntKind.i64.wrap (192 + p0_1))) 1) fun u2 =>
   andK (impl_bigEndian N 0 4) fun u3 =>
   chk (decide (u2.1.1.size + u3.1.1.size ≤ 9223372036854775807)) (
   andK (impl_Header_ids N p0_0 p0_1 p0_2 p0_3 p0_4 p0_5 p0_6) fun u4 =>
   chk (decide ((u2.1.1 ++ u3.1.1).size + u4.1.1.size ≤ 9223372036854775807)) (
   andK (impl_Header_bytes.l0 N ((u2.1.1 ++ u3.1.1) ++ u4.1.1) 0 u4.2.1.1 u4.2.1.2.1 u4.2.1.2.2.1 u4.2.1.2.2.2.1 u4.2.1.2.2.2.2.1 u4.2.1.2.2.2.2.2.1 u4.2.1.2.2.2.2.2.2.1) fun l5 =>
   some ((l5.1.1, ()), ((l5.2.1.1, (l5.2.1.2.1, (l5.2.1.2.2.1, (l5.2.1.2.2.2.1, (l5.2.1.2.2.2.2.1, (l5.2.1.2.2.2.2.2.1, (l5.2.1.2.2.2.2.2.2.1, ((), ())))))))), ())))))
   (
   andK (impl_bigEndian N (IntKind.u64.wrap (IntKind.i64.wrap ((IntKind.i64.wrap (192 + (IntKind.i64.wrap (16 * p0_0)))) + p0_1))) 1) fun u6 =>
   andK (impl_bigEndian N (IntKind.u64.wrap p0_2) 4) fun u7 =>
   chk (decide (u6.1.1.size + u7.1.1.size ≤ 9223372036854775807)) (
   andK (impl_Header_ids N p0_0 p0_1 p0_2 p0_3 p0_4 p0_5 p0_6) fun u8 =>
   chk (decide ((u6.1.1 ++ u7.1.1).size + u8.1.1.size ≤ 9223372036854775807)) (
   andK (α := ((Unit × (ByteArray × Unit)) × ((Int × (Int × (Int × (ByteArray × (ByteArray × (ByteArray × (ByteArray × (Unit × Unit)))))))) × Unit))) (
    sel (decide (u8.2.1.1 = 0))
     (
     andK (impl_counted N u8.2.1.2.2.2.2.2.1) fun u9 =>
     chk (decide (((u6.1.1 ++ u7.1.1) ++ u8.1.1).size + u9.1.1.size ≤ 9223372036854775807)) (
     some ((((), ((((u6.1.1 ++ u7.1.1) ++ u8.1.1) ++ u9.1.1), ())), ((u8.2.1.1, (u8.2.1.2.1, (u8.2.1.2.2.1, (u8.2.1.2.2.2.1, (u8.2.1.2.2.2.2.1, (u8.2.1.2.2.2.2.2.1, (u8.2.1.2.2.2.2.2.2.1, ((), ())))))))), ())))))
     (
     some ((((), (((u6.1.1 ++ u7.1.1) ++ u8.1.1), ())), ((u8.2.1.1, (u8.2.1.2.1, (u8.2.1.2.2.1, (u8.2.1.2.2.2.1, (u8.2.1.2.2.2.2.1, (u8.2.1.2.2.2.2.2.1, (u8.2.1.2.2.2.2.2.2.1, ((), ())))))))), ()))))) fun j10 =>
   andK (α := ((Unit × (ByteArray × Unit)) × ((Int × (Int × (Int × (ByteArray × (ByteArray × (ByteArray × (ByteArray × (Unit × Unit)))))))) × Unit))) (
    sel (!(decide (j10.2.1.1 = 3)))
     (
     andK (impl_bigEndian N (IntKind.u64.wrap (IntKind.i64.wrap (16384 + (j10.2.1.2.2.2.2.2.2.1.size : Int)))) 2) fun u11 =>
     chk (decide (j10.1.2.1.size + u11.1.1.size ≤ 9223372036854775807)) (
     some ((((), ((j10.1.2.1 ++ u11.1.1), ())), ((j10.2.1.1, (j10.2.1.2.1, (j10.2.1.2.2.1, (j10.2.1.2.2.2.1, (j10.2.1.2.2.2.2.1, (j10.2.1.2.2.2.2.2.1, (j10.2.1.2.2.2.2.2.2.1, ((), ())))))))), ())))))
     (
     some ((((), (j10.1.2.1, ())), ((j10.2.1.1, (j10.2.1.2.1, (j10.2.1.2.2.1, (j10.2.1.2.2.2.1, (j10.2.1.2.2.2.2.1, (j10.2.1.2.2.2.2.2.1, (j10.2.1.2.2.2.2.2.2.1, ((), ())))))))), ()))))) fun j12 =>
   chk (decide (j12.1.2.1.size + j12.2.1.2.2.2.2.2.2.1.size ≤ 9223372036854775807)) (
   some (((j12.1.2.1 ++ j12.2.1.2.2.2.2.2.2.1), ()), ((j12.2.1.1, (j12.2.1.2.1, (j12.2.1.2.2.1, (j12.2.1.2.2.2.1, (j12.2.1.2.2.2.2.1, (j12.2.1.2.2.2.2.2.1, (j12.2.1.2.2.2.2.2.2.1, ((), ())))))))), ()))))))) := by kernel_rfl
set_option maxRecDepth 100000 in
theorem impl_Header_bytes.say (N : Nat) : SayOk Tryz.prog (impl_Header_bytes.S N) := sayOk_mk (N := N) (H := impl_Header_bytes.H) (preps := [⟨[], [], [], []⟩]) (l := impl_Header_bytes.says) (fn := Tryz.f29) (c := bodyOf Tryz.f29)
  (by kernel_rfl) (by kernel_rfl) (by kernel_rfl) (by kernel_rfl) (by kernel_rfl) (by kernel_rfl) (by kernel_rfl)
  (fun N => SayAll.cons (impl_bigEndian.say N) (SayAll.cons (impl_Header_ids.say N) (SayAll.cons (impl_counted.say N) (SayAll.nil)))) (fun a s => by kernel_rfl)

/-! ### internal/stringslite.IndexByte: function 99 -/
noncomputable def internal_stringslite_IndexByte.H : Hints := hintsOf [(8000001, .alts [7])]
noncomputable def internal_stringslite_IndexByte.says (N : Nat) : List Say := []
noncomputable def internal_stringslite_IndexByte.call (N : Nat) : CallK := callBy (internal_stringslite_IndexByte.says N)
noncomputable def internal_stringslite_IndexByte.qt (N : Nat) : FuncId → List PV → Sig → Cl := qtBy (internal_stringslite_IndexByte.says N)
noncomputable def internal_stringslite_IndexByte (N : Nat) (s : ByteArray) (c : Int) : Option ((Int × Unit) × Unit) :=
  ofFn Tryz.prog internal_stringslite_IndexByte.call internal_stringslite_IndexByte.qt internal_stringslite_IndexByte.H N Tryz.f99 [ak_s, .one (.sh (.int .u8))] [] [ak_i] [] [⟨[], [], [], []⟩] (s, (c, ())) ()
noncomputable def internal_stringslite_IndexByte.S (N : Nat) : Say := ⟨false, 99, [ak_s, .one (.sh (.int .u8))], [], [ak_i], [], fun a s => internal_stringslite_IndexByte N a.1 a.2.1⟩
set_option maxRecDepth 100000 in
theorem internal_stringslite_IndexByte.eq (N : Nat) (s : ByteArray) (c : Int) : internal_stringslite_IndexByte N s c =
 some (((ixB s c), ()), ()) := by kernel_rfl
set_option maxRecDepth 100000 in
theorem internal_stringslite_IndexByte.say (N : Nat) : SayOk Tryz.prog (internal_stringslite_IndexByte.S N) := sayOk_mk (N := N) (H := internal_stringslite_IndexByte.H) (preps := [⟨[], [], [], []⟩]) (l := internal_stringslite_IndexByte.says) (fn := Tryz.f99) (c := bodyOf Tryz.f99)
  (by kernel_rfl) (by kernel_rfl) (by kernel_rfl) (by kernel_rfl) (by kernel_rfl) (by kernel_rfl) (by kernel_rfl)
  (fun N => SayAll.nil) (fun a s => by kernel_rfl)

/-! ### strings.IndexByte: function 76 -/
noncomputable def strings_IndexByte.H : Hints := hintsOf []
noncomputable def strings_IndexByte.says (N : Nat) : List Say := [internal_stringslite_IndexByte.S N]
noncomputable def strings_IndexByte.call (N : Nat) : CallK := callBy (strings_IndexByte.says N)
noncomputable def strings_IndexByte.qt (N : Nat) : FuncId → List PV → Sig → Cl := qtBy (strings_IndexByte.says N)
noncomputable def strings_IndexByte (N : Nat) (s : ByteArray) (c : Int) : Option ((Int × Unit) × Unit) :=
  ofFn Tryz.prog strings_IndexByte.call strings_IndexByte.qt strings_IndexByte.H N Tryz.f76 [ak_s, .one (.sh (.int .u8))] [] [ak_i] [] [⟨[], [], [], []⟩] (s, (c, ())) ()
noncomputable def strings_IndexByte.S (N : Nat) : Say := ⟨false, 76, [ak_s, .one (.sh (.int .u8))], [], [ak_i], [], fun a s => strings_IndexByte N a.1 a.2.1⟩
set_option maxRecDepth 100000 in
theorem strings_IndexByte.eq (N : Nat) (s : ByteArray) (c : Int) : strings_IndexByte N s c =
 andK (internal_stringslite_IndexByte N s c) fun u1 =>
 some ((u1.1.1, ()), ()) := by kernel_rfl
set_option maxRecDepth 100000 in
theorem strings_IndexByte.say (N : Nat) : SayOk Tryz.prog (strings_IndexByte.S N) := sayOk_mk (N := N) (H := strings_IndexByte.H) (preps := [⟨[], [], [], []⟩]) (l := strings_IndexByte.says) (fn := Tryz.f76) (c := bodyOf Tryz.f76)
  (by kernel_rfl) (by kernel_rfl) (by kernel_rfl) (by kernel_rfl) (by kernel_rfl) (by kernel_rfl) (by kernel_rfl)
  (fun N => SayAll.cons (internal_stringslite_IndexByte.say N) (SayAll.nil)) (fun a s => by kernel_rfl)

/-! ### loop.example/g00206/impl.ReadHex: function 38 -/
noncomputable def impl_ReadHex.H : Hints := hintsOf [(5000001, .join [⟨.normal, [0], [16], [ak_b], [], [⟨[], [], [], []⟩]⟩]),
  (5000008, .join [⟨.normal, [0, 5, 6, 7], [4, 38], [.one (.own 0), ak_b], [.rows (.int .u8)], [⟨[], [], [], []⟩]⟩]),
  (2000005, .loop ⟨.normal, [0], [4, 5], [.one (.own 0), ak_i], [.rows (.int .u8)], [⟨[(4, (.int .u8))], [], [], [0]⟩, ⟨[], [], [], [0]⟩]⟩ [⟨.ret, [], [2, 3], [ak_s, ak_b], [], [⟨[], [], [], []⟩]⟩, ⟨(.exit 0), [], [4], [.one (.own 0)], [.rows (.int .u8)], [⟨[], [], [], [0]⟩]⟩])]
noncomputable def impl_ReadHex.says (N : Nat) : List Say := [strings_IndexByte.S N]
noncomputable def impl_ReadHex.call (N : Nat) : CallK := callBy (impl_ReadHex.says N)
noncomputable def impl_ReadHex.qt (N : Nat) : FuncId → List PV → Sig → Cl := qtBy (impl_ReadHex.says N)
noncomputable def impl_ReadHex.l0.hd : Alt := ⟨.normal, [0], [4, 5], [.one (.own 0), ak_i], [.rows (.int .u8)], [⟨[(4, (.int .u8))], [], [], [0]⟩, ⟨[], [], [], [0]⟩]⟩
noncomputable def impl_ReadHex.l0.outs : List Alt := [⟨.ret, [], [2, 3], [ak_s, ak_b], [], [⟨[], [], [], []⟩]⟩, ⟨(.exit 0), [], [4], [.one (.own 0)], [.rows (.int .u8)], [⟨[], [], [], [0]⟩]⟩]
noncomputable def impl_ReadHex.l0 (N : Nat) (s1 : ByteArray) (i : Int) (p0 : (List Int)) : Option (((ByteArray × (Bool × Unit)) × Unit) ⊕ ((Unit × Unit) × ((List Int) × Unit))) :=
  loopK Tryz.prog impl_ReadHex.call impl_ReadHex.qt impl_ReadHex.H (codeAt (bodyOf Tryz.f38) [1, 1, 1, 0, 1, 0, 0]) 0 impl_ReadHex.l0.hd impl_ReadHex.l0.outs [(0, .v (.string s1))] N (((), (i, ())), (p0, ()))
noncomputable def impl_ReadHex (N : Nat) (s : ByteArray) : Option ((ByteArray × (Bool × Unit)) × Unit) :=
  ofFn Tryz.prog impl_ReadHex.call impl_ReadHex.qt impl_ReadHex.H N Tryz.f38 [ak_s] [] [ak_s, ak_b] [] [⟨[], [], [], []⟩] (s, ()) ()
noncomputable def impl_ReadHex.S (N : Nat) : Say := ⟨false, 38, [ak_s], [], [ak_s, ak_b], [], fun a s => impl_ReadHex N a.1⟩
set_option maxRecDepth 100000 in
theorem impl_ReadHex.l0.eq (N : Nat) (s1 : ByteArray) (i : Int) (p0 : (List Int)) : impl_ReadHex.l0 (N + 1) s1 i p0 =
 sel (decide (i < (s1.size : Int)))
  (
  chk ((decide (0 ≤ i)) && (decide (i < (s1.size : Int)))) (
  andK (strings_IndexByte N (⟨#[48, 49, 50, 51, 52, 53, 54, 55, 56, 57, 97, 98, 99, 100, 101, 102]⟩ : ByteArray) ((bytesL s1).getD (Int.toNat i) 0)) fun u2 =>
  chk ((decide (0 ≤ (IntKind.i64.wrap (i + 1)))) && (decide ((IntKind.i64.wrap (i + 1)) < (s1.size : Int)))) (
  andK (strings_IndexByte N (⟨#[48, 49, 50, 51, 52, 53, 54, 55, 56, 57, 97, 98, 99, 100, 101, 102]⟩ : ByteArray) ((bytesL s1).getD (Int.toNat (IntKind.i64.wrap (i + 1))) 0)) fun u3 =>
  andK (α := ((Unit × (Bool × Unit)) × ((List Int) × Unit))) (
   sel (decide (u2.1.1 < 0))
    (
    some ((((), (true, ())), (p0, ()))))
    (
    some ((((), ((decide (u3.1.1 < 0)), ())), (p0, ()))))) fun j4 =>
  sel j4.1.2.1
   (
   some (.inl (((⟨#[]⟩ : ByteArray), (false, ())), ())))
   (
   chk (decide (j4.2.1.length + 1 < most)) (
   impl_ReadHex.l0 N s1 (IntKind.i64.wrap (i + 2)) (j4.2.1 ++ [(IntKind.u8.wrap (IntKind.i64.wrap ((IntKind.i64.wrap (16 * u2.1.1)) + u3.1.1)))]))))))
  (
  some (.inr ((((), ()), (p0, ()))))) := by kernel_rfl
set_option maxRecDepth 100000 in
theorem impl_ReadHex.eq (N : Nat) (s : ByteArray) : impl_ReadHex N s =
 andK (α := ((Bool × Unit) × Unit)) (
  sel (!(decide ((Int.tmod (s.size : Int) 2) = 0)))
   (
   some (((true, ()), ())))
   (
   some ((((decide (3000 < (s.size : Int))), ()), ())))) fun j1 =>
 sel j1.1.1
  (
  some (((⟨#[]⟩ : ByteArray), (false, ())), ()))
  (
  andK (impl_ReadHex.l0 N s 0 []) fun l5 =>
  orK l5 (fun x6 =>
   some ((x6.1.1, (x6.1.2.1, ())), ()))
   (fun x7 =>
   some (((strL x7.2.1), (true, ())), ()))) := by kernel_rfl
set_option maxRecDepth 100000 in
theorem impl_ReadHex.say (N : Nat) : SayOk Tryz.prog (impl_ReadHex.S N) := sayOk_mk (N := N) (H := impl_ReadHex.H) (preps := [⟨[], [], [], []⟩]) (l := impl_ReadHex.says) (fn := Tryz.f38) (c := bodyOf Tryz.f38)
  (by kernel_rfl) (by kernel_rfl) (by kernel_rfl) (by kernel_rfl) (by kernel_rfl) (by kernel_rfl) (by kernel_rfl)
  (fun N => SayAll.cons (strings_IndexByte.say N) (SayAll.nil)) (fun a s => by kernel_rfl)

/-! ### loop.example/g00206/impl.isKey: function 91 -/
noncomputable def impl_isKey.H : Hints := hintsOf []
noncomputable def impl_isKey.says (N : Nat) : List Say := []
noncomputable def impl_isKey.call (N : Nat) : CallK := callBy (impl_isKey.says N)
noncomputable def impl_isKey.qt (N : Nat) : FuncId → List PV → Sig → Cl := qtBy (impl_isKey.says N)
noncomputable def impl_isKey (N : Nat) (key : ByteArray) : Option ((Bool × Unit) × Unit) :=
  ofFn Tryz.prog impl_isKey.call impl_isKey.qt impl_isKey.H N Tryz.f91 [ak_s] [] [ak_b] [] [⟨[], [], [], []⟩] (key, ()) ()
noncomputable def impl_isKey.S (N : Nat) : Say := ⟨false, 91, [ak_s], [], [ak_b], [], fun a s => impl_isKey N a.1⟩
set_option maxRecDepth 100000 in
theorem impl_isKey.eq (N : Nat) (key : ByteArray) : impl_isKey N key =
 some (((decide ((key.size : Int) = 16)), ()), ()) := by kernel_rfl
set_option maxRecDepth 100000 in
theorem impl_isKey.say (N : Nat) : SayOk Tryz.prog (impl_isKey.S N) := sayOk_mk (N := N) (H := impl_isKey.H) (preps := [⟨[], [], [], []⟩]) (l := impl_isKey.says) (fn := Tryz.f91) (c := bodyOf Tryz.f91)
  (by kernel_rfl) (by kernel_rfl) (by kernel_rfl) (by kernel_rfl) (by kernel_rfl) (by kernel_rfl) (by kernel_rfl)
  (fun N => SayAll.nil) (fun a s => by kernel_rfl)

/-! ### loop.example/g00206/impl.sealOk: function 77 -/
noncomputable def impl_sealOk.H : Hints := hintsOf []
noncomputable def impl_sealOk.says (N : Nat) : List Say := [impl_isKey.S N]
noncomputable def impl_sealOk.call (N : Nat) : CallK := callBy (impl_sealOk.says N)
noncomputable def impl_sealOk.qt (N : Nat) : FuncId → List PV → Sig → Cl := qtBy (impl_sealOk.says N)
noncomputable def impl_sealOk (N : Nat) (key : ByteArray) (nonce : ByteArray) (beside : ByteArray) : Option ((Bool × Unit) × Unit) :=
  ofFn Tryz.prog impl_sealOk.call impl_sealOk.qt impl_sealOk.H N Tryz.f77 [ak_s, ak_s, ak_s] [] [ak_b] [] [⟨[], [], [], []⟩] (key, (nonce, (beside, ()))) ()
noncomputable def impl_sealOk.S (N : Nat) : Say := ⟨false, 77, [ak_s, ak_s, ak_s], [], [ak_b], [], fun a s => impl_sealOk N a.1 a.2.1 a.2.2.1⟩
set_option maxRecDepth 100000 in
theorem impl_sealOk.eq (N : Nat) (key : ByteArray) (nonce : ByteArray) (beside : ByteArray) : impl_sealOk N key nonce beside =
 andK (impl_isKey N key) fun u1 =>
 sel u1.1.1
  (
  sel (decide ((nonce.size : Int) = 12))
   (
   some (((decide ((beside.size : Int) ≤ 1500)), ()), ()))
   (
   some ((false, ()), ())))
  (
  some ((false, ()), ())) := by kernel_rfl
set_option maxRecDepth 100000 in
theorem impl_sealOk.say (N : Nat) : SayOk Tryz.prog (impl_sealOk.S N) := sayOk_mk (N := N) (H := impl_sealOk.H) (preps := [⟨[], [], [], []⟩]) (l := impl_sealOk.says) (fn := Tryz.f77) (c := bodyOf Tryz.f77)
  (by kernel_rfl) (by kernel_rfl) (by kernel_rfl) (by kernel_rfl) (by kernel_rfl) (by kernel_rfl) (by kernel_rfl)
  (fun N => SayAll.cons (impl_isKey.say N) (SayAll.nil)) (fun a s => by kernel_rfl)

/-! ### loop.example/g00206/impl.mulGf: function 101 -/
noncomputable def impl_mulGf.H : Hints := hintsOf [(5, .join [⟨.normal, [0, 1], [5], [.one (.sh (.int .u8))], [], [⟨[], [], [], []⟩]⟩]),
  (9, .join [⟨.normal, [1, 5], [0], [.one (.sh (.int .u8))], [], [⟨[], [], [], []⟩]⟩]),
  (2000002, .loop ⟨.normal, [], [0, 1, 5], [.one (.sh (.int .u8)), .one (.sh (.int .u8)), .one (.sh (.int .u8))], [], [⟨[], [], [], []⟩]⟩ [⟨(.exit 0), [], [5], [.one (.sh (.int .u8))], [], [⟨[], [], [], []⟩]⟩])]
noncomputable def impl_mulGf.says (N : Nat) : List Say := []
noncomputable def impl_mulGf.call (N : Nat) : CallK := callBy (impl_mulGf.says N)
noncomputable def impl_mulGf.qt (N : Nat) : FuncId → List PV → Sig → Cl := qtBy (impl_mulGf.says N)
noncomputable def impl_mulGf.l0.hd : Alt := ⟨.normal, [], [0, 1, 5], [.one (.sh (.int .u8)), .one (.sh (.int .u8)), .one (.sh (.int .u8))], [], [⟨[], [], [], []⟩]⟩
noncomputable def impl_mulGf.l0.outs : List Alt := [⟨(.exit 0), [], [5], [.one (.sh (.int .u8))], [], [⟨[], [], [], []⟩]⟩]
noncomputable def impl_mulGf.l0 (N : Nat) (a1 : Int) (b1 : Int) (out : Int) : Option ((Int × Unit) × Unit) :=
  loopK Tryz.prog impl_mulGf.call impl_mulGf.qt impl_mulGf.H (codeAt (bodyOf Tryz.f101) [1, 1, 0, 0, 0]) 0 impl_mulGf.l0.hd impl_mulGf.l0.outs [] N ((a1, (b1, (out, ()))), ())
noncomputable def impl_mulGf (N : Nat) (a : Int) (b : Int) : Option ((Int × Unit) × Unit) :=
  ofFn Tryz.prog impl_mulGf.call impl_mulGf.qt impl_mulGf.H N Tryz.f101 [.one (.sh (.int .u8)), .one (.sh (.int .u8))] [] [.one (.sh (.int .u8))] [] [⟨[], [], [], []⟩] (a, (b, ())) ()
noncomputable def impl_mulGf.S (N : Nat) : Say := ⟨false, 101, [.one (.sh (.int .u8)), .one (.sh (.int .u8))], [], [.one (.sh (.int .u8))], [], fun a s => impl_mulGf N a.1 a.2.1⟩
set_option maxRecDepth 100000 in
theorem impl_mulGf.l0.eq (N : Nat) (a1 : Int) (b1 : Int) (out : Int) : impl_mulGf.l0 (N + 1) a1 b1 out =
 sel (!(decide (b1 = 0)))
  (
  andK (α := ((Int × Unit) × Unit)) (
   sel (decide ((Go.bits .and .u8 b1 1) = 1))
    (
    some ((((Go.bits .xor .u8 out a1), ()), ())))
    (
    some (((out, ()), ())))) fun j1 =>
  andK (α := ((Int × Unit) × Unit)) (
   sel (!(decide ((Go.bits .and .u8 a1 128) = 0)))
    (
    some ((((Go.bits .xor .u8 (shlI .u8 a1 1) 27), ()), ())))
    (
    some ((((shlI .u8 a1 1), ()), ())))) fun j2 =>
  impl_mulGf.l0 N j2.1.1 (shrI .u8 b1 1) j1.1.1)
  (
  some (((out, ()), ()))) := by kernel_rfl
set_option maxRecDepth 100000 in
theorem impl_mulGf.eq (N : Nat) (a : Int) (b : Int) : impl_mulGf N a b =
 andK (impl_mulGf.l0 N a b 0) fun l3 =>
 some ((l3.1.1, ()), ()) := by kernel_rfl
set_option maxRecDepth 100000 in
theorem impl_mulGf.say (N : Nat) : SayOk Tryz.prog (impl_mulGf.S N) := sayOk_mk (N := N) (H := impl_mulGf.H) (preps := [⟨[], [], [], []⟩]) (l := impl_mulGf.says) (fn := Tryz.f101) (c := bodyOf Tryz.f101)
  (by kernel_rfl) (by kernel_rfl) (by kernel_rfl) (by kernel_rfl) (by kernel_rfl) (by kernel_rfl) (by kernel_rfl)
  (fun N => SayAll.nil) (fun a s => by kernel_rfl)

/-! ### loop.example/g00206/impl.inverseGf: function 136 -/
noncomputable def impl_inverseGf.H : Hints := hintsOf [(2000003, .loop ⟨.normal, [0], [3, 4], [.one (.sh (.int .u8)), ak_i], [], [⟨[], [], [], []⟩]⟩ [⟨(.exit 0), [], [3], [.one (.sh (.int .u8))], [], [⟨[], [], [], []⟩]⟩])]
noncomputable def impl_inverseGf.says (N : Nat) : List Say := [impl_mulGf.S N]
noncomputable def impl_inverseGf.call (N : Nat) : CallK := callBy (impl_inverseGf.says N)
noncomputable def impl_inverseGf.qt (N : Nat) : FuncId → List PV → Sig → Cl := qtBy (impl_inverseGf.says N)
noncomputable def impl_inverseGf.l0.hd : Alt := ⟨.normal, [0], [3, 4], [.one (.sh (.int .u8)), ak_i], [], [⟨[], [], [], []⟩]⟩
noncomputable def impl_inverseGf.l0.outs : List Alt := [⟨(.exit 0), [], [3], [.one (.sh (.int .u8))], [], [⟨[], [], [], []⟩]⟩]
noncomputable def impl_inverseGf.l0 (N : Nat) (a1 : Int) (out : Int) (t4 : Int) : Option ((Int × Unit) × Unit) :=
  loopK Tryz.prog impl_inverseGf.call impl_inverseGf.qt impl_inverseGf.H (codeAt (bodyOf Tryz.f136) [1, 1, 0, 1, 0, 0]) 0 impl_inverseGf.l0.hd impl_inverseGf.l0.outs [(0, .v (.int .u8 a1))] N ((out, (t4, ())), ())
noncomputable def impl_inverseGf (N : Nat) (a : Int) : Option ((Int × Unit) × Unit) :=
  ofFn Tryz.prog impl_inverseGf.call impl_inverseGf.qt impl_inverseGf.H N Tryz.f136 [.one (.sh (.int .u8))] [] [.one (.sh (.int .u8))] [] [⟨[], [], [], []⟩] (a, ()) ()
noncomputable def impl_inverseGf.S (N : Nat) : Say := ⟨false, 136, [.one (.sh (.int .u8))], [], [.one (.sh (.int .u8))], [], fun a s => impl_inverseGf N a.1⟩
set_option maxRecDepth 100000 in
theorem impl_inverseGf.l0.eq (N : Nat) (a1 : Int) (out : Int) (t4 : Int) : impl_inverseGf.l0 (N + 1) a1 out t4 =
 sel (decide (t4 < 254))
  (
  andK (impl_mulGf N out a1) fun u1 =>
  impl_inverseGf.l0 N a1 u1.1.1 (IntKind.i64.wrap (t4 + 1)))
  (
  some (((out, ()), ()))) := by kernel_rfl
set_option maxRecDepth 100000 in
theorem impl_inverseGf.eq (N : Nat) (a : Int) : impl_inverseGf N a =
 andK (impl_inverseGf.l0 N a 1 0) fun l2 =>
 some ((l2.1.1, ()), ()) := by kernel_rfl
set_option maxRecDepth 100000 in
theorem impl_inverseGf.say (N : Nat) : SayOk Tryz.prog (impl_inverseGf.S N) := sayOk_mk (N := N) (H := impl_inverseGf.H) (preps := [⟨[], [], [], []⟩]) (l := impl_inverseGf.says) (fn := Tryz.f136) (c := bodyOf Tryz.f136)
  (by kernel_rfl) (by kernel_rfl) (by kernel_rfl) (by kernel_rfl) (by kernel_rfl) (by kernel_rfl) (by kernel_rfl)
  (fun N => SayAll.cons (impl_mulGf.say N) (SayAll.nil)) (fun a s => by kernel_rfl)

/-! ### math/bits.RotateLeft8: function 137 -/
noncomputable def math_bits_RotateLeft8.H : Hints := hintsOf []
noncomputable def math_bits_RotateLeft8.says (N : Nat) : List Say := []
noncomputable def math_bits_RotateLeft8.call (N : Nat) : CallK := callBy (math_bits_RotateLeft8.says N)
noncomputable def math_bits_RotateLeft8.qt (N : Nat) : FuncId → List PV → Sig → Cl := qtBy (math_bits_RotateLeft8.says N)
noncomputable def math_bits_RotateLeft8 (N : Nat) (x : Int) (k : Int) : Option ((Int × Unit) × Unit) :=
  ofFn Tryz.prog math_bits_RotateLeft8.call math_bits_RotateLeft8.qt math_bits_RotateLeft8.H N Tryz.f137 [.one (.sh (.int .u8)), ak_i] [] [.one (.sh (.int .u8))] [] [⟨[], [], [], []⟩] (x, (k, ())) ()
noncomputable def math_bits_RotateLeft8.S (N : Nat) : Say := ⟨false, 137, [.one (.sh (.int .u8)), ak_i], [], [.one (.sh (.int .u8))], [], fun a s => math_bits_RotateLeft8 N a.1 a.2.1⟩
set_option maxRecDepth 100000 in
theorem math_bits_RotateLeft8.eq (N : Nat) (x : Int) (k : Int) : math_bits_RotateLeft8 N x k =
 chk (decide (0 ≤ (Go.bits .and .u64 (IntKind.u64.wrap k) 7))) (
 chk (decide (0 ≤ (IntKind.u64.wrap (8 - (Go.bits .and .u64 (IntKind.u64.wrap k) 7))))) (
 some (((Go.bits .or .u8 (shlI .u8 x (Go.bits .and .u64 (IntKind.u64.wrap k) 7)) (shrI .u8 x (IntKind.u64.wrap (8 - (Go.bits .and .u64 (IntKind.u64.wrap k) 7))))), ()), ()))) := by kernel_rfl
set_option maxRecDepth 100000 in
theorem math_bits_RotateLeft8.say (N : Nat) : SayOk Tryz.prog (math_bits_RotateLeft8.S N) := sayOk_mk (N := N) (H := math_bits_RotateLeft8.H) (preps := [⟨[], [], [], []⟩]) (l := math_bits_RotateLeft8.says) (fn := Tryz.f137) (c := bodyOf Tryz.f137)
  (by kernel_rfl) (by kernel_rfl) (by kernel_rfl) (by kernel_rfl) (by kernel_rfl) (by kernel_rfl) (by kernel_rfl)
  (fun N => SayAll.nil) (fun a s => by kernel_rfl)

/-! ### loop.example/g00206/impl.subByte: function 122 -/
noncomputable def impl_subByte.H : Hints := hintsOf [(2000004, .loop ⟨.normal, [3], [4, 5], [.one (.sh (.int .u8)), ak_i], [], [⟨[], [], [], []⟩]⟩ [⟨(.exit 0), [], [4], [.one (.sh (.int .u8))], [], [⟨[], [], [], []⟩]⟩])]
noncomputable def impl_subByte.says (N : Nat) : List Say := [impl_inverseGf.S N, math_bits_RotateLeft8.S N]
noncomputable def impl_subByte.call (N : Nat) : CallK := callBy (impl_subByte.says N)
noncomputable def impl_subByte.qt (N : Nat) : FuncId → List PV → Sig → Cl := qtBy (impl_subByte.says N)
noncomputable def impl_subByte.l0.hd : Alt := ⟨.normal, [3], [4, 5], [.one (.sh (.int .u8)), ak_i], [], [⟨[], [], [], []⟩]⟩
noncomputable def impl_subByte.l0.outs : List Alt := [⟨(.exit 0), [], [4], [.one (.sh (.int .u8))], [], [⟨[], [], [], []⟩]⟩]
noncomputable def impl_subByte.l0 (N : Nat) (c : Int) (out : Int) (i : Int) : Option ((Int × Unit) × Unit) :=
  loopK Tryz.prog impl_subByte.call impl_subByte.qt impl_subByte.H (codeAt (bodyOf Tryz.f122) [1, 1, 1, 0, 1, 0, 0]) 0 impl_subByte.l0.hd impl_subByte.l0.outs [(3, .v (.int .u8 c))] N ((out, (i, ())), ())
noncomputable def impl_subByte (N : Nat) (b : Int) : Option ((Int × Unit) × Unit) :=
  ofFn Tryz.prog impl_subByte.call impl_subByte.qt impl_subByte.H N Tryz.f122 [.one (.sh (.int .u8))] [] [.one (.sh (.int .u8))] [] [⟨[], [], [], []⟩] (b, ()) ()
noncomputable def impl_subByte.S (N : Nat) : Say := ⟨false, 122, [.one (.sh (.int .u8))], [], [.one (.sh (.int .u8))], [], fun a s => impl_subByte N a.1⟩
set_option maxRecDepth 100000 in
theorem impl_subByte.l0.eq (N : Nat) (c : Int) (out : Int) (i : Int) : impl_subByte.l0 (N + 1) c out i =
 sel (decide (i < 5))
  (
  andK (math_bits_RotateLeft8 N c i) fun u2 =>
  impl_subByte.l0 N c (Go.bits .xor .u8 out u2.1.1) (IntKind.i64.wrap (i + 1)))
  (
  some (((out, ()), ()))) := by kernel_rfl
set_option maxRecDepth 100000 in
theorem impl_subByte.eq (N : Nat) (b : Int) : impl_subByte N b =
 andK (impl_inverseGf N b) fun u1 =>
 andK (impl_subByte.l0 N u1.1.1 (Go.bits .xor .u8 u1.1.1 99) 1) fun l3 =>
 some ((l3.1.1, ()), ()) := by kernel_rfl
set_option maxRecDepth 100000 in
theorem impl_subByte.say (N : Nat) : SayOk Tryz.prog (impl_subByte.S N) := sayOk_mk (N := N) (H := impl_subByte.H) (preps := [⟨[], [], [], []⟩]) (l := impl_subByte.says) (fn := Tryz.f122) (c := bodyOf Tryz.f122)
  (by kernel_rfl) (by kernel_rfl) (by kernel_rfl) (by kernel_rfl) (by kernel_rfl) (by kernel_rfl) (by kernel_rfl)
  (fun N => SayAll.cons (impl_inverseGf.say N) (SayAll.cons (math_bits_RotateLeft8.say N) (SayAll.nil))) (fun a s => by kernel_rfl)

/-! ### loop.example/g00206/impl.newBox: function 100 -/
noncomputable def impl_newBox.H : Hints := hintsOf [(2000003, .loop ⟨.normal, [], [1, 6], [.one (.apl 0 0 512), ak_i], [.rows (.int .u8)], [⟨[], [], [], []⟩]⟩ [⟨(.exit 0), [], [1], [.one (.apl 0 0 512)], [.rows (.int .u8)], [⟨[], [], [], []⟩]⟩])]
noncomputable def impl_newBox.says (N : Nat) : List Say := [impl_subByte.S N]
noncomputable def impl_newBox.call (N : Nat) : CallK := callBy (impl_newBox.says N)
noncomputable def impl_newBox.qt (N : Nat) : FuncId → List PV → Sig → Cl := qtBy (impl_newBox.says N)
noncomputable def impl_newBox.l0.hd : Alt := ⟨.normal, [], [1, 6], [.one (.apl 0 0 512), ak_i], [.rows (.int .u8)], [⟨[], [], [], []⟩]⟩
noncomputable def impl_newBox.l0.outs : List Alt := [⟨(.exit 0), [], [1], [.one (.apl 0 0 512)], [.rows (.int .u8)], [⟨[], [], [], []⟩]⟩]
noncomputable def impl_newBox.l0 (N : Nat) (t6 : Int) (p0 : (List Int)) : Option ((Unit × Unit) × ((List Int) × Unit)) :=
  loopK Tryz.prog impl_newBox.call impl_newBox.qt impl_newBox.H (codeAt (bodyOf Tryz.f100) [1, 1, 0, 1, 0, 0]) 1 impl_newBox.l0.hd impl_newBox.l0.outs [] N (((), (t6, ())), (p0, ()))
noncomputable def impl_newBox (N : Nat) : Option ((Unit × Unit) × ((List Int) × Unit)) :=
  ofFn Tryz.prog impl_newBox.call impl_newBox.qt impl_newBox.H N Tryz.f100 [] [] [.one (.apl 0 0 512)] [.rows (.int .u8)] [⟨[], [], [], [0]⟩] () ()
noncomputable def impl_newBox.S (N : Nat) : Say := ⟨false, 100, [], [], [.one (.apl 0 0 512)], [.rows (.int .u8)], fun a s => impl_newBox N⟩
set_option maxRecDepth 100000 in
theorem impl_newBox.l0.eq (N : Nat) (t6 : Int) (p0 : (List Int)) : impl_newBox.l0 (N + 1) t6 p0 =
 sel (decide (t6 < 256))
  (
  andK (impl_subByte N (IntKind.u8.wrap t6)) fun u1 =>
  chk ((decide (0 ≤ t6)) && (decide (t6 < 256))) (
  chk ((decide (0 ≤ u1.1.1)) && (decide (u1.1.1 < 256))) (
  impl_newBox.l0 N (IntKind.i64.wrap (t6 + 1)) ((p0.set (0 + (Int.toNat t6)) u1.1.1).set (256 + (Int.toNat u1.1.1)) (IntKind.u8.wrap t6)))))
  (
  some ((((), ()), (p0, ())))) := by kernel_rfl
set_option maxRecDepth 100000 in
theorem impl_newBox.eq (N : Nat) : impl_newBox N =
 andK (impl_newBox.l0 N 0 (List.replicate 512 (0 : Int))) fun l2 =>
 some (((), ()), (l2.2.1, ())) := by kernel_rfl
set_option maxRecDepth 100000 in
theorem impl_newBox.say (N : Nat) : SayOk Tryz.prog (impl_newBox.S N) := sayOk_mk (N := N) (H := impl_newBox.H) (preps := [⟨[], [], [], [0]⟩]) (l := impl_newBox.says) (fn := Tryz.f100) (c := bodyOf Tryz.f100)
  (by kernel_rfl) (by kernel_rfl) (by kernel_rfl) (by kernel_rfl) (by kernel_rfl) (by kernel_rfl) (by kernel_rfl)
  (fun N => SayAll.cons (impl_subByte.say N) (SayAll.nil)) (fun a s => by kernel_rfl)

/-! ### loop.example/g00206/impl.cipherOf: function 78 -/
noncomputable def impl_cipherOf.H : Hints := hintsOf [(10, .join [⟨.normal, [5], [3, 4, 6], [.one (.ptr 2 0), .one (.sh (.int .u8)), .one (.apl 3 0 4)], [.rows (.int .u8), .rows (.int .u8), .cells [.apl 0 0 512, .own 1], .rows (.int .u8)], [⟨[], [], [], []⟩]⟩]),
  (2000011, .loop ⟨.normal, [4, 5, 76], [3, 77], [.one (.ptr 2 0), ak_i], [.rows (.int .u8), .rows (.int .u8), .cells [.apl 0 0 512, .own 1], .rows (.int .u8)], [⟨[], [], [], []⟩]⟩ [⟨(.exit 2), [4, 5], [3], [.one (.ptr 2 0)], [.rows (.int .u8), .rows (.int .u8), .cells [.apl 0 0 512, .own 1], .rows (.int .u8)], [⟨[], [], [], []⟩]⟩]),
  (2000004, .loop ⟨.normal, [], [3, 4, 5], [.one (.ptr 2 0), .one (.sh (.int .u8)), ak_i], [.rows (.int .u8), .rows (.int .u8), .cells [.apl 0 0 512, .own 1]], [⟨[], [], [], []⟩]⟩ [⟨(.exit 0), [], [3], [.one (.ptr 2 0)], [.rows (.int .u8), .rows (.int .u8), .cells [.apl 0 0 512, .own 1]], [⟨[], [], [], []⟩]⟩])]
noncomputable def impl_cipherOf.says (N : Nat) : List Say := [impl_newBox.S N, impl_mulGf.S N]
noncomputable def impl_cipherOf.call (N : Nat) : CallK := callBy (impl_cipherOf.says N)
noncomputable def impl_cipherOf.qt (N : Nat) : FuncId → List PV → Sig → Cl := qtBy (impl_cipherOf.says N)
noncomputable def impl_cipherOf.l0.hd : Alt := ⟨.normal, [], [3, 4, 5], [.one (.ptr 2 0), .one (.sh (.int .u8)), ak_i], [.rows (.int .u8), .rows (.int .u8), .cells [.apl 0 0 512, .own 1]], [⟨[], [], [], []⟩]⟩
noncomputable def impl_cipherOf.l0.outs : List Alt := [⟨(.exit 0), [], [3], [.one (.ptr 2 0)], [.rows (.int .u8), .rows (.int .u8), .cells [.apl 0 0 512, .own 1]], [⟨[], [], [], []⟩]⟩]
noncomputable def impl_cipherOf.l0 (N : Nat) (o : Int) (d : Int) (p0 : (List Int)) (p1 : (List Int)) : Option ((Unit × Unit) × ((List Int) × ((List Int) × ((Unit × (Unit × Unit)) × Unit)))) :=
  loopK Tryz.prog impl_cipherOf.call impl_cipherOf.qt impl_cipherOf.H (codeAt (bodyOf Tryz.f78) [1, 1, 1, 0, 1, 0, 0]) 3 impl_cipherOf.l0.hd impl_cipherOf.l0.outs [] N (((), (o, (d, ()))), (p0, (p1, (((), ((), ())), ()))))
noncomputable def impl_cipherOf.l1.hd : Alt := ⟨.normal, [4, 5, 76], [3, 77], [.one (.ptr 2 0), ak_i], [.rows (.int .u8), .rows (.int .u8), .cells [.apl 0 0 512, .own 1], .rows (.int .u8)], [⟨[], [], [], []⟩]⟩
noncomputable def impl_cipherOf.l1.outs : List Alt := [⟨(.exit 2), [4, 5], [3], [.one (.ptr 2 0)], [.rows (.int .u8), .rows (.int .u8), .cells [.apl 0 0 512, .own 1], .rows (.int .u8)], [⟨[], [], [], []⟩]⟩]
noncomputable def impl_cipherOf.l1 (N : Nat) (o1 : Int) (d1 : Int) (t76 : (List Int)) (t77 : Int) (p01 : (List Int)) (p11 : (List Int)) (p3 : (List Int)) : Option ((Unit × Unit) × ((List Int) × ((List Int) × ((Unit × (Unit × Unit)) × ((List Int) × Unit))))) :=
  loopK Tryz.prog impl_cipherOf.call impl_cipherOf.qt impl_cipherOf.H (codeAt (bodyOf Tryz.f78) [1, 1, 1, 0, 1, 0, 0, 1, 0, 0, 1, 1, 1, 0, 0]) 4 impl_cipherOf.l1.hd impl_cipherOf.l1.outs [(4, .v (.int .u8 o1)), (5, .v (.int .i64 d1)), (76, .arr .u8 t76)] N (((), (t77, ())), (p01, (p11, (((), ((), ())), (p3, ())))))
noncomputable def impl_cipherOf (N : Nat) (G : ByteArray) : Option ((Unit × Unit) × ((Unit × (Unit × Unit)) × ((List Int) × ((List Int) × Unit)))) :=
  ofFn Tryz.prog impl_cipherOf.call impl_cipherOf.qt impl_cipherOf.H N Tryz.f78 [ak_s] [] [.one (.ptr 0 0)] [.cells [.apl 1 0 512, .own 2], .rows (.int .u8), .rows (.int .u8)] [⟨[], [], [], [2, 0, 1]⟩] (G, ()) ()
noncomputable def impl_cipherOf.S (N : Nat) : Say := ⟨false, 78, [ak_s], [], [.one (.ptr 0 0)], [.cells [.apl 1 0 512, .own 2], .rows (.int .u8), .rows (.int .u8)], fun a s => impl_cipherOf N a.1⟩
set_option maxRecDepth 100000 in
theorem impl_cipherOf.l1.eq (N : Nat) (o1 : Int) (d1 : Int) (t76 : (List Int)) (t77 : Int) (p01 : (List Int)) (p11 : (List Int)) (p3 : (List Int)) : impl_cipherOf.l1 (N + 1) o1 d1 t76 t77 p01 p11 p3 =
 sel (decide (t77 < 4))
  (
  chk ((decide (0 ≤ t77)) && ((decide (t77 < 4)) && (decide (t77 < (t76.length : Int))))) (
  chk ((decide (0 ≤ (IntKind.i64.wrap ((IntKind.i64.wrap ((IntKind.i64.wrap (4 * d1)) - 16)) + t77)))) && (decide ((IntKind.i64.wrap ((IntKind.i64.wrap ((IntKind.i64.wrap (4 * d1)) - 16)) + t77)) < (p11.length : Int)))) (
  chk (decide (p11.length + 1 < most)) (
  impl_cipherOf.l1 N o1 d1 t76 (IntKind.i64.wrap (t77 + 1)) p01 (p11 ++ [(Go.bits .xor .u8 (p11.getD (Int.toNat (IntKind.i64.wrap ((IntKind.i64.wrap ((IntKind.i64.wrap (4 * d1)) - 16)) + t77))) 0) (t76.getD (Int.toNat t77) 0))]) p3))))
  (
  some ((((), ()), (p01, (p11, (((), ((), ())), (p3, ()))))))) := by kernel_rfl
set_option maxRecDepth 100000 in
theorem impl_cipherOf.l0.eq (N : Nat) (o : Int) (d : Int) (p0 : (List Int)) (p1 : (List Int)) : impl_cipherOf.l0 (N + 1) o d p0 p1 =
 sel (decide (d < 44))
  (
  chk ((decide (0 ≤ (IntKind.i64.wrap ((IntKind.i64.wrap (4 * d)) - 4)))) && ((decide ((IntKind.i64.wrap ((IntKind.i64.wrap (4 * d)) - 4)) ≤ (p1.length : Int))) && (decide ((p1.length : Int) ≤ (p1.length : Int))))) (
  chk (decide (4 ≤ ((Int.toNat (p1.length : Int)) - (Int.toNat (IntKind.i64.wrap ((IntKind.i64.wrap (4 * d)) - 4)))))) (
  chk ((decide ((List.replicate 4 (0 : Int)).length = 4)) && (decide (((p1.drop (Int.toNat (IntKind.i64.wrap ((IntKind.i64.wrap (4 * d)) - 4)))).take 4).length = 4))) (
  andK (α := ((Unit × (Int × (Unit × Unit))) × ((List Int) × ((List Int) × ((Unit × (Unit × Unit)) × ((List Int) × Unit)))))) (
   sel (decide ((Int.tmod d 4) = 0))
    (
    chk ((decide (0 ≤ (((p1.drop (Int.toNat (IntKind.i64.wrap ((IntKind.i64.wrap (4 * d)) - 4)))).take 4).getD 1 0))) && (decide ((((p1.drop (Int.toNat (IntKind.i64.wrap ((IntKind.i64.wrap (4 * d)) - 4)))).take 4).getD 1 0) < 256))) (
    chk ((decide (0 ≤ (((p1.drop (Int.toNat (IntKind.i64.wrap ((IntKind.i64.wrap (4 * d)) - 4)))).take 4).getD 2 0))) && (decide ((((p1.drop (Int.toNat (IntKind.i64.wrap ((IntKind.i64.wrap (4 * d)) - 4)))).take 4).getD 2 0) < 256))) (
    chk ((decide (0 ≤ (((p1.drop (Int.toNat (IntKind.i64.wrap ((IntKind.i64.wrap (4 * d)) - 4)))).take 4).getD 3 0))) && (decide ((((p1.drop (Int.toNat (IntKind.i64.wrap ((IntKind.i64.wrap (4 * d)) - 4)))).take 4).getD 3 0) < 256))) (
    chk ((decide (0 ≤ (((p1.drop (Int.toNat (IntKind.i64.wrap ((IntKind.i64.wrap (4 * d)) - 4)))).take 4).getD 0 0))) && (decide ((((p1.drop (Int.toNat (IntKind.i64.wrap ((IntKind.i64.wrap (4 * d)) - 4)))).take 4).getD 0 0) < 256))) (
    chk ((decide (((p1.drop (Int.toNat (IntKind.i64.wrap ((IntKind.i64.wrap (4 * d)) - 4)))).take 4).length = 4)) && true) (
    andK (impl_mulGf N o 2) fun u2 =>
    some ((((), (u2.1.1, ((), ()))), (p0, (p1, (((), ((), ())), ([(Go.bits .xor .u8 (p0.getD (0 + (Int.toNat (((p1.drop (Int.toNat (IntKind.i64.wrap ((IntKind.i64.wrap (4 * d)) - 4)))).take 4).getD 1 0))) 0) o), (p0.getD (0 + (Int.toNat (((p1.drop (Int.toNat (IntKind.i64.wrap ((IntKind.i64.wrap (4 * d)) - 4)))).take 4).getD 2 0))) 0), (p0.getD (0 + (Int.toNat (((p1.drop (Int.toNat (IntKind.i64.wrap ((IntKind.i64.wrap (4 * d)) - 4)))).take 4).getD 3 0))) 0), (p0.getD (0 + (Int.toNat (((p1.drop (Int.toNat (IntKind.i64.wrap ((IntKind.i64.wrap (4 * d)) - 4)))).take 4).getD 0 0))) 0)], ()))))))))))))
    (
    some ((((), (o, ((), ()))), (p0, (p1, (((), ((), ())), (((p1.drop (Int.toNat (IntKind.i64.wrap ((IntKind.i64.wrap (4 * d)) - 4)))).take 4), ())))))))) fun j3 =>
  andK (impl_cipherOf.l1 N j3.1.2.1 d ((j3.2.2.2.2.1.drop 0).take 4) 0 j3.2.1 j3.2.2.1 j3.2.2.2.2.1) fun l4 =>
  impl_cipherOf.l0 N j3.1.2.1 (IntKind.i64.wrap (d + 1)) l4.2.1 l4.2.2.1))))
  (
  some ((((), ()), (p0, (p1, (((), ((), ())), ())))))) := by kernel_rfl
set_option maxRecDepth 100000 in
theorem impl_cipherOf.eq (N : Nat) (G : ByteArray) : impl_cipherOf N G =
 andK (impl_newBox N) fun u1 =>
 andK (impl_cipherOf.l0 N 1 4 u1.2.1 (bytesL G)) fun l5 =>
 some (((), ()), (((), ((), ())), (l5.2.1, (l5.2.2.1, ())))) := by kernel_rfl
set_option maxRecDepth 100000 in
theorem impl_cipherOf.say (N : Nat) : SayOk Tryz.prog (impl_cipherOf.S N) := sayOk_mk (N := N) (H := impl_cipherOf.H) (preps := [⟨[], [], [], [2, 0, 1]⟩]) (l := impl_cipherOf.says) (fn := Tryz.f78) (c := bodyOf Tryz.f78)
  (by kernel_rfl) (by kernel_rfl) (by kernel_rfl) (by kernel_rfl) (by kernel_rfl) (by kernel_rfl) (by kernel_rfl)
  (fun N => SayAll.cons (impl_newBox.say N) (SayAll.cons (impl_mulGf.say N) (SayAll.nil))) (fun a s => by kernel_rfl)

/-! ### loop.example/g00206/impl.numberOf: function 58 -/
noncomputable def impl_numberOf.H : Hints := hintsOf [(2000003, .loop ⟨.normal, [0, 6], [3, 7], [.one (.sh (.int .u64)), ak_i], [], [⟨[], [], [], []⟩]⟩ [⟨(.exit 0), [], [3], [.one (.sh (.int .u64))], [], [⟨[], [], [], []⟩]⟩])]
noncomputable def impl_numberOf.says (N : Nat) : List Say := []
noncomputable def impl_numberOf.call (N : Nat) : CallK := callBy (impl_numberOf.says N)
noncomputable def impl_numberOf.qt (N : Nat) : FuncId → List PV → Sig → Cl := qtBy (impl_numberOf.says N)
noncomputable def impl_numberOf.l0.hd : Alt := ⟨.normal, [0, 6], [3, 7], [.one (.sh (.int .u64)), ak_i], [], [⟨[], [], [], []⟩]⟩
noncomputable def impl_numberOf.l0.outs : List Alt := [⟨(.exit 0), [], [3], [.one (.sh (.int .u64))], [], [⟨[], [], [], []⟩]⟩]
noncomputable def impl_numberOf.l0 (N : Nat) (s1 : ByteArray) (t6 : Int) (n : Int) (t7 : Int) : Option ((Int × Unit) × Unit) :=
  loopK Tryz.prog impl_numberOf.call impl_numberOf.qt impl_numberOf.H (codeAt (bodyOf Tryz.f58) [1, 1, 0, 1, 0, 0]) 0 impl_numberOf.l0.hd impl_numberOf.l0.outs [(0, .v (.string s1)), (6, .v (.int .i64 t6))] N ((n, (t7, ())), ())
noncomputable def impl_numberOf (N : Nat) (s : ByteArray) : Option ((Int × Unit) × Unit) :=
  ofFn Tryz.prog impl_numberOf.call impl_numberOf.qt impl_numberOf.H N Tryz.f58 [ak_s] [] [.one (.sh (.int .u64))] [] [⟨[], [], [], []⟩] (s, ()) ()
noncomputable def impl_numberOf.S (N : Nat) : Say := ⟨false, 58, [ak_s], [], [.one (.sh (.int .u64))], [], fun a s => impl_numberOf N a.1⟩
set_option maxRecDepth 100000 in
theorem impl_numberOf.l0.eq (N : Nat) (s1 : ByteArray) (t6 : Int) (n : Int) (t7 : Int) : impl_numberOf.l0 (N + 1) s1 t6 n t7 =
 sel (decide (t7 < t6))
  (
  chk ((decide (0 ≤ t7)) && (decide (t7 < (s1.size : Int)))) (
  impl_numberOf.l0 N s1 t6 (Go.bits .or .u64 (shlI .u64 n 8) (IntKind.u64.wrap ((bytesL s1).getD (Int.toNat t7) 0))) (IntKind.i64.wrap (t7 + 1))))
  (
  some (((n, ()), ()))) := by kernel_rfl
set_option maxRecDepth 100000 in
theorem impl_numberOf.eq (N : Nat) (s : ByteArray) : impl_numberOf N s =
 andK (impl_numberOf.l0 N s (s.size : Int) 0 0) fun l1 =>
 some ((l1.1.1, ()), ()) := by kernel_rfl
set_option maxRecDepth 100000 in
theorem impl_numberOf.say (N : Nat) : SayOk Tryz.prog (impl_numberOf.S N) := sayOk_mk (N := N) (H := impl_numberOf.H) (preps := [⟨[], [], [], []⟩]) (l := impl_numberOf.says) (fn := Tryz.f58) (c := bodyOf Tryz.f58)
  (by kernel_rfl) (by kernel_rfl) (by kernel_rfl) (by kernel_rfl) (by kernel_rfl) (by kernel_rfl) (by kernel_rfl)
  (fun N => SayAll.nil) (fun a s => by kernel_rfl)

/-! ### (*loop.example/g00206/impl.cipher).addKey: function 123 -/
noncomputable def impl_cipher_addKey.H : Hints := hintsOf [(2000001, .loop ⟨.normal, [2, 8], [0, 1, 9], [.one (.ptr 0 0), .one (.own 1), ak_i], [.cells [.apl 2 0 512, .own 3], .rows (.int .u8) true, .rows (.int .u8) true, .rows (.int .u8) true], [⟨[], [], [], []⟩]⟩ [⟨(.exit 0), [], [], [], [.cells [.apl 2 0 512, .own 3], .rows (.int .u8) true, .rows (.int .u8) true, .rows (.int .u8) true], [⟨[], [], [], []⟩]⟩])]
noncomputable def impl_cipher_addKey.says (N : Nat) : List Say := []
noncomputable def impl_cipher_addKey.call (N : Nat) : CallK := callBy (impl_cipher_addKey.says N)
noncomputable def impl_cipher_addKey.qt (N : Nat) : FuncId → List PV → Sig → Cl := qtBy (impl_cipher_addKey.says N)
noncomputable def impl_cipher_addKey.l0.hd : Alt := ⟨.normal, [2, 8], [0, 1, 9], [.one (.ptr 0 0), .one (.own 1), ak_i], [.cells [.apl 2 0 512, .own 3], .rows (.int .u8) true, .rows (.int .u8) true, .rows (.int .u8) true], [⟨[], [], [], []⟩]⟩
noncomputable def impl_cipher_addKey.l0.outs : List Alt := [⟨(.exit 0), [], [], [], [.cells [.apl 2 0 512, .own 3], .rows (.int .u8) true, .rows (.int .u8) true, .rows (.int .u8) true], [⟨[], [], [], []⟩]⟩]
noncomputable def impl_cipher_addKey.l0 (N : Nat) (round1 : Int) (t8 : Int) (t9 : Int) (p11 : (List Int)) (p21 : (List Int)) (p31 : (List Int)) : Option (Unit × ((Unit × (Unit × Unit)) × ((List Int) × ((List Int) × ((List Int) × Unit))))) :=
  loopK Tryz.prog impl_cipher_addKey.call impl_cipher_addKey.qt impl_cipher_addKey.H (codeAt (bodyOf Tryz.f123) [1, 0, 0]) 4 impl_cipher_addKey.l0.hd impl_cipher_addKey.l0.outs [(2, .v (.int .i64 round1)), (8, .v (.int .i64 t8))] N (((), ((), (t9, ()))), (((), ((), ())), (p11, (p21, (p31, ())))))
noncomputable def impl_cipher_addKey (N : Nat) (round : Int) (p1 : (List Int)) (p2 : (List Int)) (p3 : (List Int)) : Option (Unit × ((Unit × (Unit × Unit)) × ((List Int) × ((List Int) × ((List Int) × Unit))))) :=
  ofFn Tryz.prog impl_cipher_addKey.call impl_cipher_addKey.qt impl_cipher_addKey.H N Tryz.f123 [.one (.ptr 0 0), .one (.own 1), ak_i] [.cells [.apl 2 0 512, .own 3], .rows (.int .u8), .rows (.int .u8), .rows (.int .u8)] [] [.cells [.apl 2 0 512, .own 3], .rows (.int .u8) true, .rows (.int .u8) true, .rows (.int .u8) true] [⟨[], [], [], []⟩] ((), ((), (round, ()))) (((), ((), ())), (p1, (p2, (p3, ()))))
noncomputable def impl_cipher_addKey.S (N : Nat) : Say := ⟨false, 123, [.one (.ptr 0 0), .one (.own 1), ak_i], [.cells [.apl 2 0 512, .own 3], .rows (.int .u8), .rows (.int .u8), .rows (.int .u8)], [], [.cells [.apl 2 0 512, .own 3], .rows (.int .u8) true, .rows (.int .u8) true, .rows (.int .u8) true], fun a s => impl_cipher_addKey N a.2.2.1 s.2.1 s.2.2.1 s.2.2.2.1⟩
set_option maxRecDepth 100000 in
theorem impl_cipher_addKey.l0.eq (N : Nat) (round1 : Int) (t8 : Int) (t9 : Int) (p11 : (List Int)) (p21 : (List Int)) (p31 : (List Int)) : impl_cipher_addKey.l0 (N + 1) round1 t8 t9 p11 p21 p31 =
 sel (decide (t9 < t8))
  (
  chk ((decide (0 ≤ t9)) && (decide (t9 < (p11.length : Int)))) (
  chk ((decide (0 ≤ (IntKind.i64.wrap ((IntKind.i64.wrap (16 * round1)) + t9)))) && (decide ((IntKind.i64.wrap ((IntKind.i64.wrap (16 * round1)) + t9)) < (p31.length : Int)))) (
  chk ((decide (0 ≤ t9)) && (decide (t9 < (p11.length : Int)))) (
  impl_cipher_addKey.l0 N round1 t8 (IntKind.i64.wrap (t9 + 1)) (p11.set (Int.toNat t9) (Go.bits .xor .u8 (p11.getD (Int.toNat t9) 0) (p31.getD (Int.toNat (IntKind.i64.wrap ((IntKind.i64.wrap (16 * round1)) + t9))) 0))) p21 p31))))
  (
  some (((), (((), ((), ())), (p11, (p21, (p31, ()))))))) := by kernel_rfl
set_option maxRecDepth 100000 in
theorem impl_cipher_addKey.eq (N : Nat) (round : Int) (p1 : (List Int)) (p2 : (List Int)) (p3 : (List Int)) : impl_cipher_addKey N round p1 p2 p3 =
 andK (impl_cipher_addKey.l0 N round (p1.length : Int) 0 p1 p2 p3) fun l1 =>
 some ((), (((), ((), ())), (l1.2.2.1, (l1.2.2.2.1, (l1.2.2.2.2.1, ()))))) := by kernel_rfl
set_option maxRecDepth 100000 in
theorem impl_cipher_addKey.say (N : Nat) : SayOk Tryz.prog (impl_cipher_addKey.S N) := sayOk_mk (N := N) (H := impl_cipher_addKey.H) (preps := [⟨[], [], [], []⟩]) (l := impl_cipher_addKey.says) (fn := Tryz.f123) (c := bodyOf Tryz.f123)
  (by kernel_rfl) (by kernel_rfl) (by kernel_rfl) (by kernel_rfl) (by kernel_rfl) (by kernel_rfl) (by kernel_rfl)
  (fun N => SayAll.nil) (fun a s => by kernel_rfl)

/-! ### loop.example/g00206/impl.shift: function 124 -/
noncomputable def impl_shift.H : Hints := hintsOf [(2000002, .loop ⟨.normal, [1, 10], [0, 4, 11], [.one (.own 0), .one (.apl 1 0 16), ak_i], [.rows (.int .u8) true, .rows (.int .u8)], [⟨[], [], [], []⟩]⟩ [⟨(.exit 0), [], [], [], [.rows (.int .u8) true, .rows (.int .u8)], [⟨[], [], [], []⟩]⟩])]
noncomputable def impl_shift.says (N : Nat) : List Say := []
noncomputable def impl_shift.call (N : Nat) : CallK := callBy (impl_shift.says N)
noncomputable def impl_shift.qt (N : Nat) : FuncId → List PV → Sig → Cl := qtBy (impl_shift.says N)
noncomputable def impl_shift.l0.hd : Alt := ⟨.normal, [1, 10], [0, 4, 11], [.one (.own 0), .one (.apl 1 0 16), ak_i], [.rows (.int .u8) true, .rows (.int .u8)], [⟨[], [], [], []⟩]⟩
noncomputable def impl_shift.l0.outs : List Alt := [⟨(.exit 0), [], [], [], [.rows (.int .u8) true, .rows (.int .u8)], [⟨[], [], [], []⟩]⟩]
noncomputable def impl_shift.l0 (N : Nat) (byv1 : Int) (t10 : Int) (t11 : Int) (p01 : (List Int)) (p1 : (List Int)) : Option (Unit × ((List Int) × ((List Int) × Unit))) :=
  loopK Tryz.prog impl_shift.call impl_shift.qt impl_shift.H (codeAt (bodyOf Tryz.f124) [1, 1, 0, 0]) 2 impl_shift.l0.hd impl_shift.l0.outs [(1, .v (.int .i64 byv1)), (10, .v (.int .i64 t10))] N (((), ((), (t11, ()))), (p01, (p1, ())))
noncomputable def impl_shift (N : Nat) (byv : Int) (p0 : (List Int)) : Option (Unit × ((List Int) × Unit)) :=
  ofFn Tryz.prog impl_shift.call impl_shift.qt impl_shift.H N Tryz.f124 [.one (.own 0), ak_i] [.rows (.int .u8)] [] [.rows (.int .u8) true] [⟨[], [], [], []⟩] ((), (byv, ())) (p0, ())
noncomputable def impl_shift.S (N : Nat) : Say := ⟨false, 124, [.one (.own 0), ak_i], [.rows (.int .u8)], [], [.rows (.int .u8) true], fun a s => impl_shift N a.2.1 s.1⟩
set_option maxRecDepth 100000 in
theorem impl_shift.l0.eq (N : Nat) (byv1 : Int) (t10 : Int) (t11 : Int) (p01 : (List Int)) (p1 : (List Int)) : impl_shift.l0 (N + 1) byv1 t10 t11 p01 p1 =
 sel (decide (t11 < t10))
  (
  chk ((decide (0 ≤ (IntKind.i64.wrap ((IntKind.i64.wrap (4 * (Int.tmod (IntKind.i64.wrap ((IntKind.i64.wrap (Int.tdiv t11 4)) + (IntKind.i64.wrap (byv1 * (Int.tmod t11 4))))) 4))) + (Int.tmod t11 4))))) && (decide ((IntKind.i64.wrap ((IntKind.i64.wrap (4 * (Int.tmod (IntKind.i64.wrap ((IntKind.i64.wrap (Int.tdiv t11 4)) + (IntKind.i64.wrap (byv1 * (Int.tmod t11 4))))) 4))) + (Int.tmod t11 4))) < 16))) (
  chk ((decide (0 ≤ t11)) && (decide (t11 < (p01.length : Int)))) (
  impl_shift.l0 N byv1 t10 (IntKind.i64.wrap (t11 + 1)) (p01.set (Int.toNat t11) (p1.getD (0 + (Int.toNat (IntKind.i64.wrap ((IntKind.i64.wrap (4 * (Int.tmod (IntKind.i64.wrap ((IntKind.i64.wrap (Int.tdiv t11 4)) + (IntKind.i64.wrap (byv1 * (Int.tmod t11 4))))) 4))) + (Int.tmod t11 4))))) 0)) p1)))
  (
  some (((), (p01, (p1, ()))))) := by kernel_rfl
set_option maxRecDepth 100000 in
theorem impl_shift.eq (N : Nat) (byv : Int) (p0 : (List Int)) : impl_shift N byv p0 =
 chk (decide (16 ≤ p0.length)) (
 chk ((decide ((List.replicate 16 (0 : Int)).length = 16)) && (decide (((p0.drop 0).take 16).length = 16))) (
 andK (impl_shift.l0 N byv (p0.length : Int) 0 p0 ((p0.drop 0).take 16)) fun l1 =>
 some ((), (l1.2.1, ())))) := by kernel_rfl
set_option maxRecDepth 100000 in
theorem impl_shift.say (N : Nat) : SayOk Tryz.prog (impl_shift.S N) := sayOk_mk (N := N) (H := impl_shift.H) (preps := [⟨[], [], [], []⟩]) (l := impl_shift.says) (fn := Tryz.f124) (c := bodyOf Tryz.f124)
  (by kernel_rfl) (by kernel_rfl) (by kernel_rfl) (by kernel_rfl) (by kernel_rfl) (by kernel_rfl) (by kernel_rfl)
  (fun N => SayAll.nil) (fun a s => by kernel_rfl)

/-! ### loop.example/g00206/impl.forth: function 126 -/
noncomputable def impl_forth.H : Hints := hintsOf []
noncomputable def impl_forth.says (N : Nat) : List Say := []
noncomputable def impl_forth.call (N : Nat) : CallK := callBy (impl_forth.says N)
noncomputable def impl_forth.qt (N : Nat) : FuncId → List PV → Sig → Cl := qtBy (impl_forth.says N)
noncomputable def impl_forth (N : Nat) : Option (((List Int) × Unit) × Unit) :=
  ofFn Tryz.prog impl_forth.call impl_forth.qt impl_forth.H N Tryz.f126 [] [] [.arr .u8] [] [⟨[], [], [], []⟩] () ()
noncomputable def impl_forth.S (N : Nat) : Say := ⟨false, 126, [], [], [.arr .u8], [], fun a s => impl_forth N⟩
set_option maxRecDepth 100000 in
theorem impl_forth.eq (N : Nat) : impl_forth N =
 chk ((decide ((List.replicate 4 (0 : Int)).length = 4)) && true) (
 some (((([2, 3, 1, 1].drop 0).take 4), ()), ())) := by kernel_rfl
set_option maxRecDepth 100000 in
theorem impl_forth.say (N : Nat) : SayOk Tryz.prog (impl_forth.S N) := sayOk_mk (N := N) (H := impl_forth.H) (preps := [⟨[], [], [], []⟩]) (l := impl_forth.says) (fn := Tryz.f126) (c := bodyOf Tryz.f126)
  (by kernel_rfl) (by kernel_rfl) (by kernel_rfl) (by kernel_rfl) (by kernel_rfl) (by kernel_rfl) (by kernel_rfl)
  (fun N => SayAll.nil) (fun a s => by kernel_rfl)

/-! ### loop.example/g00206/impl.mixed: function 125 -/
noncomputable def impl_mixed.H : Hints := hintsOf [(2000006, .loop ⟨.normal, [5, 9, 12], [0, 3, 4, 13], [.one (.ref 0), .one (.apl 1 0 4), .one (.apl 2 0 4), ak_i], [.rows (.int .u8) true, .rows (.int .u8), .rows (.int .u8)], [⟨[], [], [], []⟩]⟩ [⟨(.exit 2), [9], [0, 3, 4], [.one (.ref 0), .one (.apl 1 0 4), .one (.apl 2 0 4)], [.rows (.int .u8) true, .rows (.int .u8), .rows (.int .u8)], [⟨[], [], [], []⟩]⟩]),
  (2000003, .loop ⟨.normal, [], [0, 3, 4, 9], [.one (.ref 0), .one (.apl 1 0 4), .one (.apl 2 0 4), ak_i], [.rows (.int .u8) true, .rows (.int .u8), .rows (.int .u8)], [⟨[], [], [], []⟩]⟩ [⟨(.exit 0), [], [0, 4], [.one (.ref 0), .one (.apl 2 0 4)], [.rows (.int .u8) true, .rows (.int .u8), .rows (.int .u8)], [⟨[], [], [], []⟩]⟩])]
noncomputable def impl_mixed.says (N : Nat) : List Say := [impl_mulGf.S N]
noncomputable def impl_mixed.call (N : Nat) : CallK := callBy (impl_mixed.says N)
noncomputable def impl_mixed.qt (N : Nat) : FuncId → List PV → Sig → Cl := qtBy (impl_mixed.says N)
noncomputable def impl_mixed.l0.hd : Alt := ⟨.normal, [], [0, 3, 4, 9], [.one (.ref 0), .one (.apl 1 0 4), .one (.apl 2 0 4), ak_i], [.rows (.int .u8) true, .rows (.int .u8), .rows (.int .u8)], [⟨[], [], [], []⟩]⟩
noncomputable def impl_mixed.l0.outs : List Alt := [⟨(.exit 0), [], [0, 4], [.one (.ref 0), .one (.apl 2 0 4)], [.rows (.int .u8) true, .rows (.int .u8), .rows (.int .u8)], [⟨[], [], [], []⟩]⟩]
noncomputable def impl_mixed.l0 (N : Nat) (s1 : (Nat × Nat)) (t9 : Int) (p01 : (List Int)) (p1 : (List Int)) (p2 : (List Int)) : Option (((Nat × Nat) × (Unit × Unit)) × ((List Int) × ((List Int) × ((List Int) × Unit)))) :=
  loopK Tryz.prog impl_mixed.call impl_mixed.qt impl_mixed.H (codeAt (bodyOf Tryz.f125) [1, 1, 0, 1, 0, 0]) 3 impl_mixed.l0.hd impl_mixed.l0.outs [] N ((s1, ((), ((), (t9, ())))), (p01, (p1, (p2, ()))))
noncomputable def impl_mixed.l1.hd : Alt := ⟨.normal, [5, 9, 12], [0, 3, 4, 13], [.one (.ref 0), .one (.apl 1 0 4), .one (.apl 2 0 4), ak_i], [.rows (.int .u8) true, .rows (.int .u8), .rows (.int .u8)], [⟨[], [], [], []⟩]⟩
noncomputable def impl_mixed.l1.outs : List Alt := [⟨(.exit 2), [9], [0, 3, 4], [.one (.ref 0), .one (.apl 1 0 4), .one (.apl 2 0 4)], [.rows (.int .u8) true, .rows (.int .u8), .rows (.int .u8)], [⟨[], [], [], []⟩]⟩]
noncomputable def impl_mixed.l1 (N : Nat) (i : Int) (t91 : Int) (t12 : (List Int)) (s2 : (Nat × Nat)) (t13 : Int) (p02 : (List Int)) (p11 : (List Int)) (p21 : (List Int)) : Option (((Nat × Nat) × (Unit × (Unit × Unit))) × ((List Int) × ((List Int) × ((List Int) × Unit)))) :=
  loopK Tryz.prog impl_mixed.call impl_mixed.qt impl_mixed.H (codeAt (bodyOf Tryz.f125) [1, 1, 0, 1, 0, 0, 1, 1, 0, 0, 1, 1, 0, 0]) 3 impl_mixed.l1.hd impl_mixed.l1.outs [(5, .v (.int .i64 i)), (9, .v (.int .i64 t91)), (12, .arr .u8 t12)] N ((s2, ((), ((), (t13, ())))), (p02, (p11, (p21, ()))))
noncomputable def impl_mixed (N : Nat) (s : (Nat × Nat)) (byv : (List Int)) (p0 : (List Int)) : Option (Unit × ((List Int) × Unit)) :=
  ofFn Tryz.prog impl_mixed.call impl_mixed.qt impl_mixed.H N Tryz.f125 [.one (.ref 0), .arr .u8] [.rows (.int .u8)] [] [.rows (.int .u8) true] [⟨[], [], [], []⟩] (s, (byv, ())) (p0, ())
noncomputable def impl_mixed.S (N : Nat) : Say := ⟨false, 125, [.one (.ref 0), .arr .u8], [.rows (.int .u8)], [], [.rows (.int .u8) true], fun a s => impl_mixed N a.1 a.2.1 s.1⟩
set_option maxRecDepth 100000 in
theorem impl_mixed.l1.eq (N : Nat) (i : Int) (t91 : Int) (t12 : (List Int)) (s2 : (Nat × Nat)) (t13 : Int) (p02 : (List Int)) (p11 : (List Int)) (p21 : (List Int)) : impl_mixed.l1 (N + 1) i t91 t12 s2 t13 p02 p11 p21 =
 sel (decide (t13 < 4))
  (
  chk ((decide (0 ≤ t13)) && ((decide (t13 < 4)) && (decide (t13 < (t12.length : Int))))) (
  chk ((decide (0 ≤ i)) && (decide (i < 4))) (
  chk ((decide (0 ≤ (Int.tmod (IntKind.i64.wrap (i + t13)) 4))) && (decide ((Int.tmod (IntKind.i64.wrap (i + t13)) 4) < (s2.2 : Int)))) (
  andK (impl_mulGf N (t12.getD (Int.toNat t13) 0) (p02.getD (s2.1 + (Int.toNat (Int.tmod (IntKind.i64.wrap (i + t13)) 4))) 0)) fun u1 =>
  chk ((decide (0 ≤ i)) && (decide (i < 4))) (
  impl_mixed.l1 N i t91 t12 (s2.1, s2.2) (IntKind.i64.wrap (t13 + 1)) p02 p11 (p21.set (0 + (Int.toNat i)) (Go.bits .xor .u8 (p21.getD (0 + (Int.toNat i)) 0) u1.1.1)))))))
  (
  some ((((s2.1, s2.2), ((), ((), ()))), (p02, (p11, (p21, ())))))) := by kernel_rfl
set_option maxRecDepth 100000 in
theorem impl_mixed.l0.eq (N : Nat) (s1 : (Nat × Nat)) (t9 : Int) (p01 : (List Int)) (p1 : (List Int)) (p2 : (List Int)) : impl_mixed.l0 (N + 1) s1 t9 p01 p1 p2 =
 sel (decide (t9 < 4))
  (
  andK (impl_mixed.l1 N t9 t9 ((p1.drop 0).take 4) (s1.1, s1.2) 0 p01 p1 p2) fun l2 =>
  impl_mixed.l0 N (l2.1.1.1, l2.1.1.2) (IntKind.i64.wrap (t9 + 1)) l2.2.1 l2.2.2.1 l2.2.2.2.1)
  (
  some ((((s1.1, s1.2), ((), ())), (p01, (p1, (p2, ())))))) := by kernel_rfl
set_option maxRecDepth 100000 in
theorem impl_mixed.eq (N : Nat) (s : (Nat × Nat)) (byv : (List Int)) (p0 : (List Int)) : impl_mixed N s byv p0 =
 chk (decide (byv.length = 4)) (
 chk ((decide ((List.replicate 4 (0 : Int)).length = 4)) && true) (
 andK (impl_mixed.l0 N (s.1, s.2) 0 p0 byv [0, 0, 0, 0]) fun l3 =>
 some ((), (((l3.2.1.take l3.1.1.1) ++ ((((l3.2.2.2.1.drop 0).take 4).take (min ((l3.2.2.2.1.drop 0).take 4).length l3.1.1.2)) ++ (l3.2.1.drop (l3.1.1.1 + (min ((l3.2.2.2.1.drop 0).take 4).length l3.1.1.2))))), ())))) := by kernel_rfl
set_option maxRecDepth 100000 in
theorem impl_mixed.say (N : Nat) : SayOk Tryz.prog (impl_mixed.S N) := sayOk_mk (N := N) (H := impl_mixed.H) (preps := [⟨[], [], [], []⟩]) (l := impl_mixed.says) (fn := Tryz.f125) (c := bodyOf Tryz.f125)
  (by kernel_rfl) (by kernel_rfl) (by kernel_rfl) (by kernel_rfl) (by kernel_rfl) (by kernel_rfl) (by kernel_rfl)
  (fun N => SayAll.cons (impl_mulGf.say N) (SayAll.nil)) (fun a s => by kernel_rfl)

/-! ### (*loop.example/g00206/impl.cipher).encrypt: function 104 -/
noncomputable def impl_cipher_encrypt.H : Hints := hintsOf [(2000007, .loop ⟨.normal, [6, 20], [0, 5, 19, 21], [.one (.ptr 0 0), .one (.own 3), .one (.own 3), ak_i], [.cells [.apl 1 0 512, .own 2], .rows (.int .u8) true, .rows (.int .u8) true, .rows (.int .u8)], [⟨[], [], [], []⟩]⟩ [⟨(.exit 2), [6], [0, 5], [.one (.ptr 0 0), .one (.own 3)], [.cells [.apl 1 0 512, .own 2], .rows (.int .u8) true, .rows (.int .u8) true, .rows (.int .u8)], [⟨[], [], [], []⟩]⟩]),
  (5000013, .join [⟨.normal, [6, 9], [0, 5, 46], [.one (.ptr 0 0), .one (.own 3), ak_b], [.cells [.apl 1 0 512, .own 2], .rows (.int .u8) true, .rows (.int .u8) true, .rows (.int .u8)], [⟨[], [], [], []⟩]⟩]),
  (2000013, .loop ⟨.normal, [6], [0, 5, 9], [.one (.ptr 0 0), .one (.own 3), ak_i], [.cells [.apl 1 0 512, .own 2], .rows (.int .u8) true, .rows (.int .u8) true, .rows (.int .u8)], [⟨[], [], [], []⟩]⟩ [⟨(.exit 4), [6], [0, 5], [.one (.ptr 0 0), .one (.own 3)], [.cells [.apl 1 0 512, .own 2], .rows (.int .u8) true, .rows (.int .u8) true, .rows (.int .u8)], [⟨[], [], [], []⟩]⟩]),
  (2000004, .loop ⟨.normal, [], [0, 5, 6], [.one (.ptr 0 0), .one (.own 3), ak_i], [.cells [.apl 1 0 512, .own 2], .rows (.int .u8) true, .rows (.int .u8) true, .rows (.int .u8)], [⟨[], [], [], []⟩]⟩ [⟨(.exit 0), [], [5], [.one (.own 3)], [.cells [.apl 1 0 512, .own 2], .rows (.int .u8) true, .rows (.int .u8) true, .rows (.int .u8)], [⟨[], [], [], []⟩]⟩])]
noncomputable def impl_cipher_encrypt.says (N : Nat) : List Say := [impl_cipher_addKey.S N, impl_shift.S N, impl_forth.S N, impl_mixed.S N]
noncomputable def impl_cipher_encrypt.call (N : Nat) : CallK := callBy (impl_cipher_encrypt.says N)
noncomputable def impl_cipher_encrypt.qt (N : Nat) : FuncId → List PV → Sig → Cl := qtBy (impl_cipher_encrypt.says N)
noncomputable def impl_cipher_encrypt.l0.hd : Alt := ⟨.normal, [], [0, 5, 6], [.one (.ptr 0 0), .one (.own 3), ak_i], [.cells [.apl 1 0 512, .own 2], .rows (.int .u8) true, .rows (.int .u8) true, .rows (.int .u8)], [⟨[], [], [], []⟩]⟩
noncomputable def impl_cipher_encrypt.l0.outs : List Alt := [⟨(.exit 0), [], [5], [.one (.own 3)], [.cells [.apl 1 0 512, .own 2], .rows (.int .u8) true, .rows (.int .u8) true, .rows (.int .u8)], [⟨[], [], [], []⟩]⟩]
noncomputable def impl_cipher_encrypt.l0 (N : Nat) (round : Int) (p11 : (List Int)) (p21 : (List Int)) (p3 : (List Int)) : Option ((Unit × Unit) × ((Unit × (Unit × Unit)) × ((List Int) × ((List Int) × ((List Int) × Unit))))) :=
  loopK Tryz.prog impl_cipher_encrypt.call impl_cipher_encrypt.qt impl_cipher_encrypt.H (codeAt (bodyOf Tryz.f104) [1, 1, 1, 0, 1, 0, 0]) 4 impl_cipher_encrypt.l0.hd impl_cipher_encrypt.l0.outs [] N (((), ((), (round, ()))), (((), ((), ())), (p11, (p21, (p3, ())))))
noncomputable def impl_cipher_encrypt.l1.hd : Alt := ⟨.normal, [6, 20], [0, 5, 19, 21], [.one (.ptr 0 0), .one (.own 3), .one (.own 3), ak_i], [.cells [.apl 1 0 512, .own 2], .rows (.int .u8) true, .rows (.int .u8) true, .rows (.int .u8)], [⟨[], [], [], []⟩]⟩
noncomputable def impl_cipher_encrypt.l1.outs : List Alt := [⟨(.exit 2), [6], [0, 5], [.one (.ptr 0 0), .one (.own 3)], [.cells [.apl 1 0 512, .own 2], .rows (.int .u8) true, .rows (.int .u8) true, .rows (.int .u8)], [⟨[], [], [], []⟩]⟩]
noncomputable def impl_cipher_encrypt.l1 (N : Nat) (round1 : Int) (t20 : Int) (t21 : Int) (p12 : (List Int)) (p22 : (List Int)) (p31 : (List Int)) : Option ((Unit × (Unit × Unit)) × ((Unit × (Unit × Unit)) × ((List Int) × ((List Int) × ((List Int) × Unit))))) :=
  loopK Tryz.prog impl_cipher_encrypt.call impl_cipher_encrypt.qt impl_cipher_encrypt.H (codeAt (bodyOf Tryz.f104) [1, 1, 1, 0, 1, 0, 0, 1, 0, 0, 0, 1, 0, 0]) 4 impl_cipher_encrypt.l1.hd impl_cipher_encrypt.l1.outs [(6, .v (.int .i64 round1)), (20, .v (.int .i64 t20))] N (((), ((), ((), (t21, ())))), (((), ((), ())), (p12, (p22, (p31, ())))))
noncomputable def impl_cipher_encrypt.l2.hd : Alt := ⟨.normal, [6], [0, 5, 9], [.one (.ptr 0 0), .one (.own 3), ak_i], [.cells [.apl 1 0 512, .own 2], .rows (.int .u8) true, .rows (.int .u8) true, .rows (.int .u8)], [⟨[], [], [], []⟩]⟩
noncomputable def impl_cipher_encrypt.l2.outs : List Alt := [⟨(.exit 4), [6], [0, 5], [.one (.ptr 0 0), .one (.own 3)], [.cells [.apl 1 0 512, .own 2], .rows (.int .u8) true, .rows (.int .u8) true, .rows (.int .u8)], [⟨[], [], [], []⟩]⟩]
noncomputable def impl_cipher_encrypt.l2 (N : Nat) (round2 : Int) (i : Int) (p13 : (List Int)) (p23 : (List Int)) (p32 : (List Int)) : Option ((Unit × (Unit × Unit)) × ((Unit × (Unit × Unit)) × ((List Int) × ((List Int) × ((List Int) × Unit))))) :=
  loopK Tryz.prog impl_cipher_encrypt.call impl_cipher_encrypt.qt impl_cipher_encrypt.H (codeAt (bodyOf Tryz.f104) [1, 1, 1, 0, 1, 0, 0, 1, 0, 0, 1, 1, 0, 1, 0, 0]) 4 impl_cipher_encrypt.l2.hd impl_cipher_encrypt.l2.outs [(6, .v (.int .i64 round2))] N (((), ((), (i, ()))), (((), ((), ())), (p13, (p23, (p32, ())))))
noncomputable def impl_cipher_encrypt (N : Nat) (block : ByteArray) (p1 : (List Int)) (p2 : (List Int)) : Option ((ByteArray × Unit) × ((Unit × (Unit × Unit)) × ((List Int) × ((List Int) × Unit)))) :=
  ofFn Tryz.prog impl_cipher_encrypt.call impl_cipher_encrypt.qt impl_cipher_encrypt.H N Tryz.f104 [.one (.ptr 0 0), ak_s] [.cells [.apl 1 0 512, .own 2], .rows (.int .u8), .rows (.int .u8)] [ak_s] [.cells [.apl 1 0 512, .own 2], .rows (.int .u8) true, .rows (.int .u8) true] [⟨[], [], [], []⟩] ((), (block, ())) (((), ((), ())), (p1, (p2, ())))
noncomputable def impl_cipher_encrypt.S (N : Nat) : Say := ⟨false, 104, [.one (.ptr 0 0), ak_s], [.cells [.apl 1 0 512, .own 2], .rows (.int .u8), .rows (.int .u8)], [ak_s], [.cells [.apl 1 0 512, .own 2], .rows (.int .u8) true, .rows (.int .u8) true], fun a s => impl_cipher_encrypt N a.2.1 s.2.1 s.2.2.1⟩
set_option maxRecDepth 100000 in
theorem impl_cipher_encrypt.l2.eq (N : Nat) (round2 : Int) (i : Int) (p13 : (List Int)) (p23 : (List Int)) (p32 : (List Int)) : impl_cipher_encrypt.l2 (N + 1) round2 i p13 p23 p32 =
 andK (α := ((Unit × (Unit × (Bool × Unit))) × ((Unit × (Unit × Unit)) × ((List Int) × ((List Int) × ((List Int) × Unit)))))) (
  sel (decide (i < 16))
   (
   some ((((), ((), ((decide (round2 < 10)), ()))), (((), ((), ())), (p13, (p23, (p32, ())))))))
   (
   some ((((), ((), (false, ()))), (((), ((), ())), (p13, (p23, (p32, ())))))))) fun j4 =>
 sel j4.1.2.2.1
  (
  chk ((decide (0 ≤ i)) && ((decide (i ≤ (IntKind.i64.wrap (i + 4)))) && (decide ((IntKind.i64.wrap (i + 4)) ≤ (j4.2.2.2.2.1.length : Int))))) (
  andK (impl_forth N) fun u5 =>
  andK (impl_mixed N ((Int.toNat i), ((Int.toNat (IntKind.i64.wrap (i + 4))) - (Int.toNat i))) u5.1.1 j4.2.2.2.2.1) fun u6 =>
  impl_cipher_encrypt.l2 N round2 (IntKind.i64.wrap (i + 4)) j4.2.2.1 j4.2.2.2.1 u6.2.1))
  (
  some ((((), ((), ())), (((), ((), ())), (j4.2.2.1, (j4.2.2.2.1, (j4.2.2.2.2.1, ()))))))) := by kernel_rfl
set_option maxRecDepth 100000 in
theorem impl_cipher_encrypt.l1.eq (N : Nat) (round1 : Int) (t20 : Int) (t21 : Int) (p12 : (List Int)) (p22 : (List Int)) (p31 : (List Int)) : impl_cipher_encrypt.l1 (N + 1) round1 t20 t21 p12 p22 p31 =
 sel (decide (t21 < t20))
  (
  chk ((decide (0 ≤ t21)) && (decide (t21 < (p31.length : Int)))) (
  chk ((decide (0 ≤ (p31.getD (Int.toNat t21) 0))) && (decide ((p31.getD (Int.toNat t21) 0) < 256))) (
  chk ((decide (0 ≤ t21)) && (decide (t21 < (p31.length : Int)))) (
  impl_cipher_encrypt.l1 N round1 t20 (IntKind.i64.wrap (t21 + 1)) p12 p22 (p31.set (Int.toNat t21) (p12.getD (0 + (Int.toNat (p31.getD (Int.toNat t21) 0))) 0))))))
  (
  some ((((), ((), ())), (((), ((), ())), (p12, (p22, (p31, ()))))))) := by kernel_rfl
set_option maxRecDepth 100000 in
theorem impl_cipher_encrypt.l0.eq (N : Nat) (round : Int) (p11 : (List Int)) (p21 : (List Int)) (p3 : (List Int)) : impl_cipher_encrypt.l0 (N + 1) round p11 p21 p3 =
 sel (decide (round ≤ 10))
  (
  andK (impl_cipher_encrypt.l1 N round (p3.length : Int) 0 p11 p21 p3) fun l2 =>
  andK (impl_shift N 1 l2.2.2.2.2.1) fun u3 =>
  andK (impl_cipher_encrypt.l2 N round 0 l2.2.2.1 l2.2.2.2.1 u3.2.1) fun l7 =>
  andK (impl_cipher_addKey N round l7.2.2.2.2.1 l7.2.2.1 l7.2.2.2.1) fun u8 =>
  impl_cipher_encrypt.l0 N (IntKind.i64.wrap (round + 1)) u8.2.2.2.1 u8.2.2.2.2.1 u8.2.2.1)
  (
  some ((((), ()), (((), ((), ())), (p11, (p21, (p3, ()))))))) := by kernel_rfl
set_option maxRecDepth 100000 in
theorem impl_cipher_encrypt.eq (N : Nat) (block : ByteArray) (p1 : (List Int)) (p2 : (List Int)) : impl_cipher_encrypt N block p1 p2 =
 andK (impl_cipher_addKey N 0 (bytesL block) p1 p2) fun u1 =>
 andK (impl_cipher_encrypt.l0 N 1 u1.2.2.2.1 u1.2.2.2.2.1 u1.2.2.1) fun l9 =>
 some (((strL l9.2.2.2.2.1), ()), (((), ((), ())), (l9.2.2.1, (l9.2.2.2.1, ())))) := by kernel_rfl
set_option maxRecDepth 100000 in
theorem impl_cipher_encrypt.say (N : Nat) : SayOk Tryz.prog (impl_cipher_encrypt.S N) := sayOk_mk (N := N) (H := impl_cipher_encrypt.H) (preps := [⟨[], [], [], []⟩]) (l := impl_cipher_encrypt.says) (fn := Tryz.f104) (c := bodyOf Tryz.f104)
  (by kernel_rfl) (by kernel_rfl) (by kernel_rfl) (by kernel_rfl) (by kernel_rfl) (by kernel_rfl) (by kernel_rfl)
  (fun N => SayAll.cons (impl_cipher_addKey.say N) (SayAll.cons (impl_shift.say N) (SayAll.cons (impl_forth.say N) (SayAll.cons (impl_mixed.say N) (SayAll.nil))))) (fun a s => by kernel_rfl)

/-! ### (*loop.example/g00206/impl.cipher).counter: function 102 -/
noncomputable def impl_cipher_counter.H : Hints := hintsOf [(2000007, .loop ⟨.normal, [8, 9, 10, 11], [0, 7, 12], [.one (.ptr 0 0), .one (.own 3), ak_i], [.cells [.apl 1 0 512, .own 2], .rows (.int .u8) true, .rows (.int .u8) true, .rows (.int .u8)], [⟨[], [], [], []⟩]⟩ [⟨(.exit 2), [8, 9, 10], [0, 7], [.one (.ptr 0 0), .one (.own 3)], [.cells [.apl 1 0 512, .own 2], .rows (.int .u8) true, .rows (.int .u8) true, .rows (.int .u8)], [⟨[], [], [], []⟩]⟩]),
  (2000003, .loop ⟨.normal, [8], [0, 7, 9, 10], [.one (.ptr 0 0), .one (.own 3), .one (.sh (.int .u32)), ak_i], [.cells [.apl 1 0 512, .own 2], .rows (.int .u8) true, .rows (.int .u8) true, .rows (.int .u8)], [⟨[], [], [], []⟩]⟩ [⟨(.exit 0), [], [7], [.one (.own 3)], [.cells [.apl 1 0 512, .own 2], .rows (.int .u8) true, .rows (.int .u8) true, .rows (.int .u8)], [⟨[], [], [], []⟩]⟩])]
noncomputable def impl_cipher_counter.says (N : Nat) : List Say := [impl_numberOf.S N, impl_bigEndian.S N, impl_cipher_encrypt.S N]
noncomputable def impl_cipher_counter.call (N : Nat) : CallK := callBy (impl_cipher_counter.says N)
noncomputable def impl_cipher_counter.qt (N : Nat) : FuncId → List PV → Sig → Cl := qtBy (impl_cipher_counter.says N)
noncomputable def impl_cipher_counter.l0.hd : Alt := ⟨.normal, [8], [0, 7, 9, 10], [.one (.ptr 0 0), .one (.own 3), .one (.sh (.int .u32)), ak_i], [.cells [.apl 1 0 512, .own 2], .rows (.int .u8) true, .rows (.int .u8) true, .rows (.int .u8)], [⟨[], [], [], []⟩]⟩
noncomputable def impl_cipher_counter.l0.outs : List Alt := [⟨(.exit 0), [], [7], [.one (.own 3)], [.cells [.apl 1 0 512, .own 2], .rows (.int .u8) true, .rows (.int .u8) true, .rows (.int .u8)], [⟨[], [], [], []⟩]⟩]
noncomputable def impl_cipher_counter.l0 (N : Nat) (head : ByteArray) (n : Int) (i : Int) (p11 : (List Int)) (p21 : (List Int)) (p3 : (List Int)) : Option ((Unit × Unit) × ((Unit × (Unit × Unit)) × ((List Int) × ((List Int) × ((List Int) × Unit))))) :=
  loopK Tryz.prog impl_cipher_counter.call impl_cipher_counter.qt impl_cipher_counter.H (codeAt (bodyOf Tryz.f102) [1, 1, 0, 1, 0, 0]) 4 impl_cipher_counter.l0.hd impl_cipher_counter.l0.outs [(8, .v (.string head))] N (((), ((), (n, (i, ())))), (((), ((), ())), (p11, (p21, (p3, ())))))
noncomputable def impl_cipher_counter.l1.hd : Alt := ⟨.normal, [8, 9, 10, 11], [0, 7, 12], [.one (.ptr 0 0), .one (.own 3), ak_i], [.cells [.apl 1 0 512, .own 2], .rows (.int .u8) true, .rows (.int .u8) true, .rows (.int .u8)], [⟨[], [], [], []⟩]⟩
noncomputable def impl_cipher_counter.l1.outs : List Alt := [⟨(.exit 2), [8, 9, 10], [0, 7], [.one (.ptr 0 0), .one (.own 3)], [.cells [.apl 1 0 512, .own 2], .rows (.int .u8) true, .rows (.int .u8) true, .rows (.int .u8)], [⟨[], [], [], []⟩]⟩]
noncomputable def impl_cipher_counter.l1 (N : Nat) (head1 : ByteArray) (n1 : Int) (i1 : Int) (block : ByteArray) (k : Int) (p12 : (List Int)) (p22 : (List Int)) (p31 : (List Int)) : Option ((Unit × (Unit × Unit)) × ((Unit × (Unit × Unit)) × ((List Int) × ((List Int) × ((List Int) × Unit))))) :=
  loopK Tryz.prog impl_cipher_counter.call impl_cipher_counter.qt impl_cipher_counter.H (codeAt (bodyOf Tryz.f102) [1, 1, 0, 1, 0, 0, 1, 0, 0, 1, 0, 1, 0, 0]) 4 impl_cipher_counter.l1.hd impl_cipher_counter.l1.outs [(8, .v (.string head1)), (9, .v (.int .u32 n1)), (10, .v (.int .i64 i1)), (11, .v (.string block))] N (((), ((), (k, ()))), (((), ((), ())), (p12, (p22, (p31, ())))))
noncomputable def impl_cipher_counter (N : Nat) (start : ByteArray) (text : ByteArray) (p1 : (List Int)) (p2 : (List Int)) : Option ((ByteArray × Unit) × ((Unit × (Unit × Unit)) × ((List Int) × ((List Int) × Unit)))) :=
  ofFn Tryz.prog impl_cipher_counter.call impl_cipher_counter.qt impl_cipher_counter.H N Tryz.f102 [.one (.ptr 0 0), ak_s, ak_s] [.cells [.apl 1 0 512, .own 2], .rows (.int .u8), .rows (.int .u8)] [ak_s] [.cells [.apl 1 0 512, .own 2], .rows (.int .u8) true, .rows (.int .u8) true] [⟨[], [], [], []⟩] ((), (start, (text, ()))) (((), ((), ())), (p1, (p2, ())))
noncomputable def impl_cipher_counter.S (N : Nat) : Say := ⟨false, 102, [.one (.ptr 0 0), ak_s, ak_s], [.cells [.apl 1 0 512, .own 2], .rows (.int .u8), .rows (.int .u8)], [ak_s], [.cells [.apl 1 0 512, .own 2], .rows (.int .u8) true, .rows (.int .u8) true], fun a s => impl_cipher_counter N a.2.1 a.2.2.1 s.2.1 s.2.2.1⟩
set_option maxRecDepth 100000 in
theorem impl_cipher_counter.l1.eq (N : Nat) (head1 : ByteArray) (n1 : Int) (i1 : Int) (block : ByteArray) (k : Int) (p12 : (List Int)) (p22 : (List Int)) (p31 : (List Int)) : impl_cipher_counter.l1 (N + 1) head1 n1 i1 block k p12 p22 p31 =
 sel (decide (k < (mmI false (IntKind.i64.wrap (i1 + 16)) (p31.length : Int))))
  (
  chk ((decide (0 ≤ k)) && (decide (k < (p31.length : Int)))) (
  chk ((decide (0 ≤ (IntKind.i64.wrap (k - i1)))) && (decide ((IntKind.i64.wrap (k - i1)) < (block.size : Int)))) (
  chk ((decide (0 ≤ k)) && (decide (k < (p31.length : Int)))) (
  impl_cipher_counter.l1 N head1 n1 i1 block (IntKind.i64.wrap (k + 1)) p12 p22 (p31.set (Int.toNat k) (Go.bits .xor .u8 (p31.getD (Int.toNat k) 0) ((bytesL block).getD (Int.toNat (IntKind.i64.wrap (k - i1))) 0)))))))
  (
  some ((((), ((), ())), (((), ((), ())), (p12, (p22, (p31, ()))))))) := by kernel_rfl
set_option maxRecDepth 100000 in
theorem impl_cipher_counter.l0.eq (N : Nat) (head : ByteArray) (n : Int) (i : Int) (p11 : (List Int)) (p21 : (List Int)) (p3 : (List Int)) : impl_cipher_counter.l0 (N + 1) head n i p11 p21 p3 =
 sel (decide (i < (p3.length : Int)))
  (
  andK (impl_bigEndian N (IntKind.u64.wrap n) 4) fun u2 =>
  chk (decide (head.size + u2.1.1.size ≤ 9223372036854775807)) (
  andK (impl_cipher_encrypt N (head ++ u2.1.1) p11 p21) fun u3 =>
  andK (impl_cipher_counter.l1 N head n i u3.1.1 i u3.2.2.1 u3.2.2.2.1 p3) fun l4 =>
  impl_cipher_counter.l0 N head (IntKind.u32.wrap (n + 1)) (IntKind.i64.wrap (i + 16)) l4.2.2.1 l4.2.2.2.1 l4.2.2.2.2.1))
  (
  some ((((), ()), (((), ((), ())), (p11, (p21, (p3, ()))))))) := by kernel_rfl
set_option maxRecDepth 100000 in
theorem impl_cipher_counter.eq (N : Nat) (start : ByteArray) (text : ByteArray) (p1 : (List Int)) (p2 : (List Int)) : impl_cipher_counter N start text p1 p2 =
 chk (decide (12 ≤ (start.size : Int))) (
 chk ((decide (12 ≤ (start.size : Int))) && (decide ((start.size : Int) ≤ (start.size : Int)))) (
 andK (impl_numberOf N (start.extract 12 (Int.toNat (start.size : Int)))) fun u1 =>
 andK (impl_cipher_counter.l0 N (start.extract 0 12) (IntKind.u32.wrap u1.1.1) 0 p1 p2 (bytesL text)) fun l5 =>
 some (((strL l5.2.2.2.2.1), ()), (((), ((), ())), (l5.2.2.1, (l5.2.2.2.1, ())))))) := by kernel_rfl
set_option maxRecDepth 100000 in
theorem impl_cipher_counter.say (N : Nat) : SayOk Tryz.prog (impl_cipher_counter.S N) := sayOk_mk (N := N) (H := impl_cipher_counter.H) (preps := [⟨[], [], [], []⟩]) (l := impl_cipher_counter.says) (fn := Tryz.f102) (c := bodyOf Tryz.f102)
  (by kernel_rfl) (by kernel_rfl) (by kernel_rfl) (by kernel_rfl) (by kernel_rfl) (by kernel_rfl) (by kernel_rfl)
  (fun N => SayAll.cons (impl_numberOf.say N) (SayAll.cons (impl_bigEndian.say N) (SayAll.cons (impl_cipher_encrypt.say N) (SayAll.nil)))) (fun a s => by kernel_rfl)

/-! ### (*loop.example/g00206/impl.cipher).turned: function 79 -/
noncomputable def impl_cipher_turned.H : Hints := hintsOf []
noncomputable def impl_cipher_turned.says (N : Nat) : List Say := [impl_bigEndian.S N, impl_cipher_counter.S N]
noncomputable def impl_cipher_turned.call (N : Nat) : CallK := callBy (impl_cipher_turned.says N)
noncomputable def impl_cipher_turned.qt (N : Nat) : FuncId → List PV → Sig → Cl := qtBy (impl_cipher_turned.says N)
noncomputable def impl_cipher_turned (N : Nat) (nonce : ByteArray) (text : ByteArray) (p1 : (List Int)) (p2 : (List Int)) : Option ((ByteArray × Unit) × ((Unit × (Unit × Unit)) × ((List Int) × ((List Int) × Unit)))) :=
  ofFn Tryz.prog impl_cipher_turned.call impl_cipher_turned.qt impl_cipher_turned.H N Tryz.f79 [.one (.ptr 0 0), ak_s, ak_s] [.cells [.apl 1 0 512, .own 2], .rows (.int .u8), .rows (.int .u8)] [ak_s] [.cells [.apl 1 0 512, .own 2], .rows (.int .u8) true, .rows (.int .u8) true] [⟨[], [], [], []⟩] ((), (nonce, (text, ()))) (((), ((), ())), (p1, (p2, ())))
noncomputable def impl_cipher_turned.S (N : Nat) : Say := ⟨false, 79, [.one (.ptr 0 0), ak_s, ak_s], [.cells [.apl 1 0 512, .own 2], .rows (.int .u8), .rows (.int .u8)], [ak_s], [.cells [.apl 1 0 512, .own 2], .rows (.int .u8) true, .rows (.int .u8) true], fun a s => impl_cipher_turned N a.2.1 a.2.2.1 s.2.1 s.2.2.1⟩
set_option maxRecDepth 100000 in
theorem impl_cipher_turned.eq (N : Nat) (nonce : ByteArray) (text : ByteArray) (p1 : (List Int)) (p2 : (List Int)) : impl_cipher_turned N nonce text p1 p2 =
 andK (impl_bigEndian N 2 4) fun u1 =>
 chk (decide (nonce.size + u1.1.1.size ≤ 9223372036854775807)) (
 andK (impl_cipher_counter N (nonce ++ u1.1.1) text p1 p2) fun u2 =>
 some ((u2.1.1, ()), (((), ((), ())), (u2.2.2.1, (u2.2.2.2.1, ()))))) := by kernel_rfl
set_option maxRecDepth 100000 in
theorem impl_cipher_turned.say (N : Nat) : SayOk Tryz.prog (impl_cipher_turned.S N) := sayOk_mk (N := N) (H := impl_cipher_turned.H) (preps := [⟨[], [], [], []⟩]) (l := impl_cipher_turned.says) (fn := Tryz.f79) (c := bodyOf Tryz.f79)
  (by kernel_rfl) (by kernel_rfl) (by kernel_rfl) (by kernel_rfl) (by kernel_rfl) (by kernel_rfl) (by kernel_rfl)
  (fun N => SayAll.cons (impl_bigEndian.say N) (SayAll.cons (impl_cipher_counter.say N) (SayAll.nil))) (fun a s => by kernel_rfl)

/-! ### loop.example/g00206/impl.polyOf: function 103 -/
noncomputable def impl_polyOf.H : Hints := hintsOf []
noncomputable def impl_polyOf.says (N : Nat) : List Say := [impl_numberOf.S N]
noncomputable def impl_polyOf.call (N : Nat) : CallK := callBy (impl_polyOf.says N)
noncomputable def impl_polyOf.qt (N : Nat) : FuncId → List PV → Sig → Cl := qtBy (impl_polyOf.says N)
noncomputable def impl_polyOf (N : Nat) (s : ByteArray) : Option (((Int × (Int × Unit)) × Unit) × Unit) :=
  ofFn Tryz.prog impl_polyOf.call impl_polyOf.qt impl_polyOf.H N Tryz.f103 [ak_s] [] [.agg [.sh (.int .u64), .sh (.int .u64)]] [] [⟨[], [], [], []⟩] (s, ()) ()
noncomputable def impl_polyOf.S (N : Nat) : Say := ⟨false, 103, [ak_s], [], [.agg [.sh (.int .u64), .sh (.int .u64)]], [], fun a s => impl_polyOf N a.1⟩
set_option maxRecDepth 100000 in
theorem impl_polyOf.eq (N : Nat) (s : ByteArray) : impl_polyOf N s =
 chk (decide (8 ≤ (s.size : Int))) (
 andK (impl_numberOf N (s.extract 0 8)) fun u1 =>
 chk ((decide (8 ≤ (s.size : Int))) && (decide ((s.size : Int) ≤ (s.size : Int)))) (
 andK (impl_numberOf N (s.extract 8 (Int.toNat (s.size : Int)))) fun u2 =>
 some (((u1.1.1, (u2.1.1, ())), ()), ()))) := by kernel_rfl
set_option maxRecDepth 100000 in
theorem impl_polyOf.say (N : Nat) : SayOk Tryz.prog (impl_polyOf.S N) := sayOk_mk (N := N) (H := impl_polyOf.H) (preps := [⟨[], [], [], []⟩]) (l := impl_polyOf.says) (fn := Tryz.f103) (c := bodyOf Tryz.f103)
  (by kernel_rfl) (by kernel_rfl) (by kernel_rfl) (by kernel_rfl) (by kernel_rfl) (by kernel_rfl) (by kernel_rfl)
  (fun N => SayAll.cons (impl_numberOf.say N) (SayAll.nil)) (fun a s => by kernel_rfl)

/-! ### strings.Repeat: function 129 -/
noncomputable def strings_Repeat (N : Nat) (s : ByteArray) (n : Int) : Option ((ByteArray × Unit) × Unit) := repF s n
noncomputable def strings_Repeat.S (N : Nat) : Say := repS 129
theorem strings_Repeat.eq (N : Nat) (s : ByteArray) (n : Int) : strings_Repeat N s n =
 chk (decide (0 ≤ n)) (
 chk (decide (n ≤ 9223372036854775807)) (
 chk (decide (s.size * (Int.toNat n) ≤ 140737488355328)) (
 some (((repL s (Int.toNat n)), ()), ())))) := repF_eq s n
set_option maxRecDepth 100000 in
theorem strings_Repeat.say (N : Nat) : SayOk Tryz.prog (strings_Repeat.S N) := sayOk_repeat (enters_mk (fn := Tryz.f129) (c := bodyOf Tryz.f129) (by kernel_rfl) (by kernel_rfl) (by kernel_rfl)) Tryz.strings_Repeat

/-! ### loop.example/g00206/impl.filled: function 106 -/
noncomputable def impl_filled.H : Hints := hintsOf []
noncomputable def impl_filled.says (N : Nat) : List Say := [strings_Repeat.S N]
noncomputable def impl_filled.call (N : Nat) : CallK := callBy (impl_filled.says N)
noncomputable def impl_filled.qt (N : Nat) : FuncId → List PV → Sig → Cl := qtBy (impl_filled.says N)
noncomputable def impl_filled (N : Nat) (s : ByteArray) : Option ((ByteArray × Unit) × Unit) :=
  ofFn Tryz.prog impl_filled.call impl_filled.qt impl_filled.H N Tryz.f106 [ak_s] [] [ak_s] [] [⟨[], [], [], []⟩] (s, ()) ()
noncomputable def impl_filled.S (N : Nat) : Say := ⟨false, 106, [ak_s], [], [ak_s], [], fun a s => impl_filled N a.1⟩
set_option maxRecDepth 100000 in
theorem impl_filled.eq (N : Nat) (s : ByteArray) : impl_filled N s =
 andK (strings_Repeat N (⟨#[0]⟩ : ByteArray) (Int.tmod (IntKind.i64.wrap (16 - (Int.tmod (s.size : Int) 16))) 16)) fun u1 =>
 chk (decide (s.size + u1.1.1.size ≤ 9223372036854775807)) (
 some (((s ++ u1.1.1), ()), ())) := by kernel_rfl
set_option maxRecDepth 100000 in
theorem impl_filled.say (N : Nat) : SayOk Tryz.prog (impl_filled.S N) := sayOk_mk (N := N) (H := impl_filled.H) (preps := [⟨[], [], [], []⟩]) (l := impl_filled.says) (fn := Tryz.f106) (c := bodyOf Tryz.f106)
  (by kernel_rfl) (by kernel_rfl) (by kernel_rfl) (by kernel_rfl) (by kernel_rfl) (by kernel_rfl) (by kernel_rfl)
  (fun N => SayAll.cons (strings_Repeat.say N) (SayAll.nil)) (fun a s => by kernel_rfl)

/-! ### (loop.example/g00206/impl.poly).xor: function 127 -/
noncomputable def impl_poly_xor.H : Hints := hintsOf []
noncomputable def impl_poly_xor.says (N : Nat) : List Say := []
noncomputable def impl_poly_xor.call (N : Nat) : CallK := callBy (impl_poly_xor.says N)
noncomputable def impl_poly_xor.qt (N : Nat) : FuncId → List PV → Sig → Cl := qtBy (impl_poly_xor.says N)
noncomputable def impl_poly_xor (N : Nat) (p_0 : Int) (p_1 : Int) (q_0 : Int) (q_1 : Int) : Option (((Int × (Int × Unit)) × Unit) × Unit) :=
  ofFn Tryz.prog impl_poly_xor.call impl_poly_xor.qt impl_poly_xor.H N Tryz.f127 [.agg [.sh (.int .u64), .sh (.int .u64)], .agg [.sh (.int .u64), .sh (.int .u64)]] [] [.agg [.sh (.int .u64), .sh (.int .u64)]] [] [⟨[], [], [], []⟩] ((p_0, (p_1, ())), ((q_0, (q_1, ())), ())) ()
noncomputable def impl_poly_xor.S (N : Nat) : Say := ⟨false, 127, [.agg [.sh (.int .u64), .sh (.int .u64)], .agg [.sh (.int .u64), .sh (.int .u64)]], [], [.agg [.sh (.int .u64), .sh (.int .u64)]], [], fun a s => impl_poly_xor N a.1.1 a.1.2.1 a.2.1.1 a.2.1.2.1⟩
set_option maxRecDepth 100000 in
theorem impl_poly_xor.eq (N : Nat) (p_0 : Int) (p_1 : Int) (q_0 : Int) (q_1 : Int) : impl_poly_xor N p_0 p_1 q_0 q_1 =
 some ((((Go.bits .xor .u64 p_0 q_0), ((Go.bits .xor .u64 p_1 q_1), ())), ()), ()) := by kernel_rfl
set_option maxRecDepth 100000 in
theorem impl_poly_xor.say (N : Nat) : SayOk Tryz.prog (impl_poly_xor.S N) := sayOk_mk (N := N) (H := impl_poly_xor.H) (preps := [⟨[], [], [], []⟩]) (l := impl_poly_xor.says) (fn := Tryz.f127) (c := bodyOf Tryz.f127)
  (by kernel_rfl) (by kernel_rfl) (by kernel_rfl) (by kernel_rfl) (by kernel_rfl) (by kernel_rfl) (by kernel_rfl)
  (fun N => SayAll.nil) (fun a s => by kernel_rfl)

/-! ### (loop.example/g00206/impl.poly).byX: function 138 -/
noncomputable def impl_poly_byX.H : Hints := hintsOf []
noncomputable def impl_poly_byX.says (N : Nat) : List Say := []
noncomputable def impl_poly_byX.call (N : Nat) : CallK := callBy (impl_poly_byX.says N)
noncomputable def impl_poly_byX.qt (N : Nat) : FuncId → List PV → Sig → Cl := qtBy (impl_poly_byX.says N)
noncomputable def impl_poly_byX (N : Nat) (p_0 : Int) (p_1 : Int) : Option (((Int × (Int × Unit)) × Unit) × Unit) :=
  ofFn Tryz.prog impl_poly_byX.call impl_poly_byX.qt impl_poly_byX.H N Tryz.f138 [.agg [.sh (.int .u64), .sh (.int .u64)]] [] [.agg [.sh (.int .u64), .sh (.int .u64)]] [] [⟨[], [], [], []⟩] ((p_0, (p_1, ())), ()) ()
noncomputable def impl_poly_byX.S (N : Nat) : Say := ⟨false, 138, [.agg [.sh (.int .u64), .sh (.int .u64)]], [], [.agg [.sh (.int .u64), .sh (.int .u64)]], [], fun a s => impl_poly_byX N a.1.1 a.1.2.1⟩
set_option maxRecDepth 100000 in
theorem impl_poly_byX.eq (N : Nat) (p_0 : Int) (p_1 : Int) : impl_poly_byX N p_0 p_1 =
 sel (decide ((Go.bits .and .u64 p_1 1) = 1))
  (
  some ((((Go.bits .xor .u64 (shrI .u64 p_0 1) 16212958658533785600), ((Go.bits .or .u64 (shrI .u64 p_1 1) (shlI .u64 p_0 63)), ())), ()), ()))
  (
  some ((((shrI .u64 p_0 1), ((Go.bits .or .u64 (shrI .u64 p_1 1) (shlI .u64 p_0 63)), ())), ()), ())) := by kernel_rfl
set_option maxRecDepth 100000 in
theorem impl_poly_byX.say (N : Nat) : SayOk Tryz.prog (impl_poly_byX.S N) := sayOk_mk (N := N) (H := impl_poly_byX.H) (preps := [⟨[], [], [], []⟩]) (l := impl_poly_byX.says) (fn := Tryz.f138) (c := bodyOf Tryz.f138)
  (by kernel_rfl) (by kernel_rfl) (by kernel_rfl) (by kernel_rfl) (by kernel_rfl) (by kernel_rfl) (by kernel_rfl)
  (fun N => SayAll.nil) (fun a s => by kernel_rfl)

/-! ### (loop.example/g00206/impl.poly).times: function 128 -/
noncomputable def impl_poly_times.H : Hints := hintsOf [(8, .join [⟨.normal, [9], [2, 3, 4, 5, 7], [.one (.ptr 0 0), .one (.ptr 1 0), .one (.ptr 2 0), .one (.ptr 3 0), .one (.sh (.int .u64))], [.cells [.sh (.int .u64), .sh (.int .u64)], .cells [.sh (.int .u64), .sh (.int .u64)], .cells [.sh (.int .u64), .sh (.int .u64)], .cells [.sh (.int .u64), .sh (.int .u64)]], [⟨[], [], [], []⟩]⟩]),
  (10, .join [⟨.normal, [9], [2, 3, 4, 5], [.one (.ptr 0 0), .one (.ptr 1 0), .one (.ptr 2 0), .one (.ptr 3 0)], [.cells [.sh (.int .u64), .sh (.int .u64)], .cells [.sh (.int .u64), .sh (.int .u64)], .cells [.sh (.int .u64), .sh (.int .u64)], .cells [.sh (.int .u64), .sh (.int .u64)]], [⟨[], [], [], []⟩]⟩]),
  (2000003, .loop ⟨.normal, [], [2, 3, 4, 5, 9], [.one (.ptr 0 0), .one (.ptr 1 0), .one (.ptr 2 0), .one (.ptr 3 0), ak_i], [.cells [.sh (.int .u64), .sh (.int .u64)], .cells [.sh (.int .u64), .sh (.int .u64)], .cells [.sh (.int .u64), .sh (.int .u64)], .cells [.sh (.int .u64), .sh (.int .u64)]], [⟨[], [], [], []⟩]⟩ [⟨(.exit 0), [], [4, 5], [.one (.ptr 2 0), .one (.ptr 3 0)], [.cells [.sh (.int .u64), .sh (.int .u64)], .cells [.sh (.int .u64), .sh (.int .u64)], .cells [.sh (.int .u64), .sh (.int .u64)], .cells [.sh (.int .u64), .sh (.int .u64)]], [⟨[], [], [], []⟩]⟩])]
noncomputable def impl_poly_times.says (N : Nat) : List Say := [impl_poly_xor.S N, impl_poly_byX.S N]
noncomputable def impl_poly_times.call (N : Nat) : CallK := callBy (impl_poly_times.says N)
noncomputable def impl_poly_times.qt (N : Nat) : FuncId → List PV → Sig → Cl := qtBy (impl_poly_times.says N)
noncomputable def impl_poly_times.l0.hd : Alt := ⟨.normal, [], [2, 3, 4, 5, 9], [.one (.ptr 0 0), .one (.ptr 1 0), .one (.ptr 2 0), .one (.ptr 3 0), ak_i], [.cells [.sh (.int .u64), .sh (.int .u64)], .cells [.sh (.int .u64), .sh (.int .u64)], .cells [.sh (.int .u64), .sh (.int .u64)], .cells [.sh (.int .u64), .sh (.int .u64)]], [⟨[], [], [], []⟩]⟩
noncomputable def impl_poly_times.l0.outs : List Alt := [⟨(.exit 0), [], [4, 5], [.one (.ptr 2 0), .one (.ptr 3 0)], [.cells [.sh (.int .u64), .sh (.int .u64)], .cells [.sh (.int .u64), .sh (.int .u64)], .cells [.sh (.int .u64), .sh (.int .u64)], .cells [.sh (.int .u64), .sh (.int .u64)]], [⟨[], [], [], []⟩]⟩]
noncomputable def impl_poly_times.l0 (N : Nat) (t9 : Int) (p0_0 : Int) (p0_1 : Int) (p1_0 : Int) (p1_1 : Int) (p2_0 : Int) (p2_1 : Int) (p3_0 : Int) (p3_1 : Int) : Option ((Unit × (Unit × Unit)) × ((Int × (Int × Unit)) × ((Int × (Int × Unit)) × ((Int × (Int × Unit)) × ((Int × (Int × Unit)) × Unit))))) :=
  loopK Tryz.prog impl_poly_times.call impl_poly_times.qt impl_poly_times.H (codeAt (bodyOf Tryz.f128) [1, 1, 0, 1, 0, 0]) 4 impl_poly_times.l0.hd impl_poly_times.l0.outs [] N (((), ((), ((), ((), (t9, ()))))), ((p0_0, (p0_1, ())), ((p1_0, (p1_1, ())), ((p2_0, (p2_1, ())), ((p3_0, (p3_1, ())), ())))))
noncomputable def impl_poly_times (N : Nat) (p_0 : Int) (p_1 : Int) (q_0 : Int) (q_1 : Int) : Option (((Int × (Int × Unit)) × Unit) × Unit) :=
  ofFn Tryz.prog impl_poly_times.call impl_poly_times.qt impl_poly_times.H N Tryz.f128 [.agg [.sh (.int .u64), .sh (.int .u64)], .agg [.sh (.int .u64), .sh (.int .u64)]] [] [.agg [.sh (.int .u64), .sh (.int .u64)]] [] [⟨[], [], [], []⟩] ((p_0, (p_1, ())), ((q_0, (q_1, ())), ())) ()
noncomputable def impl_poly_times.S (N : Nat) : Say := ⟨false, 128, [.agg [.sh (.int .u64), .sh (.int .u64)], .agg [.sh (.int .u64), .sh (.int .u64)]], [], [.agg [.sh (.int .u64), .sh (.int .u64)]], [], fun a s => impl_poly_times N a.1.1 a.1.2.1 a.2.1.1 a.2.1.2.1⟩
set_option maxRecDepth 100000 in
theorem impl_poly_times.l0.eq (N : Nat) (t9 : Int) (p0_0 : Int) (p0_1 : Int) (p1_0 : Int) (p1_1 : Int) (p2_0 : Int) (p2_1 : Int) (p3_0 : Int) (p3_1 : Int) : impl_poly_times.l0 (N + 1) t9 p0_0 p0_1 p1_0 p1_1 p2_0 p2_1 p3_0 p3_1 =
 sel (decide (t9 < 128))
  (
  chk (decide (0 ≤ (IntKind.i64.wrap (63 - (Int.tmod t9 64))))) (
  andK (α := ((Unit × (Unit × (Unit × (Unit × (Int × Unit))))) × ((Int × (Int × Unit)) × ((Int × (Int × Unit)) × ((Int × (Int × Unit)) × ((Int × (Int × Unit)) × Unit)))))) (
   sel (decide (63 < t9))
    (
    chk (decide (0 ≤ (IntKind.i64.wrap (63 - (Int.tmod t9 64))))) (
    some ((((), ((), ((), ((), ((shrI .u64 p1_1 (IntKind.i64.wrap (63 - (Int.tmod t9 64)))), ()))))), ((p0_0, (p0_1, ())), ((p1_0, (p1_1, ())), ((p2_0, (p2_1, ())), ((p3_0, (p3_1, ())), ()))))))))
    (
    some ((((), ((), ((), ((), ((shrI .u64 p1_0 (IntKind.i64.wrap (63 - (Int.tmod t9 64)))), ()))))), ((p0_0, (p0_1, ())), ((p1_0, (p1_1, ())), ((p2_0, (p2_1, ())), ((p3_0, (p3_1, ())), ())))))))) fun j1 =>
  andK (α := ((Unit × (Unit × (Unit × (Unit × Unit)))) × ((Int × (Int × Unit)) × ((Int × (Int × Unit)) × ((Int × (Int × Unit)) × ((Int × (Int × Unit)) × Unit)))))) (
   sel (decide ((Go.bits .and .u64 j1.1.2.2.2.2.1 1) = 1))
    (
    andK (impl_poly_xor N j1.2.2.2.2.1.1 j1.2.2.2.2.1.2.1 j1.2.1.1 j1.2.1.2.1) fun u2 =>
    some ((((), ((), ((), ((), ())))), ((j1.2.1.1, (j1.2.1.2.1, ())), ((j1.2.2.1.1, (j1.2.2.1.2.1, ())), ((j1.2.2.2.1.1, (j1.2.2.2.1.2.1, ())), ((u2.1.1.1, (u2.1.1.2.1, ())), ())))))))
    (
    some ((((), ((), ((), ((), ())))), ((j1.2.1.1, (j1.2.1.2.1, ())), ((j1.2.2.1.1, (j1.2.2.1.2.1, ())), ((j1.2.2.2.1.1, (j1.2.2.2.1.2.1, ())), ((j1.2.2.2.2.1.1, (j1.2.2.2.2.1.2.1, ())), ())))))))) fun j3 =>
  andK (impl_poly_byX N j3.2.1.1 j3.2.1.2.1) fun u4 =>
  impl_poly_times.l0 N (IntKind.i64.wrap (t9 + 1)) u4.1.1.1 u4.1.1.2.1 j3.2.2.1.1 j3.2.2.1.2.1 j3.2.2.2.1.1 j3.2.2.2.1.2.1 j3.2.2.2.2.1.1 j3.2.2.2.2.1.2.1))
  (
  some ((((), ((), ())), ((p0_0, (p0_1, ())), ((p1_0, (p1_1, ())), ((p2_0, (p2_1, ())), ((p3_0, (p3_1, ())), ()))))))) := by kernel_rfl
set_option maxRecDepth 100000 in
theorem impl_poly_times.eq (N : Nat) (p_0 : Int) (p_1 : Int) (q_0 : Int) (q_1 : Int) : impl_poly_times N p_0 p_1 q_0 q_1 =
 andK (impl_poly_times.l0 N 0 p_0 p_1 q_0 q_1 0 0 0 0) fun l5 =>
 some (((l5.2.2.2.2.1.1, (l5.2.2.2.2.1.2.1, ())), ()), ()) := by kernel_rfl
set_option maxRecDepth 100000 in
theorem impl_poly_times.say (N : Nat) : SayOk Tryz.prog (impl_poly_times.S N) := sayOk_mk (N := N) (H := impl_poly_times.H) (preps := [⟨[], [], [], []⟩]) (l := impl_poly_times.says) (fn := Tryz.f128) (c := bodyOf Tryz.f128)
  (by kernel_rfl) (by kernel_rfl) (by kernel_rfl) (by kernel_rfl) (by kernel_rfl) (by kernel_rfl) (by kernel_rfl)
  (fun N => SayAll.cons (impl_poly_xor.say N) (SayAll.cons (impl_poly_byX.say N) (SayAll.nil))) (fun a s => by kernel_rfl)

/-! ### loop.example/g00206/impl.ghash: function 105 -/
noncomputable def impl_ghash.H : Hints := hintsOf [(2000003, .loop ⟨.normal, [1], [2, 4, 5, 6], [.one (.ptr 0 0), .one (.ptr 1 0), .one (.ptr 2 0), ak_i], [.cells [.sh (.int .u64), .sh (.int .u64)], .cells [.sh (.int .u64), .sh (.int .u64)], .cells [.sh (.int .u64), .sh (.int .u64)]], [⟨[], [], [], []⟩]⟩ [⟨(.exit 0), [], [4, 5], [.one (.ptr 1 0), .one (.ptr 2 0)], [.cells [.sh (.int .u64), .sh (.int .u64)], .cells [.sh (.int .u64), .sh (.int .u64)], .cells [.sh (.int .u64), .sh (.int .u64)]], [⟨[], [], [], []⟩]⟩])]
noncomputable def impl_ghash.says (N : Nat) : List Say := [impl_polyOf.S N, impl_poly_xor.S N, impl_poly_times.S N]
noncomputable def impl_ghash.call (N : Nat) : CallK := callBy (impl_ghash.says N)
noncomputable def impl_ghash.qt (N : Nat) : FuncId → List PV → Sig → Cl := qtBy (impl_ghash.says N)
noncomputable def impl_ghash.l0.hd : Alt := ⟨.normal, [1], [2, 4, 5, 6], [.one (.ptr 0 0), .one (.ptr 1 0), .one (.ptr 2 0), ak_i], [.cells [.sh (.int .u64), .sh (.int .u64)], .cells [.sh (.int .u64), .sh (.int .u64)], .cells [.sh (.int .u64), .sh (.int .u64)]], [⟨[], [], [], []⟩]⟩
noncomputable def impl_ghash.l0.outs : List Alt := [⟨(.exit 0), [], [4, 5], [.one (.ptr 1 0), .one (.ptr 2 0)], [.cells [.sh (.int .u64), .sh (.int .u64)], .cells [.sh (.int .u64), .sh (.int .u64)], .cells [.sh (.int .u64), .sh (.int .u64)]], [⟨[], [], [], []⟩]⟩]
noncomputable def impl_ghash.l0 (N : Nat) (s1 : ByteArray) (i : Int) (p0_0 : Int) (p0_1 : Int) (p1_0 : Int) (p1_1 : Int) (p2_0 : Int) (p2_1 : Int) : Option ((Unit × (Unit × Unit)) × ((Int × (Int × Unit)) × ((Int × (Int × Unit)) × ((Int × (Int × Unit)) × Unit)))) :=
  loopK Tryz.prog impl_ghash.call impl_ghash.qt impl_ghash.H (codeAt (bodyOf Tryz.f105) [1, 1, 0, 1, 0, 0]) 3 impl_ghash.l0.hd impl_ghash.l0.outs [(1, .v (.string s1))] N (((), ((), ((), (i, ())))), ((p0_0, (p0_1, ())), ((p1_0, (p1_1, ())), ((p2_0, (p2_1, ())), ()))))
noncomputable def impl_ghash (N : Nat) (h_0 : Int) (h_1 : Int) (s : ByteArray) : Option (((Int × (Int × Unit)) × Unit) × Unit) :=
  ofFn Tryz.prog impl_ghash.call impl_ghash.qt impl_ghash.H N Tryz.f105 [.agg [.sh (.int .u64), .sh (.int .u64)], ak_s] [] [.agg [.sh (.int .u64), .sh (.int .u64)]] [] [⟨[], [], [], []⟩] ((h_0, (h_1, ())), (s, ())) ()
noncomputable def impl_ghash.S (N : Nat) : Say := ⟨false, 105, [.agg [.sh (.int .u64), .sh (.int .u64)], ak_s], [], [.agg [.sh (.int .u64), .sh (.int .u64)]], [], fun a s => impl_ghash N a.1.1 a.1.2.1 a.2.1⟩
set_option maxRecDepth 100000 in
theorem impl_ghash.l0.eq (N : Nat) (s1 : ByteArray) (i : Int) (p0_0 : Int) (p0_1 : Int) (p1_0 : Int) (p1_1 : Int) (p2_0 : Int) (p2_1 : Int) : impl_ghash.l0 (N + 1) s1 i p0_0 p0_1 p1_0 p1_1 p2_0 p2_1 =
 sel (decide (i < (s1.size : Int)))
  (
  chk ((decide (0 ≤ i)) && ((decide (i ≤ (IntKind.i64.wrap (i + 16)))) && (decide ((IntKind.i64.wrap (i + 16)) ≤ (s1.size : Int))))) (
  andK (impl_polyOf N (s1.extract (Int.toNat i) (Int.toNat (IntKind.i64.wrap (i + 16))))) fun u1 =>
  andK (impl_poly_xor N p2_0 p2_1 u1.1.1.1 u1.1.1.2.1) fun u2 =>
  andK (impl_poly_times N u2.1.1.1 u2.1.1.2.1 p0_0 p0_1) fun u3 =>
  impl_ghash.l0 N s1 (IntKind.i64.wrap (i + 16)) p0_0 p0_1 p1_0 p1_1 u3.1.1.1 u3.1.1.2.1))
  (
  some ((((), ((), ())), ((p0_0, (p0_1, ())), ((p1_0, (p1_1, ())), ((p2_0, (p2_1, ())), ())))))) := by kernel_rfl
set_option maxRecDepth 100000 in
theorem impl_ghash.eq (N : Nat) (h_0 : Int) (h_1 : Int) (s : ByteArray) : impl_ghash N h_0 h_1 s =
 andK (impl_ghash.l0 N s 0 h_0 h_1 0 0 0 0) fun l4 =>
 some (((l4.2.2.2.1.1, (l4.2.2.2.1.2.1, ())), ()), ()) := by kernel_rfl
set_option maxRecDepth 100000 in
theorem impl_ghash.say (N : Nat) : SayOk Tryz.prog (impl_ghash.S N) := sayOk_mk (N := N) (H := impl_ghash.H) (preps := [⟨[], [], [], []⟩]) (l := impl_ghash.says) (fn := Tryz.f105) (c := bodyOf Tryz.f105)
  (by kernel_rfl) (by kernel_rfl) (by kernel_rfl) (by kernel_rfl) (by kernel_rfl) (by kernel_rfl) (by kernel_rfl)
  (fun N => SayAll.cons (impl_polyOf.say N) (SayAll.cons (impl_poly_xor.say N) (SayAll.cons (impl_poly_times.say N) (SayAll.nil)))) (fun a s => by kernel_rfl)

/-! ### (loop.example/g00206/impl.poly).text: function 107 -/
noncomputable def impl_poly_text.H : Hints := hintsOf []
noncomputable def impl_poly_text.says (N : Nat) : List Say := [impl_bigEndian.S N]
noncomputable def impl_poly_text.call (N : Nat) : CallK := callBy (impl_poly_text.says N)
noncomputable def impl_poly_text.qt (N : Nat) : FuncId → List PV → Sig → Cl := qtBy (impl_poly_text.says N)
noncomputable def impl_poly_text (N : Nat) (p_0 : Int) (p_1 : Int) : Option ((ByteArray × Unit) × Unit) :=
  ofFn Tryz.prog impl_poly_text.call impl_poly_text.qt impl_poly_text.H N Tryz.f107 [.agg [.sh (.int .u64), .sh (.int .u64)]] [] [ak_s] [] [⟨[], [], [], []⟩] ((p_0, (p_1, ())), ()) ()
noncomputable def impl_poly_text.S (N : Nat) : Say := ⟨false, 107, [.agg [.sh (.int .u64), .sh (.int .u64)]], [], [ak_s], [], fun a s => impl_poly_text N a.1.1 a.1.2.1⟩
set_option maxRecDepth 100000 in
theorem impl_poly_text.eq (N : Nat) (p_0 : Int) (p_1 : Int) : impl_poly_text N p_0 p_1 =
 andK (impl_bigEndian N p_0 8) fun u1 =>
 andK (impl_bigEndian N p_1 8) fun u2 =>
 chk (decide (u1.1.1.size + u2.1.1.size ≤ 9223372036854775807)) (
 some (((u1.1.1 ++ u2.1.1), ()), ())) := by kernel_rfl
set_option maxRecDepth 100000 in
theorem impl_poly_text.say (N : Nat) : SayOk Tryz.prog (impl_poly_text.S N) := sayOk_mk (N := N) (H := impl_poly_text.H) (preps := [⟨[], [], [], []⟩]) (l := impl_poly_text.says) (fn := Tryz.f107) (c := bodyOf Tryz.f107)
  (by kernel_rfl) (by kernel_rfl) (by kernel_rfl) (by kernel_rfl) (by kernel_rfl) (by kernel_rfl) (by kernel_rfl)
  (fun N => SayAll.cons (impl_bigEndian.say N) (SayAll.nil)) (fun a s => by kernel_rfl)

/-! ### loop.example/g00206/impl.xored: function 94 -/
noncomputable def impl_xored.H : Hints := hintsOf [(2000003, .loop ⟨.normal, [1, 10], [5, 11], [.one (.own 0), ak_i], [.rows (.int .u8)], [⟨[], [], [], []⟩]⟩ [⟨(.exit 0), [], [5], [.one (.own 0)], [.rows (.int .u8)], [⟨[], [], [], []⟩]⟩])]
noncomputable def impl_xored.says (N : Nat) : List Say := []
noncomputable def impl_xored.call (N : Nat) : CallK := callBy (impl_xored.says N)
noncomputable def impl_xored.qt (N : Nat) : FuncId → List PV → Sig → Cl := qtBy (impl_xored.says N)
noncomputable def impl_xored.l0.hd : Alt := ⟨.normal, [1, 10], [5, 11], [.one (.own 0), ak_i], [.rows (.int .u8)], [⟨[], [], [], []⟩]⟩
noncomputable def impl_xored.l0.outs : List Alt := [⟨(.exit 0), [], [5], [.one (.own 0)], [.rows (.int .u8)], [⟨[], [], [], []⟩]⟩]
noncomputable def impl_xored.l0 (N : Nat) (b1 : ByteArray) (t10 : Int) (t11 : Int) (p0 : (List Int)) : Option ((Unit × Unit) × ((List Int) × Unit)) :=
  loopK Tryz.prog impl_xored.call impl_xored.qt impl_xored.H (codeAt (bodyOf Tryz.f94) [1, 1, 0, 1, 0, 0]) 1 impl_xored.l0.hd impl_xored.l0.outs [(1, .v (.string b1)), (10, .v (.int .i64 t10))] N (((), (t11, ())), (p0, ()))
noncomputable def impl_xored (N : Nat) (a : ByteArray) (b : ByteArray) : Option ((ByteArray × Unit) × Unit) :=
  ofFn Tryz.prog impl_xored.call impl_xored.qt impl_xored.H N Tryz.f94 [ak_s, ak_s] [] [ak_s] [] [⟨[], [], [], []⟩] (a, (b, ())) ()
noncomputable def impl_xored.S (N : Nat) : Say := ⟨false, 94, [ak_s, ak_s], [], [ak_s], [], fun a s => impl_xored N a.1 a.2.1⟩
set_option maxRecDepth 100000 in
theorem impl_xored.l0.eq (N : Nat) (b1 : ByteArray) (t10 : Int) (t11 : Int) (p0 : (List Int)) : impl_xored.l0 (N + 1) b1 t10 t11 p0 =
 sel (decide (t11 < t10))
  (
  chk ((decide (0 ≤ t11)) && (decide (t11 < (p0.length : Int)))) (
  chk ((decide (0 ≤ t11)) && (decide (t11 < (b1.size : Int)))) (
  chk ((decide (0 ≤ t11)) && (decide (t11 < (p0.length : Int)))) (
  impl_xored.l0 N b1 t10 (IntKind.i64.wrap (t11 + 1)) (p0.set (Int.toNat t11) (Go.bits .xor .u8 (p0.getD (Int.toNat t11) 0) ((bytesL b1).getD (Int.toNat t11) 0)))))))
  (
  some ((((), ()), (p0, ())))) := by kernel_rfl
set_option maxRecDepth 100000 in
theorem impl_xored.eq (N : Nat) (a : ByteArray) (b : ByteArray) : impl_xored N a b =
 andK (impl_xored.l0 N b ((bytesL a).length : Int) 0 (bytesL a)) fun l1 =>
 some (((strL l1.2.1), ()), ()) := by kernel_rfl
set_option maxRecDepth 100000 in
theorem impl_xored.say (N : Nat) : SayOk Tryz.prog (impl_xored.S N) := sayOk_mk (N := N) (H := impl_xored.H) (preps := [⟨[], [], [], []⟩]) (l := impl_xored.says) (fn := Tryz.f94) (c := bodyOf Tryz.f94)
  (by kernel_rfl) (by kernel_rfl) (by kernel_rfl) (by kernel_rfl) (by kernel_rfl) (by kernel_rfl) (by kernel_rfl)
  (fun N => SayAll.nil) (fun a s => by kernel_rfl)

/-! ### (*loop.example/g00206/impl.cipher).tag: function 80 -/
noncomputable def impl_cipher_tag.H : Hints := hintsOf []
noncomputable def impl_cipher_tag.says (N : Nat) : List Say := [impl_bigEndian.S N, impl_cipher_encrypt.S N, impl_polyOf.S N, impl_filled.S N, impl_ghash.S N, impl_poly_text.S N, impl_xored.S N]
noncomputable def impl_cipher_tag.call (N : Nat) : CallK := callBy (impl_cipher_tag.says N)
noncomputable def impl_cipher_tag.qt (N : Nat) : FuncId → List PV → Sig → Cl := qtBy (impl_cipher_tag.says N)
noncomputable def impl_cipher_tag (N : Nat) (nonce : ByteArray) (beside : ByteArray) (sealed : ByteArray) (p1 : (List Int)) (p2 : (List Int)) : Option ((ByteArray × Unit) × ((Unit × (Unit × Unit)) × ((List Int) × ((List Int) × Unit)))) :=
  ofFn Tryz.prog impl_cipher_tag.call impl_cipher_tag.qt impl_cipher_tag.H N Tryz.f80 [.one (.ptr 0 0), ak_s, ak_s, ak_s] [.cells [.apl 1 0 512, .own 2], .rows (.int .u8), .rows (.int .u8)] [ak_s] [.cells [.apl 1 0 512, .own 2], .rows (.int .u8) true, .rows (.int .u8) true] [⟨[], [], [], []⟩] ((), (nonce, (beside, (sealed, ())))) (((), ((), ())), (p1, (p2, ())))
noncomputable def impl_cipher_tag.S (N : Nat) : Say := ⟨false, 80, [.one (.ptr 0 0), ak_s, ak_s, ak_s], [.cells [.apl 1 0 512, .own 2], .rows (.int .u8), .rows (.int .u8)], [ak_s], [.cells [.apl 1 0 512, .own 2], .rows (.int .u8) true, .rows (.int .u8) true], fun a s => impl_cipher_tag N a.2.1 a.2.2.1 a.2.2.2.1 s.2.1 s.2.2.1⟩
set_option maxRecDepth 100000 in
theorem impl_cipher_tag.eq (N : Nat) (nonce : ByteArray) (beside : ByteArray) (sealed : ByteArray) (p1 : (List Int)) (p2 : (List Int)) : impl_cipher_tag N nonce beside sealed p1 p2 =
 andK (impl_bigEndian N 0 8) fun u1 =>
 andK (impl_bigEndian N 0 8) fun u2 =>
 chk (decide (u1.1.1.size + u2.1.1.size ≤ 9223372036854775807)) (
 andK (impl_cipher_encrypt N (u1.1.1 ++ u2.1.1) p1 p2) fun u3 =>
 andK (impl_polyOf N u3.1.1) fun u4 =>
 andK (impl_bigEndian N (IntKind.u64.wrap (IntKind.i64.wrap (8 * (beside.size : Int)))) 8) fun u5 =>
 andK (impl_bigEndian N (IntKind.u64.wrap (IntKind.i64.wrap (8 * (sealed.size : Int)))) 8) fun u6 =>
 chk (decide (u5.1.1.size + u6.1.1.size ≤ 9223372036854775807)) (
 andK (impl_filled N beside) fun u7 =>
 andK (impl_filled N sealed) fun u8 =>
 chk (decide (u7.1.1.size + u8.1.1.size ≤ 9223372036854775807)) (
 chk (decide ((u7.1.1 ++ u8.1.1).size + (u5.1.1 ++ u6.1.1).size ≤ 9223372036854775807)) (
 andK (impl_ghash N u4.1.1.1 u4.1.1.2.1 ((u7.1.1 ++ u8.1.1) ++ (u5.1.1 ++ u6.1.1))) fun u9 =>
 andK (impl_poly_text N u9.1.1.1 u9.1.1.2.1) fun u10 =>
 andK (impl_bigEndian N 1 4) fun u11 =>
 chk (decide (nonce.size + u11.1.1.size ≤ 9223372036854775807)) (
 andK (impl_cipher_encrypt N (nonce ++ u11.1.1) u3.2.2.1 u3.2.2.2.1) fun u12 =>
 andK (impl_xored N u10.1.1 u12.1.1) fun u13 =>
 some ((u13.1.1, ()), (((), ((), ())), (u12.2.2.1, (u12.2.2.2.1, ()))))))))) := by kernel_rfl
set_option maxRecDepth 100000 in
theorem impl_cipher_tag.say (N : Nat) : SayOk Tryz.prog (impl_cipher_tag.S N) := sayOk_mk (N := N) (H := impl_cipher_tag.H) (preps := [⟨[], [], [], []⟩]) (l := impl_cipher_tag.says) (fn := Tryz.f80) (c := bodyOf Tryz.f80)
  (by kernel_rfl) (by kernel_rfl) (by kernel_rfl) (by kernel_rfl) (by kernel_rfl) (by kernel_rfl) (by kernel_rfl)
  (fun N => SayAll.cons (impl_bigEndian.say N) (SayAll.cons (impl_cipher_encrypt.say N) (SayAll.cons (impl_polyOf.say N) (SayAll.cons (impl_filled.say N) (SayAll.cons (impl_ghash.say N) (SayAll.cons (impl_poly_text.say N) (SayAll.cons (impl_xored.say N) (SayAll.nil)))))))) (fun a s => by kernel_rfl)

/-! ### loop.example/g00206/impl.SealText: function 39 -/
noncomputable def impl_SealText.H : Hints := hintsOf [(5000001, .join [⟨.normal, [0, 1, 2, 3], [21], [ak_b], [], [⟨[], [], [], []⟩]⟩])]
noncomputable def impl_SealText.says (N : Nat) : List Say := [impl_sealOk.S N, impl_cipherOf.S N, impl_cipher_turned.S N, impl_cipher_tag.S N]
noncomputable def impl_SealText.call (N : Nat) : CallK := callBy (impl_SealText.says N)
noncomputable def impl_SealText.qt (N : Nat) : FuncId → List PV → Sig → Cl := qtBy (impl_SealText.says N)
noncomputable def impl_SealText (N : Nat) (key : ByteArray) (nonce : ByteArray) (beside : ByteArray) (text : ByteArray) : Option ((ByteArray × (Bool × Unit)) × Unit) :=
  ofFn Tryz.prog impl_SealText.call impl_SealText.qt impl_SealText.H N Tryz.f39 [ak_s, ak_s, ak_s, ak_s] [] [ak_s, ak_b] [] [⟨[], [], [], []⟩] (key, (nonce, (beside, (text, ())))) ()
noncomputable def impl_SealText.S (N : Nat) : Say := ⟨false, 39, [ak_s, ak_s, ak_s, ak_s], [], [ak_s, ak_b], [], fun a s => impl_SealText N a.1 a.2.1 a.2.2.1 a.2.2.2.1⟩
set_option maxRecDepth 100000 in
theorem impl_SealText.eq (N : Nat) (key : ByteArray) (nonce : ByteArray) (beside : ByteArray) (text : ByteArray) : impl_SealText N key nonce beside text =
 andK (α := ((Bool × Unit) × Unit)) (
  andK (impl_sealOk N key nonce beside) fun u1 =>
  sel (!u1.1.1)
   (
   some (((true, ()), ())))
   (
   some ((((decide (1500 < (text.size : Int))), ()), ())))) fun j2 =>
 sel j2.1.1
  (
  some (((⟨#[]⟩ : ByteArray), (false, ())), ()))
  (
  andK (impl_cipherOf N key) fun u3 =>
  andK (impl_cipher_turned N nonce text u3.2.2.1 u3.2.2.2.1) fun u4 =>
  andK (impl_cipher_tag N nonce beside u4.1.1 u4.2.2.1 u4.2.2.2.1) fun u5 =>
  chk (decide (u4.1.1.size + u5.1.1.size ≤ 9223372036854775807)) (
  some (((u4.1.1 ++ u5.1.1), (true, ())), ()))) := by kernel_rfl
set_option maxRecDepth 100000 in
theorem impl_SealText.say (N : Nat) : SayOk Tryz.prog (impl_SealText.S N) := sayOk_mk (N := N) (H := impl_SealText.H) (preps := [⟨[], [], [], []⟩]) (l := impl_SealText.says) (fn := Tryz.f39) (c := bodyOf Tryz.f39)
  (by kernel_rfl) (by kernel_rfl) (by kernel_rfl) (by kernel_rfl) (by kernel_rfl) (by kernel_rfl) (by kernel_rfl)
  (fun N => SayAll.cons (impl_sealOk.say N) (SayAll.cons (impl_cipherOf.say N) (SayAll.cons (impl_cipher_turned.say N) (SayAll.cons (impl_cipher_tag.say N) (SayAll.nil))))) (fun a s => by kernel_rfl)

/-! ### loop.example/g00206/impl.RetryTag: function 16 -/
noncomputable def impl_RetryTag.H : Hints := hintsOf [(5000001, .join [⟨.normal, [0, 1], [17], [ak_b], [], [⟨[], [], [], []⟩]⟩])]
noncomputable def impl_RetryTag.says (N : Nat) : List Say := [impl_ReadHex.S N, impl_byteCounted.S N, impl_SealText.S N]
noncomputable def impl_RetryTag.call (N : Nat) : CallK := callBy (impl_RetryTag.says N)
noncomputable def impl_RetryTag.qt (N : Nat) : FuncId → List PV → Sig → Cl := qtBy (impl_RetryTag.says N)
noncomputable def impl_RetryTag (N : Nat) (original : ByteArray) (packet : ByteArray) : Option ((ByteArray × (Bool × Unit)) × Unit) :=
  ofFn Tryz.prog impl_RetryTag.call impl_RetryTag.qt impl_RetryTag.H N Tryz.f16 [ak_s, ak_s] [] [ak_s, ak_b] [] [⟨[], [], [], []⟩] (original, (packet, ())) ()
noncomputable def impl_RetryTag.S (N : Nat) : Say := ⟨false, 16, [ak_s, ak_s], [], [ak_s, ak_b], [], fun a s => impl_RetryTag N a.1 a.2.1⟩
set_option maxRecDepth 100000 in
theorem impl_RetryTag.eq (N : Nat) (original : ByteArray) (packet : ByteArray) : impl_RetryTag N original packet =
 andK (α := ((Bool × Unit) × Unit)) (
  sel (decide (20 < (original.size : Int)))
   (
   some (((true, ()), ())))
   (
   some ((((decide (1000 < (packet.size : Int))), ()), ())))) fun j1 =>
 sel j1.1.1
  (
  some (((⟨#[]⟩ : ByteArray), (false, ())), ()))
  (
  andK (impl_ReadHex N (⟨#[98, 101, 48, 99, 54, 57, 48, 98, 57, 102, 54, 54, 53, 55, 53, 97, 49, 100, 55, 54, 54, 98, 53, 52, 101, 51, 54, 56, 99, 56, 52, 101]⟩ : ByteArray)) fun u2 =>
  andK (impl_ReadHex N (⟨#[52, 54, 49, 53, 57, 57, 100, 51, 53, 100, 54, 51, 50, 98, 102, 50, 50, 51, 57, 56, 50, 53, 98, 98]⟩ : ByteArray)) fun u3 =>
  andK (impl_byteCounted N original) fun u4 =>
  chk (decide (u4.1.1.size + packet.size ≤ 9223372036854775807)) (
  andK (impl_SealText N u2.1.1 u3.1.1 (u4.1.1 ++ packet) (⟨#[]⟩ : ByteArray)) fun u5 =>
  some ((u5.1.1, (u5.1.2.1, ())), ()))) := by kernel_rfl
set_option maxRecDepth 100000 in
theorem impl_RetryTag.say (N : Nat) : SayOk Tryz.prog (impl_RetryTag.S N) := sayOk_mk (N := N) (H := impl_RetryTag.H) (preps := [⟨[], [], [], []⟩]) (l := impl_RetryTag.says) (fn := Tryz.f16) (c := bodyOf Tryz.f16)
  (by kernel_rfl) (by kernel_rfl) (by kernel_rfl) (by kernel_rfl) (by kernel_rfl) (by kernel_rfl) (by kernel_rfl)
  (fun N => SayAll.cons (impl_ReadHex.say N) (SayAll.cons (impl_byteCounted.say N) (SayAll.cons (impl_SealText.say N) (SayAll.nil)))) (fun a s => by kernel_rfl)

/-! ### loop.example/g00206/impl.RetryPacket: function 9 -/
noncomputable def impl_RetryPacket.H : Hints := hintsOf [(5000001, .join [⟨.normal, [1, 2], [3, 6, 29], [.one (.ptr 0 0), .one (.ptr 1 0), ak_b], [.cells [ck_i, ck_i, ck_i, ck_s, ck_s, ck_s, ck_s, .sh (.rows (.int .i64))], .cells [ck_i, ck_i, ck_i, ck_s, ck_s, ck_s, ck_s, .nil]], [⟨[], [], [], []⟩]⟩])]
noncomputable def impl_RetryPacket.says (N : Nat) : List Say := [impl_GoodHeader.S N, impl_in.S N, impl_Header_bytes.S N, impl_RetryTag.S N]
noncomputable def impl_RetryPacket.call (N : Nat) : CallK := callBy (impl_RetryPacket.says N)
noncomputable def impl_RetryPacket.qt (N : Nat) : FuncId → List PV → Sig → Cl := qtBy (impl_RetryPacket.says N)
noncomputable def impl_RetryPacket (N : Nat) (h_0 : Int) (h_1 : Int) (h_2 : Int) (h_3 : ByteArray) (h_4 : ByteArray) (h_5 : ByteArray) (h_6 : ByteArray) (h_7 : (List Int)) (token : ByteArray) (scid : ByteArray) : Option (((Int × (Int × (Int × (ByteArray × (ByteArray × (ByteArray × (ByteArray × (Unit × Unit)))))))) × (Bool × Unit)) × Unit) :=
  ofFn Tryz.prog impl_RetryPacket.call impl_RetryPacket.qt impl_RetryPacket.H N Tryz.f9 [.agg [ck_i, ck_i, ck_i, ck_s, ck_s, ck_s, ck_s, .sh (.rows (.int .i64))], ak_s, ak_s] [] [.agg [ck_i, ck_i, ck_i, ck_s, ck_s, ck_s, ck_s, .nil], ak_b] [] [⟨[], [], [], []⟩] ((h_0, (h_1, (h_2, (h_3, (h_4, (h_5, (h_6, (h_7, ())))))))), (token, (scid, ()))) ()
noncomputable def impl_RetryPacket.S (N : Nat) : Say := ⟨false, 9, [.agg [ck_i, ck_i, ck_i, ck_s, ck_s, ck_s, ck_s, .sh (.rows (.int .i64))], ak_s, ak_s], [], [.agg [ck_i, ck_i, ck_i, ck_s, ck_s, ck_s, ck_s, .nil], ak_b], [], fun a s => impl_RetryPacket N a.1.1 a.1.2.1 a.1.2.2.1 a.1.2.2.2.1 a.1.2.2.2.2.1 a.1.2.2.2.2.2.1 a.1.2.2.2.2.2.2.1 a.1.2.2.2.2.2.2.2.1 a.2.1 a.2.2.1⟩
set_option maxRecDepth 100000 in
theorem impl_RetryPacket.eq (N : Nat) (h_0 : Int) (h_1 : Int) (h_2 : Int) (h_3 : ByteArray) (h_4 : ByteArray) (h_5 : ByteArray) (h_6 : ByteArray) (h_7 : (List Int)) (token : ByteArray) (scid : ByteArray) : impl_RetryPacket N h_0 h_1 h_2 h_3 h_4 h_5 h_6 h_7 token scid =
 andK (α := ((Unit × (Unit × (Bool × Unit))) × ((Int × (Int × (Int × (ByteArray × (ByteArray × (ByteArray × (ByteArray × ((List Int) × Unit)))))))) × ((Int × (Int × (Int × (ByteArray × (ByteArray × (ByteArray × (ByteArray × (Unit × Unit)))))))) × Unit)))) (
  andK (impl_GoodHeader N h_0 h_1 h_2 h_3 h_4 h_5 h_6 h_7) fun u1 =>
  sel (!u1.1.1)
   (
   some ((((), ((), (true, ()))), ((h_0, (h_1, (h_2, (h_3, (h_4, (h_5, (h_6, (h_7, ())))))))), ((0, (0, (0, ((⟨#[]⟩ : ByteArray), ((⟨#[]⟩ : ByteArray), ((⟨#[]⟩ : ByteArray), ((⟨#[]⟩ : ByteArray), ((), ())))))))), ())))))
   (
   sel (!(decide (h_0 = 0)))
    (
    some ((((), ((), (true, ()))), ((h_0, (h_1, (h_2, (h_3, (h_4, (h_5, (h_6, (h_7, ())))))))), ((0, (0, (0, ((⟨#[]⟩ : ByteArray), ((⟨#[]⟩ : ByteArray), ((⟨#[]⟩ : ByteArray), ((⟨#[]⟩ : ByteArray), ((), ())))))))), ())))))
    (
    andK (impl_in N (token.size : Int) 1 200) fun u2 =>
    sel (!u2.1.1)
     (
     some ((((), ((), (true, ()))), ((h_0, (h_1, (h_2, (h_3, (h_4, (h_5, (h_6, (h_7, ())))))))), ((0, (0, (0, ((⟨#[]⟩ : ByteArray), ((⟨#[]⟩ : ByteArray), ((⟨#[]⟩ : ByteArray), ((⟨#[]⟩ : ByteArray), ((), ())))))))), ())))))
     (
     some ((((), ((), ((decide (20 < (scid.size : Int))), ()))), ((h_0, (h_1, (h_2, (h_3, (h_4, (h_5, (h_6, (h_7, ())))))))), ((0, (0, (0, ((⟨#[]⟩ : ByteArray), ((⟨#[]⟩ : ByteArray), ((⟨#[]⟩ : ByteArray), ((⟨#[]⟩ : ByteArray), ((), ())))))))), ())))))))) fun j3 =>
 sel j3.1.2.2.1
  (
  some (((0, (0, (0, ((⟨#[]⟩ : ByteArray), ((⟨#[]⟩ : ByteArray), ((⟨#[]⟩ : ByteArray), ((⟨#[]⟩ : ByteArray), ((), ())))))))), (false, ())), ()))
  (
  andK (impl_Header_bytes N 3 0 j3.2.1.2.2.1 j3.2.1.2.2.2.2.1 scid (⟨#[]⟩ : ByteArray) token) fun u4 =>
  andK (impl_RetryTag N j3.2.1.2.2.2.1 u4.1.1) fun u5 =>
  chk (decide (u4.2.1.2.2.2.2.2.2.1.size + u5.1.1.size ≤ 9223372036854775807)) (
  some (((u4.2.1.1, (u4.2.1.2.1, (u4.2.1.2.2.1, (u4.2.1.2.2.2.1, (u4.2.1.2.2.2.2.1, (u4.2.1.2.2.2.2.2.1, ((u4.2.1.2.2.2.2.2.2.1 ++ u5.1.1), ((), ())))))))), (true, ())), ()))) := by kernel_rfl
set_option maxRecDepth 100000 in
theorem impl_RetryPacket.say (N : Nat) : SayOk Tryz.prog (impl_RetryPacket.S N) := sayOk_mk (N := N) (H := impl_RetryPacket.H) (preps := [⟨[], [], [], []⟩]) (l := impl_RetryPacket.says) (fn := Tryz.f9) (c := bodyOf Tryz.f9)
  (by kernel_rfl) (by kernel_rfl) (by kernel_rfl) (by kernel_rfl) (by kernel_rfl) (by kernel_rfl) (by kernel_rfl)
  (fun N => SayAll.cons (impl_GoodHeader.say N) (SayAll.cons (impl_in.say N) (SayAll.cons (impl_Header_bytes.say N) (SayAll.cons (impl_RetryTag.say N) (SayAll.nil))))) (fun a s => by kernel_rfl)

/-! ### loop.example/g00206/spec.l1In: function 23 -/
noncomputable def spec_l1In.H : Hints := hintsOf []
noncomputable def spec_l1In.says (N : Nat) : List Say := []
noncomputable def spec_l1In.call (N : Nat) : CallK := callBy (spec_l1In.says N)
noncomputable def spec_l1In.qt (N : Nat) : FuncId → List PV → Sig → Cl := qtBy (spec_l1In.says N)
noncomputable def spec_l1In (N : Nat) (n : Int) (lo : Int) (hi : Int) : Option ((Bool × Unit) × Unit) :=
  ofFn Tryz.prog spec_l1In.call spec_l1In.qt spec_l1In.H N Tryz.f23 [ak_i, ak_i, ak_i] [] [ak_b] [] [⟨[], [], [], []⟩] (n, (lo, (hi, ()))) ()
noncomputable def spec_l1In.S (N : Nat) : Say := ⟨false, 23, [ak_i, ak_i, ak_i], [], [ak_b], [], fun a s => spec_l1In N a.1 a.2.1 a.2.2.1⟩
set_option maxRecDepth 100000 in
theorem spec_l1In.eq (N : Nat) (n : Int) (lo : Int) (hi : Int) : spec_l1In N n lo hi =
 sel (decide (lo ≤ n))
  (
  some (((decide (n ≤ hi)), ()), ()))
  (
  some ((false, ()), ())) := by kernel_rfl
set_option maxRecDepth 100000 in
theorem spec_l1In.say (N : Nat) : SayOk Tryz.prog (spec_l1In.S N) := sayOk_mk (N := N) (H := spec_l1In.H) (preps := [⟨[], [], [], []⟩]) (l := spec_l1In.says) (fn := Tryz.f23) (c := bodyOf Tryz.f23)
  (by kernel_rfl) (by kernel_rfl) (by kernel_rfl) (by kernel_rfl) (by kernel_rfl) (by kernel_rfl) (by kernel_rfl)
  (fun N => SayAll.nil) (fun a s => by kernel_rfl)

/-! ### loop.example/g00206/spec.l2Word: function 61 -/
noncomputable def spec_l2Word.H : Hints := hintsOf []
noncomputable def spec_l2Word.says (N : Nat) : List Say := [spec_l1In.S N]
noncomputable def spec_l2Word.call (N : Nat) : CallK := callBy (spec_l2Word.says N)
noncomputable def spec_l2Word.qt (N : Nat) : FuncId → List PV → Sig → Cl := qtBy (spec_l2Word.says N)
noncomputable def spec_l2Word (N : Nat) (n : Int) : Option ((Bool × Unit) × Unit) :=
  ofFn Tryz.prog spec_l2Word.call spec_l2Word.qt spec_l2Word.H N Tryz.f61 [ak_i] [] [ak_b] [] [⟨[], [], [], []⟩] (n, ()) ()
noncomputable def spec_l2Word.S (N : Nat) : Say := ⟨false, 61, [ak_i], [], [ak_b], [], fun a s => spec_l2Word N a.1⟩
set_option maxRecDepth 100000 in
theorem spec_l2Word.eq (N : Nat) (n : Int) : spec_l2Word N n =
 andK (spec_l1In N n 0 4294967295) fun u1 =>
 some ((u1.1.1, ()), ()) := by kernel_rfl
set_option maxRecDepth 100000 in
theorem spec_l2Word.say (N : Nat) : SayOk Tryz.prog (spec_l2Word.S N) := sayOk_mk (N := N) (H := spec_l2Word.H) (preps := [⟨[], [], [], []⟩]) (l := spec_l2Word.says) (fn := Tryz.f61) (c := bodyOf Tryz.f61)
  (by kernel_rfl) (by kernel_rfl) (by kernel_rfl) (by kernel_rfl) (by kernel_rfl) (by kernel_rfl) (by kernel_rfl)
  (fun N => SayAll.cons (spec_l1In.say N) (SayAll.nil)) (fun a s => by kernel_rfl)

/-! ### loop.example/g00206/spec.GoodHeader: function 22 -/
noncomputable def spec_GoodHeader.H : Hints := hintsOf [(5000001, .join [⟨.normal, [], [1, 32], [.one (.ptr 0 0), ak_b], [.cells [ck_i, ck_i, ck_i, ck_s, ck_s, ck_s, ck_s, .sh (.rows (.int .i64))]], [⟨[], [], [], []⟩]⟩]),
  (5000003, .join [⟨.normal, [], [1, 51], [.one (.ptr 0 0), ak_b], [.cells [ck_i, ck_i, ck_i, ck_s, ck_s, ck_s, ck_s, .sh (.rows (.int .i64))]], [⟨[], [], [], []⟩]⟩]),
  (5000010, .join [⟨.normal, [], [2], [ak_b], [.cells [ck_i, ck_i, ck_i, ck_s, ck_s, ck_s, ck_s, .sh (.rows (.int .i64))]], [⟨[], [], [], []⟩]⟩]),
  (2000013, .loop ⟨.normal, [70, 71], [1, 72], [.one (.ptr 0 0), ak_i], [.cells [ck_i, ck_i, ck_i, ck_s, ck_s, ck_s, ck_s, .sh (.rows (.int .i64))]], [⟨[], [], [], []⟩]⟩ [⟨.ret, [], [2], [ak_b], [.cells [ck_i, ck_i, ck_i, ck_s, ck_s, ck_s, ck_s, .sh (.rows (.int .i64))]], [⟨[], [], [], []⟩]⟩, ⟨(.exit 1), [], [1], [.one (.ptr 0 0)], [.cells [ck_i, ck_i, ck_i, ck_s, ck_s, ck_s, ck_s, .sh (.rows (.int .i64))]], [⟨[], [], [], []⟩]⟩]),
  (5000018, .join [⟨.normal, [], [2], [ak_b], [.cells [ck_i, ck_i, ck_i, ck_s, ck_s, ck_s, ck_s, .sh (.rows (.int .i64))]], [⟨[], [], [], []⟩]⟩]),
  (19, .join [⟨.ret, [], [2], [ak_b], [.cells [ck_i, ck_i, ck_i, ck_s, ck_s, ck_s, ck_s, .sh (.rows (.int .i64))]], [⟨[], [], [], []⟩]⟩, ⟨.normal, [], [1], [.one (.ptr 0 0)], [.cells [ck_i, ck_i, ck_i, ck_s, ck_s, ck_s, ck_s, .sh (.rows (.int .i64))]], [⟨[], [], [], []⟩]⟩])]
noncomputable def spec_GoodHeader.says (N : Nat) : List Say := [spec_l1In.S N, spec_l2Word.S N]
noncomputable def spec_GoodHeader.call (N : Nat) : CallK := callBy (spec_GoodHeader.says N)
noncomputable def spec_GoodHeader.qt (N : Nat) : FuncId → List PV → Sig → Cl := qtBy (spec_GoodHeader.says N)
noncomputable def spec_GoodHeader.l0.hd : Alt := ⟨.normal, [70, 71], [1, 72], [.one (.ptr 0 0), ak_i], [.cells [ck_i, ck_i, ck_i, ck_s, ck_s, ck_s, ck_s, .sh (.rows (.int .i64))]], [⟨[], [], [], []⟩]⟩
noncomputable def spec_GoodHeader.l0.outs : List Alt := [⟨.ret, [], [2], [ak_b], [.cells [ck_i, ck_i, ck_i, ck_s, ck_s, ck_s, ck_s, .sh (.rows (.int .i64))]], [⟨[], [], [], []⟩]⟩, ⟨(.exit 1), [], [1], [.one (.ptr 0 0)], [.cells [ck_i, ck_i, ck_i, ck_s, ck_s, ck_s, ck_s, .sh (.rows (.int .i64))]], [⟨[], [], [], []⟩]⟩]
noncomputable def spec_GoodHeader.l0 (N : Nat) (t70 : (List Int)) (t71 : Int) (t72 : Int) (p0_0 : Int) (p0_1 : Int) (p0_2 : Int) (p0_3 : ByteArray) (p0_4 : ByteArray) (p0_5 : ByteArray) (p0_6 : ByteArray) (p0_7 : (List Int)) : Option (((Bool × Unit) × ((Int × (Int × (Int × (ByteArray × (ByteArray × (ByteArray × (ByteArray × ((List Int) × Unit)))))))) × Unit)) ⊕ ((Unit × Unit) × ((Int × (Int × (Int × (ByteArray × (ByteArray × (ByteArray × (ByteArray × ((List Int) × Unit)))))))) × Unit))) :=
  loopK Tryz.prog spec_GoodHeader.call spec_GoodHeader.qt spec_GoodHeader.H (codeAt (bodyOf Tryz.f22) [1, 1, 1, 0, 1, 0, 1, 1, 1, 0, 0, 1, 0, 0]) 1 spec_GoodHeader.l0.hd spec_GoodHeader.l0.outs [(70, .rows false (.int .i64) t70), (71, .v (.int .i64 t71))] N (((), (t72, ())), ((p0_0, (p0_1, (p0_2, (p0_3, (p0_4, (p0_5, (p0_6, (p0_7, ())))))))), ()))
noncomputable def spec_GoodHeader.l1.hd : Alt := ⟨.normal, [70, 71], [1, 72], [.one (.ptr 0 0), ak_i], [.cells [ck_i, ck_i, ck_i, ck_s, ck_s, ck_s, ck_s, .sh (.rows (.int .i64))]], [⟨[], [], [], []⟩]⟩
noncomputable def spec_GoodHeader.l1.outs : List Alt := [⟨.ret, [], [2], [ak_b], [.cells [ck_i, ck_i, ck_i, ck_s, ck_s, ck_s, ck_s, .sh (.rows (.int .i64))]], [⟨[], [], [], []⟩]⟩, ⟨(.exit 1), [], [1], [.one (.ptr 0 0)], [.cells [ck_i, ck_i, ck_i, ck_s, ck_s, ck_s, ck_s, .sh (.rows (.int .i64))]], [⟨[], [], [], []⟩]⟩]
noncomputable def spec_GoodHeader.l1 (N : Nat) (t701 : (List Int)) (t711 : Int) (t721 : Int) (p0_01 : Int) (p0_11 : Int) (p0_21 : Int) (p0_31 : ByteArray) (p0_41 : ByteArray) (p0_51 : ByteArray) (p0_61 : ByteArray) (p0_71 : (List Int)) : Option (((Bool × Unit) × ((Int × (Int × (Int × (ByteArray × (ByteArray × (ByteArray × (ByteArray × ((List Int) × Unit)))))))) × Unit)) ⊕ ((Unit × Unit) × ((Int × (Int × (Int × (ByteArray × (ByteArray × (ByteArray × (ByteArray × ((List Int) × Unit)))))))) × Unit))) :=
  loopK Tryz.prog spec_GoodHeader.call spec_GoodHeader.qt spec_GoodHeader.H (codeAt (bodyOf Tryz.f22) [1, 1, 1, 0, 1, 0, 1, 1, 1, 0, 0, 1, 0, 0]) 1 spec_GoodHeader.l1.hd spec_GoodHeader.l1.outs [(70, .rows false (.int .i64) t701), (71, .v (.int .i64 t711))] N (((), (t721, ())), ((p0_01, (p0_11, (p0_21, (p0_31, (p0_41, (p0_51, (p0_61, (p0_71, ())))))))), ()))
noncomputable def spec_GoodHeader.l2.hd : Alt := ⟨.normal, [70, 71], [1, 72], [.one (.ptr 0 0), ak_i], [.cells [ck_i, ck_i, ck_i, ck_s, ck_s, ck_s, ck_s, .sh (.rows (.int .i64))]], [⟨[], [], [], []⟩]⟩
noncomputable def spec_GoodHeader.l2.outs : List Alt := [⟨.ret, [], [2], [ak_b], [.cells [ck_i, ck_i, ck_i, ck_s, ck_s, ck_s, ck_s, .sh (.rows (.int .i64))]], [⟨[], [], [], []⟩]⟩, ⟨(.exit 1), [], [1], [.one (.ptr 0 0)], [.cells [ck_i, ck_i, ck_i, ck_s, ck_s, ck_s, ck_s, .sh (.rows (.int .i64))]], [⟨[], [], [], []⟩]⟩]
noncomputable def spec_GoodHeader.l2 (N : Nat) (t702 : (List Int)) (t712 : Int) (t722 : Int) (p0_02 : Int) (p0_12 : Int) (p0_22 : Int) (p0_32 : ByteArray) (p0_42 : ByteArray) (p0_52 : ByteArray) (p0_62 : ByteArray) (p0_72 : (List Int)) : Option (((Bool × Unit) × ((Int × (Int × (Int × (ByteArray × (ByteArray × (ByteArray × (ByteArray × ((List Int) × Unit)))))))) × Unit)) ⊕ ((Unit × Unit) × ((Int × (Int × (Int × (ByteArray × (ByteArray × (ByteArray × (ByteArray × ((List Int) × Unit)))))))) × Unit))) :=
  loopK Tryz.prog spec_GoodHeader.call spec_GoodHeader.qt spec_GoodHeader.H (codeAt (bodyOf Tryz.f22) [1, 1, 1, 0, 1, 0, 1, 1, 1, 0, 0, 1, 0, 0]) 1 spec_GoodHeader.l2.hd spec_GoodHeader.l2.outs [(70, .rows false (.int .i64) t702), (71, .v (.int .i64 t712))] N (((), (t722, ())), ((p0_02, (p0_12, (p0_22, (p0_32, (p0_42, (p0_52, (p0_62, (p0_72, ())))))))), ()))
noncomputable def spec_GoodHeader.l3.hd : Alt := ⟨.normal, [70, 71], [1, 72], [.one (.ptr 0 0), ak_i], [.cells [ck_i, ck_i, ck_i, ck_s, ck_s, ck_s, ck_s, .sh (.rows (.int .i64))]], [⟨[], [], [], []⟩]⟩
noncomputable def spec_GoodHeader.l3.outs : List Alt := [⟨.ret, [], [2], [ak_b], [.cells [ck_i, ck_i, ck_i, ck_s, ck_s, ck_s, ck_s, .sh (.rows (.int .i64))]], [⟨[], [], [], []⟩]⟩, ⟨(.exit 1), [], [1], [.one (.ptr 0 0)], [.cells [ck_i, ck_i, ck_i, ck_s, ck_s, ck_s, ck_s, .sh (.rows (.int .i64))]], [⟨[], [], [], []⟩]⟩]
noncomputable def spec_GoodHeader.l3 (N : Nat) (t703 : (List Int)) (t713 : Int) (t723 : Int) (p0_03 : Int) (p0_13 : Int) (p0_23 : Int) (p0_33 : ByteArray) (p0_43 : ByteArray) (p0_53 : ByteArray) (p0_63 : ByteArray) (p0_73 : (List Int)) : Option (((Bool × Unit) × ((Int × (Int × (Int × (ByteArray × (ByteArray × (ByteArray × (ByteArray × ((List Int) × Unit)))))))) × Unit)) ⊕ ((Unit × Unit) × ((Int × (Int × (Int × (ByteArray × (ByteArray × (ByteArray × (ByteArray × ((List Int) × Unit)))))))) × Unit))) :=
  loopK Tryz.prog spec_GoodHeader.call spec_GoodHeader.qt spec_GoodHeader.H (codeAt (bodyOf Tryz.f22) [1, 1, 1, 0, 1, 0, 1, 1, 1, 0, 0, 1, 0, 0]) 1 spec_GoodHeader.l3.hd spec_GoodHeader.l3.outs [(70, .rows false (.int .i64) t703), (71, .v (.int .i64 t713))] N (((), (t723, ())), ((p0_03, (p0_13, (p0_23, (p0_33, (p0_43, (p0_53, (p0_63, (p0_73, ())))))))), ()))
noncomputable def spec_GoodHeader (N : Nat) (G_0 : Int) (G_1 : Int) (G_2 : Int) (G_3 : ByteArray) (G_4 : ByteArray) (G_5 : ByteArray) (G_6 : ByteArray) (G_7 : (List Int)) : Option ((Bool × Unit) × Unit) :=
  ofFn Tryz.prog spec_GoodHeader.call spec_GoodHeader.qt spec_GoodHeader.H N Tryz.f22 [.agg [ck_i, ck_i, ck_i, ck_s, ck_s, ck_s, ck_s, .sh (.rows (.int .i64))]] [] [ak_b] [] [⟨[], [], [], []⟩] ((G_0, (G_1, (G_2, (G_3, (G_4, (G_5, (G_6, (G_7, ())))))))), ()) ()
noncomputable def spec_GoodHeader.S (N : Nat) : Say := ⟨false, 22, [.agg [ck_i, ck_i, ck_i, ck_s, ck_s, ck_s, ck_s, .sh (.rows (.int .i64))]], [], [ak_b], [], fun a s => spec_GoodHeader N a.1.1 a.1.2.1 a.1.2.2.1 a.1.2.2.2.1 a.1.2.2.2.2.1 a.1.2.2.2.2.2.1 a.1.2.2.2.2.2.2.1 a.1.2.2.2.2.2.2.2.1⟩
set_option maxRecDepth 100000 in
theorem spec_GoodHeader.l3.eq (N : Nat) (t703 : (List Int)) (t713 : Int) (t723 : Int) (p0_03 : Int) (p0_13 : Int) (p0_23 : Int) (p0_33 : ByteArray) (p0_43 : ByteArray) (p0_53 : ByteArray) (p0_63 : ByteArray) (p0_73 : (List Int)) : spec_GoodHeader.l3 (N + 1) t703 t713 t723 p0_03 p0_13 p0_23 p0_33 p0_43 p0_53 p0_63 p0_73 =
 sel (decide (t723 < t713))
  (
  chk ((decide (0 ≤ t723)) && (decide (t723 < (t703.length : Int)))) (
  andK (spec_l2Word N (t703.getD (Int.toNat t723) 0)) fun u30 =>
  sel (!u30.1.1)
   (
   some (.inl ((false, ()), ((p0_03, (p0_13, (p0_23, (p0_33, (p0_43, (p0_53, (p0_63, (p0_73, ())))))))), ()))))
   (
   spec_GoodHeader.l3 N t703 t713 (IntKind.i64.wrap (t723 + 1)) p0_03 p0_13 p0_23 p0_33 p0_43 p0_53 p0_63 p0_73)))
  (
  some (.inr ((((), ()), ((p0_03, (p0_13, (p0_23, (p0_33, (p0_43, (p0_53, (p0_63, (p0_73, ())))))))), ()))))) := by kernel_rfl
set_option maxRecDepth 100000 in
theorem spec_GoodHeader.l2.eq (N : Nat) (t702 : (List Int)) (t712 : Int) (t722 : Int) (p0_02 : Int) (p0_12 : Int) (p0_22 : Int) (p0_32 : ByteArray) (p0_42 : ByteArray) (p0_52 : ByteArray) (p0_62 : ByteArray) (p0_72 : (List Int)) : spec_GoodHeader.l2 (N + 1) t702 t712 t722 p0_02 p0_12 p0_22 p0_32 p0_42 p0_52 p0_62 p0_72 =
 sel (decide (t722 < t712))
  (
  chk ((decide (0 ≤ t722)) && (decide (t722 < (t702.length : Int)))) (
  andK (spec_l2Word N (t702.getD (Int.toNat t722) 0)) fun u22 =>
  sel (!u22.1.1)
   (
   some (.inl ((false, ()), ((p0_02, (p0_12, (p0_22, (p0_32, (p0_42, (p0_52, (p0_62, (p0_72, ())))))))), ()))))
   (
   spec_GoodHeader.l2 N t702 t712 (IntKind.i64.wrap (t722 + 1)) p0_02 p0_12 p0_22 p0_32 p0_42 p0_52 p0_62 p0_72)))
  (
  some (.inr ((((), ()), ((p0_02, (p0_12, (p0_22, (p0_32, (p0_42, (p0_52, (p0_62, (p0_72, ())))))))), ()))))) := by kernel_rfl
set_option maxRecDepth 100000 in
theorem spec_GoodHeader.l1.eq (N : Nat) (t701 : (List Int)) (t711 : Int) (t721 : Int) (p0_01 : Int) (p0_11 : Int) (p0_21 : Int) (p0_31 : ByteArray) (p0_41 : ByteArray) (p0_51 : ByteArray) (p0_61 : ByteArray) (p0_71 : (List Int)) : spec_GoodHeader.l1 (N + 1) t701 t711 t721 p0_01 p0_11 p0_21 p0_31 p0_41 p0_51 p0_61 p0_71 =
 sel (decide (t721 < t711))
  (
  chk ((decide (0 ≤ t721)) && (decide (t721 < (t701.length : Int)))) (
  andK (spec_l2Word N (t701.getD (Int.toNat t721) 0)) fun u14 =>
  sel (!u14.1.1)
   (
   some (.inl ((false, ()), ((p0_01, (p0_11, (p0_21, (p0_31, (p0_41, (p0_51, (p0_61, (p0_71, ())))))))), ()))))
   (
   spec_GoodHeader.l1 N t701 t711 (IntKind.i64.wrap (t721 + 1)) p0_01 p0_11 p0_21 p0_31 p0_41 p0_51 p0_61 p0_71)))
  (
  some (.inr ((((), ()), ((p0_01, (p0_11, (p0_21, (p0_31, (p0_41, (p0_51, (p0_61, (p0_71, ())))))))), ()))))) := by kernel_rfl
set_option maxRecDepth 100000 in
theorem spec_GoodHeader.l0.eq (N : Nat) (t70 : (List Int)) (t71 : Int) (t72 : Int) (p0_0 : Int) (p0_1 : Int) (p0_2 : Int) (p0_3 : ByteArray) (p0_4 : ByteArray) (p0_5 : ByteArray) (p0_6 : ByteArray) (p0_7 : (List Int)) : spec_GoodHeader.l0 (N + 1) t70 t71 t72 p0_0 p0_1 p0_2 p0_3 p0_4 p0_5 p0_6 p0_7 =
 sel (decide (t72 < t71))
  (
  chk ((decide (0 ≤ t72)) && (decide (t72 < (t70.length : Int)))) (
  andK (spec_l2Word N (t70.getD (Int.toNat t72) 0)) fun u6 =>
  sel (!u6.1.1)
   (
   some (.inl ((false, ()), ((p0_0, (p0_1, (p0_2, (p0_3, (p0_4, (p0_5, (p0_6, (p0_7, ())))))))), ()))))
   (
   spec_GoodHeader.l0 N t70 t71 (IntKind.i64.wrap (t72 + 1)) p0_0 p0_1 p0_2 p0_3 p0_4 p0_5 p0_6 p0_7)))
  (
  some (.inr ((((), ()), ((p0_0, (p0_1, (p0_2, (p0_3, (p0_4, (p0_5, (p0_6, (p0_7, ())))))))), ()))))) := by kernel_rfl
set_option maxRecDepth 100000 in
theorem spec_GoodHeader.eq (N : Nat) (G_0 : Int) (G_1 : Int) (G_2 : Int) (G_3 : ByteArray) (G_4 : ByteArray) (G_5 : ByteArray) (G_6 : ByteArray) (G_7 : (List Int)) : spec_GoodHeader N G_0 G_1 G_2 G_3 G_4 G_5 G_6 G_7 =
 andK (α := ((Unit × (Bool × Unit)) × ((Int × (Int × (Int × (ByteArray × (ByteArray × (ByteArray × (ByteArray × ((List Int) × Unit)))))))) × Unit))) (
  sel (decide (20 < (G_3.size : Int)))
   (
   some ((((), (true, ())), ((G_0, (G_1, (G_2, (G_3, (G_4, (G_5, (G_6, (G_7, ())))))))), ()))))
   (
   sel (decide (20 < (G_4.size : Int)))
    (
    some ((((), (true, ())), ((G_0, (G_1, (G_2, (G_3, (G_4, (G_5, (G_6, (G_7, ())))))))), ()))))
    (
    andK (spec_l1In N G_1 0 15) fun u1 =>
    sel (!u1.1.1)
     (
     some ((((), (true, ())), ((G_0, (G_1, (G_2, (G_3, (G_4, (G_5, (G_6, (G_7, ())))))))), ()))))
     (
     sel (decide (200 < (G_5.size : Int)))
      (
      some ((((), (true, ())), ((G_0, (G_1, (G_2, (G_3, (G_4, (G_5, (G_6, (G_7, ())))))))), ()))))
      (
      some ((((), ((decide (1200 < (G_6.size : Int))), ())), ((G_0, (G_1, (G_2, (G_3, (G_4, (G_5, (G_6, (G_7, ())))))))), ())))))))) fun j2 =>
 sel j2.1.2.1
  (
  some ((false, ()), ()))
  (
  andK (α := ((Unit × (Bool × Unit)) × ((Int × (Int × (Int × (ByteArray × (ByteArray × (ByteArray × (ByteArray × ((List Int) × Unit)))))))) × Unit))) (
   sel (!(decide (j2.2.1.1 = 0)))
    (
    sel (!(decide (j2.2.1.2.2.2.2.2.1 = (⟨#[]⟩ : ByteArray))))
     (
     some ((((), (true, ())), ((j2.2.1.1, (j2.2.1.2.1, (j2.2.1.2.2.1, (j2.2.1.2.2.2.1, (j2.2.1.2.2.2.2.1, (j2.2.1.2.2.2.2.2.1, (j2.2.1.2.2.2.2.2.2.1, (j2.2.1.2.2.2.2.2.2.2.1, ())))))))), ()))))
     (
     sel (!(decide (j2.2.1.1 = 4)))
      (
      some ((((), ((decide (0 < (j2.2.1.2.2.2.2.2.2.2.1.length : Int))), ())), ((j2.2.1.1, (j2.2.1.2.1, (j2.2.1.2.2.1, (j2.2.1.2.2.2.1, (j2.2.1.2.2.2.2.1, (j2.2.1.2.2.2.2.2.1, (j2.2.1.2.2.2.2.2.2.1, (j2.2.1.2.2.2.2.2.2.2.1, ())))))))), ()))))
      (
      some ((((), (false, ())), ((j2.2.1.1, (j2.2.1.2.1, (j2.2.1.2.2.1, (j2.2.1.2.2.2.1, (j2.2.1.2.2.2.2.1, (j2.2.1.2.2.2.2.2.1, (j2.2.1.2.2.2.2.2.2.1, (j2.2.1.2.2.2.2.2.2.2.1, ())))))))), ()))))))
    (
    sel (!(decide (j2.2.1.1 = 4)))
     (
     some ((((), ((decide (0 < (j2.2.1.2.2.2.2.2.2.2.1.length : Int))), ())), ((j2.2.1.1, (j2.2.1.2.1, (j2.2.1.2.2.1, (j2.2.1.2.2.2.1, (j2.2.1.2.2.2.2.1, (j2.2.1.2.2.2.2.2.1, (j2.2.1.2.2.2.2.2.2.1, (j2.2.1.2.2.2.2.2.2.2.1, ())))))))), ()))))
     (
     some ((((), (false, ())), ((j2.2.1.1, (j2.2.1.2.1, (j2.2.1.2.2.1, (j2.2.1.2.2.2.1, (j2.2.1.2.2.2.2.1, (j2.2.1.2.2.2.2.2.1, (j2.2.1.2.2.2.2.2.2.1, (j2.2.1.2.2.2.2.2.2.2.1, ())))))))), ())))))) fun j3 =>
  sel j3.1.2.1
   (
   some ((false, ()), ()))
   (
   andK (α := (((Bool × Unit) × ((Int × (Int × (Int × (ByteArray × (ByteArray × (ByteArray × (ByteArray × ((List Int) × Unit)))))))) × Unit)) ⊕ ((Unit × Unit) × ((Int × (Int × (Int × (ByteArray × (ByteArray × (ByteArray × (ByteArray × ((List Int) × Unit)))))))) × Unit)))) (
    sel (decide (j3.2.1.1 = 0))
     (
     sel (decide (j3.2.1.1 = 0))
      (
      andK (α := ((Bool × Unit) × ((Int × (Int × (Int × (ByteArray × (ByteArray × (ByteArray × (ByteArray × ((List Int) × Unit)))))))) × Unit))) (
       andK (spec_l1In N j3.2.1.2.2.1 1 4294967295) fun u4 =>
       sel u4.1.1
        (
        some ((((!(decide (j3.2.1.2.2.2.2.2.2.1 = (⟨#[]⟩ : ByteArray)))), ()), ((j3.2.1.1, (j3.2.1.2.1, (j3.2.1.2.2.1, (j3.2.1.2.2.2.1, (j3.2.1.2.2.2.2.1, (j3.2.1.2.2.2.2.2.1, (j3.2.1.2.2.2.2.2.2.1, (j3.2.1.2.2.2.2.2.2.2.1, ())))))))), ()))))
        (
        some (((false, ()), ((j3.2.1.1, (j3.2.1.2.1, (j3.2.1.2.2.1, (j3.2.1.2.2.2.1, (j3.2.1.2.2.2.2.1, (j3.2.1.2.2.2.2.2.1, (j3.2.1.2.2.2.2.2.2.1, (j3.2.1.2.2.2.2.2.2.2.1, ())))))))), ()))))) fun j5 =>
      some (.inl ((j5.1.1, ()), ((j5.2.1.1, (j5.2.1.2.1, (j5.2.1.2.2.1, (j5.2.1.2.2.2.1, (j5.2.1.2.2.2.2.1, (j5.2.1.2.2.2.2.2.1, (j5.2.1.2.2.2.2.2.2.1, (j5.2.1.2.2.2.2.2.2.2.1, ())))))))), ()))))
      (
      sel (decide (j3.2.1.1 = 4))
       (
       andK (spec_GoodHeader.l0 N j3.2.1.2.2.2.2.2.2.2.1 (j3.2.1.2.2.2.2.2.2.2.1.length : Int) 0 j3.2.1.1 j3.2.1.2.1 j3.2.1.2.2.1 j3.2.1.2.2.2.1 j3.2.1.2.2.2.2.1 j3.2.1.2.2.2.2.2.1 j3.2.1.2.2.2.2.2.2.1 j3.2.1.2.2.2.2.2.2.2.1) fun l7 =>
       orK l7 (fun x8 =>
        some (.inl ((x8.1.1, ()), ((x8.2.1.1, (x8.2.1.2.1, (x8.2.1.2.2.1, (x8.2.1.2.2.2.1, (x8.2.1.2.2.2.2.1, (x8.2.1.2.2.2.2.2.1, (x8.2.1.2.2.2.2.2.2.1, (x8.2.1.2.2.2.2.2.2.2.1, ())))))))), ()))))
        (fun x9 =>
        andK (α := ((Bool × Unit) × ((Int × (Int × (Int × (ByteArray × (ByteArray × (ByteArray × (ByteArray × ((List Int) × Unit)))))))) × Unit))) (
         sel (decide (x9.2.1.2.2.1 = 0))
          (
          sel (decide (x9.2.1.2.2.2.2.2.2.1 = (⟨#[]⟩ : ByteArray)))
           (
           andK (spec_l1In N (x9.2.1.2.2.2.2.2.2.2.1.length : Int) 1 20) fun u10 =>
           some (((u10.1.1, ()), ((x9.2.1.1, (x9.2.1.2.1, (x9.2.1.2.2.1, (x9.2.1.2.2.2.1, (x9.2.1.2.2.2.2.1, (x9.2.1.2.2.2.2.2.1, (x9.2.1.2.2.2.2.2.2.1, (x9.2.1.2.2.2.2.2.2.2.1, ())))))))), ()))))
           (
           some (((false, ()), ((x9.2.1.1, (x9.2.1.2.1, (x9.2.1.2.2.1, (x9.2.1.2.2.2.1, (x9.2.1.2.2.2.2.1, (x9.2.1.2.2.2.2.2.1, (x9.2.1.2.2.2.2.2.2.1, (x9.2.1.2.2.2.2.2.2.2.1, ())))))))), ())))))
          (
          some (((false, ()), ((x9.2.1.1, (x9.2.1.2.1, (x9.2.1.2.2.1, (x9.2.1.2.2.2.1, (x9.2.1.2.2.2.2.1, (x9.2.1.2.2.2.2.2.1, (x9.2.1.2.2.2.2.2.2.1, (x9.2.1.2.2.2.2.2.2.2.1, ())))))))), ()))))) fun j11 =>
        some (.inl ((j11.1.1, ()), ((j11.2.1.1, (j11.2.1.2.1, (j11.2.1.2.2.1, (j11.2.1.2.2.2.1, (j11.2.1.2.2.2.2.1, (j11.2.1.2.2.2.2.2.1, (j11.2.1.2.2.2.2.2.2.1, (j11.2.1.2.2.2.2.2.2.2.1, ())))))))), ())))))
       (
       some (.inr ((((), ()), ((j3.2.1.1, (j3.2.1.2.1, (j3.2.1.2.2.1, (j3.2.1.2.2.2.1, (j3.2.1.2.2.2.2.1, (j3.2.1.2.2.2.2.2.1, (j3.2.1.2.2.2.2.2.2.1, (j3.2.1.2.2.2.2.2.2.2.1, ())))))))), ())))))))
     (
     sel (decide (j3.2.1.1 = 1))
      (
      sel (decide (j3.2.1.1 = 1))
       (
       andK (α := ((Bool × Unit) × ((Int × (Int × (Int × (ByteArray × (ByteArray × (ByteArray × (ByteArray × ((List Int) × Unit)))))))) × Unit))) (
        andK (spec_l1In N j3.2.1.2.2.1 1 4294967295) fun u12 =>
        sel u12.1.1
         (
         some ((((!(decide (j3.2.1.2.2.2.2.2.2.1 = (⟨#[]⟩ : ByteArray)))), ()), ((j3.2.1.1, (j3.2.1.2.1, (j3.2.1.2.2.1, (j3.2.1.2.2.2.1, (j3.2.1.2.2.2.2.1, (j3.2.1.2.2.2.2.2.1, (j3.2.1.2.2.2.2.2.2.1, (j3.2.1.2.2.2.2.2.2.2.1, ())))))))), ()))))
         (
         some (((false, ()), ((j3.2.1.1, (j3.2.1.2.1, (j3.2.1.2.2.1, (j3.2.1.2.2.2.1, (j3.2.1.2.2.2.2.1, (j3.2.1.2.2.2.2.2.1, (j3.2.1.2.2.2.2.2.2.1, (j3.2.1.2.2.2.2.2.2.2.1, ())))))))), ()))))) fun j13 =>
       some (.inl ((j13.1.1, ()), ((j13.2.1.1, (j13.2.1.2.1, (j13.2.1.2.2.1, (j13.2.1.2.2.2.1, (j13.2.1.2.2.2.2.1, (j13.2.1.2.2.2.2.2.1, (j13.2.1.2.2.2.2.2.2.1, (j13.2.1.2.2.2.2.2.2.2.1, ())))))))), ()))))
       (
       sel (decide (j3.2.1.1 = 4))
        (
        andK (spec_GoodHeader.l1 N j3.2.1.2.2.2.2.2.2.2.1 (j3.2.1.2.2.2.2.2.2.2.1.length : Int) 0 j3.2.1.1 j3.2.1.2.1 j3.2.1.2.2.1 j3.2.1.2.2.2.1 j3.2.1.2.2.2.2.1 j3.2.1.2.2.2.2.2.1 j3.2.1.2.2.2.2.2.2.1 j3.2.1.2.2.2.2.2.2.2.1) fun l15 =>
        orK l15 (fun x16 =>
         some (.inl ((x16.1.1, ()), ((x16.2.1.1, (x16.2.1.2.1, (x16.2.1.2.2.1, (x16.2.1.2.2.2.1, (x16.2.1.2.2.2.2.1, (x16.2.1.2.2.2.2.2.1, (x16.2.1.2.2.2.2.2.2.1, (x16.2.1.2.2.2.2.2.2.2.1, ())))))))), ()))))
         (fun x17 =>
         andK (α := ((Bool × Unit) × ((Int × (Int × (Int × (ByteArray × (ByteArray × (ByteArray × (ByteArray × ((List Int) × Unit)))))))) × Unit))) (
          sel (decide (x17.2.1.2.2.1 = 0))
           (
           sel (decide (x17.2.1.2.2.2.2.2.2.1 = (⟨#[]⟩ : ByteArray)))
            (
            andK (spec_l1In N (x17.2.1.2.2.2.2.2.2.2.1.length : Int) 1 20) fun u18 =>
            some (((u18.1.1, ()), ((x17.2.1.1, (x17.2.1.2.1, (x17.2.1.2.2.1, (x17.2.1.2.2.2.1, (x17.2.1.2.2.2.2.1, (x17.2.1.2.2.2.2.2.1, (x17.2.1.2.2.2.2.2.2.1, (x17.2.1.2.2.2.2.2.2.2.1, ())))))))), ()))))
            (
            some (((false, ()), ((x17.2.1.1, (x17.2.1.2.1, (x17.2.1.2.2.1, (x17.2.1.2.2.2.1, (x17.2.1.2.2.2.2.1, (x17.2.1.2.2.2.2.2.1, (x17.2.1.2.2.2.2.2.2.1, (x17.2.1.2.2.2.2.2.2.2.1, ())))))))), ())))))
           (
           some (((false, ()), ((x17.2.1.1, (x17.2.1.2.1, (x17.2.1.2.2.1, (x17.2.1.2.2.2.1, (x17.2.1.2.2.2.2.1, (x17.2.1.2.2.2.2.2.1, (x17.2.1.2.2.2.2.2.2.1, (x17.2.1.2.2.2.2.2.2.2.1, ())))))))), ()))))) fun j19 =>
         some (.inl ((j19.1.1, ()), ((j19.2.1.1, (j19.2.1.2.1, (j19.2.1.2.2.1, (j19.2.1.2.2.2.1, (j19.2.1.2.2.2.2.1, (j19.2.1.2.2.2.2.2.1, (j19.2.1.2.2.2.2.2.2.1, (j19.2.1.2.2.2.2.2.2.2.1, ())))))))), ())))))
        (
        some (.inr ((((), ()), ((j3.2.1.1, (j3.2.1.2.1, (j3.2.1.2.2.1, (j3.2.1.2.2.2.1, (j3.2.1.2.2.2.2.1, (j3.2.1.2.2.2.2.2.1, (j3.2.1.2.2.2.2.2.2.1, (j3.2.1.2.2.2.2.2.2.2.1, ())))))))), ())))))))
      (
      sel (decide (j3.2.1.1 = 2))
       (
       sel (decide (j3.2.1.1 = 2))
        (
        andK (α := ((Bool × Unit) × ((Int × (Int × (Int × (ByteArray × (ByteArray × (ByteArray × (ByteArray × ((List Int) × Unit)))))))) × Unit))) (
         andK (spec_l1In N j3.2.1.2.2.1 1 4294967295) fun u20 =>
         sel u20.1.1
          (
          some ((((!(decide (j3.2.1.2.2.2.2.2.2.1 = (⟨#[]⟩ : ByteArray)))), ()), ((j3.2.1.1, (j3.2.1.2.1, (j3.2.1.2.2.1, (j3.2.1.2.2.2.1, (j3.2.1.2.2.2.2.1, (j3.2.1.2.2.2.2.2.1, (j3.2.1.2.2.2.2.2.2.1, (j3.2.1.2.2.2.2.2.2.2.1, ())))))))), ()))))
          (
          some (((false, ()), ((j3.2.1.1, (j3.2.1.2.1, (j3.2.1.2.2.1, (j3.2.1.2.2.2.1, (j3.2.1.2.2.2.2.1, (j3.2.1.2.2.2.2.2.1, (j3.2.1.2.2.2.2.2.2.1, (j3.2.1.2.2.2.2.2.2.2.1, ())))))))), ()))))) fun j21 =>
        some (.inl ((j21.1.1, ()), ((j21.2.1.1, (j21.2.1.2.1, (j21.2.1.2.2.1, (j21.2.1.2.2.2.1, (j21.2.1.2.2.2.2.1, (j21.2.1.2.2.2.2.2.1, (j21.2.1.2.2.2.2.2.2.1, (j21.2.1.2.2.2.2.2.2.2.1, ())))))))), ()))))
        (
        sel (decide (j3.2.1.1 = 4))
         (
         andK (spec_GoodHeader.l2 N j3.2.1.2.2.2.2.2.2.2.1 (j3.2.1.2.2.2.2.2.2.2.1.length : Int) 0 j3.2.1.1 j3.2.1.2.1 j3.2.1.2.2.1 j3.2.1.2.2.2.1 j3.2.1.2.2.2.2.1 j3.2.1.2.2.2.2.2.1 j3.2.1.2.2.2.2.2.2.1 j3.2.1.2.2.2.2.2.2.2.1) fun l23 =>
         orK l23 (fun x24 =>
          some (.inl ((x24.1.1, ()), ((x24.2.1.1, (x24.2.1.2.1, (x24.2.1.2.2.1, (x24.2.1.2.2.2.1, (x24.2.1.2.2.2.2.1, (x24.2.1.2.2.2.2.2.1, (x24.2.1.2.2.2.2.2.2.1, (x24.2.1.2.2.2.2.2.2.2.1, ())))))))), ()))))
          (fun x25 =>
          andK (α := ((Bool × Unit) × ((Int × (Int × (Int × (ByteArray × (ByteArray × (ByteArray × (ByteArray × ((List Int) × Unit)))))))) × Unit))) (
           sel (decide (x25.2.1.2.2.1 = 0))
            (
            sel (decide (x25.2.1.2.2.2.2.2.2.1 = (⟨#[]⟩ : ByteArray)))
             (
             andK (spec_l1In N (x25.2.1.2.2.2.2.2.2.2.1.length : Int) 1 20) fun u26 =>
             some (((u26.1.1, ()), ((x25.2.1.1, (x25.2.1.2.1, (x25.2.1.2.2.1, (x25.2.1.2.2.2.1, (x25.2.1.2.2.2.2.1, (x25.2.1.2.2.2.2.2.1, (x25.2.1.2.2.2.2.2.2.1, (x25.2.1.2.2.2.2.2.2.2.1, ())))))))), ()))))
             (
             some (((false, ()), ((x25.2.1.1, (x25.2.1.2.1, (x25.2.1.2.2.1, (x25.2.1.2.2.2.1, (x25.2.1.2.2.2.2.1, (x25.2.1.2.2.2.2.2.1, (x25.2.1.2.2.2.2.2.2.1, (x25.2.1.2.2.2.2.2.2.2.1, ())))))))), ())))))
            (
            some (((false, ()), ((x25.2.1.1, (x25.2.1.2.1, (x25.2.1.2.2.1, (x25.2.1.2.2.2.1, (x25.2.1.2.2.2.2.1, (x25.2.1.2.2.2.2.2.1, (x25.2.1.2.2.2.2.2.2.1, (x25.2.1.2.2.2.2.2.2.2.1, ())))))))), ()))))) fun j27 =>
          some (.inl ((j27.1.1, ()), ((j27.2.1.1, (j27.2.1.2.1, (j27.2.1.2.2.1, (j27.2.1.2.2.2.1, (j27.2.1.2.2.2.2.1, (j27.2.1.2.2.2.2.2.1, (j27.2.1.2.2.2.2.2.2.1, (j27.2.1.2.2.2.2.2.2.2.1, ())))))))), ())))))
         (
         some (.inr ((((), ()), ((j3.2.1.1, (j3.2.1.2.1, (j3.2.1.2.2.1, (j3.2.1.2.2.2.1, (j3.2.1.2.2.2.2.1, (j3.2.1.2.2.2.2.2.1, (j3.2.1.2.2.2.2.2.2.1, (j3.2.1.2.2.2.2.2.2.2.1, ())))))))), ())))))))
       (
       sel (decide (j3.2.1.1 = 3))
        (
        andK (α := ((Bool × Unit) × ((Int × (Int × (Int × (ByteArray × (ByteArray × (ByteArray × (ByteArray × ((List Int) × Unit)))))))) × Unit))) (
         andK (spec_l1In N j3.2.1.2.2.1 1 4294967295) fun u28 =>
         sel u28.1.1
          (
          some ((((!(decide (j3.2.1.2.2.2.2.2.2.1 = (⟨#[]⟩ : ByteArray)))), ()), ((j3.2.1.1, (j3.2.1.2.1, (j3.2.1.2.2.1, (j3.2.1.2.2.2.1, (j3.2.1.2.2.2.2.1, (j3.2.1.2.2.2.2.2.1, (j3.2.1.2.2.2.2.2.2.1, (j3.2.1.2.2.2.2.2.2.2.1, ())))))))), ()))))
          (
          some (((false, ()), ((j3.2.1.1, (j3.2.1.2.1, (j3.2.1.2.2.1, (j3.2.1.2.2.2.1, (j3.2.1.2.2.2.2.1, (j3.2.1.2.2.2.2.2.1, (j3.2.1.2.2.2.2.2.2.1, (j3.2.1.2.2.2.2.2.2.2.1, ())))))))), ()))))) fun j29 =>
        some (.inl ((j29.1.1, ()), ((j29.2.1.1, (j29.2.1.2.1, (j29.2.1.2.2.1, (j29.2.1.2.2.2.1, (j29.2.1.2.2.2.2.1, (j29.2.1.2.2.2.2.2.1, (j29.2.1.2.2.2.2.2.2.1, (j29.2.1.2.2.2.2.2.2.2.1, ())))))))), ()))))
        (
        sel (decide (j3.2.1.1 = 4))
         (
         andK (spec_GoodHeader.l3 N j3.2.1.2.2.2.2.2.2.2.1 (j3.2.1.2.2.2.2.2.2.2.1.length : Int) 0 j3.2.1.1 j3.2.1.2.1 j3.2.1.2.2.1 j3.2.1.2.2.2.1 j3.2.1.2.2.2.2.1 j3.2.1.2.2.2.2.2.1 j3.2.1.2.2.2.2.2.2.1 j3.2.1.2.2.2.2.2.2.2.1) fun l31 =>
         orK l31 (fun x32 =>
          some (.inl ((x32.1.1, ()), ((x32.2.1.1, (x32.2.1.2.1, (x32.2.1.2.2.1, (x32.2.1.2.2.2.1, (x32.2.1.2.2.2.2.1, (x32.2.1.2.2.2.2.2.1, (x32.2.1.2.2.2.2.2.2.1, (x32.2.1.2.2.2.2.2.2.2.1, ())))))))), ()))))
          (fun x33 =>
          andK (α := ((Bool × Unit) × ((Int × (Int × (Int × (ByteArray × (ByteArray × (ByteArray × (ByteArray × ((List Int) × Unit)))))))) × Unit))) (
           sel (decide (x33.2.1.2.2.1 = 0))
            (
            sel (decide (x33.2.1.2.2.2.2.2.2.1 = (⟨#[]⟩ : ByteArray)))
             (
             andK (spec_l1In N (x33.2.1.2.2.2.2.2.2.2.1.length : Int) 1 20) fun u34 =>
             some (((u34.1.1, ()), ((x33.2.1.1, (x33.2.1.2.1, (x33.2.1.2.2.1, (x33.2.1.2.2.2.1, (x33.2.1.2.2.2.2.1, (x33.2.1.2.2.2.2.2.1, (x33.2.1.2.2.2.2.2.2.1, (x33.2.1.2.2.2.2.2.2.2.1, ())))))))), ()))))
             (
             some (((false, ()), ((x33.2.1.1, (x33.2.1.2.1, (x33.2.1.2.2.1, (x33.2.1.2.2.2.1, (x33.2.1.2.2.2.2.1, (x33.2.1.2.2.2.2.2.1, (x33.2.1.2.2.2.2.2.2.1, (x33.2.1.2.2.2.2.2.2.2.1, ())))))))), ())))))
            (
            some (((false, ()), ((x33.2.1.1, (x33.2.1.2.1, (x33.2.1.2.2.1, (x33.2.1.2.2.2.1, (x33.2.1.2.2.2.2.1, (x33.2.1.2.2.2.2.2.1, (x33.2.1.2.2.2.2.2.2.1, (x33.2.1.2.2.2.2.2.2.2.1, ())))))))), ()))))) fun j35 =>
          some (.inl ((j35.1.1, ()), ((j35.2.1.1, (j35.2.1.2.1, (j35.2.1.2.2.1, (j35.2.1.2.2.2.1, (j35.2.1.2.2.2.2.1, (j35.2.1.2.2.2.2.2.1, (j35.2.1.2.2.2.2.2.2.1, (j35.2.1.2.2.2.2.2.2.2.1, ())))))))), ())))))
         (
         some (.inr ((((), ()), ((j3.2.1.1, (j3.2.1.2.1, (j3.2.1.2.2.1, (j3.2.1.2.2.2.1, (j3.2.1.2.2.2.2.1, (j3.2.1.2.2.2.2.2.1, (j3.2.1.2.2.2.2.2.2.1, (j3.2.1.2.2.2.2.2.2.2.1, ())))))))), ())))))))))) fun j36 =>
   orK j36 (fun x37 =>
    some ((x37.1.1, ()), ()))
    (fun x38 =>
    sel (decide (x38.2.1.1 = 5))
     (
     sel (decide (x38.2.1.2.2.2.2.1 = (⟨#[]⟩ : ByteArray)))
      (
      some (((decide (x38.2.1.2.2.1 = 0)), ()), ()))
      (
      some ((false, ()), ())))
     (
     some ((false, ()), ()))))) := by kernel_rfl
set_option maxRecDepth 100000 in
theorem spec_GoodHeader.say (N : Nat) : SayOk Tryz.prog (spec_GoodHeader.S N) := sayOk_mk (N := N) (H := spec_GoodHeader.H) (preps := [⟨[], [], [], []⟩]) (l := spec_GoodHeader.says) (fn := Tryz.f22) (c := bodyOf Tryz.f22)
  (by kernel_rfl) (by kernel_rfl) (by kernel_rfl) (by kernel_rfl) (by kernel_rfl) (by kernel_rfl) (by kernel_rfl)
  (fun N => SayAll.cons (spec_l1In.say N) (SayAll.cons (spec_l2Word.say N) (SayAll.nil))) (fun a s => by kernel_rfl)

/-! ### loop.example/g00206/spec.l1Fixed: function 64 -/
noncomputable def spec_l1Fixed.H : Hints := hintsOf [(2000003, .loop ⟨.normal, [0], [5, 6], [.one (.own 0), ak_i], [.rows (.int .u8)], [⟨[(5, (.int .u8))], [], [], [0]⟩, ⟨[], [], [], [0]⟩]⟩ [⟨(.exit 0), [], [5], [.one (.own 0)], [.rows (.int .u8)], [⟨[], [], [], [0]⟩]⟩])]
noncomputable def spec_l1Fixed.says (N : Nat) : List Say := []
noncomputable def spec_l1Fixed.call (N : Nat) : CallK := callBy (spec_l1Fixed.says N)
noncomputable def spec_l1Fixed.qt (N : Nat) : FuncId → List PV → Sig → Cl := qtBy (spec_l1Fixed.says N)
noncomputable def spec_l1Fixed.l0.hd : Alt := ⟨.normal, [0], [5, 6], [.one (.own 0), ak_i], [.rows (.int .u8)], [⟨[(5, (.int .u8))], [], [], [0]⟩, ⟨[], [], [], [0]⟩]⟩
noncomputable def spec_l1Fixed.l0.outs : List Alt := [⟨(.exit 0), [], [5], [.one (.own 0)], [.rows (.int .u8)], [⟨[], [], [], [0]⟩]⟩]
noncomputable def spec_l1Fixed.l0 (N : Nat) (n1 : Int) (k : Int) (p0 : (List Int)) : Option ((Unit × Unit) × ((List Int) × Unit)) :=
  loopK Tryz.prog spec_l1Fixed.call spec_l1Fixed.qt spec_l1Fixed.H (codeAt (bodyOf Tryz.f64) [1, 1, 0, 1, 0, 0]) 0 spec_l1Fixed.l0.hd spec_l1Fixed.l0.outs [(0, .v (.int .i64 n1))] N (((), (k, ())), (p0, ()))
noncomputable def spec_l1Fixed (N : Nat) (n : Int) (many : Int) : Option ((ByteArray × Unit) × Unit) :=
  ofFn Tryz.prog spec_l1Fixed.call spec_l1Fixed.qt spec_l1Fixed.H N Tryz.f64 [ak_i, ak_i] [] [ak_s] [] [⟨[], [], [], []⟩] (n, (many, ())) ()
noncomputable def spec_l1Fixed.S (N : Nat) : Say := ⟨false, 64, [ak_i, ak_i], [], [ak_s], [], fun a s => spec_l1Fixed N a.1 a.2.1⟩
set_option maxRecDepth 100000 in
theorem spec_l1Fixed.l0.eq (N : Nat) (n1 : Int) (k : Int) (p0 : (List Int)) : spec_l1Fixed.l0 (N + 1) n1 k p0 =
 sel (decide (0 ≤ k))
  (
  chk (decide (0 ≤ (IntKind.u64.wrap (IntKind.i64.wrap (8 * k))))) (
  chk (decide (p0.length + 1 < most)) (
  spec_l1Fixed.l0 N n1 (IntKind.i64.wrap (k - 1)) (p0 ++ [(IntKind.u8.wrap (shrI .i64 n1 (IntKind.u64.wrap (IntKind.i64.wrap (8 * k)))))]))))
  (
  some ((((), ()), (p0, ())))) := by kernel_rfl
set_option maxRecDepth 100000 in
theorem spec_l1Fixed.eq (N : Nat) (n : Int) (many : Int) : spec_l1Fixed N n many =
 andK (spec_l1Fixed.l0 N n (IntKind.i64.wrap (many - 1)) []) fun l1 =>
 some (((strL l1.2.1), ()), ()) := by kernel_rfl
set_option maxRecDepth 100000 in
theorem spec_l1Fixed.say (N : Nat) : SayOk Tryz.prog (spec_l1Fixed.S N) := sayOk_mk (N := N) (H := spec_l1Fixed.H) (preps := [⟨[], [], [], []⟩]) (l := spec_l1Fixed.says) (fn := Tryz.f64) (c := bodyOf Tryz.f64)
  (by kernel_rfl) (by kernel_rfl) (by kernel_rfl) (by kernel_rfl) (by kernel_rfl) (by kernel_rfl) (by kernel_rfl)
  (fun N => SayAll.nil) (fun a s => by kernel_rfl)

/-! ### loop.example/g00206/spec.l2Id: function 63 -/
noncomputable def spec_l2Id.H : Hints := hintsOf []
noncomputable def spec_l2Id.says (N : Nat) : List Say := [spec_l1Fixed.S N]
noncomputable def spec_l2Id.call (N : Nat) : CallK := callBy (spec_l2Id.says N)
noncomputable def spec_l2Id.qt (N : Nat) : FuncId → List PV → Sig → Cl := qtBy (spec_l2Id.says N)
noncomputable def spec_l2Id (N : Nat) (s : ByteArray) : Option ((ByteArray × Unit) × Unit) :=
  ofFn Tryz.prog spec_l2Id.call spec_l2Id.qt spec_l2Id.H N Tryz.f63 [ak_s] [] [ak_s] [] [⟨[], [], [], []⟩] (s, ()) ()
noncomputable def spec_l2Id.S (N : Nat) : Say := ⟨false, 63, [ak_s], [], [ak_s], [], fun a s => spec_l2Id N a.1⟩
set_option maxRecDepth 100000 in
theorem spec_l2Id.eq (N : Nat) (s : ByteArray) : spec_l2Id N s =
 andK (spec_l1Fixed N (s.size : Int) 1) fun u1 =>
 chk (decide (u1.1.1.size + s.size ≤ 9223372036854775807)) (
 some (((u1.1.1 ++ s), ()), ())) := by kernel_rfl
set_option maxRecDepth 100000 in
theorem spec_l2Id.say (N : Nat) : SayOk Tryz.prog (spec_l2Id.S N) := sayOk_mk (N := N) (H := spec_l2Id.H) (preps := [⟨[], [], [], []⟩]) (l := spec_l2Id.says) (fn := Tryz.f63) (c := bodyOf Tryz.f63)
  (by kernel_rfl) (by kernel_rfl) (by kernel_rfl) (by kernel_rfl) (by kernel_rfl) (by kernel_rfl) (by kernel_rfl)
  (fun N => SayAll.cons (spec_l1Fixed.say N) (SayAll.nil)) (fun a s => by kernel_rfl)

/-! ### loop.example/g00206/spec.l1Size: function 95 -/
noncomputable def spec_l1Size.H : Hints := hintsOf []
noncomputable def spec_l1Size.says (N : Nat) : List Say := []
noncomputable def spec_l1Size.call (N : Nat) : CallK := callBy (spec_l1Size.says N)
noncomputable def spec_l1Size.qt (N : Nat) : FuncId → List PV → Sig → Cl := qtBy (spec_l1Size.says N)
noncomputable def spec_l1Size (N : Nat) (n : Int) : Option ((Int × Unit) × Unit) :=
  ofFn Tryz.prog spec_l1Size.call spec_l1Size.qt spec_l1Size.H N Tryz.f95 [ak_i] [] [ak_i] [] [⟨[], [], [], []⟩] (n, ()) ()
noncomputable def spec_l1Size.S (N : Nat) : Say := ⟨false, 95, [ak_i], [], [ak_i], [], fun a s => spec_l1Size N a.1⟩
set_option maxRecDepth 100000 in
theorem spec_l1Size.eq (N : Nat) (n : Int) : spec_l1Size N n =
 sel (decide (n < 64))
  (
  some ((1, ()), ()))
  (
  sel (decide (n < 16384))
   (
   some ((2, ()), ()))
   (
   sel (decide (n < 1073741824))
    (
    some ((4, ()), ()))
    (
    some ((8, ()), ())))) := by kernel_rfl
set_option maxRecDepth 100000 in
theorem spec_l1Size.say (N : Nat) : SayOk Tryz.prog (spec_l1Size.S N) := sayOk_mk (N := N) (H := spec_l1Size.H) (preps := [⟨[], [], [], []⟩]) (l := spec_l1Size.says) (fn := Tryz.f95) (c := bodyOf Tryz.f95)
  (by kernel_rfl) (by kernel_rfl) (by kernel_rfl) (by kernel_rfl) (by kernel_rfl) (by kernel_rfl) (by kernel_rfl)
  (fun N => SayAll.nil) (fun a s => by kernel_rfl)

/-! ### loop.example/g00206/spec.l1Var: function 65 -/
noncomputable def spec_l1Var.H : Hints := hintsOf []
noncomputable def spec_l1Var.says (N : Nat) : List Say := [spec_l1Size.S N, spec_l1Fixed.S N]
noncomputable def spec_l1Var.call (N : Nat) : CallK := callBy (spec_l1Var.says N)
noncomputable def spec_l1Var.qt (N : Nat) : FuncId → List PV → Sig → Cl := qtBy (spec_l1Var.says N)
noncomputable def spec_l1Var (N : Nat) (n : Int) : Option ((ByteArray × Unit) × Unit) :=
  ofFn Tryz.prog spec_l1Var.call spec_l1Var.qt spec_l1Var.H N Tryz.f65 [ak_i] [] [ak_s] [] [⟨[], [], [], []⟩] (n, ()) ()
noncomputable def spec_l1Var.S (N : Nat) : Say := ⟨false, 65, [ak_i], [], [ak_s], [], fun a s => spec_l1Var N a.1⟩
set_option maxRecDepth 100000 in
theorem spec_l1Var.eq (N : Nat) (n : Int) : spec_l1Var N n =
 andK (spec_l1Size N n) fun u1 =>
 sel (decide (u1.1.1 = 1))
  (
  andK (spec_l1Fixed N n 1) fun u2 =>
  some ((u2.1.1, ()), ()))
  (
  sel (decide (u1.1.1 = 2))
   (
   andK (spec_l1Fixed N (Go.bits .or .i64 n 16384) 2) fun u3 =>
   some ((u3.1.1, ()), ()))
   (
   sel (decide (u1.1.1 = 4))
    (
    andK (spec_l1Fixed N (Go.bits .or .i64 n 2147483648) 4) fun u4 =>
    some ((u4.1.1, ()), ()))
    (
    andK (spec_l1Fixed N (Go.bits .or .i64 n (-4611686018427387904)) 8) fun u5 =>
    some ((u5.1.1, ()), ())))) := by kernel_rfl
set_option maxRecDepth 100000 in
theorem spec_l1Var.say (N : Nat) : SayOk Tryz.prog (spec_l1Var.S N) := sayOk_mk (N := N) (H := spec_l1Var.H) (preps := [⟨[], [], [], []⟩]) (l := spec_l1Var.says) (fn := Tryz.f65) (c := bodyOf Tryz.f65)
  (by kernel_rfl) (by kernel_rfl) (by kernel_rfl) (by kernel_rfl) (by kernel_rfl) (by kernel_rfl) (by kernel_rfl)
  (fun N => SayAll.cons (spec_l1Size.say N) (SayAll.cons (spec_l1Fixed.say N) (SayAll.nil))) (fun a s => by kernel_rfl)

/-! ### loop.example/g00206/spec.l2Bytes: function 25 -/
noncomputable def spec_l2Bytes.H : Hints := hintsOf [(2000007, .loop ⟨.normal, [38, 39], [3, 40], [ak_s, ak_i], [.cells [ck_i, ck_i, ck_i, ck_s, ck_s, ck_s, ck_s, .sh (.rows (.int .i64))]], [⟨[], [], [], []⟩]⟩ [⟨(.exit 1), [], [3], [ak_s], [.cells [ck_i, ck_i, ck_i, ck_s, ck_s, ck_s, ck_s, .sh (.rows (.int .i64))]], [⟨[], [], [], []⟩]⟩]),
  (15, .join [⟨.normal, [], [1, 6], [.one (.ptr 0 0), ak_s], [.cells [ck_i, ck_i, ck_i, ck_s, ck_s, ck_s, ck_s, .sh (.rows (.int .i64))]], [⟨[], [], [], []⟩]⟩])]
noncomputable def spec_l2Bytes.says (N : Nat) : List Say := [spec_l1Fixed.S N, spec_l2Id.S N, spec_l1Var.S N]
noncomputable def spec_l2Bytes.call (N : Nat) : CallK := callBy (spec_l2Bytes.says N)
noncomputable def spec_l2Bytes.qt (N : Nat) : FuncId → List PV → Sig → Cl := qtBy (spec_l2Bytes.says N)
noncomputable def spec_l2Bytes.l0.hd : Alt := ⟨.normal, [38, 39], [3, 40], [ak_s, ak_i], [.cells [ck_i, ck_i, ck_i, ck_s, ck_s, ck_s, ck_s, .sh (.rows (.int .i64))]], [⟨[], [], [], []⟩]⟩
noncomputable def spec_l2Bytes.l0.outs : List Alt := [⟨(.exit 1), [], [3], [ak_s], [.cells [ck_i, ck_i, ck_i, ck_s, ck_s, ck_s, ck_s, .sh (.rows (.int .i64))]], [⟨[], [], [], []⟩]⟩]
noncomputable def spec_l2Bytes.l0 (N : Nat) (t38 : (List Int)) (t39 : Int) (C : ByteArray) (t40 : Int) (p0_0 : Int) (p0_1 : Int) (p0_2 : Int) (p0_3 : ByteArray) (p0_4 : ByteArray) (p0_5 : ByteArray) (p0_6 : ByteArray) (p0_7 : (List Int)) : Option ((ByteArray × Unit) × ((Int × (Int × (Int × (ByteArray × (ByteArray × (ByteArray × (ByteArray × ((List Int) × Unit)))))))) × Unit)) :=
  loopK Tryz.prog spec_l2Bytes.call spec_l2Bytes.qt spec_l2Bytes.H (codeAt (bodyOf Tryz.f25) [1, 0, 1, 0, 1, 1, 1, 0, 1, 0, 1, 0, 0]) 1 spec_l2Bytes.l0.hd spec_l2Bytes.l0.outs [(38, .rows false (.int .i64) t38), (39, .v (.int .i64 t39))] N ((C, (t40, ())), ((p0_0, (p0_1, (p0_2, (p0_3, (p0_4, (p0_5, (p0_6, (p0_7, ())))))))), ()))
noncomputable def spec_l2Bytes (N : Nat) (G_0 : Int) (G_1 : Int) (G_2 : Int) (G_3 : ByteArray) (G_4 : ByteArray) (G_5 : ByteArray) (G_6 : ByteArray) (G_7 : (List Int)) : Option ((ByteArray × Unit) × Unit) :=
  ofFn Tryz.prog spec_l2Bytes.call spec_l2Bytes.qt spec_l2Bytes.H N Tryz.f25 [.agg [ck_i, ck_i, ck_i, ck_s, ck_s, ck_s, ck_s, .sh (.rows (.int .i64))]] [] [ak_s] [] [⟨[], [], [], []⟩] ((G_0, (G_1, (G_2, (G_3, (G_4, (G_5, (G_6, (G_7, ())))))))), ()) ()
noncomputable def spec_l2Bytes.S (N : Nat) : Say := ⟨false, 25, [.agg [ck_i, ck_i, ck_i, ck_s, ck_s, ck_s, ck_s, .sh (.rows (.int .i64))]], [], [ak_s], [], fun a s => spec_l2Bytes N a.1.1 a.1.2.1 a.1.2.2.1 a.1.2.2.2.1 a.1.2.2.2.2.1 a.1.2.2.2.2.2.1 a.1.2.2.2.2.2.2.1 a.1.2.2.2.2.2.2.2.1⟩
set_option maxRecDepth 100000 in
theorem spec_l2Bytes.l0.eq (N : Nat) (t38 : (List Int)) (t39 : Int) (C : ByteArray) (t40 : Int) (p0_0 : Int) (p0_1 : Int) (p0_2 : Int) (p0_3 : ByteArray) (p0_4 : ByteArray) (p0_5 : ByteArray) (p0_6 : ByteArray) (p0_7 : (List Int)) : spec_l2Bytes.l0 (N + 1) t38 t39 C t40 p0_0 p0_1 p0_2 p0_3 p0_4 p0_5 p0_6 p0_7 =
 sel (decide (t40 < t39))
  (
  chk ((decide (0 ≤ t40)) && (decide (t40 < (t38.length : Int)))) (
  andK (spec_l1Fixed N (t38.getD (Int.toNat t40) 0) 4) fun u6 =>
  chk (decide (C.size + u6.1.1.size ≤ 9223372036854775807)) (
  spec_l2Bytes.l0 N t38 t39 (C ++ u6.1.1) (IntKind.i64.wrap (t40 + 1)) p0_0 p0_1 p0_2 p0_3 p0_4 p0_5 p0_6 p0_7)))
  (
  some (((C, ()), ((p0_0, (p0_1, (p0_2, (p0_3, (p0_4, (p0_5, (p0_6, (p0_7, ())))))))), ())))) := by kernel_rfl
set_option maxRecDepth 100000 in
theorem spec_l2Bytes.eq (N : Nat) (G_0 : Int) (G_1 : Int) (G_2 : Int) (G_3 : ByteArray) (G_4 : ByteArray) (G_5 : ByteArray) (G_6 : ByteArray) (G_7 : (List Int)) : spec_l2Bytes N G_0 G_1 G_2 G_3 G_4 G_5 G_6 G_7 =
 sel (decide (G_0 = 5))
  (
  andK (spec_l1Fixed N (Go.bits .or .i64 64 G_1) 1) fun u1 =>
  chk (decide (u1.1.1.size + G_3.size ≤ 9223372036854775807)) (
  chk (decide ((u1.1.1 ++ G_3).size + G_6.size ≤ 9223372036854775807)) (
  some ((((u1.1.1 ++ G_3) ++ G_6), ()), ()))))
  (
  sel (decide (G_0 = 4))
   (
   andK (spec_l1Fixed N (Go.bits .or .i64 192 G_1) 1) fun u2 =>
   andK (spec_l1Fixed N 0 4) fun u3 =>
   chk (decide (u2.1.1.size + u3.1.1.size ≤ 9223372036854775807)) (
   andK (spec_l2Id N G_3) fun u4 =>
   chk (decide ((u2.1.1 ++ u3.1.1).size + u4.1.1.size ≤ 9223372036854775807)) (
   andK (spec_l2Id N G_4) fun u5 =>
   chk (decide (((u2.1.1 ++ u3.1.1) ++ u4.1.1).size + u5.1.1.size ≤ 9223372036854775807)) (
   andK (spec_l2Bytes.l0 N G_7 (G_7.length : Int) (((u2.1.1 ++ u3.1.1) ++ u4.1.1) ++ u5.1.1) 0 G_0 G_1 G_2 G_3 G_4 G_5 G_6 G_7) fun l7 =>
   some ((l7.1.1, ()), ())))))
   (
   andK (spec_l1Fixed N (Go.bits .or .i64 (Go.bits .or .i64 192 (shlI .i64 G_0 4)) G_1) 1) fun u8 =>
   andK (spec_l1Fixed N G_2 4) fun u9 =>
   chk (decide (u8.1.1.size + u9.1.1.size ≤ 9223372036854775807)) (
   andK (spec_l2Id N G_3) fun u10 =>
   chk (decide ((u8.1.1 ++ u9.1.1).size + u10.1.1.size ≤ 9223372036854775807)) (
   andK (spec_l2Id N G_4) fun u11 =>
   chk (decide (((u8.1.1 ++ u9.1.1) ++ u10.1.1).size + u11.1.1.size ≤ 9223372036854775807)) (
   andK (α := ((Unit × (ByteArray × Unit)) × ((Int × (Int × (Int × (ByteArray × (ByteArray × (ByteArray × (ByteArray × ((List Int) × Unit)))))))) × Unit))) (
    sel (decide (G_0 = 0))
     (
     andK (spec_l1Var N (G_5.size : Int)) fun u12 =>
     chk (decide (u12.1.1.size + G_5.size ≤ 9223372036854775807)) (
     chk (decide ((((u8.1.1 ++ u9.1.1) ++ u10.1.1) ++ u11.1.1).size + (u12.1.1 ++ G_5).size ≤ 9223372036854775807)) (
     some ((((), (((((u8.1.1 ++ u9.1.1) ++ u10.1.1) ++ u11.1.1) ++ (u12.1.1 ++ G_5)), ())), ((G_0, (G_1, (G_2, (G_3, (G_4, (G_5, (G_6, (G_7, ())))))))), ()))))))
     (
     some ((((), ((((u8.1.1 ++ u9.1.1) ++ u10.1.1) ++ u11.1.1), ())), ((G_0, (G_1, (G_2, (G_3, (G_4, (G_5, (G_6, (G_7, ())))))))), ()))))) fun j13 =>
   sel (!(decide (j13.2.1.1 = 3)))
    (
    andK (spec_l1Fixed N (Go.bits .or .i64 (j13.2.1.2.2.2.2.2.2.1.size : Int) 16384) 2) fun u14 =>
    chk (decide (j13.1.2.1.size + u14.1.1.size ≤ 9223372036854775807)) (
    chk (decide ((j13.1.2.1 ++ u14.1.1).size + j13.2.1.2.2.2.2.2.2.1.size ≤ 9223372036854775807)) (
    some ((((j13.1.2.1 ++ u14.1.1) ++ j13.2.1.2.2.2.2.2.2.1), ()), ()))))
    (
    chk (decide (j13.1.2.1.size + j13.2.1.2.2.2.2.2.2.1.size ≤ 9223372036854775807)) (
    some (((j13.1.2.1 ++ j13.2.1.2.2.2.2.2.2.1), ()), ())))))))) := by kernel_rfl
set_option maxRecDepth 100000 in
theorem spec_l2Bytes.say (N : Nat) : SayOk Tryz.prog (spec_l2Bytes.S N) := sayOk_mk (N := N) (H := spec_l2Bytes.H) (preps := [⟨[], [], [], []⟩]) (l := spec_l2Bytes.says) (fn := Tryz.f25) (c := bodyOf Tryz.f25)
  (by kernel_rfl) (by kernel_rfl) (by kernel_rfl) (by kernel_rfl) (by kernel_rfl) (by kernel_rfl) (by kernel_rfl)
  (fun N => SayAll.cons (spec_l1Fixed.say N) (SayAll.cons (spec_l2Id.say N) (SayAll.cons (spec_l1Var.say N) (SayAll.nil)))) (fun a s => by kernel_rfl)

/-! ### loop.example/g00206/spec.l3Mul: function 113 -/
noncomputable def spec_l3Mul.H : Hints := hintsOf [(5, .join [⟨.normal, [0, 1], [5], [.one (.sh (.int .u8))], [], [⟨[], [], [], []⟩]⟩]),
  (9, .join [⟨.normal, [1, 5], [0], [.one (.sh (.int .u8))], [], [⟨[], [], [], []⟩]⟩]),
  (2000002, .loop ⟨.normal, [], [0, 1, 5], [.one (.sh (.int .u8)), .one (.sh (.int .u8)), .one (.sh (.int .u8))], [], [⟨[], [], [], []⟩]⟩ [⟨(.exit 0), [], [5], [.one (.sh (.int .u8))], [], [⟨[], [], [], []⟩]⟩])]
noncomputable def spec_l3Mul.says (N : Nat) : List Say := []
noncomputable def spec_l3Mul.call (N : Nat) : CallK := callBy (spec_l3Mul.says N)
noncomputable def spec_l3Mul.qt (N : Nat) : FuncId → List PV → Sig → Cl := qtBy (spec_l3Mul.says N)
noncomputable def spec_l3Mul.l0.hd : Alt := ⟨.normal, [], [0, 1, 5], [.one (.sh (.int .u8)), .one (.sh (.int .u8)), .one (.sh (.int .u8))], [], [⟨[], [], [], []⟩]⟩
noncomputable def spec_l3Mul.l0.outs : List Alt := [⟨(.exit 0), [], [5], [.one (.sh (.int .u8))], [], [⟨[], [], [], []⟩]⟩]
noncomputable def spec_l3Mul.l0 (N : Nat) (a1 : Int) (b1 : Int) (out : Int) : Option ((Int × Unit) × Unit) :=
  loopK Tryz.prog spec_l3Mul.call spec_l3Mul.qt spec_l3Mul.H (codeAt (bodyOf Tryz.f113) [1, 1, 0, 0, 0]) 0 spec_l3Mul.l0.hd spec_l3Mul.l0.outs [] N ((a1, (b1, (out, ()))), ())
noncomputable def spec_l3Mul (N : Nat) (a : Int) (b : Int) : Option ((Int × Unit) × Unit) :=
  ofFn Tryz.prog spec_l3Mul.call spec_l3Mul.qt spec_l3Mul.H N Tryz.f113 [.one (.sh (.int .u8)), .one (.sh (.int .u8))] [] [.one (.sh (.int .u8))] [] [⟨[], [], [], []⟩] (a, (b, ())) ()
noncomputable def spec_l3Mul.S (N : Nat) : Say := ⟨false, 113, [.one (.sh (.int .u8)), .one (.sh (.int .u8))], [], [.one (.sh (.int .u8))], [], fun a s => spec_l3Mul N a.1 a.2.1⟩
set_option maxRecDepth 100000 in
theorem spec_l3Mul.l0.eq (N : Nat) (a1 : Int) (b1 : Int) (out : Int) : spec_l3Mul.l0 (N + 1) a1 b1 out =
 sel (decide (0 < b1))
  (
  andK (α := ((Int × Unit) × Unit)) (
   sel (decide ((Go.bits .and .u8 b1 1) = 1))
    (
    some ((((Go.bits .xor .u8 out a1), ()), ())))
    (
    some (((out, ()), ())))) fun j1 =>
  andK (α := ((Int × Unit) × Unit)) (
   sel (!(decide ((Go.bits .and .u8 a1 128) = 0)))
    (
    some ((((Go.bits .xor .u8 (shlI .u8 a1 1) 27), ()), ())))
    (
    some ((((shlI .u8 a1 1), ()), ())))) fun j2 =>
  spec_l3Mul.l0 N j2.1.1 (shrI .u8 b1 1) j1.1.1)
  (
  some (((out, ()), ()))) := by kernel_rfl
set_option maxRecDepth 100000 in
theorem spec_l3Mul.eq (N : Nat) (a : Int) (b : Int) : spec_l3Mul N a b =
 andK (spec_l3Mul.l0 N a b 0) fun l3 =>
 some ((l3.1.1, ()), ()) := by kernel_rfl
set_option maxRecDepth 100000 in
theorem spec_l3Mul.say (N : Nat) : SayOk Tryz.prog (spec_l3Mul.S N) := sayOk_mk (N := N) (H := spec_l3Mul.H) (preps := [⟨[], [], [], []⟩]) (l := spec_l3Mul.says) (fn := Tryz.f113) (c := bodyOf Tryz.f113)
  (by kernel_rfl) (by kernel_rfl) (by kernel_rfl) (by kernel_rfl) (by kernel_rfl) (by kernel_rfl) (by kernel_rfl)
  (fun N => SayAll.nil) (fun a s => by kernel_rfl)

/-! ### loop.example/g00206/spec.l3Inverse: function 131 -/
noncomputable def spec_l3Inverse.H : Hints := hintsOf [(7, .join [⟨.normal, [0, 4], [3], [.one (.sh (.int .u8))], [], [⟨[], [], [], []⟩]⟩]),
  (2000003, .loop ⟨.normal, [], [0, 3, 4], [.one (.sh (.int .u8)), .one (.sh (.int .u8)), ak_i], [], [⟨[], [], [], []⟩]⟩ [⟨(.exit 0), [], [3], [.one (.sh (.int .u8))], [], [⟨[], [], [], []⟩]⟩])]
noncomputable def spec_l3Inverse.says (N : Nat) : List Say := [spec_l3Mul.S N]
noncomputable def spec_l3Inverse.call (N : Nat) : CallK := callBy (spec_l3Inverse.says N)
noncomputable def spec_l3Inverse.qt (N : Nat) : FuncId → List PV → Sig → Cl := qtBy (spec_l3Inverse.says N)
noncomputable def spec_l3Inverse.l0.hd : Alt := ⟨.normal, [], [0, 3, 4], [.one (.sh (.int .u8)), .one (.sh (.int .u8)), ak_i], [], [⟨[], [], [], []⟩]⟩
noncomputable def spec_l3Inverse.l0.outs : List Alt := [⟨(.exit 0), [], [3], [.one (.sh (.int .u8))], [], [⟨[], [], [], []⟩]⟩]
noncomputable def spec_l3Inverse.l0 (N : Nat) (a1 : Int) (out : Int) (n : Int) : Option ((Int × Unit) × Unit) :=
  loopK Tryz.prog spec_l3Inverse.call spec_l3Inverse.qt spec_l3Inverse.H (codeAt (bodyOf Tryz.f131) [1, 1, 0, 1, 0, 0]) 0 spec_l3Inverse.l0.hd spec_l3Inverse.l0.outs [] N ((a1, (out, (n, ()))), ())
noncomputable def spec_l3Inverse (N : Nat) (a : Int) : Option ((Int × Unit) × Unit) :=
  ofFn Tryz.prog spec_l3Inverse.call spec_l3Inverse.qt spec_l3Inverse.H N Tryz.f131 [.one (.sh (.int .u8))] [] [.one (.sh (.int .u8))] [] [⟨[], [], [], []⟩] (a, ()) ()
noncomputable def spec_l3Inverse.S (N : Nat) : Say := ⟨false, 131, [.one (.sh (.int .u8))], [], [.one (.sh (.int .u8))], [], fun a s => spec_l3Inverse N a.1⟩
set_option maxRecDepth 100000 in
theorem spec_l3Inverse.l0.eq (N : Nat) (a1 : Int) (out : Int) (n : Int) : spec_l3Inverse.l0 (N + 1) a1 out n =
 sel (decide (0 < n))
  (
  andK (α := ((Int × Unit) × Unit)) (
   sel (decide ((Go.bits .and .i64 n 1) = 1))
    (
    andK (spec_l3Mul N out a1) fun u1 =>
    some (((u1.1.1, ()), ())))
    (
    some (((out, ()), ())))) fun j2 =>
  andK (spec_l3Mul N a1 a1) fun u3 =>
  spec_l3Inverse.l0 N u3.1.1 j2.1.1 (shrI .i64 n 1))
  (
  some (((out, ()), ()))) := by kernel_rfl
set_option maxRecDepth 100000 in
theorem spec_l3Inverse.eq (N : Nat) (a : Int) : spec_l3Inverse N a =
 andK (spec_l3Inverse.l0 N a 1 254) fun l4 =>
 some ((l4.1.1, ()), ()) := by kernel_rfl
set_option maxRecDepth 100000 in
theorem spec_l3Inverse.say (N : Nat) : SayOk Tryz.prog (spec_l3Inverse.S N) := sayOk_mk (N := N) (H := spec_l3Inverse.H) (preps := [⟨[], [], [], []⟩]) (l := spec_l3Inverse.says) (fn := Tryz.f131) (c := bodyOf Tryz.f131)
  (by kernel_rfl) (by kernel_rfl) (by kernel_rfl) (by kernel_rfl) (by kernel_rfl) (by kernel_rfl) (by kernel_rfl)
  (fun N => SayAll.cons (spec_l3Mul.say N) (SayAll.nil)) (fun a s => by kernel_rfl)

/-! ### loop.example/g00206/spec.l3Turn: function 132 -/
noncomputable def spec_l3Turn.H : Hints := hintsOf []
noncomputable def spec_l3Turn.says (N : Nat) : List Say := []
noncomputable def spec_l3Turn.call (N : Nat) : CallK := callBy (spec_l3Turn.says N)
noncomputable def spec_l3Turn.qt (N : Nat) : FuncId → List PV → Sig → Cl := qtBy (spec_l3Turn.says N)
noncomputable def spec_l3Turn (N : Nat) (b : Int) (n : Int) : Option ((Int × Unit) × Unit) :=
  ofFn Tryz.prog spec_l3Turn.call spec_l3Turn.qt spec_l3Turn.H N Tryz.f132 [.one (.sh (.int .u8)), .one (.sh (.int .u64))] [] [.one (.sh (.int .u8))] [] [⟨[], [], [], []⟩] (b, (n, ())) ()
noncomputable def spec_l3Turn.S (N : Nat) : Say := ⟨false, 132, [.one (.sh (.int .u8)), .one (.sh (.int .u64))], [], [.one (.sh (.int .u8))], [], fun a s => spec_l3Turn N a.1 a.2.1⟩
set_option maxRecDepth 100000 in
theorem spec_l3Turn.eq (N : Nat) (b : Int) (n : Int) : spec_l3Turn N b n =
 chk (decide (0 ≤ n)) (
 chk (decide (0 ≤ (IntKind.u64.wrap (8 - n)))) (
 some (((Go.bits .or .u8 (shlI .u8 b n) (shrI .u8 b (IntKind.u64.wrap (8 - n)))), ()), ()))) := by kernel_rfl
set_option maxRecDepth 100000 in
theorem spec_l3Turn.say (N : Nat) : SayOk Tryz.prog (spec_l3Turn.S N) := sayOk_mk (N := N) (H := spec_l3Turn.H) (preps := [⟨[], [], [], []⟩]) (l := spec_l3Turn.says) (fn := Tryz.f132) (c := bodyOf Tryz.f132)
  (by kernel_rfl) (by kernel_rfl) (by kernel_rfl) (by kernel_rfl) (by kernel_rfl) (by kernel_rfl) (by kernel_rfl)
  (fun N => SayAll.nil) (fun a s => by kernel_rfl)

/-! ### loop.example/g00206/spec.l3Sub: function 112 -/
noncomputable def spec_l3Sub.H : Hints := hintsOf []
noncomputable def spec_l3Sub.says (N : Nat) : List Say := [spec_l3Inverse.S N, spec_l3Turn.S N]
noncomputable def spec_l3Sub.call (N : Nat) : CallK := callBy (spec_l3Sub.says N)
noncomputable def spec_l3Sub.qt (N : Nat) : FuncId → List PV → Sig → Cl := qtBy (spec_l3Sub.says N)
noncomputable def spec_l3Sub (N : Nat) (b : Int) : Option ((Int × Unit) × Unit) :=
  ofFn Tryz.prog spec_l3Sub.call spec_l3Sub.qt spec_l3Sub.H N Tryz.f112 [.one (.sh (.int .u8))] [] [.one (.sh (.int .u8))] [] [⟨[], [], [], []⟩] (b, ()) ()
noncomputable def spec_l3Sub.S (N : Nat) : Say := ⟨false, 112, [.one (.sh (.int .u8))], [], [.one (.sh (.int .u8))], [], fun a s => spec_l3Sub N a.1⟩
set_option maxRecDepth 100000 in
theorem spec_l3Sub.eq (N : Nat) (b : Int) : spec_l3Sub N b =
 andK (spec_l3Inverse N b) fun u1 =>
 andK (spec_l3Turn N u1.1.1 1) fun u2 =>
 andK (spec_l3Turn N u1.1.1 2) fun u3 =>
 andK (spec_l3Turn N u1.1.1 3) fun u4 =>
 andK (spec_l3Turn N u1.1.1 4) fun u5 =>
 some (((Go.bits .xor .u8 (Go.bits .xor .u8 (Go.bits .xor .u8 (Go.bits .xor .u8 (Go.bits .xor .u8 u1.1.1 u2.1.1) u3.1.1) u4.1.1) u5.1.1) 99), ()), ()) := by kernel_rfl
set_option maxRecDepth 100000 in
theorem spec_l3Sub.say (N : Nat) : SayOk Tryz.prog (spec_l3Sub.S N) := sayOk_mk (N := N) (H := spec_l3Sub.H) (preps := [⟨[], [], [], []⟩]) (l := spec_l3Sub.says) (fn := Tryz.f112) (c := bodyOf Tryz.f112)
  (by kernel_rfl) (by kernel_rfl) (by kernel_rfl) (by kernel_rfl) (by kernel_rfl) (by kernel_rfl) (by kernel_rfl)
  (fun N => SayAll.cons (spec_l3Inverse.say N) (SayAll.cons (spec_l3Turn.say N) (SayAll.nil))) (fun a s => by kernel_rfl)

/-! ### loop.example/g00206/spec.l3Keys: function 83 -/
noncomputable def spec_l3Keys.H : Hints := hintsOf [(10, .join [⟨.normal, [5], [3, 4, 6], [.one (.own 0), .one (.sh (.int .u8)), .one (.sh (.rows (.int .u8)))], [.rows (.int .u8), .gone], [⟨[], [], [], []⟩, ⟨[], [], [1], []⟩]⟩]),
  (2000011, .loop ⟨.normal, [4, 5, 6, 48], [3, 49], [.one (.own 0), ak_i], [.rows (.int .u8), .gone], [⟨[], [], [], []⟩]⟩ [⟨(.exit 2), [4, 5], [3], [.one (.own 0)], [.rows (.int .u8), .gone], [⟨[], [], [], []⟩]⟩]),
  (2000004, .loop ⟨.normal, [], [3, 4, 5], [.one (.own 0), .one (.sh (.int .u8)), ak_i], [.rows (.int .u8)], [⟨[], [], [], []⟩]⟩ [⟨(.exit 0), [], [3], [.one (.own 0)], [.rows (.int .u8)], [⟨[], [], [], []⟩]⟩])]
noncomputable def spec_l3Keys.says (N : Nat) : List Say := [spec_l3Sub.S N, spec_l3Mul.S N]
noncomputable def spec_l3Keys.call (N : Nat) : CallK := callBy (spec_l3Keys.says N)
noncomputable def spec_l3Keys.qt (N : Nat) : FuncId → List PV → Sig → Cl := qtBy (spec_l3Keys.says N)
noncomputable def spec_l3Keys.l0.hd : Alt := ⟨.normal, [], [3, 4, 5], [.one (.own 0), .one (.sh (.int .u8)), ak_i], [.rows (.int .u8)], [⟨[], [], [], []⟩]⟩
noncomputable def spec_l3Keys.l0.outs : List Alt := [⟨(.exit 0), [], [3], [.one (.own 0)], [.rows (.int .u8)], [⟨[], [], [], []⟩]⟩]
noncomputable def spec_l3Keys.l0 (N : Nat) (o : Int) (d : Int) (p0 : (List Int)) : Option ((Unit × Unit) × ((List Int) × Unit)) :=
  loopK Tryz.prog spec_l3Keys.call spec_l3Keys.qt spec_l3Keys.H (codeAt (bodyOf Tryz.f83) [1, 1, 1, 0, 1, 0, 0]) 1 spec_l3Keys.l0.hd spec_l3Keys.l0.outs [] N (((), (o, (d, ()))), (p0, ()))
noncomputable def spec_l3Keys.l1.hd : Alt := ⟨.normal, [4, 5, 6, 48], [3, 49], [.one (.own 0), ak_i], [.rows (.int .u8), .gone], [⟨[], [], [], []⟩]⟩
noncomputable def spec_l3Keys.l1.outs : List Alt := [⟨(.exit 2), [4, 5], [3], [.one (.own 0)], [.rows (.int .u8), .gone], [⟨[], [], [], []⟩]⟩]
noncomputable def spec_l3Keys.l1 (N : Nat) (o1 : Int) (d1 : Int) (e : (List Int)) (t48 : Int) (t49 : Int) (p01 : (List Int)) : Option ((Unit × Unit) × ((List Int) × (Unit × Unit))) :=
  loopK Tryz.prog spec_l3Keys.call spec_l3Keys.qt spec_l3Keys.H (codeAt (bodyOf Tryz.f83) [1, 1, 1, 0, 1, 0, 0, 1, 0, 0, 1, 1, 1, 0, 0]) 2 spec_l3Keys.l1.hd spec_l3Keys.l1.outs [(4, .v (.int .u8 o1)), (5, .v (.int .i64 d1)), (6, .rows false (.int .u8) e), (48, .v (.int .i64 t48))] N (((), (t49, ())), (p01, ((), ())))
noncomputable def spec_l3Keys (N : Nat) (G : ByteArray) : Option ((Unit × Unit) × ((List Int) × Unit)) :=
  ofFn Tryz.prog spec_l3Keys.call spec_l3Keys.qt spec_l3Keys.H N Tryz.f83 [ak_s] [] [.one (.own 0)] [.rows (.int .u8)] [⟨[], [], [], [0]⟩] (G, ()) ()
noncomputable def spec_l3Keys.S (N : Nat) : Say := ⟨false, 83, [ak_s], [], [.one (.own 0)], [.rows (.int .u8)], fun a s => spec_l3Keys N a.1⟩
set_option maxRecDepth 100000 in
theorem spec_l3Keys.l1.eq (N : Nat) (o1 : Int) (d1 : Int) (e : (List Int)) (t48 : Int) (t49 : Int) (p01 : (List Int)) : spec_l3Keys.l1 (N + 1) o1 d1 e t48 t49 p01 =
 sel (decide (t49 < t48))
  (
  chk ((decide (0 ≤ (IntKind.i64.wrap ((IntKind.i64.wrap ((IntKind.i64.wrap (4 * d1)) - 16)) + t49)))) && (decide ((IntKind.i64.wrap ((IntKind.i64.wrap ((IntKind.i64.wrap (4 * d1)) - 16)) + t49)) < (p01.length : Int)))) (
  chk ((decide (0 ≤ t49)) && (decide (t49 < (e.length : Int)))) (
  chk (decide (p01.length + 1 < most)) (
  spec_l3Keys.l1 N o1 d1 e t48 (IntKind.i64.wrap (t49 + 1)) (p01 ++ [(Go.bits .xor .u8 (p01.getD (Int.toNat (IntKind.i64.wrap ((IntKind.i64.wrap ((IntKind.i64.wrap (4 * d1)) - 16)) + t49))) 0) (e.getD (Int.toNat t49) 0))])))))
  (
  some ((((), ()), (p01, ((), ()))))) := by kernel_rfl
set_option maxRecDepth 100000 in
theorem spec_l3Keys.l0.eq (N : Nat) (o : Int) (d : Int) (p0 : (List Int)) : spec_l3Keys.l0 (N + 1) o d p0 =
 sel (decide (d < 44))
  (
  chk ((decide (0 ≤ (IntKind.i64.wrap ((IntKind.i64.wrap (4 * d)) - 4)))) && ((decide ((IntKind.i64.wrap ((IntKind.i64.wrap (4 * d)) - 4)) ≤ (IntKind.i64.wrap (4 * d)))) && (decide ((IntKind.i64.wrap (4 * d)) ≤ (p0.length : Int))))) (
  chk (decide (((p0.drop (Int.toNat (IntKind.i64.wrap ((IntKind.i64.wrap (4 * d)) - 4)))).take ((Int.toNat (IntKind.i64.wrap (4 * d))) - (Int.toNat (IntKind.i64.wrap ((IntKind.i64.wrap (4 * d)) - 4))))).length < most)) (
  andK (α := ((Unit × (Int × ((List Int) × Unit))) × ((List Int) × (Unit × Unit)))) (
   sel (decide ((Int.tmod d 4) = 0))
    (
    chk (decide (1 < (((p0.drop (Int.toNat (IntKind.i64.wrap ((IntKind.i64.wrap (4 * d)) - 4)))).take ((Int.toNat (IntKind.i64.wrap (4 * d))) - (Int.toNat (IntKind.i64.wrap ((IntKind.i64.wrap (4 * d)) - 4))))).length : Int))) (
    andK (spec_l3Sub N (((p0.drop (Int.toNat (IntKind.i64.wrap ((IntKind.i64.wrap (4 * d)) - 4)))).take ((Int.toNat (IntKind.i64.wrap (4 * d))) - (Int.toNat (IntKind.i64.wrap ((IntKind.i64.wrap (4 * d)) - 4))))).getD 1 0)) fun u1 =>
    chk (decide (2 < (((p0.drop (Int.toNat (IntKind.i64.wrap ((IntKind.i64.wrap (4 * d)) - 4)))).take ((Int.toNat (IntKind.i64.wrap (4 * d))) - (Int.toNat (IntKind.i64.wrap ((IntKind.i64.wrap (4 * d)) - 4))))).length : Int))) (
    andK (spec_l3Sub N (((p0.drop (Int.toNat (IntKind.i64.wrap ((IntKind.i64.wrap (4 * d)) - 4)))).take ((Int.toNat (IntKind.i64.wrap (4 * d))) - (Int.toNat (IntKind.i64.wrap ((IntKind.i64.wrap (4 * d)) - 4))))).getD 2 0)) fun u2 =>
    chk (decide (3 < (((p0.drop (Int.toNat (IntKind.i64.wrap ((IntKind.i64.wrap (4 * d)) - 4)))).take ((Int.toNat (IntKind.i64.wrap (4 * d))) - (Int.toNat (IntKind.i64.wrap ((IntKind.i64.wrap (4 * d)) - 4))))).length : Int))) (
    andK (spec_l3Sub N (((p0.drop (Int.toNat (IntKind.i64.wrap ((IntKind.i64.wrap (4 * d)) - 4)))).take ((Int.toNat (IntKind.i64.wrap (4 * d))) - (Int.toNat (IntKind.i64.wrap ((IntKind.i64.wrap (4 * d)) - 4))))).getD 3 0)) fun u3 =>
    chk (decide (0 < (((p0.drop (Int.toNat (IntKind.i64.wrap ((IntKind.i64.wrap (4 * d)) - 4)))).take ((Int.toNat (IntKind.i64.wrap (4 * d))) - (Int.toNat (IntKind.i64.wrap ((IntKind.i64.wrap (4 * d)) - 4))))).length : Int))) (
    andK (spec_l3Sub N (((p0.drop (Int.toNat (IntKind.i64.wrap ((IntKind.i64.wrap (4 * d)) - 4)))).take ((Int.toNat (IntKind.i64.wrap (4 * d))) - (Int.toNat (IntKind.i64.wrap ((IntKind.i64.wrap (4 * d)) - 4))))).getD 0 0)) fun u4 =>
    andK (spec_l3Mul N o 2) fun u5 =>
    some ((((), (u5.1.1, ([(Go.bits .xor .u8 u1.1.1 o), u2.1.1, u3.1.1, u4.1.1], ()))), (p0, ((), ())))))))))
    (
    some ((((), (o, (((p0.drop (Int.toNat (IntKind.i64.wrap ((IntKind.i64.wrap (4 * d)) - 4)))).take ((Int.toNat (IntKind.i64.wrap (4 * d))) - (Int.toNat (IntKind.i64.wrap ((IntKind.i64.wrap (4 * d)) - 4))))), ()))), (p0, ((), ())))))) fun j6 =>
  andK (spec_l3Keys.l1 N j6.1.2.1 d j6.1.2.2.1 (j6.1.2.2.1.length : Int) 0 j6.2.1) fun l7 =>
  spec_l3Keys.l0 N j6.1.2.1 (IntKind.i64.wrap (d + 1)) l7.2.1)))
  (
  some ((((), ()), (p0, ())))) := by kernel_rfl
set_option maxRecDepth 100000 in
theorem spec_l3Keys.eq (N : Nat) (G : ByteArray) : spec_l3Keys N G =
 andK (spec_l3Keys.l0 N 1 4 (bytesL G)) fun l8 =>
 some (((), ()), (l8.2.1, ())) := by kernel_rfl
set_option maxRecDepth 100000 in
theorem spec_l3Keys.say (N : Nat) : SayOk Tryz.prog (spec_l3Keys.S N) := sayOk_mk (N := N) (H := spec_l3Keys.H) (preps := [⟨[], [], [], [0]⟩]) (l := spec_l3Keys.says) (fn := Tryz.f83) (c := bodyOf Tryz.f83)
  (by kernel_rfl) (by kernel_rfl) (by kernel_rfl) (by kernel_rfl) (by kernel_rfl) (by kernel_rfl) (by kernel_rfl)
  (fun N => SayAll.cons (spec_l3Sub.say N) (SayAll.cons (spec_l3Mul.say N) (SayAll.nil))) (fun a s => by kernel_rfl)

/-! ### loop.example/g00206/spec.l3Table: function 84 -/
noncomputable def spec_l3Table.H : Hints := hintsOf [(2000003, .loop ⟨.normal, [5], [1, 6], [.one (.own 0), ak_i], [.rows (.int .u8)], [⟨[], [], [], []⟩]⟩ [⟨(.exit 0), [], [1], [.one (.own 0)], [.rows (.int .u8)], [⟨[], [], [], []⟩]⟩])]
noncomputable def spec_l3Table.says (N : Nat) : List Say := [spec_l3Sub.S N]
noncomputable def spec_l3Table.call (N : Nat) : CallK := callBy (spec_l3Table.says N)
noncomputable def spec_l3Table.qt (N : Nat) : FuncId → List PV → Sig → Cl := qtBy (spec_l3Table.says N)
noncomputable def spec_l3Table.l0.hd : Alt := ⟨.normal, [5], [1, 6], [.one (.own 0), ak_i], [.rows (.int .u8)], [⟨[], [], [], []⟩]⟩
noncomputable def spec_l3Table.l0.outs : List Alt := [⟨(.exit 0), [], [1], [.one (.own 0)], [.rows (.int .u8)], [⟨[], [], [], []⟩]⟩]
noncomputable def spec_l3Table.l0 (N : Nat) (t5 : Int) (t6 : Int) (p0 : (List Int)) : Option ((Unit × Unit) × ((List Int) × Unit)) :=
  loopK Tryz.prog spec_l3Table.call spec_l3Table.qt spec_l3Table.H (codeAt (bodyOf Tryz.f84) [1, 1, 0, 1, 0, 0]) 1 spec_l3Table.l0.hd spec_l3Table.l0.outs [(5, .v (.int .i64 t5))] N (((), (t6, ())), (p0, ()))
noncomputable def spec_l3Table (N : Nat) : Option ((Unit × Unit) × ((List Int) × Unit)) :=
  ofFn Tryz.prog spec_l3Table.call spec_l3Table.qt spec_l3Table.H N Tryz.f84 [] [] [.one (.own 0)] [.rows (.int .u8)] [⟨[], [], [], [0]⟩] () ()
noncomputable def spec_l3Table.S (N : Nat) : Say := ⟨false, 84, [], [], [.one (.own 0)], [.rows (.int .u8)], fun a s => spec_l3Table N⟩
set_option maxRecDepth 100000 in
theorem spec_l3Table.l0.eq (N : Nat) (t5 : Int) (t6 : Int) (p0 : (List Int)) : spec_l3Table.l0 (N + 1) t5 t6 p0 =
 sel (decide (t6 < t5))
  (
  andK (spec_l3Sub N (IntKind.u8.wrap t6)) fun u1 =>
  chk ((decide (0 ≤ t6)) && (decide (t6 < (p0.length : Int)))) (
  spec_l3Table.l0 N t5 (IntKind.i64.wrap (t6 + 1)) (p0.set (Int.toNat t6) u1.1.1)))
  (
  some ((((), ()), (p0, ())))) := by kernel_rfl
set_option maxRecDepth 100000 in
theorem spec_l3Table.eq (N : Nat) : spec_l3Table N =
 andK (spec_l3Table.l0 N ((List.replicate 256 (0 : Int)).length : Int) 0 (List.replicate 256 (0 : Int))) fun l2 =>
 some (((), ()), (l2.2.1, ())) := by kernel_rfl
set_option maxRecDepth 100000 in
theorem spec_l3Table.say (N : Nat) : SayOk Tryz.prog (spec_l3Table.S N) := sayOk_mk (N := N) (H := spec_l3Table.H) (preps := [⟨[], [], [], [0]⟩]) (l := spec_l3Table.says) (fn := Tryz.f84) (c := bodyOf Tryz.f84)
  (by kernel_rfl) (by kernel_rfl) (by kernel_rfl) (by kernel_rfl) (by kernel_rfl) (by kernel_rfl) (by kernel_rfl)
  (fun N => SayAll.cons (spec_l3Sub.say N) (SayAll.nil)) (fun a s => by kernel_rfl)

/-! ### loop.example/g00206/spec.l3Xor: function 87 -/
noncomputable def spec_l3Xor.H : Hints := hintsOf [(2000003, .loop ⟨.normal, [0, 1, 11], [5, 12], [.one (.own 0), ak_i], [.rows (.int .u8)], [⟨[], [], [], []⟩]⟩ [⟨(.exit 0), [], [5], [.one (.own 0)], [.rows (.int .u8)], [⟨[], [], [], []⟩]⟩])]
noncomputable def spec_l3Xor.says (N : Nat) : List Say := []
noncomputable def spec_l3Xor.call (N : Nat) : CallK := callBy (spec_l3Xor.says N)
noncomputable def spec_l3Xor.qt (N : Nat) : FuncId → List PV → Sig → Cl := qtBy (spec_l3Xor.says N)
noncomputable def spec_l3Xor.l0.hd : Alt := ⟨.normal, [0, 1, 11], [5, 12], [.one (.own 0), ak_i], [.rows (.int .u8)], [⟨[], [], [], []⟩]⟩
noncomputable def spec_l3Xor.l0.outs : List Alt := [⟨(.exit 0), [], [5], [.one (.own 0)], [.rows (.int .u8)], [⟨[], [], [], []⟩]⟩]
noncomputable def spec_l3Xor.l0 (N : Nat) (a1 : (List Int)) (b1 : (List Int)) (t11 : Int) (t12 : Int) (p0 : (List Int)) : Option ((Unit × Unit) × ((List Int) × Unit)) :=
  loopK Tryz.prog spec_l3Xor.call spec_l3Xor.qt spec_l3Xor.H (codeAt (bodyOf Tryz.f87) [1, 1, 0, 1, 0, 0]) 1 spec_l3Xor.l0.hd spec_l3Xor.l0.outs [(0, .rows false (.int .u8) a1), (1, .rows false (.int .u8) b1), (11, .v (.int .i64 t11))] N (((), (t12, ())), (p0, ()))
noncomputable def spec_l3Xor (N : Nat) (a : (List Int)) (b : (List Int)) : Option ((Unit × Unit) × ((List Int) × Unit)) :=
  ofFn Tryz.prog spec_l3Xor.call spec_l3Xor.qt spec_l3Xor.H N Tryz.f87 [.one (.sh (.rows (.int .u8))), .one (.sh (.rows (.int .u8)))] [] [.one (.own 0)] [.rows (.int .u8)] [⟨[], [], [], [0]⟩] (a, (b, ())) ()
noncomputable def spec_l3Xor.S (N : Nat) : Say := ⟨false, 87, [.one (.sh (.rows (.int .u8))), .one (.sh (.rows (.int .u8)))], [], [.one (.own 0)], [.rows (.int .u8)], fun a s => spec_l3Xor N a.1 a.2.1⟩
set_option maxRecDepth 100000 in
theorem spec_l3Xor.l0.eq (N : Nat) (a1 : (List Int)) (b1 : (List Int)) (t11 : Int) (t12 : Int) (p0 : (List Int)) : spec_l3Xor.l0 (N + 1) a1 b1 t11 t12 p0 =
 sel (decide (t12 < t11))
  (
  chk ((decide (0 ≤ t12)) && (decide (t12 < (a1.length : Int)))) (
  chk ((decide (0 ≤ t12)) && (decide (t12 < (b1.length : Int)))) (
  chk ((decide (0 ≤ t12)) && (decide (t12 < (p0.length : Int)))) (
  spec_l3Xor.l0 N a1 b1 t11 (IntKind.i64.wrap (t12 + 1)) (p0.set (Int.toNat t12) (Go.bits .xor .u8 (a1.getD (Int.toNat t12) 0) (b1.getD (Int.toNat t12) 0)))))))
  (
  some ((((), ()), (p0, ())))) := by kernel_rfl
set_option maxRecDepth 100000 in
theorem spec_l3Xor.eq (N : Nat) (a : (List Int)) (b : (List Int)) : spec_l3Xor N a b =
 chk ((decide (0 ≤ (a.length : Int))) && ((smallI (a.length : Int)) && (decide ((a.length : Int) = (a.length : Int))))) (
 andK (spec_l3Xor.l0 N a b (a.length : Int) 0 (List.replicate (Int.toNat (a.length : Int)) (0 : Int))) fun l1 =>
 some (((), ()), (l1.2.1, ()))) := by kernel_rfl
set_option maxRecDepth 100000 in
theorem spec_l3Xor.say (N : Nat) : SayOk Tryz.prog (spec_l3Xor.S N) := sayOk_mk (N := N) (H := spec_l3Xor.H) (preps := [⟨[], [], [], [0]⟩]) (l := spec_l3Xor.says) (fn := Tryz.f87) (c := bodyOf Tryz.f87)
  (by kernel_rfl) (by kernel_rfl) (by kernel_rfl) (by kernel_rfl) (by kernel_rfl) (by kernel_rfl) (by kernel_rfl)
  (fun N => SayAll.nil) (fun a s => by kernel_rfl)
noncomputable def spec_l3Xor.SB (N : Nat) : Say := spec_l3Xor.S N |>.lent
theorem spec_l3Xor.sayB (N : Nat) : SayOk Tryz.prog (spec_l3Xor.SB N) := (spec_l3Xor.say N).lent

/-! ### loop.example/g00206/spec.l3Mix: function 111 -/
noncomputable def spec_l3Mix.H : Hints := hintsOf [(2000006, .loop ⟨.normal, [0, 1, 6, 10, 11], [5, 7], [.one (.own 0), ak_i], [.rows (.int .u8)], [⟨[], [], [], []⟩]⟩ [⟨(.exit 2), [0, 1, 10, 11], [5], [.one (.own 0)], [.rows (.int .u8)], [⟨[], [], [], []⟩]⟩]),
  (2000003, .loop ⟨.normal, [0, 1, 10], [5, 11], [.one (.own 0), ak_i], [.rows (.int .u8)], [⟨[], [], [], []⟩]⟩ [⟨(.exit 0), [], [5], [.one (.own 0)], [.rows (.int .u8)], [⟨[], [], [], []⟩]⟩])]
noncomputable def spec_l3Mix.says (N : Nat) : List Say := [spec_l3Mul.S N]
noncomputable def spec_l3Mix.call (N : Nat) : CallK := callBy (spec_l3Mix.says N)
noncomputable def spec_l3Mix.qt (N : Nat) : FuncId → List PV → Sig → Cl := qtBy (spec_l3Mix.says N)
noncomputable def spec_l3Mix.l0.hd : Alt := ⟨.normal, [0, 1, 10], [5, 11], [.one (.own 0), ak_i], [.rows (.int .u8)], [⟨[], [], [], []⟩]⟩
noncomputable def spec_l3Mix.l0.outs : List Alt := [⟨(.exit 0), [], [5], [.one (.own 0)], [.rows (.int .u8)], [⟨[], [], [], []⟩]⟩]
noncomputable def spec_l3Mix.l0 (N : Nat) (s1 : (List Int)) (f1 : (List Int)) (t10 : Int) (t11 : Int) (p0 : (List Int)) : Option ((Unit × Unit) × ((List Int) × Unit)) :=
  loopK Tryz.prog spec_l3Mix.call spec_l3Mix.qt spec_l3Mix.H (codeAt (bodyOf Tryz.f111) [1, 1, 0, 1, 0, 0]) 1 spec_l3Mix.l0.hd spec_l3Mix.l0.outs [(0, .rows false (.int .u8) s1), (1, .rows false (.int .u8) f1), (10, .v (.int .i64 t10))] N (((), (t11, ())), (p0, ()))
noncomputable def spec_l3Mix.l1.hd : Alt := ⟨.normal, [0, 1, 6, 10, 11], [5, 7], [.one (.own 0), ak_i], [.rows (.int .u8)], [⟨[], [], [], []⟩]⟩
noncomputable def spec_l3Mix.l1.outs : List Alt := [⟨(.exit 2), [0, 1, 10, 11], [5], [.one (.own 0)], [.rows (.int .u8)], [⟨[], [], [], []⟩]⟩]
noncomputable def spec_l3Mix.l1 (N : Nat) (s2 : (List Int)) (f2 : (List Int)) (i : Int) (t101 : Int) (t111 : Int) (k : Int) (p01 : (List Int)) : Option ((Unit × Unit) × ((List Int) × Unit)) :=
  loopK Tryz.prog spec_l3Mix.call spec_l3Mix.qt spec_l3Mix.H (codeAt (bodyOf Tryz.f111) [1, 1, 0, 1, 0, 0, 1, 1, 0, 0, 1, 1, 0, 0]) 1 spec_l3Mix.l1.hd spec_l3Mix.l1.outs [(0, .rows false (.int .u8) s2), (1, .rows false (.int .u8) f2), (6, .v (.int .i64 i)), (10, .v (.int .i64 t101)), (11, .v (.int .i64 t111))] N (((), (k, ())), (p01, ()))
noncomputable def spec_l3Mix (N : Nat) (s : (List Int)) (f : (List Int)) : Option ((Unit × Unit) × ((List Int) × Unit)) :=
  ofFn Tryz.prog spec_l3Mix.call spec_l3Mix.qt spec_l3Mix.H N Tryz.f111 [.one (.sh (.rows (.int .u8))), .one (.sh (.rows (.int .u8)))] [] [.one (.own 0)] [.rows (.int .u8)] [⟨[], [], [], [0]⟩] (s, (f, ())) ()
noncomputable def spec_l3Mix.S (N : Nat) : Say := ⟨false, 111, [.one (.sh (.rows (.int .u8))), .one (.sh (.rows (.int .u8)))], [], [.one (.own 0)], [.rows (.int .u8)], fun a s => spec_l3Mix N a.1 a.2.1⟩
set_option maxRecDepth 100000 in
theorem spec_l3Mix.l1.eq (N : Nat) (s2 : (List Int)) (f2 : (List Int)) (i : Int) (t101 : Int) (t111 : Int) (k : Int) (p01 : (List Int)) : spec_l3Mix.l1 (N + 1) s2 f2 i t101 t111 k p01 =
 sel (decide (k < 4))
  (
  chk ((decide (0 ≤ i)) && (decide (i < (p01.length : Int)))) (
  chk ((decide (0 ≤ k)) && (decide (k < (f2.length : Int)))) (
  chk ((decide (0 ≤ (Int.tmod (IntKind.i64.wrap (i + k)) 4))) && (decide ((Int.tmod (IntKind.i64.wrap (i + k)) 4) < (s2.length : Int)))) (
  andK (spec_l3Mul N (f2.getD (Int.toNat k) 0) (s2.getD (Int.toNat (Int.tmod (IntKind.i64.wrap (i + k)) 4)) 0)) fun u1 =>
  chk ((decide (0 ≤ i)) && (decide (i < (p01.length : Int)))) (
  spec_l3Mix.l1 N s2 f2 i t101 t111 (IntKind.i64.wrap (k + 1)) (p01.set (Int.toNat i) (Go.bits .xor .u8 (p01.getD (Int.toNat i) 0) u1.1.1)))))))
  (
  some ((((), ()), (p01, ())))) := by kernel_rfl
set_option maxRecDepth 100000 in
theorem spec_l3Mix.l0.eq (N : Nat) (s1 : (List Int)) (f1 : (List Int)) (t10 : Int) (t11 : Int) (p0 : (List Int)) : spec_l3Mix.l0 (N + 1) s1 f1 t10 t11 p0 =
 sel (decide (t11 < t10))
  (
  andK (spec_l3Mix.l1 N s1 f1 t11 t10 t11 0 p0) fun l2 =>
  spec_l3Mix.l0 N s1 f1 t10 (IntKind.i64.wrap (t11 + 1)) l2.2.1)
  (
  some ((((), ()), (p0, ())))) := by kernel_rfl
set_option maxRecDepth 100000 in
theorem spec_l3Mix.eq (N : Nat) (s : (List Int)) (f : (List Int)) : spec_l3Mix N s f =
 andK (spec_l3Mix.l0 N s f ((List.replicate 4 (0 : Int)).length : Int) 0 (List.replicate 4 (0 : Int))) fun l3 =>
 some (((), ()), (l3.2.1, ())) := by kernel_rfl
set_option maxRecDepth 100000 in
theorem spec_l3Mix.say (N : Nat) : SayOk Tryz.prog (spec_l3Mix.S N) := sayOk_mk (N := N) (H := spec_l3Mix.H) (preps := [⟨[], [], [], [0]⟩]) (l := spec_l3Mix.says) (fn := Tryz.f111) (c := bodyOf Tryz.f111)
  (by kernel_rfl) (by kernel_rfl) (by kernel_rfl) (by kernel_rfl) (by kernel_rfl) (by kernel_rfl) (by kernel_rfl)
  (fun N => SayAll.cons (spec_l3Mul.say N) (SayAll.nil)) (fun a s => by kernel_rfl)
noncomputable def spec_l3Mix.SB (N : Nat) : Say := spec_l3Mix.S N |>.lent
theorem spec_l3Mix.sayB (N : Nat) : SayOk Tryz.prog (spec_l3Mix.SB N) := (spec_l3Mix.say N).lent

/-! ### loop.example/g00206/spec.l3With: function 82 -/
noncomputable def spec_l3With.H : Hints := hintsOf [(2000010, .loop ⟨.normal, [0, 1, 7, 8, 10], [9, 11], [.one (.own 2), ak_i], [.rows (.int .u8), .gone, .rows (.int .u8)], [⟨[], [], [], []⟩]⟩ [⟨(.exit 4), [0, 1, 7, 8, 10], [9], [.one (.own 2)], [.rows (.int .u8), .gone, .rows (.int .u8)], [⟨[], [], [], []⟩]⟩]),
  (2000007, .loop ⟨.normal, [0, 1, 7, 8], [9, 10], [.one (.own 2), ak_i], [.rows (.int .u8), .gone, .rows (.int .u8)], [⟨[], [], [], []⟩]⟩ [⟨(.exit 2), [0, 1, 8], [9], [.one (.own 2)], [.rows (.int .u8), .gone, .rows (.int .u8)], [⟨[], [], [], []⟩]⟩]),
  (2000016, .loop ⟨.normal, [0, 1, 8], [9, 12, 13], [.one (.own 2), .one (.own 3), ak_i], [.rows (.int .u8), .gone, .rows (.int .u8), .rows (.int .u8)], [⟨[(12, (.int .u8))], [], [], [3]⟩, ⟨[], [], [], [3]⟩]⟩ [⟨(.exit 6), [0, 1, 8], [12], [.one (.own 3)], [.rows (.int .u8), .gone, .rows (.int .u8), .rows (.int .u8)], [⟨[], [], [], [3]⟩]⟩]),
  (20, .join [⟨.normal, [0, 1, 8], [9], [.one (.sh (.rows (.int .u8)))], [.rows (.int .u8), .gone, .gone], [⟨[], [], [3], []⟩, ⟨[], [], [2], []⟩]⟩]),
  (2000003, .loop ⟨.normal, [0, 1], [7, 8], [.one (.sh (.rows (.int .u8))), ak_i], [.rows (.int .u8), .gone], [⟨[], [], [1], []⟩, ⟨[], [], [3], []⟩]⟩ [⟨(.exit 0), [], [7], [.one (.sh (.rows (.int .u8)))], [.rows (.int .u8), .gone], [⟨[], [], [], []⟩]⟩])]
noncomputable def spec_l3With.says (N : Nat) : List Say := [spec_l3Xor.SB N, spec_l3Mix.SB N, spec_l3Xor.S N]
noncomputable def spec_l3With.call (N : Nat) : CallK := callBy (spec_l3With.says N)
noncomputable def spec_l3With.qt (N : Nat) : FuncId → List PV → Sig → Cl := qtBy (spec_l3With.says N)
noncomputable def spec_l3With.l0.hd : Alt := ⟨.normal, [0, 1], [7, 8], [.one (.sh (.rows (.int .u8))), ak_i], [.rows (.int .u8), .gone], [⟨[], [], [1], []⟩, ⟨[], [], [3], []⟩]⟩
noncomputable def spec_l3With.l0.outs : List Alt := [⟨(.exit 0), [], [7], [.one (.sh (.rows (.int .u8)))], [.rows (.int .u8), .gone], [⟨[], [], [], []⟩]⟩]
noncomputable def spec_l3With.l0 (N : Nat) (G1 : (List Int)) (o1 : (List Int)) (t1 : (List Int)) (t2 : Int) (p0 : (List Int)) : Option (((List Int) × Unit) × ((List Int) × (Unit × Unit))) :=
  loopK Tryz.prog spec_l3With.call spec_l3With.qt spec_l3With.H (codeAt (bodyOf Tryz.f82) [1, 1, 0, 1, 0, 0]) 2 spec_l3With.l0.hd spec_l3With.l0.outs [(0, .rows false (.int .u8) G1), (1, .rows false (.int .u8) o1)] N ((t1, (t2, ())), (p0, ((), ())))
noncomputable def spec_l3With.l1.hd : Alt := ⟨.normal, [0, 1, 7, 8], [9, 10], [.one (.own 2), ak_i], [.rows (.int .u8), .gone, .rows (.int .u8)], [⟨[], [], [], []⟩]⟩
noncomputable def spec_l3With.l1.outs : List Alt := [⟨(.exit 2), [0, 1, 8], [9], [.one (.own 2)], [.rows (.int .u8), .gone, .rows (.int .u8)], [⟨[], [], [], []⟩]⟩]
noncomputable def spec_l3With.l1 (N : Nat) (G2 : (List Int)) (o2 : (List Int)) (t3 : (List Int)) (t4 : Int) (A : Int) (p01 : (List Int)) (p2 : (List Int)) : Option ((Unit × Unit) × ((List Int) × (Unit × ((List Int) × Unit)))) :=
  loopK Tryz.prog spec_l3With.call spec_l3With.qt spec_l3With.H (codeAt (bodyOf Tryz.f82) [1, 1, 0, 1, 0, 0, 1, 0, 0, 1, 0, 1, 0, 0]) 3 spec_l3With.l1.hd spec_l3With.l1.outs [(0, .rows false (.int .u8) G2), (1, .rows false (.int .u8) o2), (7, .rows false (.int .u8) t3), (8, .v (.int .i64 t4))] N (((), (A, ())), (p01, ((), (p2, ()))))
noncomputable def spec_l3With.l2.hd : Alt := ⟨.normal, [0, 1, 7, 8, 10], [9, 11], [.one (.own 2), ak_i], [.rows (.int .u8), .gone, .rows (.int .u8)], [⟨[], [], [], []⟩]⟩
noncomputable def spec_l3With.l2.outs : List Alt := [⟨(.exit 4), [0, 1, 7, 8, 10], [9], [.one (.own 2)], [.rows (.int .u8), .gone, .rows (.int .u8)], [⟨[], [], [], []⟩]⟩]
noncomputable def spec_l3With.l2 (N : Nat) (G3 : (List Int)) (o3 : (List Int)) (t5 : (List Int)) (t6 : Int) (A1 : Int) (r : Int) (p02 : (List Int)) (p21 : (List Int)) : Option ((Unit × Unit) × ((List Int) × (Unit × ((List Int) × Unit)))) :=
  loopK Tryz.prog spec_l3With.call spec_l3With.qt spec_l3With.H (codeAt (bodyOf Tryz.f82) [1, 1, 0, 1, 0, 0, 1, 0, 0, 1, 0, 1, 0, 0, 1, 0, 0, 1, 0, 0]) 3 spec_l3With.l2.hd spec_l3With.l2.outs [(0, .rows false (.int .u8) G3), (1, .rows false (.int .u8) o3), (7, .rows false (.int .u8) t5), (8, .v (.int .i64 t6)), (10, .v (.int .i64 A1))] N (((), (r, ())), (p02, ((), (p21, ()))))
noncomputable def spec_l3With.l3.hd : Alt := ⟨.normal, [0, 1, 8], [9, 12, 13], [.one (.own 2), .one (.own 3), ak_i], [.rows (.int .u8), .gone, .rows (.int .u8), .rows (.int .u8)], [⟨[(12, (.int .u8))], [], [], [3]⟩, ⟨[], [], [], [3]⟩]⟩
noncomputable def spec_l3With.l3.outs : List Alt := [⟨(.exit 6), [0, 1, 8], [12], [.one (.own 3)], [.rows (.int .u8), .gone, .rows (.int .u8), .rows (.int .u8)], [⟨[], [], [], [3]⟩]⟩]
noncomputable def spec_l3With.l3 (N : Nat) (G4 : (List Int)) (o4 : (List Int)) (t7 : Int) (a : Int) (p03 : (List Int)) (p22 : (List Int)) (p3 : (List Int)) : Option ((Unit × Unit) × ((List Int) × (Unit × ((List Int) × ((List Int) × Unit))))) :=
  loopK Tryz.prog spec_l3With.call spec_l3With.qt spec_l3With.H (codeAt (bodyOf Tryz.f82) [1, 1, 0, 1, 0, 0, 1, 0, 0, 1, 1, 0, 1, 0, 1, 0, 1, 0, 0]) 3 spec_l3With.l3.hd spec_l3With.l3.outs [(0, .rows false (.int .u8) G4), (1, .rows false (.int .u8) o4), (8, .v (.int .i64 t7))] N (((), ((), (a, ()))), (p03, ((), (p22, (p3, ())))))
noncomputable def spec_l3With (N : Nat) (G : (List Int)) (o : (List Int)) (t : ByteArray) : Option ((ByteArray × Unit) × Unit) :=
  ofFn Tryz.prog spec_l3With.call spec_l3With.qt spec_l3With.H N Tryz.f82 [.one (.sh (.rows (.int .u8))), .one (.sh (.rows (.int .u8))), ak_s] [] [ak_s] [] [⟨[], [], [], []⟩] (G, (o, (t, ()))) ()
noncomputable def spec_l3With.S (N : Nat) : Say := ⟨false, 82, [.one (.sh (.rows (.int .u8))), .one (.sh (.rows (.int .u8))), ak_s], [], [ak_s], [], fun a s => spec_l3With N a.1 a.2.1 a.2.2.1⟩
set_option maxRecDepth 100000 in
theorem spec_l3With.l3.eq (N : Nat) (G4 : (List Int)) (o4 : (List Int)) (t7 : Int) (a : Int) (p03 : (List Int)) (p22 : (List Int)) (p3 : (List Int)) : spec_l3With.l3 (N + 1) G4 o4 t7 a p03 p22 p3 =
 sel (decide (a < 4))
  (
  chk ((decide (0 ≤ (IntKind.i64.wrap (4 * a)))) && ((decide ((IntKind.i64.wrap (4 * a)) ≤ (IntKind.i64.wrap ((IntKind.i64.wrap (4 * a)) + 4)))) && (decide ((IntKind.i64.wrap ((IntKind.i64.wrap (4 * a)) + 4)) ≤ (p22.length : Int))))) (
  andK (spec_l3Mix N ((p22.drop (Int.toNat (IntKind.i64.wrap (4 * a)))).take ((Int.toNat (IntKind.i64.wrap ((IntKind.i64.wrap (4 * a)) + 4))) - (Int.toNat (IntKind.i64.wrap (4 * a))))) [2, 3, 1, 1]) fun u4 =>
  chk (decide (p3.length + u4.2.1.length < most)) (
  spec_l3With.l3 N G4 o4 t7 (IntKind.i64.wrap (a + 1)) p03 p22 (p3 ++ u4.2.1))))
  (
  some ((((), ()), (p03, ((), (p22, (p3, ()))))))) := by kernel_rfl
set_option maxRecDepth 100000 in
theorem spec_l3With.l2.eq (N : Nat) (G3 : (List Int)) (o3 : (List Int)) (t5 : (List Int)) (t6 : Int) (A1 : Int) (r : Int) (p02 : (List Int)) (p21 : (List Int)) : spec_l3With.l2 (N + 1) G3 o3 t5 t6 A1 r p02 p21 =
 sel (decide (r < 4))
  (
  chk ((decide (0 ≤ (IntKind.i64.wrap ((IntKind.i64.wrap (4 * (Int.tmod (IntKind.i64.wrap (A1 + r)) 4))) + r)))) && (decide ((IntKind.i64.wrap ((IntKind.i64.wrap (4 * (Int.tmod (IntKind.i64.wrap (A1 + r)) 4))) + r)) < (t5.length : Int)))) (
  chk ((decide (0 ≤ (t5.getD (Int.toNat (IntKind.i64.wrap ((IntKind.i64.wrap (4 * (Int.tmod (IntKind.i64.wrap (A1 + r)) 4))) + r))) 0))) && (decide ((t5.getD (Int.toNat (IntKind.i64.wrap ((IntKind.i64.wrap (4 * (Int.tmod (IntKind.i64.wrap (A1 + r)) 4))) + r))) 0) < (o3.length : Int)))) (
  chk ((decide (0 ≤ (IntKind.i64.wrap ((IntKind.i64.wrap (4 * A1)) + r)))) && (decide ((IntKind.i64.wrap ((IntKind.i64.wrap (4 * A1)) + r)) < (p21.length : Int)))) (
  spec_l3With.l2 N G3 o3 t5 t6 A1 (IntKind.i64.wrap (r + 1)) p02 (p21.set (Int.toNat (IntKind.i64.wrap ((IntKind.i64.wrap (4 * A1)) + r))) (o3.getD (Int.toNat (t5.getD (Int.toNat (IntKind.i64.wrap ((IntKind.i64.wrap (4 * (Int.tmod (IntKind.i64.wrap (A1 + r)) 4))) + r))) 0)) 0))))))
  (
  some ((((), ()), (p02, ((), (p21, ())))))) := by kernel_rfl
set_option maxRecDepth 100000 in
theorem spec_l3With.l1.eq (N : Nat) (G2 : (List Int)) (o2 : (List Int)) (t3 : (List Int)) (t4 : Int) (A : Int) (p01 : (List Int)) (p2 : (List Int)) : spec_l3With.l1 (N + 1) G2 o2 t3 t4 A p01 p2 =
 sel (decide (A < 4))
  (
  andK (spec_l3With.l2 N G2 o2 t3 t4 A 0 p01 p2) fun l2 =>
  spec_l3With.l1 N G2 o2 t3 t4 (IntKind.i64.wrap (A + 1)) l2.2.1 l2.2.2.2.1)
  (
  some ((((), ()), (p01, ((), (p2, ())))))) := by kernel_rfl
set_option maxRecDepth 100000 in
theorem spec_l3With.l0.eq (N : Nat) (G1 : (List Int)) (o1 : (List Int)) (t1 : (List Int)) (t2 : Int) (p0 : (List Int)) : spec_l3With.l0 (N + 1) G1 o1 t1 t2 p0 =
 sel (decide (t2 ≤ 10))
  (
  andK (spec_l3With.l1 N G1 o1 t1 t2 0 p0 (List.replicate 16 (0 : Int))) fun l3 =>
  andK (α := (((List Int) × Unit) × ((List Int) × (Unit × (Unit × Unit))))) (
   sel (decide (t2 < 10))
    (
    andK (spec_l3With.l3 N G1 o1 t2 0 l3.2.1 l3.2.2.2.1 []) fun l5 =>
    some (((l5.2.2.2.2.1, ()), (l5.2.1, ((), ((), ()))))))
    (
    some (((l3.2.2.2.1, ()), (l3.2.1, ((), ((), ()))))))) fun j6 =>
  chk ((decide (0 ≤ (IntKind.i64.wrap (16 * t2)))) && ((decide ((IntKind.i64.wrap (16 * t2)) ≤ (IntKind.i64.wrap ((IntKind.i64.wrap (16 * t2)) + 16)))) && (decide ((IntKind.i64.wrap ((IntKind.i64.wrap (16 * t2)) + 16)) ≤ (G1.length : Int))))) (
  andK (spec_l3Xor N j6.1.1 (cut G1 (IntKind.i64.wrap (16 * t2)) (IntKind.i64.wrap ((IntKind.i64.wrap (16 * t2)) + 16)))) fun u7 =>
  spec_l3With.l0 N G1 o1 u7.2.1 (IntKind.i64.wrap (t2 + 1)) j6.2.1))
  (
  some (((t1, ()), (p0, ((), ()))))) := by kernel_rfl
set_option maxRecDepth 100000 in
theorem spec_l3With.eq (N : Nat) (G : (List Int)) (o : (List Int)) (t : ByteArray) : spec_l3With N G o t =
 chk (decide (16 ≤ (G.length : Int))) (
 andK (spec_l3Xor N (bytesL t) (cut G 0 16)) fun u1 =>
 andK (spec_l3With.l0 N G o u1.2.1 1 (bytesL t)) fun l8 =>
 some (((strL l8.1.1), ()), ())) := by kernel_rfl
set_option maxRecDepth 100000 in
theorem spec_l3With.say (N : Nat) : SayOk Tryz.prog (spec_l3With.S N) := sayOk_mk (N := N) (H := spec_l3With.H) (preps := [⟨[], [], [], []⟩]) (l := spec_l3With.says) (fn := Tryz.f82) (c := bodyOf Tryz.f82)
  (by kernel_rfl) (by kernel_rfl) (by kernel_rfl) (by kernel_rfl) (by kernel_rfl) (by kernel_rfl) (by kernel_rfl)
  (fun N => SayAll.cons (spec_l3Xor.sayB N) (SayAll.cons (spec_l3Mix.sayB N) (SayAll.cons (spec_l3Xor.say N) (SayAll.nil)))) (fun a s => by kernel_rfl)
noncomputable def spec_l3With.SB (N : Nat) : Say := spec_l3With.S N |>.lent
theorem spec_l3With.sayB (N : Nat) : SayOk Tryz.prog (spec_l3With.SB N) := (spec_l3With.say N).lent

/-! ### loop.example/g00206/spec.l5Key: function 48 -/
noncomputable def spec_l5Key.H : Hints := hintsOf []
noncomputable def spec_l5Key.says (N : Nat) : List Say := [spec_l3Keys.S N, spec_l3Table.S N, spec_l3With.SB N]
noncomputable def spec_l5Key.call (N : Nat) : CallK := callBy (spec_l5Key.says N)
noncomputable def spec_l5Key.qt (N : Nat) : FuncId → List PV → Sig → Cl := qtBy (spec_l5Key.says N)
noncomputable def spec_l5Key (N : Nat) (key : ByteArray) : Option ((Unit × Unit) × ((Unit × (Unit × (ByteArray × Unit))) × ((List Int) × ((List Int) × Unit)))) :=
  ofFn Tryz.prog spec_l5Key.call spec_l5Key.qt spec_l5Key.H N Tryz.f48 [ak_s] [] [.one (.ptr 0 0)] [.cells [.own 1, .own 2, ck_s], .rows (.int .u8), .rows (.int .u8)] [⟨[], [], [], [2, 0, 1]⟩] (key, ()) ()
noncomputable def spec_l5Key.S (N : Nat) : Say := ⟨false, 48, [ak_s], [], [.one (.ptr 0 0)], [.cells [.own 1, .own 2, ck_s], .rows (.int .u8), .rows (.int .u8)], fun a s => spec_l5Key N a.1⟩
set_option maxRecDepth 100000 in
theorem spec_l5Key.eq (N : Nat) (key : ByteArray) : spec_l5Key N key =
 andK (spec_l3Keys N key) fun u1 =>
 andK (spec_l3Table N) fun u2 =>
 andK (spec_l3With N u1.2.1 u2.2.1 (strL (List.replicate 16 (0 : Int)))) fun u3 =>
 some (((), ()), (((), ((), (u3.1.1, ()))), (u1.2.1, (u2.2.1, ())))) := by kernel_rfl
set_option maxRecDepth 100000 in
theorem spec_l5Key.say (N : Nat) : SayOk Tryz.prog (spec_l5Key.S N) := sayOk_mk (N := N) (H := spec_l5Key.H) (preps := [⟨[], [], [], [2, 0, 1]⟩]) (l := spec_l5Key.says) (fn := Tryz.f48) (c := bodyOf Tryz.f48)
  (by kernel_rfl) (by kernel_rfl) (by kernel_rfl) (by kernel_rfl) (by kernel_rfl) (by kernel_rfl) (by kernel_rfl)
  (fun N => SayAll.cons (spec_l3Keys.say N) (SayAll.cons (spec_l3Table.say N) (SayAll.cons (spec_l3With.sayB N) (SayAll.nil)))) (fun a s => by kernel_rfl)

end Go.Proofs.YtkfpfcpmaejeoaaGreat.GFnRetried
