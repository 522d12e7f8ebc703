-- Written by a program of this session out of the translation; Lean checks it.
import Derived.Test.YteichkkbhpdjcaaPmLaw
import Derived.Test.YteichkkbhpdjcaaProg
set_option linter.unusedVariables false
namespace Go.Proofs.Yteichkkbhpdjcaa.GFnCut
open Go Go.Proofs Go.Proofs.YteichkkbhpdjcaaPM

/-! ### (*loop.example/g00206/spec.l1Cur).next: function 113 -/
noncomputable def spec_l1Cur_next.H : Hints := hintsOf [(4, .join [⟨.normal, [], [0, 3], [.one (.ptr 0 0), ak_i], [.cells [.sh (.rows (.int .u8)), ck_i, .sh (.int .u64)]], [⟨[], [], [], []⟩]⟩])]
noncomputable def spec_l1Cur_next.says (N : Nat) : List Say := []
noncomputable def spec_l1Cur_next.call (N : Nat) : CallK := callBy (spec_l1Cur_next.says N)
noncomputable def spec_l1Cur_next.qt (N : Nat) : FuncId → List PV → Sig → Cl := qtBy (spec_l1Cur_next.says N)
noncomputable def spec_l1Cur_next (N : Nat) (p0_0 : (List Int)) (p0_1 : Int) (p0_2 : Int) : Option ((Int × Unit) × (((List Int) × (Int × (Int × Unit))) × Unit)) :=
  ofFn Try.prog spec_l1Cur_next.call spec_l1Cur_next.qt spec_l1Cur_next.H N Try.f113 [.one (.ptr 0 0)] [.cells [.sh (.rows (.int .u8)), ck_i, .sh (.int .u64)]] [ak_i] [.cells [.sh (.rows (.int .u8)), ck_i, .sh (.int .u64)]] [⟨[], [], [], []⟩] ((), ()) ((p0_0, (p0_1, (p0_2, ()))), ())
noncomputable def spec_l1Cur_next.S (N : Nat) : Say := ⟨false, 113, [.one (.ptr 0 0)], [.cells [.sh (.rows (.int .u8)), ck_i, .sh (.int .u64)]], [ak_i], [.cells [.sh (.rows (.int .u8)), ck_i, .sh (.int .u64)]], fun a s => spec_l1Cur_next N s.1.1 s.1.2.1 s.1.2.2.1⟩
set_option maxRecDepth 100000 in
theorem spec_l1Cur_next.eq (N : Nat) (p0_0 : (List Int)) (p0_1 : Int) (p0_2 : Int) : spec_l1Cur_next N p0_0 p0_1 p0_2 =
 andK (α := ((Unit × (Int × Unit)) × (((List Int) × (Int × (Int × Unit))) × Unit))) (
  sel (decide (p0_1 < (p0_0.length : Int)))
   (
   chk ((decide (0 ≤ p0_1)) && (decide (p0_1 < (p0_0.length : Int)))) (
   some ((((), ((IntKind.i64.wrap (p0_0.getD (Int.toNat p0_1) 0)), ())), ((p0_0, (p0_1, (p0_2, ()))), ())))))
   (
   some ((((), (0, ())), ((p0_0, (p0_1, (p0_2, ()))), ()))))) fun j1 =>
 sel (decide ((IntKind.i64.wrap (j1.2.1.2.1 + 1)) ≤ (j1.2.1.1.length : Int)))
  (
  some ((j1.1.2.1, ()), ((j1.2.1.1, ((IntKind.i64.wrap (j1.2.1.2.1 + 1)), ((IntKind.u64.wrap ((IntKind.u64.wrap ((IntKind.u64.wrap (j1.2.1.2.2.1 * 6364136223846793005)) + (IntKind.u64.wrap j1.1.2.1))) + 1442695040888963407)), ()))), ())))
  (
  some (((IntKind.i64.wrap (Go.bits .and .u64 (shrI .u64 (IntKind.u64.wrap ((IntKind.u64.wrap ((IntKind.u64.wrap (j1.2.1.2.2.1 * 6364136223846793005)) + (IntKind.u64.wrap j1.1.2.1))) + 1442695040888963407)) 40) 255)), ()), ((j1.2.1.1, ((IntKind.i64.wrap (j1.2.1.2.1 + 1)), ((IntKind.u64.wrap ((IntKind.u64.wrap ((IntKind.u64.wrap (j1.2.1.2.2.1 * 6364136223846793005)) + (IntKind.u64.wrap j1.1.2.1))) + 1442695040888963407)), ()))), ()))) := by kernel_rfl
set_option maxRecDepth 100000 in
theorem spec_l1Cur_next.say (N : Nat) : SayOk Try.prog (spec_l1Cur_next.S N) := sayOk_mk (N := N) (H := spec_l1Cur_next.H) (preps := [⟨[], [], [], []⟩]) (l := spec_l1Cur_next.says) (fn := Try.f113) (c := bodyOf Try.f113)
  (by kernel_rfl) (by kernel_rfl) (by kernel_rfl) (by kernel_rfl) (by kernel_rfl) (by kernel_rfl) (by kernel_rfl)
  (fun N => SayAll.nil) (fun a s => by kernel_rfl)

/-! ### (*loop.example/g00206/spec.l1Cur).pick: function 46 -/
noncomputable def spec_l1Cur_pick.H : Hints := hintsOf []
noncomputable def spec_l1Cur_pick.says (N : Nat) : List Say := [spec_l1Cur_next.S N]
noncomputable def spec_l1Cur_pick.call (N : Nat) : CallK := callBy (spec_l1Cur_pick.says N)
noncomputable def spec_l1Cur_pick.qt (N : Nat) : FuncId → List PV → Sig → Cl := qtBy (spec_l1Cur_pick.says N)
noncomputable def spec_l1Cur_pick (N : Nat) (n : Int) (p0_0 : (List Int)) (p0_1 : Int) (p0_2 : Int) : Option ((Int × Unit) × (((List Int) × (Int × (Int × Unit))) × Unit)) :=
  ofFn Try.prog spec_l1Cur_pick.call spec_l1Cur_pick.qt spec_l1Cur_pick.H N Try.f46 [.one (.ptr 0 0), ak_i] [.cells [.sh (.rows (.int .u8)), ck_i, .sh (.int .u64)]] [ak_i] [.cells [.sh (.rows (.int .u8)), ck_i, .sh (.int .u64)]] [⟨[], [], [], []⟩] ((), (n, ())) ((p0_0, (p0_1, (p0_2, ()))), ())
noncomputable def spec_l1Cur_pick.S (N : Nat) : Say := ⟨false, 46, [.one (.ptr 0 0), ak_i], [.cells [.sh (.rows (.int .u8)), ck_i, .sh (.int .u64)]], [ak_i], [.cells [.sh (.rows (.int .u8)), ck_i, .sh (.int .u64)]], fun a s => spec_l1Cur_pick N a.2.1 s.1.1 s.1.2.1 s.1.2.2.1⟩
set_option maxRecDepth 100000 in
theorem spec_l1Cur_pick.eq (N : Nat) (n : Int) (p0_0 : (List Int)) (p0_1 : Int) (p0_2 : Int) : spec_l1Cur_pick N n p0_0 p0_1 p0_2 =
 sel (decide (n ≤ 1))
  (
  some ((0, ()), ((p0_0, (p0_1, (p0_2, ()))), ())))
  (
  andK (spec_l1Cur_next N p0_0 p0_1 p0_2) fun u1 =>
  sel (decide (200 < n))
   (
   andK (spec_l1Cur_next N u1.2.1.1 u1.2.1.2.1 u1.2.1.2.2.1) fun u2 =>
   chk (n != 0) (
   some (((Int.tmod (IntKind.i64.wrap ((IntKind.i64.wrap (u1.1.1 * 256)) + u2.1.1)) n), ()), ((u2.2.1.1, (u2.2.1.2.1, (u2.2.1.2.2.1, ()))), ()))))
   (
   chk (n != 0) (
   some (((Int.tmod u1.1.1 n), ()), ((u1.2.1.1, (u1.2.1.2.1, (u1.2.1.2.2.1, ()))), ()))))) := by kernel_rfl
set_option maxRecDepth 100000 in
theorem spec_l1Cur_pick.say (N : Nat) : SayOk Try.prog (spec_l1Cur_pick.S N) := sayOk_mk (N := N) (H := spec_l1Cur_pick.H) (preps := [⟨[], [], [], []⟩]) (l := spec_l1Cur_pick.says) (fn := Try.f46) (c := bodyOf Try.f46)
  (by kernel_rfl) (by kernel_rfl) (by kernel_rfl) (by kernel_rfl) (by kernel_rfl) (by kernel_rfl) (by kernel_rfl)
  (fun N => SayAll.cons (spec_l1Cur_next.say N) (SayAll.nil)) (fun a s => by kernel_rfl)

/-! ### (*loop.example/g00206/spec.l1Cur).one: function 49 -/
noncomputable def spec_l1Cur_one.H : Hints := hintsOf []
noncomputable def spec_l1Cur_one.says (N : Nat) : List Say := [spec_l1Cur_pick.S N]
noncomputable def spec_l1Cur_one.call (N : Nat) : CallK := callBy (spec_l1Cur_one.says N)
noncomputable def spec_l1Cur_one.qt (N : Nat) : FuncId → List PV → Sig → Cl := qtBy (spec_l1Cur_one.says N)
noncomputable def spec_l1Cur_one (N : Nat) (n : Int) (p0_0 : (List Int)) (p0_1 : Int) (p0_2 : Int) : Option ((Bool × Unit) × (((List Int) × (Int × (Int × Unit))) × Unit)) :=
  ofFn Try.prog spec_l1Cur_one.call spec_l1Cur_one.qt spec_l1Cur_one.H N Try.f49 [.one (.ptr 0 0), ak_i] [.cells [.sh (.rows (.int .u8)), ck_i, .sh (.int .u64)]] [ak_b] [.cells [.sh (.rows (.int .u8)), ck_i, .sh (.int .u64)]] [⟨[], [], [], []⟩] ((), (n, ())) ((p0_0, (p0_1, (p0_2, ()))), ())
noncomputable def spec_l1Cur_one.S (N : Nat) : Say := ⟨false, 49, [.one (.ptr 0 0), ak_i], [.cells [.sh (.rows (.int .u8)), ck_i, .sh (.int .u64)]], [ak_b], [.cells [.sh (.rows (.int .u8)), ck_i, .sh (.int .u64)]], fun a s => spec_l1Cur_one N a.2.1 s.1.1 s.1.2.1 s.1.2.2.1⟩
set_option maxRecDepth 100000 in
theorem spec_l1Cur_one.eq (N : Nat) (n : Int) (p0_0 : (List Int)) (p0_1 : Int) (p0_2 : Int) : spec_l1Cur_one N n p0_0 p0_1 p0_2 =
 andK (spec_l1Cur_pick N n p0_0 p0_1 p0_2) fun u1 =>
 some (((decide (u1.1.1 = 0)), ()), ((u1.2.1.1, (u1.2.1.2.1, (u1.2.1.2.2.1, ()))), ())) := by kernel_rfl
set_option maxRecDepth 100000 in
theorem spec_l1Cur_one.say (N : Nat) : SayOk Try.prog (spec_l1Cur_one.S N) := sayOk_mk (N := N) (H := spec_l1Cur_one.H) (preps := [⟨[], [], [], []⟩]) (l := spec_l1Cur_one.says) (fn := Try.f49) (c := bodyOf Try.f49)
  (by kernel_rfl) (by kernel_rfl) (by kernel_rfl) (by kernel_rfl) (by kernel_rfl) (by kernel_rfl) (by kernel_rfl)
  (fun N => SayAll.cons (spec_l1Cur_pick.say N) (SayAll.nil)) (fun a s => by kernel_rfl)

/-! ### (*loop.example/g00206/spec.l1Cur).among: function 48 -/
noncomputable def spec_l1Cur_among.H : Hints := hintsOf []
noncomputable def spec_l1Cur_among.says (N : Nat) : List Say := [spec_l1Cur_pick.S N]
noncomputable def spec_l1Cur_among.call (N : Nat) : CallK := callBy (spec_l1Cur_among.says N)
noncomputable def spec_l1Cur_among.qt (N : Nat) : FuncId → List PV → Sig → Cl := qtBy (spec_l1Cur_among.says N)
noncomputable def spec_l1Cur_among (N : Nat) (list : (List Int)) (p0_0 : (List Int)) (p0_1 : Int) (p0_2 : Int) : Option ((Int × Unit) × (((List Int) × (Int × (Int × Unit))) × Unit)) :=
  ofFn Try.prog spec_l1Cur_among.call spec_l1Cur_among.qt spec_l1Cur_among.H N Try.f48 [.one (.ptr 0 0), .one (.sh (.rows (.int .i64)))] [.cells [.sh (.rows (.int .u8)), ck_i, .sh (.int .u64)]] [ak_i] [.cells [.sh (.rows (.int .u8)), ck_i, .sh (.int .u64)]] [⟨[], [], [], []⟩] ((), (list, ())) ((p0_0, (p0_1, (p0_2, ()))), ())
noncomputable def spec_l1Cur_among.S (N : Nat) : Say := ⟨false, 48, [.one (.ptr 0 0), .one (.sh (.rows (.int .i64)))], [.cells [.sh (.rows (.int .u8)), ck_i, .sh (.int .u64)]], [ak_i], [.cells [.sh (.rows (.int .u8)), ck_i, .sh (.int .u64)]], fun a s => spec_l1Cur_among N a.2.1 s.1.1 s.1.2.1 s.1.2.2.1⟩
set_option maxRecDepth 100000 in
theorem spec_l1Cur_among.eq (N : Nat) (list : (List Int)) (p0_0 : (List Int)) (p0_1 : Int) (p0_2 : Int) : spec_l1Cur_among N list p0_0 p0_1 p0_2 =
 andK (spec_l1Cur_pick N (list.length : Int) p0_0 p0_1 p0_2) fun u1 =>
 chk ((decide (0 ≤ u1.1.1)) && (decide (u1.1.1 < (list.length : Int)))) (
 some (((list.getD (Int.toNat u1.1.1) 0), ()), ((u1.2.1.1, (u1.2.1.2.1, (u1.2.1.2.2.1, ()))), ()))) := by kernel_rfl
set_option maxRecDepth 100000 in
theorem spec_l1Cur_among.say (N : Nat) : SayOk Try.prog (spec_l1Cur_among.S N) := sayOk_mk (N := N) (H := spec_l1Cur_among.H) (preps := [⟨[], [], [], []⟩]) (l := spec_l1Cur_among.says) (fn := Try.f48) (c := bodyOf Try.f48)
  (by kernel_rfl) (by kernel_rfl) (by kernel_rfl) (by kernel_rfl) (by kernel_rfl) (by kernel_rfl) (by kernel_rfl)
  (fun N => SayAll.cons (spec_l1Cur_pick.say N) (SayAll.nil)) (fun a s => by kernel_rfl)

/-! ### (*loop.example/g00206/spec.l1Cur).sizedBytes: function 86 -/
noncomputable def spec_l1Cur_sizedBytes.H : Hints := hintsOf [(2000003, .loop ⟨.normal, [10], [0, 5, 11], [.one (.ptr 0 0), .one (.own 1), ak_i], [.cells [.sh (.rows (.int .u8)), ck_i, .sh (.int .u64)], .rows (.int .u8)], [⟨[], [], [], []⟩]⟩ [⟨(.exit 0), [], [5], [.one (.own 1)], [.cells [.sh (.rows (.int .u8)), ck_i, .sh (.int .u64)], .rows (.int .u8)], [⟨[], [], [], []⟩]⟩])]
noncomputable def spec_l1Cur_sizedBytes.says (N : Nat) : List Say := [spec_l1Cur_pick.S N]
noncomputable def spec_l1Cur_sizedBytes.call (N : Nat) : CallK := callBy (spec_l1Cur_sizedBytes.says N)
noncomputable def spec_l1Cur_sizedBytes.qt (N : Nat) : FuncId → List PV → Sig → Cl := qtBy (spec_l1Cur_sizedBytes.says N)
noncomputable def spec_l1Cur_sizedBytes.l0.hd : Alt := ⟨.normal, [10], [0, 5, 11], [.one (.ptr 0 0), .one (.own 1), ak_i], [.cells [.sh (.rows (.int .u8)), ck_i, .sh (.int .u64)], .rows (.int .u8)], [⟨[], [], [], []⟩]⟩
noncomputable def spec_l1Cur_sizedBytes.l0.outs : List Alt := [⟨(.exit 0), [], [5], [.one (.own 1)], [.cells [.sh (.rows (.int .u8)), ck_i, .sh (.int .u64)], .rows (.int .u8)], [⟨[], [], [], []⟩]⟩]
noncomputable def spec_l1Cur_sizedBytes.l0 (N : Nat) (t10 : Int) (t11 : Int) (p0_01 : (List Int)) (p0_11 : Int) (p0_21 : Int) (p1 : (List Int)) : Option ((Unit × Unit) × (((List Int) × (Int × (Int × Unit))) × ((List Int) × Unit))) :=
  loopK Try.prog spec_l1Cur_sizedBytes.call spec_l1Cur_sizedBytes.qt spec_l1Cur_sizedBytes.H (codeAt (bodyOf Try.f86) [1, 1, 0, 1, 0, 0]) 2 spec_l1Cur_sizedBytes.l0.hd spec_l1Cur_sizedBytes.l0.outs [(10, .v (.int .i64 t10))] N (((), ((), (t11, ()))), ((p0_01, (p0_11, (p0_21, ()))), (p1, ())))
noncomputable def spec_l1Cur_sizedBytes (N : Nat) (n : Int) (p0_0 : (List Int)) (p0_1 : Int) (p0_2 : Int) : Option ((Unit × Unit) × (((List Int) × (Int × (Int × Unit))) × ((List Int) × Unit))) :=
  ofFn Try.prog spec_l1Cur_sizedBytes.call spec_l1Cur_sizedBytes.qt spec_l1Cur_sizedBytes.H N Try.f86 [.one (.ptr 0 0), ak_i] [.cells [.sh (.rows (.int .u8)), ck_i, .sh (.int .u64)]] [.one (.own 1)] [.cells [.sh (.rows (.int .u8)), ck_i, .sh (.int .u64)], .rows (.int .u8)] [⟨[], [], [], [1]⟩] ((), (n, ())) ((p0_0, (p0_1, (p0_2, ()))), ())
noncomputable def spec_l1Cur_sizedBytes.S (N : Nat) : Say := ⟨false, 86, [.one (.ptr 0 0), ak_i], [.cells [.sh (.rows (.int .u8)), ck_i, .sh (.int .u64)]], [.one (.own 1)], [.cells [.sh (.rows (.int .u8)), ck_i, .sh (.int .u64)], .rows (.int .u8)], fun a s => spec_l1Cur_sizedBytes N a.2.1 s.1.1 s.1.2.1 s.1.2.2.1⟩
set_option maxRecDepth 100000 in
theorem spec_l1Cur_sizedBytes.l0.eq (N : Nat) (t10 : Int) (t11 : Int) (p0_01 : (List Int)) (p0_11 : Int) (p0_21 : Int) (p1 : (List Int)) : spec_l1Cur_sizedBytes.l0 (N + 1) t10 t11 p0_01 p0_11 p0_21 p1 =
 sel (decide (t11 < t10))
  (
  andK (spec_l1Cur_pick N 256 p0_01 p0_11 p0_21) fun u1 =>
  chk ((decide (0 ≤ t11)) && (decide (t11 < (p1.length : Int)))) (
  spec_l1Cur_sizedBytes.l0 N t10 (IntKind.i64.wrap (t11 + 1)) u1.2.1.1 u1.2.1.2.1 u1.2.1.2.2.1 (p1.set (Int.toNat t11) (IntKind.u8.wrap u1.1.1))))
  (
  some ((((), ()), ((p0_01, (p0_11, (p0_21, ()))), (p1, ()))))) := by kernel_rfl
set_option maxRecDepth 100000 in
theorem spec_l1Cur_sizedBytes.eq (N : Nat) (n : Int) (p0_0 : (List Int)) (p0_1 : Int) (p0_2 : Int) : spec_l1Cur_sizedBytes N n p0_0 p0_1 p0_2 =
 chk ((decide (0 ≤ n)) && ((smallI n) && (decide (n = n)))) (
 andK (spec_l1Cur_sizedBytes.l0 N ((List.replicate (Int.toNat n) (0 : Int)).length : Int) 0 p0_0 p0_1 p0_2 (List.replicate (Int.toNat n) (0 : Int))) fun l2 =>
 some (((), ()), ((l2.2.1.1, (l2.2.1.2.1, (l2.2.1.2.2.1, ()))), (l2.2.2.1, ())))) := by kernel_rfl
set_option maxRecDepth 100000 in
theorem spec_l1Cur_sizedBytes.say (N : Nat) : SayOk Try.prog (spec_l1Cur_sizedBytes.S N) := sayOk_mk (N := N) (H := spec_l1Cur_sizedBytes.H) (preps := [⟨[], [], [], [1]⟩]) (l := spec_l1Cur_sizedBytes.says) (fn := Try.f86) (c := bodyOf Try.f86)
  (by kernel_rfl) (by kernel_rfl) (by kernel_rfl) (by kernel_rfl) (by kernel_rfl) (by kernel_rfl) (by kernel_rfl)
  (fun N => SayAll.cons (spec_l1Cur_pick.say N) (SayAll.nil)) (fun a s => by kernel_rfl)

/-! ### (*loop.example/g00206/spec.l1Cur).id: function 158 -/
noncomputable def spec_l1Cur_id.H : Hints := hintsOf [(4, .join [⟨.normal, [], [0, 3], [.one (.ptr 0 0), ak_i], [.cells [.sh (.rows (.int .u8)), ck_i, .sh (.int .u64)]], [⟨[], [], [], []⟩]⟩])]
noncomputable def spec_l1Cur_id.says (N : Nat) : List Say := [spec_l1Cur_pick.S N, spec_l1Cur_one.S N, spec_l1Cur_among.S N, spec_l1Cur_sizedBytes.S N]
noncomputable def spec_l1Cur_id.call (N : Nat) : CallK := callBy (spec_l1Cur_id.says N)
noncomputable def spec_l1Cur_id.qt (N : Nat) : FuncId → List PV → Sig → Cl := qtBy (spec_l1Cur_id.says N)
noncomputable def spec_l1Cur_id (N : Nat) (p0_0 : (List Int)) (p0_1 : Int) (p0_2 : Int) : Option ((ByteArray × Unit) × (((List Int) × (Int × (Int × Unit))) × Unit)) :=
  ofFn Try.prog spec_l1Cur_id.call spec_l1Cur_id.qt spec_l1Cur_id.H N Try.f158 [.one (.ptr 0 0)] [.cells [.sh (.rows (.int .u8)), ck_i, .sh (.int .u64)]] [ak_s] [.cells [.sh (.rows (.int .u8)), ck_i, .sh (.int .u64)]] [⟨[], [], [], []⟩] ((), ()) ((p0_0, (p0_1, (p0_2, ()))), ())
noncomputable def spec_l1Cur_id.S (N : Nat) : Say := ⟨false, 158, [.one (.ptr 0 0)], [.cells [.sh (.rows (.int .u8)), ck_i, .sh (.int .u64)]], [ak_s], [.cells [.sh (.rows (.int .u8)), ck_i, .sh (.int .u64)]], fun a s => spec_l1Cur_id N s.1.1 s.1.2.1 s.1.2.2.1⟩
set_option maxRecDepth 100000 in
theorem spec_l1Cur_id.eq (N : Nat) (p0_0 : (List Int)) (p0_1 : Int) (p0_2 : Int) : spec_l1Cur_id N p0_0 p0_1 p0_2 =
 andK (spec_l1Cur_pick N 10 p0_0 p0_1 p0_2) fun u1 =>
 andK (α := ((Unit × (Int × Unit)) × (((List Int) × (Int × (Int × Unit))) × Unit))) (
  andK (spec_l1Cur_one N 12 u1.2.1.1 u1.2.1.2.1 u1.2.1.2.2.1) fun u2 =>
  sel u2.1.1
   (
   andK (spec_l1Cur_among N [20, 21, 0] u2.2.1.1 u2.2.1.2.1 u2.2.1.2.2.1) fun u3 =>
   some ((((), (u3.1.1, ())), ((u3.2.1.1, (u3.2.1.2.1, (u3.2.1.2.2.1, ()))), ()))))
   (
   some ((((), (u1.1.1, ())), ((u2.2.1.1, (u2.2.1.2.1, (u2.2.1.2.2.1, ()))), ()))))) fun j4 =>
 andK (spec_l1Cur_sizedBytes N j4.1.2.1 j4.2.1.1 j4.2.1.2.1 j4.2.1.2.2.1) fun u5 =>
 some (((strL u5.2.2.1), ()), ((u5.2.1.1, (u5.2.1.2.1, (u5.2.1.2.2.1, ()))), ())) := by kernel_rfl
set_option maxRecDepth 100000 in
theorem spec_l1Cur_id.say (N : Nat) : SayOk Try.prog (spec_l1Cur_id.S N) := sayOk_mk (N := N) (H := spec_l1Cur_id.H) (preps := [⟨[], [], [], []⟩]) (l := spec_l1Cur_id.says) (fn := Try.f158) (c := bodyOf Try.f158)
  (by kernel_rfl) (by kernel_rfl) (by kernel_rfl) (by kernel_rfl) (by kernel_rfl) (by kernel_rfl) (by kernel_rfl)
  (fun N => SayAll.cons (spec_l1Cur_pick.say N) (SayAll.cons (spec_l1Cur_one.say N) (SayAll.cons (spec_l1Cur_among.say N) (SayAll.cons (spec_l1Cur_sizedBytes.say N) (SayAll.nil))))) (fun a s => by kernel_rfl)

/-! ### (*loop.example/g00206/spec.l1Cur).header: function 97 -/
noncomputable def spec_l1Cur_header.H : Hints := hintsOf [(5, .join [⟨.normal, [], [0, 2, 3], [.one (.ptr 0 0), .one (.ptr 1 0), .one (.ptr 3 0)], [.cells [.sh (.rows (.int .u8)), ck_i, .sh (.int .u64)], .cells [ck_i, ck_i, ck_i, ck_s, ck_s, ck_s, ck_s, .nil], .rows (.int .u8), .cells [ck_i, ck_i, ck_i, ck_s, ck_s, ck_s, ck_s, .nil]], [⟨[], [], [], []⟩]⟩]),
  (5000005, .join [⟨.normal, [], [0, 2, 3, 34], [.one (.ptr 0 0), .one (.ptr 1 0), .one (.ptr 3 0), ak_b], [.cells [.sh (.rows (.int .u8)), ck_i, .sh (.int .u64)], .cells [ck_i, ck_i, ck_i, ck_s, ck_s, ck_s, ck_s, .nil], .rows (.int .u8), .cells [ck_i, ck_i, ck_i, ck_s, ck_s, ck_s, ck_s, .nil]], [⟨[], [], [], []⟩]⟩]),
  (7, .join [⟨.normal, [], [0, 2, 3], [.one (.ptr 0 0), .one (.ptr 1 0), .one (.ptr 3 0)], [.cells [.sh (.rows (.int .u8)), ck_i, .sh (.int .u64)], .cells [ck_i, ck_i, ck_i, ck_s, ck_s, ck_s, ck_s, .nil], .rows (.int .u8), .cells [ck_i, ck_i, ck_i, ck_s, ck_s, ck_s, ck_s, .nil]], [⟨[], [], [], []⟩]⟩]),
  (2000011, .loop ⟨.normal, [], [0, 2, 3, 4], [.one (.ptr 0 0), .one (.ptr 1 0), .one (.ptr 3 0), ak_i], [.cells [.sh (.rows (.int .u8)), ck_i, .sh (.int .u64)], .cells [ck_i, ck_i, ck_i, ck_s, ck_s, ck_s, ck_s, .nil], .rows (.int .u8), .cells [ck_i, ck_i, ck_i, ck_s, ck_s, ck_s, ck_s, .own 4], .rows (.int .i64)], [⟨[], [(3, (7, (.int .i64)))], [], [4]⟩, ⟨[], [], [], [4]⟩]⟩ [⟨(.exit 0), [], [0, 2, 3], [.one (.ptr 0 0), .one (.ptr 1 0), .one (.ptr 3 0)], [.cells [.sh (.rows (.int .u8)), ck_i, .sh (.int .u64)], .cells [ck_i, ck_i, ck_i, ck_s, ck_s, ck_s, ck_s, .nil], .rows (.int .u8), .cells [ck_i, ck_i, ck_i, ck_s, ck_s, ck_s, ck_s, .own 4], .rows (.int .i64)], [⟨[], [], [], [4]⟩]⟩]),
  (14, .join [⟨.normal, [], [0, 2, 3], [.one (.ptr 0 0), .one (.ptr 1 0), .one (.ptr 3 0)], [.cells [.sh (.rows (.int .u8)), ck_i, .sh (.int .u64)], .cells [ck_i, ck_i, ck_i, ck_s, ck_s, ck_s, ck_s, .nil], .rows (.int .u8), .cells [ck_i, ck_i, ck_i, ck_s, ck_s, ck_s, ck_s, .own 4], .rows (.int .i64)], [⟨[], [], [], [4]⟩, ⟨[], [(3, (7, (.int .i64)))], [], [4]⟩]⟩])]
noncomputable def spec_l1Cur_header.says (N : Nat) : List Say := [spec_l1Cur_pick.S N, spec_l1Cur_id.S N, spec_l1Cur_sizedBytes.S N, spec_l1Cur_among.S N, spec_l1Cur_one.S N]
noncomputable def spec_l1Cur_header.call (N : Nat) : CallK := callBy (spec_l1Cur_header.says N)
noncomputable def spec_l1Cur_header.qt (N : Nat) : FuncId → List PV → Sig → Cl := qtBy (spec_l1Cur_header.says N)
noncomputable def spec_l1Cur_header.l0.hd : Alt := ⟨.normal, [], [0, 2, 3, 4], [.one (.ptr 0 0), .one (.ptr 1 0), .one (.ptr 3 0), ak_i], [.cells [.sh (.rows (.int .u8)), ck_i, .sh (.int .u64)], .cells [ck_i, ck_i, ck_i, ck_s, ck_s, ck_s, ck_s, .nil], .rows (.int .u8), .cells [ck_i, ck_i, ck_i, ck_s, ck_s, ck_s, ck_s, .own 4], .rows (.int .i64)], [⟨[], [(3, (7, (.int .i64)))], [], [4]⟩, ⟨[], [], [], [4]⟩]⟩
noncomputable def spec_l1Cur_header.l0.outs : List Alt := [⟨(.exit 0), [], [0, 2, 3], [.one (.ptr 0 0), .one (.ptr 1 0), .one (.ptr 3 0)], [.cells [.sh (.rows (.int .u8)), ck_i, .sh (.int .u64)], .cells [ck_i, ck_i, ck_i, ck_s, ck_s, ck_s, ck_s, .nil], .rows (.int .u8), .cells [ck_i, ck_i, ck_i, ck_s, ck_s, ck_s, ck_s, .own 4], .rows (.int .i64)], [⟨[], [], [], [4]⟩]⟩]
noncomputable def spec_l1Cur_header.l0 (N : Nat) (o : Int) (p0_01 : (List Int)) (p0_11 : Int) (p0_21 : Int) (p1_0 : Int) (p1_1 : Int) (p1_2 : Int) (p1_3 : ByteArray) (p1_4 : ByteArray) (p1_5 : ByteArray) (p1_6 : ByteArray) (p2 : (List Int)) (p3_0 : Int) (p3_1 : Int) (p3_2 : Int) (p3_3 : ByteArray) (p3_4 : ByteArray) (p3_5 : ByteArray) (p3_6 : ByteArray) (p4 : (List Int)) : Option ((Unit × (Unit × (Unit × Unit))) × (((List Int) × (Int × (Int × Unit))) × ((Int × (Int × (Int × (ByteArray × (ByteArray × (ByteArray × (ByteArray × (Unit × Unit)))))))) × ((List Int) × ((Int × (Int × (Int × (ByteArray × (ByteArray × (ByteArray × (ByteArray × (Unit × Unit)))))))) × ((List Int) × Unit)))))) :=
  loopK Try.prog spec_l1Cur_header.call spec_l1Cur_header.qt spec_l1Cur_header.H (codeAt (bodyOf Try.f97) [1, 1, 1, 1, 0, 1, 0, 1, 1, 1, 0, 0]) 4 spec_l1Cur_header.l0.hd spec_l1Cur_header.l0.outs [] N (((), ((), ((), (o, ())))), ((p0_01, (p0_11, (p0_21, ()))), ((p1_0, (p1_1, (p1_2, (p1_3, (p1_4, (p1_5, (p1_6, ((), ())))))))), (p2, ((p3_0, (p3_1, (p3_2, (p3_3, (p3_4, (p3_5, (p3_6, ((), ())))))))), (p4, ()))))))
noncomputable def spec_l1Cur_header (N : Nat) (p0_0 : (List Int)) (p0_1 : Int) (p0_2 : Int) : Option (((Int × (Int × (Int × (ByteArray × (ByteArray × (ByteArray × (ByteArray × (Unit × Unit)))))))) × Unit) × (((List Int) × (Int × (Int × Unit))) × ((List Int) × Unit))) :=
  ofFn Try.prog spec_l1Cur_header.call spec_l1Cur_header.qt spec_l1Cur_header.H N Try.f97 [.one (.ptr 0 0)] [.cells [.sh (.rows (.int .u8)), ck_i, .sh (.int .u64)]] [.agg [ck_i, ck_i, ck_i, ck_s, ck_s, ck_s, ck_s, .own 1]] [.cells [.sh (.rows (.int .u8)), ck_i, .sh (.int .u64)], .rows (.int .i64)] [⟨[], [], [], [4]⟩] ((), ()) ((p0_0, (p0_1, (p0_2, ()))), ())
noncomputable def spec_l1Cur_header.S (N : Nat) : Say := ⟨false, 97, [.one (.ptr 0 0)], [.cells [.sh (.rows (.int .u8)), ck_i, .sh (.int .u64)]], [.agg [ck_i, ck_i, ck_i, ck_s, ck_s, ck_s, ck_s, .own 1]], [.cells [.sh (.rows (.int .u8)), ck_i, .sh (.int .u64)], .rows (.int .i64)], fun a s => spec_l1Cur_header N s.1.1 s.1.2.1 s.1.2.2.1⟩
set_option maxRecDepth 100000 in
theorem spec_l1Cur_header.l0.eq (N : Nat) (o : Int) (p0_01 : (List Int)) (p0_11 : Int) (p0_21 : Int) (p1_0 : Int) (p1_1 : Int) (p1_2 : Int) (p1_3 : ByteArray) (p1_4 : ByteArray) (p1_5 : ByteArray) (p1_6 : ByteArray) (p2 : (List Int)) (p3_0 : Int) (p3_1 : Int) (p3_2 : Int) (p3_3 : ByteArray) (p3_4 : ByteArray) (p3_5 : ByteArray) (p3_6 : ByteArray) (p4 : (List Int)) : spec_l1Cur_header.l0 (N + 1) o p0_01 p0_11 p0_21 p1_0 p1_1 p1_2 p1_3 p1_4 p1_5 p1_6 p2 p3_0 p3_1 p3_2 p3_3 p3_4 p3_5 p3_6 p4 =
 sel (decide (0 < o))
  (
  andK (spec_l1Cur_among N [0, 1, 4294967295, 7] p0_01 p0_11 p0_21) fun u15 =>
  chk (decide (p4.length + 1 < most)) (
  spec_l1Cur_header.l0 N (IntKind.i64.wrap (o - 1)) u15.2.1.1 u15.2.1.2.1 u15.2.1.2.2.1 p1_0 p1_1 p1_2 p1_3 p1_4 p1_5 p1_6 p2 p3_0 p3_1 p3_2 p3_3 p3_4 p3_5 p3_6 (p4 ++ [u15.1.1])))
  (
  some ((((), ((), ((), ()))), ((p0_01, (p0_11, (p0_21, ()))), ((p1_0, (p1_1, (p1_2, (p1_3, (p1_4, (p1_5, (p1_6, ((), ())))))))), (p2, ((p3_0, (p3_1, (p3_2, (p3_3, (p3_4, (p3_5, (p3_6, ((), ())))))))), (p4, ())))))))) := by kernel_rfl
set_option maxRecDepth 100000 in
theorem spec_l1Cur_header.eq (N : Nat) (p0_0 : (List Int)) (p0_1 : Int) (p0_2 : Int) : spec_l1Cur_header N p0_0 p0_1 p0_2 =
 andK (spec_l1Cur_pick N 6 p0_0 p0_1 p0_2) fun u1 =>
 andK (spec_l1Cur_pick N 16 u1.2.1.1 u1.2.1.2.1 u1.2.1.2.2.1) fun u2 =>
 andK (spec_l1Cur_id N u2.2.1.1 u2.2.1.2.1 u2.2.1.2.2.1) fun u3 =>
 andK (spec_l1Cur_pick N 20 u3.2.1.1 u3.2.1.2.1 u3.2.1.2.2.1) fun u4 =>
 andK (spec_l1Cur_sizedBytes N (IntKind.i64.wrap (1 + u4.1.1)) u4.2.1.1 u4.2.1.2.1 u4.2.1.2.2.1) fun u5 =>
 andK (α := ((Unit × (Unit × (Unit × Unit))) × (((List Int) × (Int × (Int × Unit))) × ((Int × (Int × (Int × (ByteArray × (ByteArray × (ByteArray × (ByteArray × (Unit × Unit)))))))) × ((List Int) × ((Int × (Int × (Int × (ByteArray × (ByteArray × (ByteArray × (ByteArray × (Unit × Unit)))))))) × Unit)))))) (
  sel (!(decide (u1.1.1 = 5)))
   (
   andK (spec_l1Cur_id N u5.2.1.1 u5.2.1.2.1 u5.2.1.2.2.1) fun u6 =>
   andK (spec_l1Cur_among N [1, 1, 4294967295, 1798521807] u6.2.1.1 u6.2.1.2.1 u6.2.1.2.2.1) fun u7 =>
   some ((((), ((), ((), ()))), ((u7.2.1.1, (u7.2.1.2.1, (u7.2.1.2.2.1, ()))), ((0, (0, (0, ((⟨#[]⟩ : ByteArray), ((⟨#[]⟩ : ByteArray), ((⟨#[]⟩ : ByteArray), ((⟨#[]⟩ : ByteArray), ((), ())))))))), (u5.2.2.1, ((u1.1.1, (u2.1.1, (u7.1.1, (u3.1.1, (u6.1.1, ((⟨#[]⟩ : ByteArray), ((strL u5.2.2.1), ((), ())))))))), ())))))))
   (
   some ((((), ((), ((), ()))), ((u5.2.1.1, (u5.2.1.2.1, (u5.2.1.2.2.1, ()))), ((0, (0, (0, ((⟨#[]⟩ : ByteArray), ((⟨#[]⟩ : ByteArray), ((⟨#[]⟩ : ByteArray), ((⟨#[]⟩ : ByteArray), ((), ())))))))), (u5.2.2.1, ((u1.1.1, (u2.1.1, (0, (u3.1.1, ((⟨#[]⟩ : ByteArray), ((⟨#[]⟩ : ByteArray), ((strL u5.2.2.1), ((), ())))))))), ())))))))) fun j8 =>
 andK (α := ((Unit × (Unit × (Unit × Unit))) × (((List Int) × (Int × (Int × Unit))) × ((Int × (Int × (Int × (ByteArray × (ByteArray × (ByteArray × (ByteArray × (Unit × Unit)))))))) × ((List Int) × ((Int × (Int × (Int × (ByteArray × (ByteArray × (ByteArray × (ByteArray × (Unit × Unit)))))))) × Unit)))))) (
  andK (α := ((Unit × (Unit × (Unit × (Bool × Unit)))) × (((List Int) × (Int × (Int × Unit))) × ((Int × (Int × (Int × (ByteArray × (ByteArray × (ByteArray × (ByteArray × (Unit × Unit)))))))) × ((List Int) × ((Int × (Int × (Int × (ByteArray × (ByteArray × (ByteArray × (ByteArray × (Unit × Unit)))))))) × Unit)))))) (
   sel (decide (j8.2.2.2.2.1.1 = 0))
    (
    andK (spec_l1Cur_one N 2 j8.2.1.1 j8.2.1.2.1 j8.2.1.2.2.1) fun u9 =>
    some ((((), ((), ((), (u9.1.1, ())))), ((u9.2.1.1, (u9.2.1.2.1, (u9.2.1.2.2.1, ()))), ((j8.2.2.1.1, (j8.2.2.1.2.1, (j8.2.2.1.2.2.1, (j8.2.2.1.2.2.2.1, (j8.2.2.1.2.2.2.2.1, (j8.2.2.1.2.2.2.2.2.1, (j8.2.2.1.2.2.2.2.2.2.1, ((), ())))))))), (j8.2.2.2.1, ((j8.2.2.2.2.1.1, (j8.2.2.2.2.1.2.1, (j8.2.2.2.2.1.2.2.1, (j8.2.2.2.2.1.2.2.2.1, (j8.2.2.2.2.1.2.2.2.2.1, (j8.2.2.2.2.1.2.2.2.2.2.1, (j8.2.2.2.2.1.2.2.2.2.2.2.1, ((), ())))))))), ())))))))
    (
    some ((((), ((), ((), (false, ())))), ((j8.2.1.1, (j8.2.1.2.1, (j8.2.1.2.2.1, ()))), ((j8.2.2.1.1, (j8.2.2.1.2.1, (j8.2.2.1.2.2.1, (j8.2.2.1.2.2.2.1, (j8.2.2.1.2.2.2.2.1, (j8.2.2.1.2.2.2.2.2.1, (j8.2.2.1.2.2.2.2.2.2.1, ((), ())))))))), (j8.2.2.2.1, ((j8.2.2.2.2.1.1, (j8.2.2.2.2.1.2.1, (j8.2.2.2.2.1.2.2.1, (j8.2.2.2.2.1.2.2.2.1, (j8.2.2.2.2.1.2.2.2.2.1, (j8.2.2.2.2.1.2.2.2.2.2.1, (j8.2.2.2.2.1.2.2.2.2.2.2.1, ((), ())))))))), ())))))))) fun j10 =>
  sel j10.1.2.2.2.1
   (
   andK (spec_l1Cur_pick N 80 j10.2.1.1 j10.2.1.2.1 j10.2.1.2.2.1) fun u11 =>
   andK (spec_l1Cur_sizedBytes N u11.1.1 u11.2.1.1 u11.2.1.2.1 u11.2.1.2.2.1) fun u12 =>
   some ((((), ((), ((), ()))), ((u12.2.1.1, (u12.2.1.2.1, (u12.2.1.2.2.1, ()))), ((j10.2.2.1.1, (j10.2.2.1.2.1, (j10.2.2.1.2.2.1, (j10.2.2.1.2.2.2.1, (j10.2.2.1.2.2.2.2.1, (j10.2.2.1.2.2.2.2.2.1, (j10.2.2.1.2.2.2.2.2.2.1, ((), ())))))))), (j10.2.2.2.1, ((j10.2.2.2.2.1.1, (j10.2.2.2.2.1.2.1, (j10.2.2.2.2.1.2.2.1, (j10.2.2.2.2.1.2.2.2.1, (j10.2.2.2.2.1.2.2.2.2.1, ((strL u12.2.2.1), (j10.2.2.2.2.1.2.2.2.2.2.2.1, ((), ())))))))), ())))))))
   (
   some ((((), ((), ((), ()))), ((j10.2.1.1, (j10.2.1.2.1, (j10.2.1.2.2.1, ()))), ((j10.2.2.1.1, (j10.2.2.1.2.1, (j10.2.2.1.2.2.1, (j10.2.2.1.2.2.2.1, (j10.2.2.1.2.2.2.2.1, (j10.2.2.1.2.2.2.2.2.1, (j10.2.2.1.2.2.2.2.2.2.1, ((), ())))))))), (j10.2.2.2.1, ((j10.2.2.2.2.1.1, (j10.2.2.2.2.1.2.1, (j10.2.2.2.2.1.2.2.1, (j10.2.2.2.2.1.2.2.2.1, (j10.2.2.2.2.1.2.2.2.2.1, (j10.2.2.2.2.1.2.2.2.2.2.1, (j10.2.2.2.2.1.2.2.2.2.2.2.1, ((), ())))))))), ())))))))) fun j13 =>
 andK (α := ((Unit × (Unit × (Unit × Unit))) × (((List Int) × (Int × (Int × Unit))) × ((Int × (Int × (Int × (ByteArray × (ByteArray × (ByteArray × (ByteArray × (Unit × Unit)))))))) × ((List Int) × ((Int × (Int × (Int × (ByteArray × (ByteArray × (ByteArray × (ByteArray × (Unit × Unit)))))))) × ((List Int) × Unit))))))) (
  sel (decide (j13.2.2.2.2.1.1 = 4))
   (
   andK (spec_l1Cur_pick N 4 j13.2.1.1 j13.2.1.2.1 j13.2.1.2.2.1) fun u14 =>
   andK (spec_l1Cur_header.l0 N (IntKind.i64.wrap (1 + u14.1.1)) u14.2.1.1 u14.2.1.2.1 u14.2.1.2.2.1 j13.2.2.1.1 j13.2.2.1.2.1 j13.2.2.1.2.2.1 j13.2.2.1.2.2.2.1 j13.2.2.1.2.2.2.2.1 j13.2.2.1.2.2.2.2.2.1 j13.2.2.1.2.2.2.2.2.2.1 j13.2.2.2.1 j13.2.2.2.2.1.1 j13.2.2.2.2.1.2.1 0 j13.2.2.2.2.1.2.2.2.1 j13.2.2.2.2.1.2.2.2.2.1 j13.2.2.2.2.1.2.2.2.2.2.1 (⟨#[]⟩ : ByteArray) []) fun l16 =>
   some ((((), ((), ((), ()))), ((l16.2.1.1, (l16.2.1.2.1, (l16.2.1.2.2.1, ()))), ((l16.2.2.1.1, (l16.2.2.1.2.1, (l16.2.2.1.2.2.1, (l16.2.2.1.2.2.2.1, (l16.2.2.1.2.2.2.2.1, (l16.2.2.1.2.2.2.2.2.1, (l16.2.2.1.2.2.2.2.2.2.1, ((), ())))))))), (l16.2.2.2.1, ((l16.2.2.2.2.1.1, (l16.2.2.2.2.1.2.1, (l16.2.2.2.2.1.2.2.1, (l16.2.2.2.2.1.2.2.2.1, (l16.2.2.2.2.1.2.2.2.2.1, (l16.2.2.2.2.1.2.2.2.2.2.1, (l16.2.2.2.2.1.2.2.2.2.2.2.1, ((), ())))))))), (l16.2.2.2.2.2.1, ()))))))))
   (
   some ((((), ((), ((), ()))), ((j13.2.1.1, (j13.2.1.2.1, (j13.2.1.2.2.1, ()))), ((j13.2.2.1.1, (j13.2.2.1.2.1, (j13.2.2.1.2.2.1, (j13.2.2.1.2.2.2.1, (j13.2.2.1.2.2.2.2.1, (j13.2.2.1.2.2.2.2.2.1, (j13.2.2.1.2.2.2.2.2.2.1, ((), ())))))))), (j13.2.2.2.1, ((j13.2.2.2.2.1.1, (j13.2.2.2.2.1.2.1, (j13.2.2.2.2.1.2.2.1, (j13.2.2.2.2.1.2.2.2.1, (j13.2.2.2.2.1.2.2.2.2.1, (j13.2.2.2.2.1.2.2.2.2.2.1, (j13.2.2.2.2.1.2.2.2.2.2.2.1, ((), ())))))))), ([], ()))))))))) fun j17 =>
 andK (spec_l1Cur_pick N 40 j17.2.1.1 j17.2.1.2.1 j17.2.1.2.2.1) fun u18 =>
 sel (decide (u18.1.1 = 0))
  (
  some (((j17.2.2.2.2.1.1, (16, (j17.2.2.2.2.1.2.2.1, (j17.2.2.2.2.1.2.2.2.1, (j17.2.2.2.2.1.2.2.2.2.1, (j17.2.2.2.2.1.2.2.2.2.2.1, (j17.2.2.2.2.1.2.2.2.2.2.2.1, ((), ())))))))), ()), ((u18.2.1.1, (u18.2.1.2.1, (u18.2.1.2.2.1, ()))), (j17.2.2.2.2.2.1, ()))))
  (
  sel (decide (u18.1.1 = 1))
   (
   andK (spec_l1Cur_among N [(-1), 0, 4294967296] u18.2.1.1 u18.2.1.2.1 u18.2.1.2.2.1) fun u19 =>
   some (((j17.2.2.2.2.1.1, (j17.2.2.2.2.1.2.1, (u19.1.1, (j17.2.2.2.2.1.2.2.2.1, (j17.2.2.2.2.1.2.2.2.2.1, (j17.2.2.2.2.1.2.2.2.2.2.1, (j17.2.2.2.2.1.2.2.2.2.2.2.1, ((), ())))))))), ()), ((u19.2.1.1, (u19.2.1.2.1, (u19.2.1.2.2.1, ()))), (j17.2.2.2.2.2.1, ()))))
   (
   sel (decide (u18.1.1 = 2))
    (
    andK (spec_l1Cur_among N [0, 1200, 1201] u18.2.1.1 u18.2.1.2.1 u18.2.1.2.2.1) fun u20 =>
    chk ((decide (0 ≤ u20.1.1)) && ((smallI u20.1.1) && (decide (u20.1.1 = u20.1.1)))) (
    some (((j17.2.2.2.2.1.1, (j17.2.2.2.2.1.2.1, (j17.2.2.2.2.1.2.2.1, (j17.2.2.2.2.1.2.2.2.1, (j17.2.2.2.2.1.2.2.2.2.1, (j17.2.2.2.2.1.2.2.2.2.2.1, ((strL (List.replicate (Int.toNat u20.1.1) (0 : Int))), ((), ())))))))), ()), ((u20.2.1.1, (u20.2.1.2.1, (u20.2.1.2.2.1, ()))), (j17.2.2.2.2.2.1, ())))))
    (
    sel (decide (u18.1.1 = 3))
     (
     some (((j17.2.2.2.2.1.1, (j17.2.2.2.2.1.2.1, (j17.2.2.2.2.1.2.2.1, (j17.2.2.2.2.1.2.2.2.1, (j17.2.2.2.2.1.2.2.2.2.1, ((⟨#[116]⟩ : ByteArray), (j17.2.2.2.2.1.2.2.2.2.2.2.1, ((), ())))))))), ()), ((u18.2.1.1, (u18.2.1.2.1, (u18.2.1.2.2.1, ()))), (j17.2.2.2.2.2.1, ()))))
     (
     some (((j17.2.2.2.2.1.1, (j17.2.2.2.2.1.2.1, (j17.2.2.2.2.1.2.2.1, (j17.2.2.2.2.1.2.2.2.1, (j17.2.2.2.2.1.2.2.2.2.1, (j17.2.2.2.2.1.2.2.2.2.2.1, (j17.2.2.2.2.1.2.2.2.2.2.2.1, ((), ())))))))), ()), ((u18.2.1.1, (u18.2.1.2.1, (u18.2.1.2.2.1, ()))), (j17.2.2.2.2.2.1, ()))))))) := by kernel_rfl
set_option maxRecDepth 100000 in
theorem spec_l1Cur_header.say (N : Nat) : SayOk Try.prog (spec_l1Cur_header.S N) := sayOk_mk (N := N) (H := spec_l1Cur_header.H) (preps := [⟨[], [], [], [4]⟩]) (l := spec_l1Cur_header.says) (fn := Try.f97) (c := bodyOf Try.f97)
  (by kernel_rfl) (by kernel_rfl) (by kernel_rfl) (by kernel_rfl) (by kernel_rfl) (by kernel_rfl) (by kernel_rfl)
  (fun N => SayAll.cons (spec_l1Cur_pick.say N) (SayAll.cons (spec_l1Cur_id.say N) (SayAll.cons (spec_l1Cur_sizedBytes.say N) (SayAll.cons (spec_l1Cur_among.say N) (SayAll.cons (spec_l1Cur_one.say N) (SayAll.nil)))))) (fun a s => by kernel_rfl)

/-! ### loop.example/g00206/spec.l1In: function 61 -/
noncomputable def spec_l1In.H : Hints := hintsOf []
noncomputable def spec_l1In.says (N : Nat) : List Say := []
noncomputable def spec_l1In.call (N : Nat) : CallK := callBy (spec_l1In.says N)
noncomputable def spec_l1In.qt (N : Nat) : FuncId → List PV → Sig → Cl := qtBy (spec_l1In.says N)
noncomputable def spec_l1In (N : Nat) (n : Int) (lo : Int) (hi : Int) : Option ((Bool × Unit) × Unit) :=
  ofFn Try.prog spec_l1In.call spec_l1In.qt spec_l1In.H N Try.f61 [ak_i, ak_i, ak_i] [] [ak_b] [] [⟨[], [], [], []⟩] (n, (lo, (hi, ()))) ()
noncomputable def spec_l1In.S (N : Nat) : Say := ⟨false, 61, [ak_i, ak_i, ak_i], [], [ak_b], [], fun a s => spec_l1In N a.1 a.2.1 a.2.2.1⟩
set_option maxRecDepth 100000 in
theorem spec_l1In.eq (N : Nat) (n : Int) (lo : Int) (hi : Int) : spec_l1In N n lo hi =
 sel (decide (lo ≤ n))
  (
  some (((decide (n ≤ hi)), ()), ()))
  (
  some ((false, ()), ())) := by kernel_rfl
set_option maxRecDepth 100000 in
theorem spec_l1In.say (N : Nat) : SayOk Try.prog (spec_l1In.S N) := sayOk_mk (N := N) (H := spec_l1In.H) (preps := [⟨[], [], [], []⟩]) (l := spec_l1In.says) (fn := Try.f61) (c := bodyOf Try.f61)
  (by kernel_rfl) (by kernel_rfl) (by kernel_rfl) (by kernel_rfl) (by kernel_rfl) (by kernel_rfl) (by kernel_rfl)
  (fun N => SayAll.nil) (fun a s => by kernel_rfl)

/-! ### loop.example/g00206/spec.l2Word: function 161 -/
noncomputable def spec_l2Word.H : Hints := hintsOf []
noncomputable def spec_l2Word.says (N : Nat) : List Say := [spec_l1In.S N]
noncomputable def spec_l2Word.call (N : Nat) : CallK := callBy (spec_l2Word.says N)
noncomputable def spec_l2Word.qt (N : Nat) : FuncId → List PV → Sig → Cl := qtBy (spec_l2Word.says N)
noncomputable def spec_l2Word (N : Nat) (n : Int) : Option ((Bool × Unit) × Unit) :=
  ofFn Try.prog spec_l2Word.call spec_l2Word.qt spec_l2Word.H N Try.f161 [ak_i] [] [ak_b] [] [⟨[], [], [], []⟩] (n, ()) ()
noncomputable def spec_l2Word.S (N : Nat) : Say := ⟨false, 161, [ak_i], [], [ak_b], [], fun a s => spec_l2Word N a.1⟩
set_option maxRecDepth 100000 in
theorem spec_l2Word.eq (N : Nat) (n : Int) : spec_l2Word N n =
 andK (spec_l1In N n 0 4294967295) fun u1 =>
 some ((u1.1.1, ()), ()) := by kernel_rfl
set_option maxRecDepth 100000 in
theorem spec_l2Word.say (N : Nat) : SayOk Try.prog (spec_l2Word.S N) := sayOk_mk (N := N) (H := spec_l2Word.H) (preps := [⟨[], [], [], []⟩]) (l := spec_l2Word.says) (fn := Try.f161) (c := bodyOf Try.f161)
  (by kernel_rfl) (by kernel_rfl) (by kernel_rfl) (by kernel_rfl) (by kernel_rfl) (by kernel_rfl) (by kernel_rfl)
  (fun N => SayAll.cons (spec_l1In.say N) (SayAll.nil)) (fun a s => by kernel_rfl)

/-! ### loop.example/g00206/spec.GoodHeader: function 103 -/
noncomputable def spec_GoodHeader.H : Hints := hintsOf [(5000001, .join [⟨.normal, [], [1, 32], [.one (.ptr 0 0), ak_b], [.cells [ck_i, ck_i, ck_i, ck_s, ck_s, ck_s, ck_s, .sh (.rows (.int .i64))]], [⟨[], [], [], []⟩]⟩]),
  (5000003, .join [⟨.normal, [], [1, 51], [.one (.ptr 0 0), ak_b], [.cells [ck_i, ck_i, ck_i, ck_s, ck_s, ck_s, ck_s, .sh (.rows (.int .i64))]], [⟨[], [], [], []⟩]⟩]),
  (5000010, .join [⟨.normal, [], [2], [ak_b], [.cells [ck_i, ck_i, ck_i, ck_s, ck_s, ck_s, ck_s, .sh (.rows (.int .i64))]], [⟨[], [], [], []⟩]⟩]),
  (2000013, .loop ⟨.normal, [70, 71], [1, 72], [.one (.ptr 0 0), ak_i], [.cells [ck_i, ck_i, ck_i, ck_s, ck_s, ck_s, ck_s, .sh (.rows (.int .i64))]], [⟨[], [], [], []⟩]⟩ [⟨.ret, [], [2], [ak_b], [.cells [ck_i, ck_i, ck_i, ck_s, ck_s, ck_s, ck_s, .sh (.rows (.int .i64))]], [⟨[], [], [], []⟩]⟩, ⟨(.exit 1), [], [1], [.one (.ptr 0 0)], [.cells [ck_i, ck_i, ck_i, ck_s, ck_s, ck_s, ck_s, .sh (.rows (.int .i64))]], [⟨[], [], [], []⟩]⟩]),
  (5000018, .join [⟨.normal, [], [2], [ak_b], [.cells [ck_i, ck_i, ck_i, ck_s, ck_s, ck_s, ck_s, .sh (.rows (.int .i64))]], [⟨[], [], [], []⟩]⟩]),
  (19, .join [⟨.ret, [], [2], [ak_b], [.cells [ck_i, ck_i, ck_i, ck_s, ck_s, ck_s, ck_s, .sh (.rows (.int .i64))]], [⟨[], [], [], []⟩]⟩, ⟨.normal, [], [1], [.one (.ptr 0 0)], [.cells [ck_i, ck_i, ck_i, ck_s, ck_s, ck_s, ck_s, .sh (.rows (.int .i64))]], [⟨[], [], [], []⟩]⟩])]
noncomputable def spec_GoodHeader.says (N : Nat) : List Say := [spec_l1In.S N, spec_l2Word.S N]
noncomputable def spec_GoodHeader.call (N : Nat) : CallK := callBy (spec_GoodHeader.says N)
noncomputable def spec_GoodHeader.qt (N : Nat) : FuncId → List PV → Sig → Cl := qtBy (spec_GoodHeader.says N)
noncomputable def spec_GoodHeader.l0.hd : Alt := ⟨.normal, [70, 71], [1, 72], [.one (.ptr 0 0), ak_i], [.cells [ck_i, ck_i, ck_i, ck_s, ck_s, ck_s, ck_s, .sh (.rows (.int .i64))]], [⟨[], [], [], []⟩]⟩
noncomputable def spec_GoodHeader.l0.outs : List Alt := [⟨.ret, [], [2], [ak_b], [.cells [ck_i, ck_i, ck_i, ck_s, ck_s, ck_s, ck_s, .sh (.rows (.int .i64))]], [⟨[], [], [], []⟩]⟩, ⟨(.exit 1), [], [1], [.one (.ptr 0 0)], [.cells [ck_i, ck_i, ck_i, ck_s, ck_s, ck_s, ck_s, .sh (.rows (.int .i64))]], [⟨[], [], [], []⟩]⟩]
noncomputable def spec_GoodHeader.l0 (N : Nat) (t70 : (List Int)) (t71 : Int) (t72 : Int) (p0_0 : Int) (p0_1 : Int) (p0_2 : Int) (p0_3 : ByteArray) (p0_4 : ByteArray) (p0_5 : ByteArray) (p0_6 : ByteArray) (p0_7 : (List Int)) : Option (((Bool × Unit) × ((Int × (Int × (Int × (ByteArray × (ByteArray × (ByteArray × (ByteArray × ((List Int) × Unit)))))))) × Unit)) ⊕ ((Unit × Unit) × ((Int × (Int × (Int × (ByteArray × (ByteArray × (ByteArray × (ByteArray × ((List Int) × Unit)))))))) × Unit))) :=
  loopK Try.prog spec_GoodHeader.call spec_GoodHeader.qt spec_GoodHeader.H (codeAt (bodyOf Try.f103) [1, 1, 1, 0, 1, 0, 1, 1, 1, 0, 0, 1, 0, 0]) 1 spec_GoodHeader.l0.hd spec_GoodHeader.l0.outs [(70, .rows false (.int .i64) t70), (71, .v (.int .i64 t71))] N (((), (t72, ())), ((p0_0, (p0_1, (p0_2, (p0_3, (p0_4, (p0_5, (p0_6, (p0_7, ())))))))), ()))
noncomputable def spec_GoodHeader.l1.hd : Alt := ⟨.normal, [70, 71], [1, 72], [.one (.ptr 0 0), ak_i], [.cells [ck_i, ck_i, ck_i, ck_s, ck_s, ck_s, ck_s, .sh (.rows (.int .i64))]], [⟨[], [], [], []⟩]⟩
noncomputable def spec_GoodHeader.l1.outs : List Alt := [⟨.ret, [], [2], [ak_b], [.cells [ck_i, ck_i, ck_i, ck_s, ck_s, ck_s, ck_s, .sh (.rows (.int .i64))]], [⟨[], [], [], []⟩]⟩, ⟨(.exit 1), [], [1], [.one (.ptr 0 0)], [.cells [ck_i, ck_i, ck_i, ck_s, ck_s, ck_s, ck_s, .sh (.rows (.int .i64))]], [⟨[], [], [], []⟩]⟩]
noncomputable def spec_GoodHeader.l1 (N : Nat) (t701 : (List Int)) (t711 : Int) (t721 : Int) (p0_01 : Int) (p0_11 : Int) (p0_21 : Int) (p0_31 : ByteArray) (p0_41 : ByteArray) (p0_51 : ByteArray) (p0_61 : ByteArray) (p0_71 : (List Int)) : Option (((Bool × Unit) × ((Int × (Int × (Int × (ByteArray × (ByteArray × (ByteArray × (ByteArray × ((List Int) × Unit)))))))) × Unit)) ⊕ ((Unit × Unit) × ((Int × (Int × (Int × (ByteArray × (ByteArray × (ByteArray × (ByteArray × ((List Int) × Unit)))))))) × Unit))) :=
  loopK Try.prog spec_GoodHeader.call spec_GoodHeader.qt spec_GoodHeader.H (codeAt (bodyOf Try.f103) [1, 1, 1, 0, 1, 0, 1, 1, 1, 0, 0, 1, 0, 0]) 1 spec_GoodHeader.l1.hd spec_GoodHeader.l1.outs [(70, .rows false (.int .i64) t701), (71, .v (.int .i64 t711))] N (((), (t721, ())), ((p0_01, (p0_11, (p0_21, (p0_31, (p0_41, (p0_51, (p0_61, (p0_71, ())))))))), ()))
noncomputable def spec_GoodHeader.l2.hd : Alt := ⟨.normal, [70, 71], [1, 72], [.one (.ptr 0 0), ak_i], [.cells [ck_i, ck_i, ck_i, ck_s, ck_s, ck_s, ck_s, .sh (.rows (.int .i64))]], [⟨[], [], [], []⟩]⟩
noncomputable def spec_GoodHeader.l2.outs : List Alt := [⟨.ret, [], [2], [ak_b], [.cells [ck_i, ck_i, ck_i, ck_s, ck_s, ck_s, ck_s, .sh (.rows (.int .i64))]], [⟨[], [], [], []⟩]⟩, ⟨(.exit 1), [], [1], [.one (.ptr 0 0)], [.cells [ck_i, ck_i, ck_i, ck_s, ck_s, ck_s, ck_s, .sh (.rows (.int .i64))]], [⟨[], [], [], []⟩]⟩]
noncomputable def spec_GoodHeader.l2 (N : Nat) (t702 : (List Int)) (t712 : Int) (t722 : Int) (p0_02 : Int) (p0_12 : Int) (p0_22 : Int) (p0_32 : ByteArray) (p0_42 : ByteArray) (p0_52 : ByteArray) (p0_62 : ByteArray) (p0_72 : (List Int)) : Option (((Bool × Unit) × ((Int × (Int × (Int × (ByteArray × (ByteArray × (ByteArray × (ByteArray × ((List Int) × Unit)))))))) × Unit)) ⊕ ((Unit × Unit) × ((Int × (Int × (Int × (ByteArray × (ByteArray × (ByteArray × (ByteArray × ((List Int) × Unit)))))))) × Unit))) :=
  loopK Try.prog spec_GoodHeader.call spec_GoodHeader.qt spec_GoodHeader.H (codeAt (bodyOf Try.f103) [1, 1, 1, 0, 1, 0, 1, 1, 1, 0, 0, 1, 0, 0]) 1 spec_GoodHeader.l2.hd spec_GoodHeader.l2.outs [(70, .rows false (.int .i64) t702), (71, .v (.int .i64 t712))] N (((), (t722, ())), ((p0_02, (p0_12, (p0_22, (p0_32, (p0_42, (p0_52, (p0_62, (p0_72, ())))))))), ()))
noncomputable def spec_GoodHeader.l3.hd : Alt := ⟨.normal, [70, 71], [1, 72], [.one (.ptr 0 0), ak_i], [.cells [ck_i, ck_i, ck_i, ck_s, ck_s, ck_s, ck_s, .sh (.rows (.int .i64))]], [⟨[], [], [], []⟩]⟩
noncomputable def spec_GoodHeader.l3.outs : List Alt := [⟨.ret, [], [2], [ak_b], [.cells [ck_i, ck_i, ck_i, ck_s, ck_s, ck_s, ck_s, .sh (.rows (.int .i64))]], [⟨[], [], [], []⟩]⟩, ⟨(.exit 1), [], [1], [.one (.ptr 0 0)], [.cells [ck_i, ck_i, ck_i, ck_s, ck_s, ck_s, ck_s, .sh (.rows (.int .i64))]], [⟨[], [], [], []⟩]⟩]
noncomputable def spec_GoodHeader.l3 (N : Nat) (t703 : (List Int)) (t713 : Int) (t723 : Int) (p0_03 : Int) (p0_13 : Int) (p0_23 : Int) (p0_33 : ByteArray) (p0_43 : ByteArray) (p0_53 : ByteArray) (p0_63 : ByteArray) (p0_73 : (List Int)) : Option (((Bool × Unit) × ((Int × (Int × (Int × (ByteArray × (ByteArray × (ByteArray × (ByteArray × ((List Int) × Unit)))))))) × Unit)) ⊕ ((Unit × Unit) × ((Int × (Int × (Int × (ByteArray × (ByteArray × (ByteArray × (ByteArray × ((List Int) × Unit)))))))) × Unit))) :=
  loopK Try.prog spec_GoodHeader.call spec_GoodHeader.qt spec_GoodHeader.H (codeAt (bodyOf Try.f103) [1, 1, 1, 0, 1, 0, 1, 1, 1, 0, 0, 1, 0, 0]) 1 spec_GoodHeader.l3.hd spec_GoodHeader.l3.outs [(70, .rows false (.int .i64) t703), (71, .v (.int .i64 t713))] N (((), (t723, ())), ((p0_03, (p0_13, (p0_23, (p0_33, (p0_43, (p0_53, (p0_63, (p0_73, ())))))))), ()))
noncomputable def spec_GoodHeader (N : Nat) (G_0 : Int) (G_1 : Int) (G_2 : Int) (G_3 : ByteArray) (G_4 : ByteArray) (G_5 : ByteArray) (G_6 : ByteArray) (G_7 : (List Int)) : Option ((Bool × Unit) × Unit) :=
  ofFn Try.prog spec_GoodHeader.call spec_GoodHeader.qt spec_GoodHeader.H N Try.f103 [.agg [ck_i, ck_i, ck_i, ck_s, ck_s, ck_s, ck_s, .sh (.rows (.int .i64))]] [] [ak_b] [] [⟨[], [], [], []⟩] ((G_0, (G_1, (G_2, (G_3, (G_4, (G_5, (G_6, (G_7, ())))))))), ()) ()
noncomputable def spec_GoodHeader.S (N : Nat) : Say := ⟨false, 103, [.agg [ck_i, ck_i, ck_i, ck_s, ck_s, ck_s, ck_s, .sh (.rows (.int .i64))]], [], [ak_b], [], fun a s => spec_GoodHeader N a.1.1 a.1.2.1 a.1.2.2.1 a.1.2.2.2.1 a.1.2.2.2.2.1 a.1.2.2.2.2.2.1 a.1.2.2.2.2.2.2.1 a.1.2.2.2.2.2.2.2.1⟩
set_option maxRecDepth 100000 in
theorem spec_GoodHeader.l3.eq (N : Nat) (t703 : (List Int)) (t713 : Int) (t723 : Int) (p0_03 : Int) (p0_13 : Int) (p0_23 : Int) (p0_33 : ByteArray) (p0_43 : ByteArray) (p0_53 : ByteArray) (p0_63 : ByteArray) (p0_73 : (List Int)) : spec_GoodHeader.l3 (N + 1) t703 t713 t723 p0_03 p0_13 p0_23 p0_33 p0_43 p0_53 p0_63 p0_73 =
 sel (decide (t723 < t713))
  (
  chk ((decide (0 ≤ t723)) && (decide (t723 < (t703.length : Int)))) (
  andK (spec_l2Word N (t703.getD (Int.toNat t723) 0)) fun u30 =>
  sel (!u30.1.1)
   (
   some (.inl ((false, ()), ((p0_03, (p0_13, (p0_23, (p0_33, (p0_43, (p0_53, (p0_63, (p0_73, ())))))))), ()))))
   (
   spec_GoodHeader.l3 N t703 t713 (IntKind.i64.wrap (t723 + 1)) p0_03 p0_13 p0_23 p0_33 p0_43 p0_53 p0_63 p0_73)))
  (
  some (.inr ((((), ()), ((p0_03, (p0_13, (p0_23, (p0_33, (p0_43, (p0_53, (p0_63, (p0_73, ())))))))), ()))))) := by kernel_rfl
set_option maxRecDepth 100000 in
theorem spec_GoodHeader.l2.eq (N : Nat) (t702 : (List Int)) (t712 : Int) (t722 : Int) (p0_02 : Int) (p0_12 : Int) (p0_22 : Int) (p0_32 : ByteArray) (p0_42 : ByteArray) (p0_52 : ByteArray) (p0_62 : ByteArray) (p0_72 : (List Int)) : spec_GoodHeader.l2 (N + 1) t702 t712 t722 p0_02 p0_12 p0_22 p0_32 p0_42 p0_52 p0_62 p0_72 =
 sel (decide (t722 < t712))
  (
  chk ((decide (0 ≤ t722)) && (decide (t722 < (t702.length : Int)))) (
  andK (spec_l2Word N (t702.getD (Int.toNat t722) 0)) fun u22 =>
  sel (!u22.1.1)
   (
   some (.inl ((false, ()), ((p0_02, (p0_12, (p0_22, (p0_32, (p0_42, (p0_52, (p0_62, (p0_72, ())))))))), ()))))
   (
   spec_GoodHeader.l2 N t702 t712 (IntKind.i64.wrap (t722 + 1)) p0_02 p0_12 p0_22 p0_32 p0_42 p0_52 p0_62 p0_72)))
  (
  some (.inr ((((), ()), ((p0_02, (p0_12, (p0_22, (p0_32, (p0_42, (p0_52, (p0_62, (p0_72, ())))))))), ()))))) := by kernel_rfl
set_option maxRecDepth 100000 in
theorem spec_GoodHeader.l1.eq (N : Nat) (t701 : (List Int)) (t711 : Int) (t721 : Int) (p0_01 : Int) (p0_11 : Int) (p0_21 : Int) (p0_31 : ByteArray) (p0_41 : ByteArray) (p0_51 : ByteArray) (p0_61 : ByteArray) (p0_71 : (List Int)) : spec_GoodHeader.l1 (N + 1) t701 t711 t721 p0_01 p0_11 p0_21 p0_31 p0_41 p0_51 p0_61 p0_71 =
 sel (decide (t721 < t711))
  (
  chk ((decide (0 ≤ t721)) && (decide (t721 < (t701.length : Int)))) (
  andK (spec_l2Word N (t701.getD (Int.toNat t721) 0)) fun u14 =>
  sel (!u14.1.1)
   (
   some (.inl ((false, ()), ((p0_01, (p0_11, (p0_21, (p0_31, (p0_41, (p0_51, (p0_61, (p0_71, ())))))))), ()))))
   (
   spec_GoodHeader.l1 N t701 t711 (IntKind.i64.wrap (t721 + 1)) p0_01 p0_11 p0_21 p0_31 p0_41 p0_51 p0_61 p0_71)))
  (
  some (.inr ((((), ()), ((p0_01, (p0_11, (p0_21, (p0_31, (p0_41, (p0_51, (p0_61, (p0_71, ())))))))), ()))))) := by kernel_rfl
set_option maxRecDepth 100000 in
theorem spec_GoodHeader.l0.eq (N : Nat) (t70 : (List Int)) (t71 : Int) (t72 : Int) (p0_0 : Int) (p0_1 : Int) (p0_2 : Int) (p0_3 : ByteArray) (p0_4 : ByteArray) (p0_5 : ByteArray) (p0_6 : ByteArray) (p0_7 : (List Int)) : spec_GoodHeader.l0 (N + 1) t70 t71 t72 p0_0 p0_1 p0_2 p0_3 p0_4 p0_5 p0_6 p0_7 =
 sel (decide (t72 < t71))
  (
  chk ((decide (0 ≤ t72)) && (decide (t72 < (t70.length : Int)))) (
  andK (spec_l2Word N (t70.getD (Int.toNat t72) 0)) fun u6 =>
  sel (!u6.1.1)
   (
   some (.inl ((false, ()), ((p0_0, (p0_1, (p0_2, (p0_3, (p0_4, (p0_5, (p0_6, (p0_7, ())))))))), ()))))
   (
   spec_GoodHeader.l0 N t70 t71 (IntKind.i64.wrap (t72 + 1)) p0_0 p0_1 p0_2 p0_3 p0_4 p0_5 p0_6 p0_7)))
  (
  some (.inr ((((), ()), ((p0_0, (p0_1, (p0_2, (p0_3, (p0_4, (p0_5, (p0_6, (p0_7, ())))))))), ()))))) := by kernel_rfl
set_option maxRecDepth 100000 in
theorem spec_GoodHeader.eq (N : Nat) (G_0 : Int) (G_1 : Int) (G_2 : Int) (G_3 : ByteArray) (G_4 : ByteArray) (G_5 : ByteArray) (G_6 : ByteArray) (G_7 : (List Int)) : spec_GoodHeader N G_0 G_1 G_2 G_3 G_4 G_5 G_6 G_7 =
 andK (α := ((Unit × (Bool × Unit)) × ((Int × (Int × (Int × (ByteArray × (ByteArray × (ByteArray × (ByteArray × ((List Int) × Unit)))))))) × Unit))) (
  sel (decide (20 < (G_3.size : Int)))
   (
   some ((((), (true, ())), ((G_0, (G_1, (G_2, (G_3, (G_4, (G_5, (G_6, (G_7, ())))))))), ()))))
   (
   sel (decide (20 < (G_4.size : Int)))
    (
    some ((((), (true, ())), ((G_0, (G_1, (G_2, (G_3, (G_4, (G_5, (G_6, (G_7, ())))))))), ()))))
    (
    andK (spec_l1In N G_1 0 15) fun u1 =>
    sel (!u1.1.1)
     (
     some ((((), (true, ())), ((G_0, (G_1, (G_2, (G_3, (G_4, (G_5, (G_6, (G_7, ())))))))), ()))))
     (
     sel (decide (200 < (G_5.size : Int)))
      (
      some ((((), (true, ())), ((G_0, (G_1, (G_2, (G_3, (G_4, (G_5, (G_6, (G_7, ())))))))), ()))))
      (
      some ((((), ((decide (1200 < (G_6.size : Int))), ())), ((G_0, (G_1, (G_2, (G_3, (G_4, (G_5, (G_6, (G_7, ())))))))), ())))))))) fun j2 =>
 sel j2.1.2.1
  (
  some ((false, ()), ()))
  (
  andK (α := ((Unit × (Bool × Unit)) × ((Int × (Int × (Int × (ByteArray × (ByteArray × (ByteArray × (ByteArray × ((List Int) × Unit)))))))) × Unit))) (
   sel (!(decide (j2.2.1.1 = 0)))
    (
    sel (!(decide (j2.2.1.2.2.2.2.2.1 = (⟨#[]⟩ : ByteArray))))
     (
     some ((((), (true, ())), ((j2.2.1.1, (j2.2.1.2.1, (j2.2.1.2.2.1, (j2.2.1.2.2.2.1, (j2.2.1.2.2.2.2.1, (j2.2.1.2.2.2.2.2.1, (j2.2.1.2.2.2.2.2.2.1, (j2.2.1.2.2.2.2.2.2.2.1, ())))))))), ()))))
     (
     sel (!(decide (j2.2.1.1 = 4)))
      (
      some ((((), ((decide (0 < (j2.2.1.2.2.2.2.2.2.2.1.length : Int))), ())), ((j2.2.1.1, (j2.2.1.2.1, (j2.2.1.2.2.1, (j2.2.1.2.2.2.1, (j2.2.1.2.2.2.2.1, (j2.2.1.2.2.2.2.2.1, (j2.2.1.2.2.2.2.2.2.1, (j2.2.1.2.2.2.2.2.2.2.1, ())))))))), ()))))
      (
      some ((((), (false, ())), ((j2.2.1.1, (j2.2.1.2.1, (j2.2.1.2.2.1, (j2.2.1.2.2.2.1, (j2.2.1.2.2.2.2.1, (j2.2.1.2.2.2.2.2.1, (j2.2.1.2.2.2.2.2.2.1, (j2.2.1.2.2.2.2.2.2.2.1, ())))))))), ()))))))
    (
    sel (!(decide (j2.2.1.1 = 4)))
     (
     some ((((), ((decide (0 < (j2.2.1.2.2.2.2.2.2.2.1.length : Int))), ())), ((j2.2.1.1, (j2.2.1.2.1, (j2.2.1.2.2.1, (j2.2.1.2.2.2.1, (j2.2.1.2.2.2.2.1, (j2.2.1.2.2.2.2.2.1, (j2.2.1.2.2.2.2.2.2.1, (j2.2.1.2.2.2.2.2.2.2.1, ())))))))), ()))))
     (
     some ((((), (false, ())), ((j2.2.1.1, (j2.2.1.2.1, (j2.2.1.2.2.1, (j2.2.1.2.2.2.1, (j2.2.1.2.2.2.2.1, (j2.2.1.2.2.2.2.2.1, (j2.2.1.2.2.2.2.2.2.1, (j2.2.1.2.2.2.2.2.2.2.1, ())))))))), ())))))) fun j3 =>
  sel j3.1.2.1
   (
   some ((false, ()), ()))
   (
   andK (α := (((Bool × Unit) × ((Int × (Int × (Int × (ByteArray × (ByteArray × (ByteArray × (ByteArray × ((List Int) × Unit)))))))) × Unit)) ⊕ ((Unit × Unit) × ((Int × (Int × (Int × (ByteArray × (ByteArray × (ByteArray × (ByteArray × ((List Int) × Unit)))))))) × Unit)))) (
    sel (decide (j3.2.1.1 = 0))
     (
     sel (decide (j3.2.1.1 = 0))
      (
      andK (α := ((Bool × Unit) × ((Int × (Int × (Int × (ByteArray × (ByteArray × (ByteArray × (ByteArray × ((List Int) × Unit)))))))) × Unit))) (
       andK (spec_l1In N j3.2.1.2.2.1 1 4294967295) fun u4 =>
       sel u4.1.1
        (
        some ((((!(decide (j3.2.1.2.2.2.2.2.2.1 = (⟨#[]⟩ : ByteArray)))), ()), ((j3.2.1.1, (j3.2.1.2.1, (j3.2.1.2.2.1, (j3.2.1.2.2.2.1, (j3.2.1.2.2.2.2.1, (j3.2.1.2.2.2.2.2.1, (j3.2.1.2.2.2.2.2.2.1, (j3.2.1.2.2.2.2.2.2.2.1, ())))))))), ()))))
        (
        some (((false, ()), ((j3.2.1.1, (j3.2.1.2.1, (j3.2.1.2.2.1, (j3.2.1.2.2.2.1, (j3.2.1.2.2.2.2.1, (j3.2.1.2.2.2.2.2.1, (j3.2.1.2.2.2.2.2.2.1, (j3.2.1.2.2.2.2.2.2.2.1, ())))))))), ()))))) fun j5 =>
      some (.inl ((j5.1.1, ()), ((j5.2.1.1, (j5.2.1.2.1, (j5.2.1.2.2.1, (j5.2.1.2.2.2.1, (j5.2.1.2.2.2.2.1, (j5.2.1.2.2.2.2.2.1, (j5.2.1.2.2.2.2.2.2.1, (j5.2.1.2.2.2.2.2.2.2.1, ())))))))), ()))))
      (
      sel (decide (j3.2.1.1 = 4))
       (
       andK (spec_GoodHeader.l0 N j3.2.1.2.2.2.2.2.2.2.1 (j3.2.1.2.2.2.2.2.2.2.1.length : Int) 0 j3.2.1.1 j3.2.1.2.1 j3.2.1.2.2.1 j3.2.1.2.2.2.1 j3.2.1.2.2.2.2.1 j3.2.1.2.2.2.2.2.1 j3.2.1.2.2.2.2.2.2.1 j3.2.1.2.2.2.2.2.2.2.1) fun l7 =>
       orK l7 (fun x8 =>
        some (.inl ((x8.1.1, ()), ((x8.2.1.1, (x8.2.1.2.1, (x8.2.1.2.2.1, (x8.2.1.2.2.2.1, (x8.2.1.2.2.2.2.1, (x8.2.1.2.2.2.2.2.1, (x8.2.1.2.2.2.2.2.2.1, (x8.2.1.2.2.2.2.2.2.2.1, ())))))))), ()))))
        (fun x9 =>
        andK (α := ((Bool × Unit) × ((Int × (Int × (Int × (ByteArray × (ByteArray × (ByteArray × (ByteArray × ((List Int) × Unit)))))))) × Unit))) (
         sel (decide (x9.2.1.2.2.1 = 0))
          (
          sel (decide (x9.2.1.2.2.2.2.2.2.1 = (⟨#[]⟩ : ByteArray)))
           (
           andK (spec_l1In N (x9.2.1.2.2.2.2.2.2.2.1.length : Int) 1 20) fun u10 =>
           some (((u10.1.1, ()), ((x9.2.1.1, (x9.2.1.2.1, (x9.2.1.2.2.1, (x9.2.1.2.2.2.1, (x9.2.1.2.2.2.2.1, (x9.2.1.2.2.2.2.2.1, (x9.2.1.2.2.2.2.2.2.1, (x9.2.1.2.2.2.2.2.2.2.1, ())))))))), ()))))
           (
           some (((false, ()), ((x9.2.1.1, (x9.2.1.2.1, (x9.2.1.2.2.1, (x9.2.1.2.2.2.1, (x9.2.1.2.2.2.2.1, (x9.2.1.2.2.2.2.2.1, (x9.2.1.2.2.2.2.2.2.1, (x9.2.1.2.2.2.2.2.2.2.1, ())))))))), ())))))
          (
          some (((false, ()), ((x9.2.1.1, (x9.2.1.2.1, (x9.2.1.2.2.1, (x9.2.1.2.2.2.1, (x9.2.1.2.2.2.2.1, (x9.2.1.2.2.2.2.2.1, (x9.2.1.2.2.2.2.2.2.1, (x9.2.1.2.2.2.2.2.2.2.1, ())))))))), ()))))) fun j11 =>
        some (.inl ((j11.1.1, ()), ((j11.2.1.1, (j11.2.1.2.1, (j11.2.1.2.2.1, (j11.2.1.2.2.2.1, (j11.2.1.2.2.2.2.1, (j11.2.1.2.2.2.2.2.1, (j11.2.1.2.2.2.2.2.2.1, (j11.2.1.2.2.2.2.2.2.2.1, ())))))))), ())))))
       (
       some (.inr ((((), ()), ((j3.2.1.1, (j3.2.1.2.1, (j3.2.1.2.2.1, (j3.2.1.2.2.2.1, (j3.2.1.2.2.2.2.1, (j3.2.1.2.2.2.2.2.1, (j3.2.1.2.2.2.2.2.2.1, (j3.2.1.2.2.2.2.2.2.2.1, ())))))))), ())))))))
     (
     sel (decide (j3.2.1.1 = 1))
      (
      sel (decide (j3.2.1.1 = 1))
       (
       andK (α := ((Bool × Unit) × ((Int × (Int × (Int × (ByteArray × (ByteArray × (ByteArray × (ByteArray × ((List Int) × Unit)))))))) × Unit))) (
        andK (spec_l1In N j3.2.1.2.2.1 1 4294967295) fun u12 =>
        sel u12.1.1
         (
         some ((((!(decide (j3.2.1.2.2.2.2.2.2.1 = (⟨#[]⟩ : ByteArray)))), ()), ((j3.2.1.1, (j3.2.1.2.1, (j3.2.1.2.2.1, (j3.2.1.2.2.2.1, (j3.2.1.2.2.2.2.1, (j3.2.1.2.2.2.2.2.1, (j3.2.1.2.2.2.2.2.2.1, (j3.2.1.2.2.2.2.2.2.2.1, ())))))))), ()))))
         (
         some (((false, ()), ((j3.2.1.1, (j3.2.1.2.1, (j3.2.1.2.2.1, (j3.2.1.2.2.2.1, (j3.2.1.2.2.2.2.1, (j3.2.1.2.2.2.2.2.1, (j3.2.1.2.2.2.2.2.2.1, (j3.2.1.2.2.2.2.2.2.2.1, ())))))))), ()))))) fun j13 =>
       some (.inl ((j13.1.1, ()), ((j13.2.1.1, (j13.2.1.2.1, (j13.2.1.2.2.1, (j13.2.1.2.2.2.1, (j13.2.1.2.2.2.2.1, (j13.2.1.2.2.2.2.2.1, (j13.2.1.2.2.2.2.2.2.1, (j13.2.1.2.2.2.2.2.2.2.1, ())))))))), ()))))
       (
       sel (decide (j3.2.1.1 = 4))
        (
        andK (spec_GoodHeader.l1 N j3.2.1.2.2.2.2.2.2.2.1 (j3.2.1.2.2.2.2.2.2.2.1.length : Int) 0 j3.2.1.1 j3.2.1.2.1 j3.2.1.2.2.1 j3.2.1.2.2.2.1 j3.2.1.2.2.2.2.1 j3.2.1.2.2.2.2.2.1 j3.2.1.2.2.2.2.2.2.1 j3.2.1.2.2.2.2.2.2.2.1) fun l15 =>
        orK l15 (fun x16 =>
         some (.inl ((x16.1.1, ()), ((x16.2.1.1, (x16.2.1.2.1, (x16.2.1.2.2.1, (x16.2.1.2.2.2.1, (x16.2.1.2.2.2.2.1, (x16.2.1.2.2.2.2.2.1, (x16.2.1.2.2.2.2.2.2.1, (x16.2.1.2.2.2.2.2.2.2.1, ())))))))), ()))))
         (fun x17 =>
         andK (α := ((Bool × Unit) × ((Int × (Int × (Int × (ByteArray × (ByteArray × (ByteArray × (ByteArray × ((List Int) × Unit)))))))) × Unit))) (
          sel (decide (x17.2.1.2.2.1 = 0))
           (
           sel (decide (x17.2.1.2.2.2.2.2.2.1 = (⟨#[]⟩ : ByteArray)))
            (
            andK (spec_l1In N (x17.2.1.2.2.2.2.2.2.2.1.length : Int) 1 20) fun u18 =>
            some (((u18.1.1, ()), ((x17.2.1.1, (x17.2.1.2.1, (x17.2.1.2.2.1, (x17.2.1.2.2.2.1, (x17.2.1.2.2.2.2.1, (x17.2.1.2.2.2.2.2.1, (x17.2.1.2.2.2.2.2.2.1, (x17.2.1.2.2.2.2.2.2.2.1, ())))))))), ()))))
            (
            some (((false, ()), ((x17.2.1.1, (x17.2.1.2.1, (x17.2.1.2.2.1, (x17.2.1.2.2.2.1, (x17.2.1.2.2.2.2.1, (x17.2.1.2.2.2.2.2.1, (x17.2.1.2.2.2.2.2.2.1, (x17.2.1.2.2.2.2.2.2.2.1, ())))))))), ())))))
           (
           some (((false, ()), ((x17.2.1.1, (x17.2.1.2.1, (x17.2.1.2.2.1, (x17.2.1.2.2.2.1, (x17.2.1.2.2.2.2.1, (x17.2.1.2.2.2.2.2.1, (x17.2.1.2.2.2.2.2.2.1, (x17.2.1.2.2.2.2.2.2.2.1, ())))))))), ()))))) fun j19 =>
         some (.inl ((j19.1.1, ()), ((j19.2.1.1, (j19.2.1.2.1, (j19.2.1.2.2.1, (j19.2.1.2.2.2.1, (j19.2.1.2.2.2.2.1, (j19.2.1.2.2.2.2.2.1, (j19.2.1.2.2.2.2.2.2.1, (j19.2.1.2.2.2.2.2.2.2.1, ())))))))), ())))))
        (
        some (.inr ((((), ()), ((j3.2.1.1, (j3.2.1.2.1, (j3.2.1.2.2.1, (j3.2.1.2.2.2.1, (j3.2.1.2.2.2.2.1, (j3.2.1.2.2.2.2.2.1, (j3.2.1.2.2.2.2.2.2.1, (j3.2.1.2.2.2.2.2.2.2.1, ())))))))), ())))))))
      (
      sel (decide (j3.2.1.1 = 2))
       (
       sel (decide (j3.2.1.1 = 2))
        (
        andK (α := ((Bool × Unit) × ((Int × (Int × (Int × (ByteArray × (ByteArray × (ByteArray × (ByteArray × ((List Int) × Unit)))))))) × Unit))) (
         andK (spec_l1In N j3.2.1.2.2.1 1 4294967295) fun u20 =>
         sel u20.1.1
          (
          some ((((!(decide (j3.2.1.2.2.2.2.2.2.1 = (⟨#[]⟩ : ByteArray)))), ()), ((j3.2.1.1, (j3.2.1.2.1, (j3.2.1.2.2.1, (j3.2.1.2.2.2.1, (j3.2.1.2.2.2.2.1, (j3.2.1.2.2.2.2.2.1, (j3.2.1.2.2.2.2.2.2.1, (j3.2.1.2.2.2.2.2.2.2.1, ())))))))), ()))))
          (
          some (((false, ()), ((j3.2.1.1, (j3.2.1.2.1, (j3.2.1.2.2.1, (j3.2.1.2.2.2.1, (j3.2.1.2.2.2.2.1, (j3.2.1.2.2.2.2.2.1, (j3.2.1.2.2.2.2.2.2.1, (j3.2.1.2.2.2.2.2.2.2.1, ())))))))), ()))))) fun j21 =>
        some (.inl ((j21.1.1, ()), ((j21.2.1.1, (j21.2.1.2.1, (j21.2.1.2.2.1, (j21.2.1.2.2.2.1, (j21.2.1.2.2.2.2.1, (j21.2.1.2.2.2.2.2.1, (j21.2.1.2.2.2.2.2.2.1, (j21.2.1.2.2.2.2.2.2.2.1, ())))))))), ()))))
        (
        sel (decide (j3.2.1.1 = 4))
         (
         andK (spec_GoodHeader.l2 N j3.2.1.2.2.2.2.2.2.2.1 (j3.2.1.2.2.2.2.2.2.2.1.length : Int) 0 j3.2.1.1 j3.2.1.2.1 j3.2.1.2.2.1 j3.2.1.2.2.2.1 j3.2.1.2.2.2.2.1 j3.2.1.2.2.2.2.2.1 j3.2.1.2.2.2.2.2.2.1 j3.2.1.2.2.2.2.2.2.2.1) fun l23 =>
         orK l23 (fun x24 =>
          some (.inl ((x24.1.1, ()), ((x24.2.1.1, (x24.2.1.2.1, (x24.2.1.2.2.1, (x24.2.1.2.2.2.1, (x24.2.1.2.2.2.2.1, (x24.2.1.2.2.2.2.2.1, (x24.2.1.2.2.2.2.2.2.1, (x24.2.1.2.2.2.2.2.2.2.1, ())))))))), ()))))
          (fun x25 =>
          andK (α := ((Bool × Unit) × ((Int × (Int × (Int × (ByteArray × (ByteArray × (ByteArray × (ByteArray × ((List Int) × Unit)))))))) × Unit))) (
           sel (decide (x25.2.1.2.2.1 = 0))
            (
            sel (decide (x25.2.1.2.2.2.2.2.2.1 = (⟨#[]⟩ : ByteArray)))
             (
             andK (spec_l1In N (x25.2.1.2.2.2.2.2.2.2.1.length : Int) 1 20) fun u26 =>
             some (((u26.1.1, ()), ((x25.2.1.1, (x25.2.1.2.1, (x25.2.1.2.2.1, (x25.2.1.2.2.2.1, (x25.2.1.2.2.2.2.1, (x25.2.1.2.2.2.2.2.1, (x25.2.1.2.2.2.2.2.2.1, (x25.2.1.2.2.2.2.2.2.2.1, ())))))))), ()))))
             (
             some (((false, ()), ((x25.2.1.1, (x25.2.1.2.1, (x25.2.1.2.2.1, (x25.2.1.2.2.2.1, (x25.2.1.2.2.2.2.1, (x25.2.1.2.2.2.2.2.1, (x25.2.1.2.2.2.2.2.2.1, (x25.2.1.2.2.2.2.2.2.2.1, ())))))))), ())))))
            (
            some (((false, ()), ((x25.2.1.1, (x25.2.1.2.1, (x25.2.1.2.2.1, (x25.2.1.2.2.2.1, (x25.2.1.2.2.2.2.1, (x25.2.1.2.2.2.2.2.1, (x25.2.1.2.2.2.2.2.2.1, (x25.2.1.2.2.2.2.2.2.2.1, ())))))))), ()))))) fun j27 =>
          some (.inl ((j27.1.1, ()), ((j27.2.1.1, (j27.2.1.2.1, (j27.2.1.2.2.1, (j27.2.1.2.2.2.1, (j27.2.1.2.2.2.2.1, (j27.2.1.2.2.2.2.2.1, (j27.2.1.2.2.2.2.2.2.1, (j27.2.1.2.2.2.2.2.2.2.1, ())))))))), ())))))
         (
         some (.inr ((((), ()), ((j3.2.1.1, (j3.2.1.2.1, (j3.2.1.2.2.1, (j3.2.1.2.2.2.1, (j3.2.1.2.2.2.2.1, (j3.2.1.2.2.2.2.2.1, (j3.2.1.2.2.2.2.2.2.1, (j3.2.1.2.2.2.2.2.2.2.1, ())))))))), ())))))))
       (
       sel (decide (j3.2.1.1 = 3))
        (
        andK (α := ((Bool × Unit) × ((Int × (Int × (Int × (ByteArray × (ByteArray × (ByteArray × (ByteArray × ((List Int) × Unit)))))))) × Unit))) (
         andK (spec_l1In N j3.2.1.2.2.1 1 4294967295) fun u28 =>
         sel u28.1.1
          (
          some ((((!(decide (j3.2.1.2.2.2.2.2.2.1 = (⟨#[]⟩ : ByteArray)))), ()), ((j3.2.1.1, (j3.2.1.2.1, (j3.2.1.2.2.1, (j3.2.1.2.2.2.1, (j3.2.1.2.2.2.2.1, (j3.2.1.2.2.2.2.2.1, (j3.2.1.2.2.2.2.2.2.1, (j3.2.1.2.2.2.2.2.2.2.1, ())))))))), ()))))
          (
          some (((false, ()), ((j3.2.1.1, (j3.2.1.2.1, (j3.2.1.2.2.1, (j3.2.1.2.2.2.1, (j3.2.1.2.2.2.2.1, (j3.2.1.2.2.2.2.2.1, (j3.2.1.2.2.2.2.2.2.1, (j3.2.1.2.2.2.2.2.2.2.1, ())))))))), ()))))) fun j29 =>
        some (.inl ((j29.1.1, ()), ((j29.2.1.1, (j29.2.1.2.1, (j29.2.1.2.2.1, (j29.2.1.2.2.2.1, (j29.2.1.2.2.2.2.1, (j29.2.1.2.2.2.2.2.1, (j29.2.1.2.2.2.2.2.2.1, (j29.2.1.2.2.2.2.2.2.2.1, ())))))))), ()))))
        (
        sel (decide (j3.2.1.1 = 4))
         (
         andK (spec_GoodHeader.l3 N j3.2.1.2.2.2.2.2.2.2.1 (j3.2.1.2.2.2.2.2.2.2.1.length : Int) 0 j3.2.1.1 j3.2.1.2.1 j3.2.1.2.2.1 j3.2.1.2.2.2.1 j3.2.1.2.2.2.2.1 j3.2.1.2.2.2.2.2.1 j3.2.1.2.2.2.2.2.2.1 j3.2.1.2.2.2.2.2.2.2.1) fun l31 =>
         orK l31 (fun x32 =>
          some (.inl ((x32.1.1, ()), ((x32.2.1.1, (x32.2.1.2.1, (x32.2.1.2.2.1, (x32.2.1.2.2.2.1, (x32.2.1.2.2.2.2.1, (x32.2.1.2.2.2.2.2.1, (x32.2.1.2.2.2.2.2.2.1, (x32.2.1.2.2.2.2.2.2.2.1, ())))))))), ()))))
          (fun x33 =>
          andK (α := ((Bool × Unit) × ((Int × (Int × (Int × (ByteArray × (ByteArray × (ByteArray × (ByteArray × ((List Int) × Unit)))))))) × Unit))) (
           sel (decide (x33.2.1.2.2.1 = 0))
            (
            sel (decide (x33.2.1.2.2.2.2.2.2.1 = (⟨#[]⟩ : ByteArray)))
             (
             andK (spec_l1In N (x33.2.1.2.2.2.2.2.2.2.1.length : Int) 1 20) fun u34 =>
             some (((u34.1.1, ()), ((x33.2.1.1, (x33.2.1.2.1, (x33.2.1.2.2.1, (x33.2.1.2.2.2.1, (x33.2.1.2.2.2.2.1, (x33.2.1.2.2.2.2.2.1, (x33.2.1.2.2.2.2.2.2.1, (x33.2.1.2.2.2.2.2.2.2.1, ())))))))), ()))))
             (
             some (((false, ()), ((x33.2.1.1, (x33.2.1.2.1, (x33.2.1.2.2.1, (x33.2.1.2.2.2.1, (x33.2.1.2.2.2.2.1, (x33.2.1.2.2.2.2.2.1, (x33.2.1.2.2.2.2.2.2.1, (x33.2.1.2.2.2.2.2.2.2.1, ())))))))), ())))))
            (
            some (((false, ()), ((x33.2.1.1, (x33.2.1.2.1, (x33.2.1.2.2.1, (x33.2.1.2.2.2.1, (x33.2.1.2.2.2.2.1, (x33.2.1.2.2.2.2.2.1, (x33.2.1.2.2.2.2.2.2.1, (x33.2.1.2.2.2.2.2.2.2.1, ())))))))), ()))))) fun j35 =>
          some (.inl ((j35.1.1, ()), ((j35.2.1.1, (j35.2.1.2.1, (j35.2.1.2.2.1, (j35.2.1.2.2.2.1, (j35.2.1.2.2.2.2.1, (j35.2.1.2.2.2.2.2.1, (j35.2.1.2.2.2.2.2.2.1, (j35.2.1.2.2.2.2.2.2.2.1, ())))))))), ())))))
         (
         some (.inr ((((), ()), ((j3.2.1.1, (j3.2.1.2.1, (j3.2.1.2.2.1, (j3.2.1.2.2.2.1, (j3.2.1.2.2.2.2.1, (j3.2.1.2.2.2.2.2.1, (j3.2.1.2.2.2.2.2.2.1, (j3.2.1.2.2.2.2.2.2.2.1, ())))))))), ())))))))))) fun j36 =>
   orK j36 (fun x37 =>
    some ((x37.1.1, ()), ()))
    (fun x38 =>
    sel (decide (x38.2.1.1 = 5))
     (
     sel (decide (x38.2.1.2.2.2.2.1 = (⟨#[]⟩ : ByteArray)))
      (
      some (((decide (x38.2.1.2.2.1 = 0)), ()), ()))
      (
      some ((false, ()), ())))
     (
     some ((false, ()), ()))))) := by kernel_rfl
set_option maxRecDepth 100000 in
theorem spec_GoodHeader.say (N : Nat) : SayOk Try.prog (spec_GoodHeader.S N) := sayOk_mk (N := N) (H := spec_GoodHeader.H) (preps := [⟨[], [], [], []⟩]) (l := spec_GoodHeader.says) (fn := Try.f103) (c := bodyOf Try.f103)
  (by kernel_rfl) (by kernel_rfl) (by kernel_rfl) (by kernel_rfl) (by kernel_rfl) (by kernel_rfl) (by kernel_rfl)
  (fun N => SayAll.cons (spec_l1In.say N) (SayAll.cons (spec_l2Word.say N) (SayAll.nil))) (fun a s => by kernel_rfl)

/-! ### loop.example/g00206/spec.l1Fixed: function 191 -/
noncomputable def spec_l1Fixed.H : Hints := hintsOf [(2000003, .loop ⟨.normal, [0], [5, 6], [.one (.own 0), ak_i], [.rows (.int .u8)], [⟨[(5, (.int .u8))], [], [], [0]⟩, ⟨[], [], [], [0]⟩]⟩ [⟨(.exit 0), [], [5], [.one (.own 0)], [.rows (.int .u8)], [⟨[], [], [], [0]⟩]⟩])]
noncomputable def spec_l1Fixed.says (N : Nat) : List Say := []
noncomputable def spec_l1Fixed.call (N : Nat) : CallK := callBy (spec_l1Fixed.says N)
noncomputable def spec_l1Fixed.qt (N : Nat) : FuncId → List PV → Sig → Cl := qtBy (spec_l1Fixed.says N)
noncomputable def spec_l1Fixed.l0.hd : Alt := ⟨.normal, [0], [5, 6], [.one (.own 0), ak_i], [.rows (.int .u8)], [⟨[(5, (.int .u8))], [], [], [0]⟩, ⟨[], [], [], [0]⟩]⟩
noncomputable def spec_l1Fixed.l0.outs : List Alt := [⟨(.exit 0), [], [5], [.one (.own 0)], [.rows (.int .u8)], [⟨[], [], [], [0]⟩]⟩]
noncomputable def spec_l1Fixed.l0 (N : Nat) (n1 : Int) (k : Int) (p0 : (List Int)) : Option ((Unit × Unit) × ((List Int) × Unit)) :=
  loopK Try.prog spec_l1Fixed.call spec_l1Fixed.qt spec_l1Fixed.H (codeAt (bodyOf Try.f191) [1, 1, 0, 1, 0, 0]) 0 spec_l1Fixed.l0.hd spec_l1Fixed.l0.outs [(0, .v (.int .i64 n1))] N (((), (k, ())), (p0, ()))
noncomputable def spec_l1Fixed (N : Nat) (n : Int) (many : Int) : Option ((ByteArray × Unit) × Unit) :=
  ofFn Try.prog spec_l1Fixed.call spec_l1Fixed.qt spec_l1Fixed.H N Try.f191 [ak_i, ak_i] [] [ak_s] [] [⟨[], [], [], []⟩] (n, (many, ())) ()
noncomputable def spec_l1Fixed.S (N : Nat) : Say := ⟨false, 191, [ak_i, ak_i], [], [ak_s], [], fun a s => spec_l1Fixed N a.1 a.2.1⟩
set_option maxRecDepth 100000 in
theorem spec_l1Fixed.l0.eq (N : Nat) (n1 : Int) (k : Int) (p0 : (List Int)) : spec_l1Fixed.l0 (N + 1) n1 k p0 =
 sel (decide (0 ≤ k))
  (
  chk (decide (0 ≤ (IntKind.u64.wrap (IntKind.i64.wrap (8 * k))))) (
  chk (decide (p0.length + 1 < most)) (
  spec_l1Fixed.l0 N n1 (IntKind.i64.wrap (k - 1)) (p0 ++ [(IntKind.u8.wrap (shrI .i64 n1 (IntKind.u64.wrap (IntKind.i64.wrap (8 * k)))))]))))
  (
  some ((((), ()), (p0, ())))) := by kernel_rfl
set_option maxRecDepth 100000 in
theorem spec_l1Fixed.eq (N : Nat) (n : Int) (many : Int) : spec_l1Fixed N n many =
 andK (spec_l1Fixed.l0 N n (IntKind.i64.wrap (many - 1)) []) fun l1 =>
 some (((strL l1.2.1), ()), ()) := by kernel_rfl
set_option maxRecDepth 100000 in
theorem spec_l1Fixed.say (N : Nat) : SayOk Try.prog (spec_l1Fixed.S N) := sayOk_mk (N := N) (H := spec_l1Fixed.H) (preps := [⟨[], [], [], []⟩]) (l := spec_l1Fixed.says) (fn := Try.f191) (c := bodyOf Try.f191)
  (by kernel_rfl) (by kernel_rfl) (by kernel_rfl) (by kernel_rfl) (by kernel_rfl) (by kernel_rfl) (by kernel_rfl)
  (fun N => SayAll.nil) (fun a s => by kernel_rfl)

/-! ### loop.example/g00206/spec.l2Id: function 164 -/
noncomputable def spec_l2Id.H : Hints := hintsOf []
noncomputable def spec_l2Id.says (N : Nat) : List Say := [spec_l1Fixed.S N]
noncomputable def spec_l2Id.call (N : Nat) : CallK := callBy (spec_l2Id.says N)
noncomputable def spec_l2Id.qt (N : Nat) : FuncId → List PV → Sig → Cl := qtBy (spec_l2Id.says N)
noncomputable def spec_l2Id (N : Nat) (s : ByteArray) : Option ((ByteArray × Unit) × Unit) :=
  ofFn Try.prog spec_l2Id.call spec_l2Id.qt spec_l2Id.H N Try.f164 [ak_s] [] [ak_s] [] [⟨[], [], [], []⟩] (s, ()) ()
noncomputable def spec_l2Id.S (N : Nat) : Say := ⟨false, 164, [ak_s], [], [ak_s], [], fun a s => spec_l2Id N a.1⟩
set_option maxRecDepth 100000 in
theorem spec_l2Id.eq (N : Nat) (s : ByteArray) : spec_l2Id N s =
 andK (spec_l1Fixed N (s.size : Int) 1) fun u1 =>
 chk (decide (u1.1.1.size + s.size ≤ 9223372036854775807)) (
 some (((u1.1.1 ++ s), ()), ())) := by kernel_rfl
set_option maxRecDepth 100000 in
theorem spec_l2Id.say (N : Nat) : SayOk Try.prog (spec_l2Id.S N) := sayOk_mk (N := N) (H := spec_l2Id.H) (preps := [⟨[], [], [], []⟩]) (l := spec_l2Id.says) (fn := Try.f164) (c := bodyOf Try.f164)
  (by kernel_rfl) (by kernel_rfl) (by kernel_rfl) (by kernel_rfl) (by kernel_rfl) (by kernel_rfl) (by kernel_rfl)
  (fun N => SayAll.cons (spec_l1Fixed.say N) (SayAll.nil)) (fun a s => by kernel_rfl)

/-! ### loop.example/g00206/spec.l1Size: function 248 -/
noncomputable def spec_l1Size.H : Hints := hintsOf []
noncomputable def spec_l1Size.says (N : Nat) : List Say := []
noncomputable def spec_l1Size.call (N : Nat) : CallK := callBy (spec_l1Size.says N)
noncomputable def spec_l1Size.qt (N : Nat) : FuncId → List PV → Sig → Cl := qtBy (spec_l1Size.says N)
noncomputable def spec_l1Size (N : Nat) (n : Int) : Option ((Int × Unit) × Unit) :=
  ofFn Try.prog spec_l1Size.call spec_l1Size.qt spec_l1Size.H N Try.f248 [ak_i] [] [ak_i] [] [⟨[], [], [], []⟩] (n, ()) ()
noncomputable def spec_l1Size.S (N : Nat) : Say := ⟨false, 248, [ak_i], [], [ak_i], [], fun a s => spec_l1Size N a.1⟩
set_option maxRecDepth 100000 in
theorem spec_l1Size.eq (N : Nat) (n : Int) : spec_l1Size N n =
 sel (decide (n < 64))
  (
  some ((1, ()), ()))
  (
  sel (decide (n < 16384))
   (
   some ((2, ()), ()))
   (
   sel (decide (n < 1073741824))
    (
    some ((4, ()), ()))
    (
    some ((8, ()), ())))) := by kernel_rfl
set_option maxRecDepth 100000 in
theorem spec_l1Size.say (N : Nat) : SayOk Try.prog (spec_l1Size.S N) := sayOk_mk (N := N) (H := spec_l1Size.H) (preps := [⟨[], [], [], []⟩]) (l := spec_l1Size.says) (fn := Try.f248) (c := bodyOf Try.f248)
  (by kernel_rfl) (by kernel_rfl) (by kernel_rfl) (by kernel_rfl) (by kernel_rfl) (by kernel_rfl) (by kernel_rfl)
  (fun N => SayAll.nil) (fun a s => by kernel_rfl)

/-! ### loop.example/g00206/spec.l1Var: function 235 -/
noncomputable def spec_l1Var.H : Hints := hintsOf []
noncomputable def spec_l1Var.says (N : Nat) : List Say := [spec_l1Size.S N, spec_l1Fixed.S N]
noncomputable def spec_l1Var.call (N : Nat) : CallK := callBy (spec_l1Var.says N)
noncomputable def spec_l1Var.qt (N : Nat) : FuncId → List PV → Sig → Cl := qtBy (spec_l1Var.says N)
noncomputable def spec_l1Var (N : Nat) (n : Int) : Option ((ByteArray × Unit) × Unit) :=
  ofFn Try.prog spec_l1Var.call spec_l1Var.qt spec_l1Var.H N Try.f235 [ak_i] [] [ak_s] [] [⟨[], [], [], []⟩] (n, ()) ()
noncomputable def spec_l1Var.S (N : Nat) : Say := ⟨false, 235, [ak_i], [], [ak_s], [], fun a s => spec_l1Var N a.1⟩
set_option maxRecDepth 100000 in
theorem spec_l1Var.eq (N : Nat) (n : Int) : spec_l1Var N n =
 andK (spec_l1Size N n) fun u1 =>
 sel (decide (u1.1.1 = 1))
  (
  andK (spec_l1Fixed N n 1) fun u2 =>
  some ((u2.1.1, ()), ()))
  (
  sel (decide (u1.1.1 = 2))
   (
   andK (spec_l1Fixed N (Go.bits .or .i64 n 16384) 2) fun u3 =>
   some ((u3.1.1, ()), ()))
   (
   sel (decide (u1.1.1 = 4))
    (
    andK (spec_l1Fixed N (Go.bits .or .i64 n 2147483648) 4) fun u4 =>
    some ((u4.1.1, ()), ()))
    (
    andK (spec_l1Fixed N (Go.bits .or .i64 n (-4611686018427387904)) 8) fun u5 =>
    some ((u5.1.1, ()), ())))) := by kernel_rfl
set_option maxRecDepth 100000 in
theorem spec_l1Var.say (N : Nat) : SayOk Try.prog (spec_l1Var.S N) := sayOk_mk (N := N) (H := spec_l1Var.H) (preps := [⟨[], [], [], []⟩]) (l := spec_l1Var.says) (fn := Try.f235) (c := bodyOf Try.f235)
  (by kernel_rfl) (by kernel_rfl) (by kernel_rfl) (by kernel_rfl) (by kernel_rfl) (by kernel_rfl) (by kernel_rfl)
  (fun N => SayAll.cons (spec_l1Size.say N) (SayAll.cons (spec_l1Fixed.say N) (SayAll.nil))) (fun a s => by kernel_rfl)

/-! ### loop.example/g00206/spec.l2Bytes: function 216 -/
noncomputable def spec_l2Bytes.H : Hints := hintsOf [(2000007, .loop ⟨.normal, [38, 39], [3, 40], [ak_s, ak_i], [.cells [ck_i, ck_i, ck_i, ck_s, ck_s, ck_s, ck_s, .sh (.rows (.int .i64))]], [⟨[], [], [], []⟩]⟩ [⟨(.exit 1), [], [3], [ak_s], [.cells [ck_i, ck_i, ck_i, ck_s, ck_s, ck_s, ck_s, .sh (.rows (.int .i64))]], [⟨[], [], [], []⟩]⟩]),
  (15, .join [⟨.normal, [], [1, 6], [.one (.ptr 0 0), ak_s], [.cells [ck_i, ck_i, ck_i, ck_s, ck_s, ck_s, ck_s, .sh (.rows (.int .i64))]], [⟨[], [], [], []⟩]⟩])]
noncomputable def spec_l2Bytes.says (N : Nat) : List Say := [spec_l1Fixed.S N, spec_l2Id.S N, spec_l1Var.S N]
noncomputable def spec_l2Bytes.call (N : Nat) : CallK := callBy (spec_l2Bytes.says N)
noncomputable def spec_l2Bytes.qt (N : Nat) : FuncId → List PV → Sig → Cl := qtBy (spec_l2Bytes.says N)
noncomputable def spec_l2Bytes.l0.hd : Alt := ⟨.normal, [38, 39], [3, 40], [ak_s, ak_i], [.cells [ck_i, ck_i, ck_i, ck_s, ck_s, ck_s, ck_s, .sh (.rows (.int .i64))]], [⟨[], [], [], []⟩]⟩
noncomputable def spec_l2Bytes.l0.outs : List Alt := [⟨(.exit 1), [], [3], [ak_s], [.cells [ck_i, ck_i, ck_i, ck_s, ck_s, ck_s, ck_s, .sh (.rows (.int .i64))]], [⟨[], [], [], []⟩]⟩]
noncomputable def spec_l2Bytes.l0 (N : Nat) (t38 : (List Int)) (t39 : Int) (C : ByteArray) (t40 : Int) (p0_0 : Int) (p0_1 : Int) (p0_2 : Int) (p0_3 : ByteArray) (p0_4 : ByteArray) (p0_5 : ByteArray) (p0_6 : ByteArray) (p0_7 : (List Int)) : Option ((ByteArray × Unit) × ((Int × (Int × (Int × (ByteArray × (ByteArray × (ByteArray × (ByteArray × ((List Int) × Unit)))))))) × Unit)) :=
  loopK Try.prog spec_l2Bytes.call spec_l2Bytes.qt spec_l2Bytes.H (codeAt (bodyOf Try.f216) [1, 0, 1, 0, 1, 1, 1, 0, 1, 0, 1, 0, 0]) 1 spec_l2Bytes.l0.hd spec_l2Bytes.l0.outs [(38, .rows false (.int .i64) t38), (39, .v (.int .i64 t39))] N ((C, (t40, ())), ((p0_0, (p0_1, (p0_2, (p0_3, (p0_4, (p0_5, (p0_6, (p0_7, ())))))))), ()))
noncomputable def spec_l2Bytes (N : Nat) (G_0 : Int) (G_1 : Int) (G_2 : Int) (G_3 : ByteArray) (G_4 : ByteArray) (G_5 : ByteArray) (G_6 : ByteArray) (G_7 : (List Int)) : Option ((ByteArray × Unit) × Unit) :=
  ofFn Try.prog spec_l2Bytes.call spec_l2Bytes.qt spec_l2Bytes.H N Try.f216 [.agg [ck_i, ck_i, ck_i, ck_s, ck_s, ck_s, ck_s, .sh (.rows (.int .i64))]] [] [ak_s] [] [⟨[], [], [], []⟩] ((G_0, (G_1, (G_2, (G_3, (G_4, (G_5, (G_6, (G_7, ())))))))), ()) ()
noncomputable def spec_l2Bytes.S (N : Nat) : Say := ⟨false, 216, [.agg [ck_i, ck_i, ck_i, ck_s, ck_s, ck_s, ck_s, .sh (.rows (.int .i64))]], [], [ak_s], [], fun a s => spec_l2Bytes N a.1.1 a.1.2.1 a.1.2.2.1 a.1.2.2.2.1 a.1.2.2.2.2.1 a.1.2.2.2.2.2.1 a.1.2.2.2.2.2.2.1 a.1.2.2.2.2.2.2.2.1⟩
set_option maxRecDepth 100000 in
theorem spec_l2Bytes.l0.eq (N : Nat) (t38 : (List Int)) (t39 : Int) (C : ByteArray) (t40 : Int) (p0_0 : Int) (p0_1 : Int) (p0_2 : Int) (p0_3 : ByteArray) (p0_4 : ByteArray) (p0_5 : ByteArray) (p0_6 : ByteArray) (p0_7 : (List Int)) : spec_l2Bytes.l0 (N + 1) t38 t39 C t40 p0_0 p0_1 p0_2 p0_3 p0_4 p0_5 p0_6 p0_7 =
 sel (decide (t40 < t39))
  (
  chk ((decide (0 ≤ t40)) && (decide (t40 < (t38.length : Int)))) (
  andK (spec_l1Fixed N (t38.getD (Int.toNat t40) 0) 4) fun u6 =>
  chk (decide (C.size + u6.1.1.size ≤ 9223372036854775807)) (
  spec_l2Bytes.l0 N t38 t39 (C ++ u6.1.1) (IntKind.i64.wrap (t40 + 1)) p0_0 p0_1 p0_2 p0_3 p0_4 p0_5 p0_6 p0_7)))
  (
  some (((C, ()), ((p0_0, (p0_1, (p0_2, (p0_3, (p0_4, (p0_5, (p0_6, (p0_7, ())))))))), ())))) := by kernel_rfl
set_option maxRecDepth 100000 in
theorem spec_l2Bytes.eq (N : Nat) (G_0 : Int) (G_1 : Int) (G_2 : Int) (G_3 : ByteArray) (G_4 : ByteArray) (G_5 : ByteArray) (G_6 : ByteArray) (G_7 : (List Int)) : spec_l2Bytes N G_0 G_1 G_2 G_3 G_4 G_5 G_6 G_7 =
 sel (decide (G_0 = 5))
  (
  andK (spec_l1Fixed N (Go.bits .or .i64 64 G_1) 1) fun u1 =>
  chk (decide (u1.1.1.size + G_3.size ≤ 9223372036854775807)) (
  chk (decide ((u1.1.1 ++ G_3).size + G_6.size ≤ 9223372036854775807)) (
  some ((((u1.1.1 ++ G_3) ++ G_6), ()), ()))))
  (
  sel (decide (G_0 = 4))
   (
   andK (spec_l1Fixed N (Go.bits .or .i64 192 G_1) 1) fun u2 =>
   andK (spec_l1Fixed N 0 4) fun u3 =>
   chk (decide (u2.1.1.size + u3.1.1.size ≤ 9223372036854775807)) (
   andK (spec_l2Id N G_3) fun u4 =>
   chk (decide ((u2.1.1 ++ u3.1.1).size + u4.1.1.size ≤ 9223372036854775807)) (
   andK (spec_l2Id N G_4) fun u5 =>
   chk (decide (((u2.1.1 ++ u3.1.1) ++ u4.1.1).size + u5.1.1.size ≤ 9223372036854775807)) (
   andK (spec_l2Bytes.l0 N G_7 (G_7.length : Int) (((u2.1.1 ++ u3.1.1) ++ u4.1.1) ++ u5.1.1) 0 G_0 G_1 G_2 G_3 G_4 G_5 G_6 G_7) fun l7 =>
   some ((l7.1.1, ()), ())))))
   (
   andK (spec_l1Fixed N (Go.bits .or .i64 (Go.bits .or .i64 192 (shlI .i64 G_0 4)) G_1) 1) fun u8 =>
   andK (spec_l1Fixed N G_2 4) fun u9 =>
   chk (decide (u8.1.1.size + u9.1.1.size ≤ 9223372036854775807)) (
   andK (spec_l2Id N G_3) fun u10 =>
   chk (decide ((u8.1.1 ++ u9.1.1).size + u10.1.1.size ≤ 9223372036854775807)) (
   andK (spec_l2Id N G_4) fun u11 =>
   chk (decide (((u8.1.1 ++ u9.1.1) ++ u10.1.1).size + u11.1.1.size ≤ 9223372036854775807)) (
   andK (α := ((Unit × (ByteArray × Unit)) × ((Int × (Int × (Int × (ByteArray × (ByteArray × (ByteArray × (ByteArray × ((List Int) × Unit)))))))) × Unit))) (
    sel (decide (G_0 = 0))
     (
     andK (spec_l1Var N (G_5.size : Int)) fun u12 =>
     chk (decide (u12.1.1.size + G_5.size ≤ 9223372036854775807)) (
     chk (decide ((((u8.1.1 ++ u9.1.1) ++ u10.1.1) ++ u11.1.1).size + (u12.1.1 ++ G_5).size ≤ 9223372036854775807)) (
     some ((((), (((((u8.1.1 ++ u9.1.1) ++ u10.1.1) ++ u11.1.1) ++ (u12.1.1 ++ G_5)), ())), ((G_0, (G_1, (G_2, (G_3, (G_4, (G_5, (G_6, (G_7, ())))))))), ()))))))
     (
     some ((((), ((((u8.1.1 ++ u9.1.1) ++ u10.1.1) ++ u11.1.1), ())), ((G_0, (G_1, (G_2, (G_3, (G_4, (G_5, (G_6, (G_7, ())))))))), ()))))) fun j13 =>
   sel (!(decide (j13.2.1.1 = 3)))
    (
    andK (spec_l1Fixed N (Go.bits .or .i64 (j13.2.1.2.2.2.2.2.2.1.size : Int) 16384) 2) fun u14 =>
    chk (decide (j13.1.2.1.size + u14.1.1.size ≤ 9223372036854775807)) (
    chk (decide ((j13.1.2.1 ++ u14.1.1).size + j13.2.1.2.2.2.2.2.2.1.size ≤ 9223372036854775807)) (
    some ((((j13.1.2.1 ++ u14.1.1) ++ j13.2.1.2.2.2.2.2.2.1), ()), ()))))
    (
    chk (decide (j13.1.2.1.size + j13.2.1.2.2.2.2.2.2.1.size ≤ 9223372036854775807)) (
    some (((j13.1.2.1 ++ j13.2.1.2.2.2.2.2.2.1), ()), ())))))))) := by kernel_rfl
set_option maxRecDepth 100000 in
theorem spec_l2Bytes.say (N : Nat) : SayOk Try.prog (spec_l2Bytes.S N) := sayOk_mk (N := N) (H := spec_l2Bytes.H) (preps := [⟨[], [], [], []⟩]) (l := spec_l2Bytes.says) (fn := Try.f216) (c := bodyOf Try.f216)
  (by kernel_rfl) (by kernel_rfl) (by kernel_rfl) (by kernel_rfl) (by kernel_rfl) (by kernel_rfl) (by kernel_rfl)
  (fun N => SayAll.cons (spec_l1Fixed.say N) (SayAll.cons (spec_l2Id.say N) (SayAll.cons (spec_l1Var.say N) (SayAll.nil)))) (fun a s => by kernel_rfl)

/-! ### loop.example/g00206/spec.HeaderBytes: function 192 -/
noncomputable def spec_HeaderBytes.H : Hints := hintsOf []
noncomputable def spec_HeaderBytes.says (N : Nat) : List Say := [spec_GoodHeader.S N, spec_l2Bytes.S N]
noncomputable def spec_HeaderBytes.call (N : Nat) : CallK := callBy (spec_HeaderBytes.says N)
noncomputable def spec_HeaderBytes.qt (N : Nat) : FuncId → List PV → Sig → Cl := qtBy (spec_HeaderBytes.says N)
noncomputable def spec_HeaderBytes (N : Nat) (h_0 : Int) (h_1 : Int) (h_2 : Int) (h_3 : ByteArray) (h_4 : ByteArray) (h_5 : ByteArray) (h_6 : ByteArray) (h_7 : (List Int)) : Option ((ByteArray × (Bool × Unit)) × Unit) :=
  ofFn Try.prog spec_HeaderBytes.call spec_HeaderBytes.qt spec_HeaderBytes.H N Try.f192 [.agg [ck_i, ck_i, ck_i, ck_s, ck_s, ck_s, ck_s, .sh (.rows (.int .i64))]] [] [ak_s, ak_b] [] [⟨[], [], [], []⟩] ((h_0, (h_1, (h_2, (h_3, (h_4, (h_5, (h_6, (h_7, ())))))))), ()) ()
noncomputable def spec_HeaderBytes.S (N : Nat) : Say := ⟨false, 192, [.agg [ck_i, ck_i, ck_i, ck_s, ck_s, ck_s, ck_s, .sh (.rows (.int .i64))]], [], [ak_s, ak_b], [], fun a s => spec_HeaderBytes N a.1.1 a.1.2.1 a.1.2.2.1 a.1.2.2.2.1 a.1.2.2.2.2.1 a.1.2.2.2.2.2.1 a.1.2.2.2.2.2.2.1 a.1.2.2.2.2.2.2.2.1⟩
set_option maxRecDepth 100000 in
theorem spec_HeaderBytes.eq (N : Nat) (h_0 : Int) (h_1 : Int) (h_2 : Int) (h_3 : ByteArray) (h_4 : ByteArray) (h_5 : ByteArray) (h_6 : ByteArray) (h_7 : (List Int)) : spec_HeaderBytes N h_0 h_1 h_2 h_3 h_4 h_5 h_6 h_7 =
 andK (spec_GoodHeader N h_0 h_1 h_2 h_3 h_4 h_5 h_6 h_7) fun u1 =>
 sel (!u1.1.1)
  (
  some (((⟨#[]⟩ : ByteArray), (false, ())), ()))
  (
  andK (spec_l2Bytes N h_0 h_1 h_2 h_3 h_4 h_5 h_6 h_7) fun u2 =>
  some ((u2.1.1, (true, ())), ())) := by kernel_rfl
set_option maxRecDepth 100000 in
theorem spec_HeaderBytes.say (N : Nat) : SayOk Try.prog (spec_HeaderBytes.S N) := sayOk_mk (N := N) (H := spec_HeaderBytes.H) (preps := [⟨[], [], [], []⟩]) (l := spec_HeaderBytes.says) (fn := Try.f192) (c := bodyOf Try.f192)
  (by kernel_rfl) (by kernel_rfl) (by kernel_rfl) (by kernel_rfl) (by kernel_rfl) (by kernel_rfl) (by kernel_rfl)
  (fun N => SayAll.cons (spec_GoodHeader.say N) (SayAll.cons (spec_l2Bytes.say N) (SayAll.nil))) (fun a s => by kernel_rfl)
noncomputable def spec_HeaderBytes.SB (N : Nat) : Say := spec_HeaderBytes.S N |>.lent
theorem spec_HeaderBytes.sayB (N : Nat) : SayOk Try.prog (spec_HeaderBytes.SB N) := (spec_HeaderBytes.say N).lent

/-! ### (*loop.example/g00206/spec.l1Cur).spoilt: function 47 -/
noncomputable def spec_l1Cur_spoilt.H : Hints := hintsOf [(5000002, .join [⟨.normal, [1, 2, 7], [0, 18], [.one (.ptr 0 0), ak_b], [.cells [.sh (.rows (.int .u8)), ck_i, .sh (.int .u64)]], [⟨[], [], [], []⟩]⟩]),
  (3, .join [⟨.normal, [2, 7], [0, 1], [.one (.ptr 0 0), ak_s], [.cells [.sh (.rows (.int .u8)), ck_i, .sh (.int .u64)]], [⟨[], [], [], []⟩]⟩]),
  (2000002, .loop ⟨.normal, [2], [0, 1, 7], [.one (.ptr 0 0), ak_s, ak_i], [.cells [.sh (.rows (.int .u8)), ck_i, .sh (.int .u64)]], [⟨[], [], [], []⟩]⟩ [⟨(.exit 0), [], [1], [ak_s], [.cells [.sh (.rows (.int .u8)), ck_i, .sh (.int .u64)]], [⟨[], [], [], []⟩]⟩])]
noncomputable def spec_l1Cur_spoilt.says (N : Nat) : List Say := [spec_l1Cur_pick.S N]
noncomputable def spec_l1Cur_spoilt.call (N : Nat) : CallK := callBy (spec_l1Cur_spoilt.says N)
noncomputable def spec_l1Cur_spoilt.qt (N : Nat) : FuncId → List PV → Sig → Cl := qtBy (spec_l1Cur_spoilt.says N)
noncomputable def spec_l1Cur_spoilt.l0.hd : Alt := ⟨.normal, [2], [0, 1, 7], [.one (.ptr 0 0), ak_s, ak_i], [.cells [.sh (.rows (.int .u8)), ck_i, .sh (.int .u64)]], [⟨[], [], [], []⟩]⟩
noncomputable def spec_l1Cur_spoilt.l0.outs : List Alt := [⟨(.exit 0), [], [1], [ak_s], [.cells [.sh (.rows (.int .u8)), ck_i, .sh (.int .u64)]], [⟨[], [], [], []⟩]⟩]
noncomputable def spec_l1Cur_spoilt.l0 (N : Nat) (t1 : ByteArray) (o1 : ByteArray) (t2 : Int) (p0_01 : (List Int)) (p0_11 : Int) (p0_21 : Int) : Option ((ByteArray × Unit) × (((List Int) × (Int × (Int × Unit))) × Unit)) :=
  loopK Try.prog spec_l1Cur_spoilt.call spec_l1Cur_spoilt.qt spec_l1Cur_spoilt.H (codeAt (bodyOf Try.f47) [1, 0, 1, 0, 0]) 1 spec_l1Cur_spoilt.l0.hd spec_l1Cur_spoilt.l0.outs [(2, .v (.string t1))] N (((), (o1, (t2, ()))), ((p0_01, (p0_11, (p0_21, ()))), ()))
noncomputable def spec_l1Cur_spoilt (N : Nat) (o : ByteArray) (t : ByteArray) (p0_0 : (List Int)) (p0_1 : Int) (p0_2 : Int) : Option ((ByteArray × Unit) × (((List Int) × (Int × (Int × Unit))) × Unit)) :=
  ofFn Try.prog spec_l1Cur_spoilt.call spec_l1Cur_spoilt.qt spec_l1Cur_spoilt.H N Try.f47 [.one (.ptr 0 0), ak_s, ak_s] [.cells [.sh (.rows (.int .u8)), ck_i, .sh (.int .u64)]] [ak_s] [.cells [.sh (.rows (.int .u8)), ck_i, .sh (.int .u64)]] [⟨[], [], [], []⟩] ((), (o, (t, ()))) ((p0_0, (p0_1, (p0_2, ()))), ())
noncomputable def spec_l1Cur_spoilt.S (N : Nat) : Say := ⟨false, 47, [.one (.ptr 0 0), ak_s, ak_s], [.cells [.sh (.rows (.int .u8)), ck_i, .sh (.int .u64)]], [ak_s], [.cells [.sh (.rows (.int .u8)), ck_i, .sh (.int .u64)]], fun a s => spec_l1Cur_spoilt N a.2.1 a.2.2.1 s.1.1 s.1.2.1 s.1.2.2.1⟩
set_option maxRecDepth 100000 in
theorem spec_l1Cur_spoilt.l0.eq (N : Nat) (t1 : ByteArray) (o1 : ByteArray) (t2 : Int) (p0_01 : (List Int)) (p0_11 : Int) (p0_21 : Int) : spec_l1Cur_spoilt.l0 (N + 1) t1 o1 t2 p0_01 p0_11 p0_21 =
 andK (α := ((Unit × (Bool × Unit)) × (((List Int) × (Int × (Int × Unit))) × Unit))) (
  sel (decide (0 < t2))
   (
   some ((((), ((decide (0 < (o1.size : Int))), ())), ((p0_01, (p0_11, (p0_21, ()))), ()))))
   (
   some ((((), (false, ())), ((p0_01, (p0_11, (p0_21, ()))), ()))))) fun j2 =>
 sel j2.1.2.1
  (
  andK (α := ((Unit × (ByteArray × Unit)) × (((List Int) × (Int × (Int × Unit))) × Unit))) (
   andK (spec_l1Cur_pick N (o1.size : Int) j2.2.1.1 j2.2.1.2.1 j2.2.1.2.2.1) fun u3 =>
   andK (spec_l1Cur_pick N (t1.size : Int) u3.2.1.1 u3.2.1.2.1 u3.2.1.2.2.1) fun u4 =>
   chk ((decide (0 ≤ u4.1.1)) && (decide (u4.1.1 < (t1.size : Int)))) (
   andK (spec_l1Cur_pick N 3 u4.2.1.1 u4.2.1.2.1 u4.2.1.2.2.1) fun u5 =>
   sel (decide (u5.1.1 = 0))
    (
    chk ((decide (0 ≤ u3.1.1)) && (decide (u3.1.1 ≤ (o1.size : Int)))) (
    chk (decide ((o1.extract 0 (Int.toNat u3.1.1)).size + (strL [((bytesL t1).getD (Int.toNat u4.1.1) 0)]).size ≤ 9223372036854775807)) (
    chk ((decide (0 ≤ u3.1.1)) && ((decide (u3.1.1 ≤ (o1.size : Int))) && (decide ((o1.size : Int) ≤ (o1.size : Int))))) (
    chk (decide (((o1.extract 0 (Int.toNat u3.1.1)) ++ (strL [((bytesL t1).getD (Int.toNat u4.1.1) 0)])).size + (o1.extract (Int.toNat u3.1.1) (Int.toNat (o1.size : Int))).size ≤ 9223372036854775807)) (
    some ((((), ((((o1.extract 0 (Int.toNat u3.1.1)) ++ (strL [((bytesL t1).getD (Int.toNat u4.1.1) 0)])) ++ (o1.extract (Int.toNat u3.1.1) (Int.toNat (o1.size : Int)))), ())), ((u5.2.1.1, (u5.2.1.2.1, (u5.2.1.2.2.1, ()))), ()))))))))
    (
    sel (decide (u5.1.1 = 1))
     (
     chk ((decide (0 ≤ u3.1.1)) && (decide (u3.1.1 ≤ (o1.size : Int)))) (
     chk (decide ((o1.extract 0 (Int.toNat u3.1.1)).size + (strL [((bytesL t1).getD (Int.toNat u4.1.1) 0)]).size ≤ 9223372036854775807)) (
     chk ((decide (0 ≤ (IntKind.i64.wrap (u3.1.1 + 1)))) && ((decide ((IntKind.i64.wrap (u3.1.1 + 1)) ≤ (o1.size : Int))) && (decide ((o1.size : Int) ≤ (o1.size : Int))))) (
     chk (decide (((o1.extract 0 (Int.toNat u3.1.1)) ++ (strL [((bytesL t1).getD (Int.toNat u4.1.1) 0)])).size + (o1.extract (Int.toNat (IntKind.i64.wrap (u3.1.1 + 1))) (Int.toNat (o1.size : Int))).size ≤ 9223372036854775807)) (
     some ((((), ((((o1.extract 0 (Int.toNat u3.1.1)) ++ (strL [((bytesL t1).getD (Int.toNat u4.1.1) 0)])) ++ (o1.extract (Int.toNat (IntKind.i64.wrap (u3.1.1 + 1))) (Int.toNat (o1.size : Int)))), ())), ((u5.2.1.1, (u5.2.1.2.1, (u5.2.1.2.2.1, ()))), ()))))))))
     (
     chk ((decide (0 ≤ u3.1.1)) && (decide (u3.1.1 ≤ (o1.size : Int)))) (
     chk ((decide (0 ≤ (IntKind.i64.wrap (u3.1.1 + 1)))) && ((decide ((IntKind.i64.wrap (u3.1.1 + 1)) ≤ (o1.size : Int))) && (decide ((o1.size : Int) ≤ (o1.size : Int))))) (
     chk (decide ((o1.extract 0 (Int.toNat u3.1.1)).size + (o1.extract (Int.toNat (IntKind.i64.wrap (u3.1.1 + 1))) (Int.toNat (o1.size : Int))).size ≤ 9223372036854775807)) (
     some ((((), (((o1.extract 0 (Int.toNat u3.1.1)) ++ (o1.extract (Int.toNat (IntKind.i64.wrap (u3.1.1 + 1))) (Int.toNat (o1.size : Int)))), ())), ((u5.2.1.1, (u5.2.1.2.1, (u5.2.1.2.2.1, ()))), ())))))))))) fun j6 =>
  spec_l1Cur_spoilt.l0 N t1 j6.1.2.1 (IntKind.i64.wrap (t2 - 1)) j6.2.1.1 j6.2.1.2.1 j6.2.1.2.2.1)
  (
  some (((o1, ()), ((j2.2.1.1, (j2.2.1.2.1, (j2.2.1.2.2.1, ()))), ())))) := by kernel_rfl
set_option maxRecDepth 100000 in
theorem spec_l1Cur_spoilt.eq (N : Nat) (o : ByteArray) (t : ByteArray) (p0_0 : (List Int)) (p0_1 : Int) (p0_2 : Int) : spec_l1Cur_spoilt N o t p0_0 p0_1 p0_2 =
 andK (spec_l1Cur_pick N 3 p0_0 p0_1 p0_2) fun u1 =>
 andK (spec_l1Cur_spoilt.l0 N t o u1.1.1 u1.2.1.1 u1.2.1.2.1 u1.2.1.2.2.1) fun l7 =>
 some ((l7.1.1, ()), ((l7.2.1.1, (l7.2.1.2.1, (l7.2.1.2.2.1, ()))), ())) := by kernel_rfl
set_option maxRecDepth 100000 in
theorem spec_l1Cur_spoilt.say (N : Nat) : SayOk Try.prog (spec_l1Cur_spoilt.S N) := sayOk_mk (N := N) (H := spec_l1Cur_spoilt.H) (preps := [⟨[], [], [], []⟩]) (l := spec_l1Cur_spoilt.says) (fn := Try.f47) (c := bodyOf Try.f47)
  (by kernel_rfl) (by kernel_rfl) (by kernel_rfl) (by kernel_rfl) (by kernel_rfl) (by kernel_rfl) (by kernel_rfl)
  (fun N => SayAll.cons (spec_l1Cur_pick.say N) (SayAll.nil)) (fun a s => by kernel_rfl)

/-! ### (*loop.example/g00206/spec.l1Cur).datagram: function 153 -/
noncomputable def spec_l1Cur_datagram.H : Hints := hintsOf [(9, .join [⟨.normal, [4, 6], [0, 5, 7], [.one (.ptr 0 0), ak_i, .one (.ptr 2 0)], [.cells [.sh (.rows (.int .u8)), ck_i, .sh (.int .u64)], .rows (.int .i64), .cells [ck_i, ck_i, ck_i, ck_s, ck_s, ck_s, ck_s, .own 1]], [⟨[], [], [], []⟩]⟩]),
  (12, .join [⟨.normal, [5, 6], [0, 4, 7], [.one (.ptr 0 0), ak_s, .one (.ptr 2 0)], [.cells [.sh (.rows (.int .u8)), ck_i, .sh (.int .u64)], .rows (.int .i64), .cells [ck_i, ck_i, ck_i, ck_s, ck_s, ck_s, ck_s, .own 1]], [⟨[], [], [], []⟩]⟩]),
  (2000004, .loop ⟨.normal, [], [0, 4, 5, 6], [.one (.ptr 0 0), ak_s, ak_i, ak_i], [.cells [.sh (.rows (.int .u8)), ck_i, .sh (.int .u64)]], [⟨[], [], [], []⟩]⟩ [⟨(.exit 0), [], [0, 4, 5], [.one (.ptr 0 0), ak_s, ak_i], [.cells [.sh (.rows (.int .u8)), ck_i, .sh (.int .u64)]], [⟨[], [], [], []⟩]⟩])]
noncomputable def spec_l1Cur_datagram.says (N : Nat) : List Say := [spec_l1Cur_pick.S N, spec_l1Cur_header.S N, spec_HeaderBytes.SB N, spec_l1Cur_one.S N, spec_l1Cur_spoilt.S N]
noncomputable def spec_l1Cur_datagram.call (N : Nat) : CallK := callBy (spec_l1Cur_datagram.says N)
noncomputable def spec_l1Cur_datagram.qt (N : Nat) : FuncId → List PV → Sig → Cl := qtBy (spec_l1Cur_datagram.says N)
noncomputable def spec_l1Cur_datagram.l0.hd : Alt := ⟨.normal, [], [0, 4, 5, 6], [.one (.ptr 0 0), ak_s, ak_i, ak_i], [.cells [.sh (.rows (.int .u8)), ck_i, .sh (.int .u64)]], [⟨[], [], [], []⟩]⟩
noncomputable def spec_l1Cur_datagram.l0.outs : List Alt := [⟨(.exit 0), [], [0, 4, 5], [.one (.ptr 0 0), ak_s, ak_i], [.cells [.sh (.rows (.int .u8)), ck_i, .sh (.int .u64)]], [⟨[], [], [], []⟩]⟩]
noncomputable def spec_l1Cur_datagram.l0 (N : Nat) (s : ByteArray) (short : Int) (n : Int) (p0_01 : (List Int)) (p0_11 : Int) (p0_21 : Int) : Option ((Unit × (ByteArray × (Int × Unit))) × (((List Int) × (Int × (Int × Unit))) × Unit)) :=
  loopK Try.prog spec_l1Cur_datagram.call spec_l1Cur_datagram.qt spec_l1Cur_datagram.H (codeAt (bodyOf Try.f153) [1, 1, 1, 0, 1, 0, 0]) 1 spec_l1Cur_datagram.l0.hd spec_l1Cur_datagram.l0.outs [] N (((), (s, (short, (n, ())))), ((p0_01, (p0_11, (p0_21, ()))), ()))
noncomputable def spec_l1Cur_datagram (N : Nat) (p0_0 : (List Int)) (p0_1 : Int) (p0_2 : Int) : Option ((ByteArray × (Int × Unit)) × (((List Int) × (Int × (Int × Unit))) × Unit)) :=
  ofFn Try.prog spec_l1Cur_datagram.call spec_l1Cur_datagram.qt spec_l1Cur_datagram.H N Try.f153 [.one (.ptr 0 0)] [.cells [.sh (.rows (.int .u8)), ck_i, .sh (.int .u64)]] [ak_s, ak_i] [.cells [.sh (.rows (.int .u8)), ck_i, .sh (.int .u64)]] [⟨[], [], [], []⟩] ((), ()) ((p0_0, (p0_1, (p0_2, ()))), ())
noncomputable def spec_l1Cur_datagram.S (N : Nat) : Say := ⟨false, 153, [.one (.ptr 0 0)], [.cells [.sh (.rows (.int .u8)), ck_i, .sh (.int .u64)]], [ak_s, ak_i], [.cells [.sh (.rows (.int .u8)), ck_i, .sh (.int .u64)]], fun a s => spec_l1Cur_datagram N s.1.1 s.1.2.1 s.1.2.2.1⟩
set_option maxRecDepth 100000 in
theorem spec_l1Cur_datagram.l0.eq (N : Nat) (s : ByteArray) (short : Int) (n : Int) (p0_01 : (List Int)) (p0_11 : Int) (p0_21 : Int) : spec_l1Cur_datagram.l0 (N + 1) s short n p0_01 p0_11 p0_21 =
 sel (decide (0 < n))
  (
  andK (spec_l1Cur_header N p0_01 p0_11 p0_21) fun u3 =>
  andK (α := ((Unit × (Int × (Unit × Unit))) × (((List Int) × (Int × (Int × Unit))) × ((List Int) × ((Int × (Int × (Int × (ByteArray × (ByteArray × (ByteArray × (ByteArray × (Unit × Unit)))))))) × Unit))))) (
   sel (decide (u3.1.1.1 = 5))
    (
    some ((((), ((u3.1.1.2.2.2.1.size : Int), ((), ()))), ((u3.2.1.1, (u3.2.1.2.1, (u3.2.1.2.2.1, ()))), (u3.2.2.1, ((u3.1.1.1, (u3.1.1.2.1, (u3.1.1.2.2.1, (u3.1.1.2.2.2.1, (u3.1.1.2.2.2.2.1, (u3.1.1.2.2.2.2.2.1, (u3.1.1.2.2.2.2.2.2.1, ((), ())))))))), ()))))))
    (
    some ((((), (short, ((), ()))), ((u3.2.1.1, (u3.2.1.2.1, (u3.2.1.2.2.1, ()))), (u3.2.2.1, ((u3.1.1.1, (u3.1.1.2.1, (u3.1.1.2.2.1, (u3.1.1.2.2.2.1, (u3.1.1.2.2.2.2.1, (u3.1.1.2.2.2.2.2.1, (u3.1.1.2.2.2.2.2.2.1, ((), ())))))))), ()))))))) fun j4 =>
  andK (spec_HeaderBytes N j4.2.2.2.1.1 j4.2.2.2.1.2.1 j4.2.2.2.1.2.2.1 j4.2.2.2.1.2.2.2.1 j4.2.2.2.1.2.2.2.2.1 j4.2.2.2.1.2.2.2.2.2.1 j4.2.2.2.1.2.2.2.2.2.2.1 j4.2.2.1) fun u5 =>
  andK (α := ((Unit × (ByteArray × (Unit × Unit))) × (((List Int) × (Int × (Int × Unit))) × ((List Int) × ((Int × (Int × (Int × (ByteArray × (ByteArray × (ByteArray × (ByteArray × (Unit × Unit)))))))) × Unit))))) (
   sel u5.1.2.1
    (
    chk (decide (s.size + u5.1.1.size ≤ 9223372036854775807)) (
    some ((((), ((s ++ u5.1.1), ((), ()))), ((j4.2.1.1, (j4.2.1.2.1, (j4.2.1.2.2.1, ()))), (j4.2.2.1, ((j4.2.2.2.1.1, (j4.2.2.2.1.2.1, (j4.2.2.2.1.2.2.1, (j4.2.2.2.1.2.2.2.1, (j4.2.2.2.1.2.2.2.2.1, (j4.2.2.2.1.2.2.2.2.2.1, (j4.2.2.2.1.2.2.2.2.2.2.1, ((), ())))))))), ())))))))
    (
    some ((((), (s, ((), ()))), ((j4.2.1.1, (j4.2.1.2.1, (j4.2.1.2.2.1, ()))), (j4.2.2.1, ((j4.2.2.2.1.1, (j4.2.2.2.1.2.1, (j4.2.2.2.1.2.2.1, (j4.2.2.2.1.2.2.2.1, (j4.2.2.2.1.2.2.2.2.1, (j4.2.2.2.1.2.2.2.2.2.1, (j4.2.2.2.1.2.2.2.2.2.2.1, ((), ())))))))), ()))))))) fun j6 =>
  sel (decide (3 ≤ j6.2.2.2.1.1))
   (
   some ((((), (j6.1.2.1, (j4.1.2.1, ()))), ((j6.2.1.1, (j6.2.1.2.1, (j6.2.1.2.2.1, ()))), ()))))
   (
   spec_l1Cur_datagram.l0 N j6.1.2.1 j4.1.2.1 (IntKind.i64.wrap (n - 1)) j6.2.1.1 j6.2.1.2.1 j6.2.1.2.2.1))
  (
  some ((((), (s, (short, ()))), ((p0_01, (p0_11, (p0_21, ()))), ())))) := by kernel_rfl
set_option maxRecDepth 100000 in
theorem spec_l1Cur_datagram.eq (N : Nat) (p0_0 : (List Int)) (p0_1 : Int) (p0_2 : Int) : spec_l1Cur_datagram N p0_0 p0_1 p0_2 =
 andK (spec_l1Cur_pick N 9 p0_0 p0_1 p0_2) fun u1 =>
 andK (spec_l1Cur_pick N 3 u1.2.1.1 u1.2.1.2.1 u1.2.1.2.2.1) fun u2 =>
 andK (spec_l1Cur_datagram.l0 N (⟨#[]⟩ : ByteArray) u1.1.1 (IntKind.i64.wrap (1 + u2.1.1)) u2.2.1.1 u2.2.1.2.1 u2.2.1.2.2.1) fun l7 =>
 andK (spec_l1Cur_one N 5 l7.2.1.1 l7.2.1.2.1 l7.2.1.2.2.1) fun u8 =>
 sel u8.1.1
  (
  andK (spec_l1Cur_spoilt N l7.1.2.1 (⟨#[192, 0, 64, 1, 255]⟩ : ByteArray) u8.2.1.1 u8.2.1.2.1 u8.2.1.2.2.1) fun u9 =>
  sel (decide (20 < l7.1.2.2.1))
   (
   some ((u9.1.1, (4, ())), ((u9.2.1.1, (u9.2.1.2.1, (u9.2.1.2.2.1, ()))), ())))
   (
   some ((u9.1.1, (l7.1.2.2.1, ())), ((u9.2.1.1, (u9.2.1.2.1, (u9.2.1.2.2.1, ()))), ()))))
  (
  sel (decide (20 < l7.1.2.2.1))
   (
   some ((l7.1.2.1, (4, ())), ((u8.2.1.1, (u8.2.1.2.1, (u8.2.1.2.2.1, ()))), ())))
   (
   some ((l7.1.2.1, (l7.1.2.2.1, ())), ((u8.2.1.1, (u8.2.1.2.1, (u8.2.1.2.2.1, ()))), ())))) := by kernel_rfl
set_option maxRecDepth 100000 in
theorem spec_l1Cur_datagram.say (N : Nat) : SayOk Try.prog (spec_l1Cur_datagram.S N) := sayOk_mk (N := N) (H := spec_l1Cur_datagram.H) (preps := [⟨[], [], [], []⟩]) (l := spec_l1Cur_datagram.says) (fn := Try.f153) (c := bodyOf Try.f153)
  (by kernel_rfl) (by kernel_rfl) (by kernel_rfl) (by kernel_rfl) (by kernel_rfl) (by kernel_rfl) (by kernel_rfl)
  (fun N => SayAll.cons (spec_l1Cur_pick.say N) (SayAll.cons (spec_l1Cur_header.say N) (SayAll.cons (spec_HeaderBytes.sayB N) (SayAll.cons (spec_l1Cur_one.say N) (SayAll.cons (spec_l1Cur_spoilt.say N) (SayAll.nil)))))) (fun a s => by kernel_rfl)

/-! ### loop.example/g00206/spec.DrawReadHeader: function 92 -/
noncomputable def spec_DrawReadHeader.H : Hints := hintsOf []
noncomputable def spec_DrawReadHeader.says (N : Nat) : List Say := [spec_l1Cur_datagram.S N, spec_l1Cur_one.S N, spec_l1Cur_among.S N]
noncomputable def spec_DrawReadHeader.call (N : Nat) : CallK := callBy (spec_DrawReadHeader.says N)
noncomputable def spec_DrawReadHeader.qt (N : Nat) : FuncId → List PV → Sig → Cl := qtBy (spec_DrawReadHeader.says N)
noncomputable def spec_DrawReadHeader (N : Nat) (code : (List Int)) : Option ((ByteArray × (Int × Unit)) × Unit) :=
  ofFn Try.prog spec_DrawReadHeader.call spec_DrawReadHeader.qt spec_DrawReadHeader.H N Try.f92 [.one (.sh (.rows (.int .u8)))] [] [ak_s, ak_i] [] [⟨[], [], [], []⟩] (code, ()) ()
noncomputable def spec_DrawReadHeader.S (N : Nat) : Say := ⟨false, 92, [.one (.sh (.rows (.int .u8)))], [], [ak_s, ak_i], [], fun a s => spec_DrawReadHeader N a.1⟩
set_option maxRecDepth 100000 in
theorem spec_DrawReadHeader.eq (N : Nat) (code : (List Int)) : spec_DrawReadHeader N code =
 andK (spec_l1Cur_datagram N code 0 0) fun u1 =>
 andK (spec_l1Cur_one N 30 u1.2.1.1 u1.2.1.2.1 u1.2.1.2.2.1) fun u2 =>
 sel u2.1.1
  (
  andK (spec_l1Cur_among N [(-1), 20, 21] u2.2.1.1 u2.2.1.2.1 u2.2.1.2.2.1) fun u3 =>
  some ((u1.1.1, (u3.1.1, ())), ()))
  (
  some ((u1.1.1, (u1.1.2.1, ())), ())) := by kernel_rfl
set_option maxRecDepth 100000 in
theorem spec_DrawReadHeader.say (N : Nat) : SayOk Try.prog (spec_DrawReadHeader.S N) := sayOk_mk (N := N) (H := spec_DrawReadHeader.H) (preps := [⟨[], [], [], []⟩]) (l := spec_DrawReadHeader.says) (fn := Try.f92) (c := bodyOf Try.f92)
  (by kernel_rfl) (by kernel_rfl) (by kernel_rfl) (by kernel_rfl) (by kernel_rfl) (by kernel_rfl) (by kernel_rfl)
  (fun N => SayAll.cons (spec_l1Cur_datagram.say N) (SayAll.cons (spec_l1Cur_one.say N) (SayAll.cons (spec_l1Cur_among.say N) (SayAll.nil)))) (fun a s => by kernel_rfl)

/-! ### loop.example/g00206/spec.DrawCutDatagram: function 33 -/
noncomputable def spec_DrawCutDatagram.H : Hints := hintsOf []
noncomputable def spec_DrawCutDatagram.says (N : Nat) : List Say := [spec_DrawReadHeader.S N]
noncomputable def spec_DrawCutDatagram.call (N : Nat) : CallK := callBy (spec_DrawCutDatagram.says N)
noncomputable def spec_DrawCutDatagram.qt (N : Nat) : FuncId → List PV → Sig → Cl := qtBy (spec_DrawCutDatagram.says N)
noncomputable def spec_DrawCutDatagram (N : Nat) (code : (List Int)) : Option ((ByteArray × (Int × Unit)) × Unit) :=
  ofFn Try.prog spec_DrawCutDatagram.call spec_DrawCutDatagram.qt spec_DrawCutDatagram.H N Try.f33 [.one (.sh (.rows (.int .u8)))] [] [ak_s, ak_i] [] [⟨[], [], [], []⟩] (code, ()) ()
noncomputable def spec_DrawCutDatagram.S (N : Nat) : Say := ⟨false, 33, [.one (.sh (.rows (.int .u8)))], [], [ak_s, ak_i], [], fun a s => spec_DrawCutDatagram N a.1⟩
set_option maxRecDepth 100000 in
theorem spec_DrawCutDatagram.eq (N : Nat) (code : (List Int)) : spec_DrawCutDatagram N code =
 andK (spec_DrawReadHeader N code) fun u1 =>
 some ((u1.1.1, (u1.1.2.1, ())), ()) := by kernel_rfl
set_option maxRecDepth 100000 in
theorem spec_DrawCutDatagram.say (N : Nat) : SayOk Try.prog (spec_DrawCutDatagram.S N) := sayOk_mk (N := N) (H := spec_DrawCutDatagram.H) (preps := [⟨[], [], [], []⟩]) (l := spec_DrawCutDatagram.says) (fn := Try.f33) (c := bodyOf Try.f33)
  (by kernel_rfl) (by kernel_rfl) (by kernel_rfl) (by kernel_rfl) (by kernel_rfl) (by kernel_rfl) (by kernel_rfl)
  (fun N => SayAll.cons (spec_DrawReadHeader.say N) (SayAll.nil)) (fun a s => by kernel_rfl)

/-! ### loop.example/g00206/impl.in: function 59 -/
noncomputable def impl_in.H : Hints := hintsOf []
noncomputable def impl_in.says (N : Nat) : List Say := []
noncomputable def impl_in.call (N : Nat) : CallK := callBy (impl_in.says N)
noncomputable def impl_in.qt (N : Nat) : FuncId → List PV → Sig → Cl := qtBy (impl_in.says N)
noncomputable def impl_in (N : Nat) (n : Int) (low : Int) (high : Int) : Option ((Bool × Unit) × Unit) :=
  ofFn Try.prog impl_in.call impl_in.qt impl_in.H N Try.f59 [ak_i, ak_i, ak_i] [] [ak_b] [] [⟨[], [], [], []⟩] (n, (low, (high, ()))) ()
noncomputable def impl_in.S (N : Nat) : Say := ⟨false, 59, [ak_i, ak_i, ak_i], [], [ak_b], [], fun a s => impl_in N a.1 a.2.1 a.2.2.1⟩
set_option maxRecDepth 100000 in
theorem impl_in.eq (N : Nat) (n : Int) (low : Int) (high : Int) : impl_in N n low high =
 sel (decide (low ≤ n))
  (
  some (((decide (n ≤ high)), ()), ()))
  (
  some ((false, ()), ())) := by kernel_rfl
set_option maxRecDepth 100000 in
theorem impl_in.say (N : Nat) : SayOk Try.prog (impl_in.S N) := sayOk_mk (N := N) (H := impl_in.H) (preps := [⟨[], [], [], []⟩]) (l := impl_in.says) (fn := Try.f59) (c := bodyOf Try.f59)
  (by kernel_rfl) (by kernel_rfl) (by kernel_rfl) (by kernel_rfl) (by kernel_rfl) (by kernel_rfl) (by kernel_rfl)
  (fun N => SayAll.nil) (fun a s => by kernel_rfl)

/-! ### loop.example/g00206/impl.shortOk: function 93 -/
noncomputable def impl_shortOk.H : Hints := hintsOf []
noncomputable def impl_shortOk.says (N : Nat) : List Say := [impl_in.S N]
noncomputable def impl_shortOk.call (N : Nat) : CallK := callBy (impl_shortOk.says N)
noncomputable def impl_shortOk.qt (N : Nat) : FuncId → List PV → Sig → Cl := qtBy (impl_shortOk.says N)
noncomputable def impl_shortOk (N : Nat) (short : Int) : Option ((Bool × Unit) × Unit) :=
  ofFn Try.prog impl_shortOk.call impl_shortOk.qt impl_shortOk.H N Try.f93 [ak_i] [] [ak_b] [] [⟨[], [], [], []⟩] (short, ()) ()
noncomputable def impl_shortOk.S (N : Nat) : Say := ⟨false, 93, [ak_i], [], [ak_b], [], fun a s => impl_shortOk N a.1⟩
set_option maxRecDepth 100000 in
theorem impl_shortOk.eq (N : Nat) (short : Int) : impl_shortOk N short =
 andK (impl_in N short 0 20) fun u1 =>
 some ((u1.1.1, ()), ()) := by kernel_rfl
set_option maxRecDepth 100000 in
theorem impl_shortOk.say (N : Nat) : SayOk Try.prog (impl_shortOk.S N) := sayOk_mk (N := N) (H := impl_shortOk.H) (preps := [⟨[], [], [], []⟩]) (l := impl_shortOk.says) (fn := Try.f93) (c := bodyOf Try.f93)
  (by kernel_rfl) (by kernel_rfl) (by kernel_rfl) (by kernel_rfl) (by kernel_rfl) (by kernel_rfl) (by kernel_rfl)
  (fun N => SayAll.cons (impl_in.say N) (SayAll.nil)) (fun a s => by kernel_rfl)

/-! ### (*loop.example/g00206/impl.cursor).take: function 156 -/
noncomputable def impl_cursor_take.H : Hints := hintsOf [(5000001, .join [⟨.normal, [1], [0, 18], [.one (.ptr 0 0), ak_b], [.cells [ck_s, ck_b]], [⟨[], [], [], []⟩]⟩])]
noncomputable def impl_cursor_take.says (N : Nat) : List Say := []
noncomputable def impl_cursor_take.call (N : Nat) : CallK := callBy (impl_cursor_take.says N)
noncomputable def impl_cursor_take.qt (N : Nat) : FuncId → List PV → Sig → Cl := qtBy (impl_cursor_take.says N)
noncomputable def impl_cursor_take (N : Nat) (n : Int) (p0_0 : ByteArray) (p0_1 : Bool) : Option ((ByteArray × Unit) × ((ByteArray × (Bool × Unit)) × Unit)) :=
  ofFn Try.prog impl_cursor_take.call impl_cursor_take.qt impl_cursor_take.H N Try.f156 [.one (.ptr 0 0), ak_i] [.cells [ck_s, ck_b]] [ak_s] [.cells [ck_s, ck_b]] [⟨[], [], [], []⟩] ((), (n, ())) ((p0_0, (p0_1, ())), ())
noncomputable def impl_cursor_take.S (N : Nat) : Say := ⟨false, 156, [.one (.ptr 0 0), ak_i], [.cells [ck_s, ck_b]], [ak_s], [.cells [ck_s, ck_b]], fun a s => impl_cursor_take N a.2.1 s.1.1 s.1.2.1⟩
set_option maxRecDepth 100000 in
theorem impl_cursor_take.eq (N : Nat) (n : Int) (p0_0 : ByteArray) (p0_1 : Bool) : impl_cursor_take N n p0_0 p0_1 =
 andK (α := ((Unit × (Bool × Unit)) × ((ByteArray × (Bool × Unit)) × Unit))) (
  sel p0_1
   (
   some ((((), (true, ())), ((p0_0, (p0_1, ())), ()))))
   (
   some ((((), ((decide ((p0_0.size : Int) < n)), ())), ((p0_0, (p0_1, ())), ()))))) fun j1 =>
 sel j1.1.2.1
  (
  some (((⟨#[]⟩ : ByteArray), ()), ((j1.2.1.1, (true, ())), ())))
  (
  chk ((decide (0 ≤ n)) && (decide (n ≤ (j1.2.1.1.size : Int)))) (
  chk ((decide (0 ≤ n)) && ((decide (n ≤ (j1.2.1.1.size : Int))) && (decide ((j1.2.1.1.size : Int) ≤ (j1.2.1.1.size : Int))))) (
  some (((j1.2.1.1.extract 0 (Int.toNat n)), ()), (((j1.2.1.1.extract (Int.toNat n) (Int.toNat (j1.2.1.1.size : Int))), (j1.2.1.2.1, ())), ()))))) := by kernel_rfl
set_option maxRecDepth 100000 in
theorem impl_cursor_take.say (N : Nat) : SayOk Try.prog (impl_cursor_take.S N) := sayOk_mk (N := N) (H := impl_cursor_take.H) (preps := [⟨[], [], [], []⟩]) (l := impl_cursor_take.says) (fn := Try.f156) (c := bodyOf Try.f156)
  (by kernel_rfl) (by kernel_rfl) (by kernel_rfl) (by kernel_rfl) (by kernel_rfl) (by kernel_rfl) (by kernel_rfl)
  (fun N => SayAll.nil) (fun a s => by kernel_rfl)

/-! ### loop.example/g00206/impl.numberOf: function 155 -/
noncomputable def impl_numberOf.H : Hints := hintsOf [(2000003, .loop ⟨.normal, [0, 6], [3, 7], [.one (.sh (.int .u64)), ak_i], [], [⟨[], [], [], []⟩]⟩ [⟨(.exit 0), [], [3], [.one (.sh (.int .u64))], [], [⟨[], [], [], []⟩]⟩])]
noncomputable def impl_numberOf.says (N : Nat) : List Say := []
noncomputable def impl_numberOf.call (N : Nat) : CallK := callBy (impl_numberOf.says N)
noncomputable def impl_numberOf.qt (N : Nat) : FuncId → List PV → Sig → Cl := qtBy (impl_numberOf.says N)
noncomputable def impl_numberOf.l0.hd : Alt := ⟨.normal, [0, 6], [3, 7], [.one (.sh (.int .u64)), ak_i], [], [⟨[], [], [], []⟩]⟩
noncomputable def impl_numberOf.l0.outs : List Alt := [⟨(.exit 0), [], [3], [.one (.sh (.int .u64))], [], [⟨[], [], [], []⟩]⟩]
noncomputable def impl_numberOf.l0 (N : Nat) (s1 : ByteArray) (t6 : Int) (n : Int) (t7 : Int) : Option ((Int × Unit) × Unit) :=
  loopK Try.prog impl_numberOf.call impl_numberOf.qt impl_numberOf.H (codeAt (bodyOf Try.f155) [1, 1, 0, 1, 0, 0]) 0 impl_numberOf.l0.hd impl_numberOf.l0.outs [(0, .v (.string s1)), (6, .v (.int .i64 t6))] N ((n, (t7, ())), ())
noncomputable def impl_numberOf (N : Nat) (s : ByteArray) : Option ((Int × Unit) × Unit) :=
  ofFn Try.prog impl_numberOf.call impl_numberOf.qt impl_numberOf.H N Try.f155 [ak_s] [] [.one (.sh (.int .u64))] [] [⟨[], [], [], []⟩] (s, ()) ()
noncomputable def impl_numberOf.S (N : Nat) : Say := ⟨false, 155, [ak_s], [], [.one (.sh (.int .u64))], [], fun a s => impl_numberOf N a.1⟩
set_option maxRecDepth 100000 in
theorem impl_numberOf.l0.eq (N : Nat) (s1 : ByteArray) (t6 : Int) (n : Int) (t7 : Int) : impl_numberOf.l0 (N + 1) s1 t6 n t7 =
 sel (decide (t7 < t6))
  (
  chk ((decide (0 ≤ t7)) && (decide (t7 < (s1.size : Int)))) (
  impl_numberOf.l0 N s1 t6 (Go.bits .or .u64 (shlI .u64 n 8) (IntKind.u64.wrap ((bytesL s1).getD (Int.toNat t7) 0))) (IntKind.i64.wrap (t7 + 1))))
  (
  some (((n, ()), ()))) := by kernel_rfl
set_option maxRecDepth 100000 in
theorem impl_numberOf.eq (N : Nat) (s : ByteArray) : impl_numberOf N s =
 andK (impl_numberOf.l0 N s (s.size : Int) 0 0) fun l1 =>
 some ((l1.1.1, ()), ()) := by kernel_rfl
set_option maxRecDepth 100000 in
theorem impl_numberOf.say (N : Nat) : SayOk Try.prog (impl_numberOf.S N) := sayOk_mk (N := N) (H := impl_numberOf.H) (preps := [⟨[], [], [], []⟩]) (l := impl_numberOf.says) (fn := Try.f155) (c := bodyOf Try.f155)
  (by kernel_rfl) (by kernel_rfl) (by kernel_rfl) (by kernel_rfl) (by kernel_rfl) (by kernel_rfl) (by kernel_rfl)
  (fun N => SayAll.nil) (fun a s => by kernel_rfl)

/-! ### (*loop.example/g00206/impl.cursor).byte: function 95 -/
noncomputable def impl_cursor_byte.H : Hints := hintsOf []
noncomputable def impl_cursor_byte.says (N : Nat) : List Say := [impl_cursor_take.S N, impl_numberOf.S N]
noncomputable def impl_cursor_byte.call (N : Nat) : CallK := callBy (impl_cursor_byte.says N)
noncomputable def impl_cursor_byte.qt (N : Nat) : FuncId → List PV → Sig → Cl := qtBy (impl_cursor_byte.says N)
noncomputable def impl_cursor_byte (N : Nat) (p0_0 : ByteArray) (p0_1 : Bool) : Option ((Int × Unit) × ((ByteArray × (Bool × Unit)) × Unit)) :=
  ofFn Try.prog impl_cursor_byte.call impl_cursor_byte.qt impl_cursor_byte.H N Try.f95 [.one (.ptr 0 0)] [.cells [ck_s, ck_b]] [ak_i] [.cells [ck_s, ck_b]] [⟨[], [], [], []⟩] ((), ()) ((p0_0, (p0_1, ())), ())
noncomputable def impl_cursor_byte.S (N : Nat) : Say := ⟨false, 95, [.one (.ptr 0 0)], [.cells [ck_s, ck_b]], [ak_i], [.cells [ck_s, ck_b]], fun a s => impl_cursor_byte N s.1.1 s.1.2.1⟩
set_option maxRecDepth 100000 in
theorem impl_cursor_byte.eq (N : Nat) (p0_0 : ByteArray) (p0_1 : Bool) : impl_cursor_byte N p0_0 p0_1 =
 andK (impl_cursor_take N 1 p0_0 p0_1) fun u1 =>
 andK (impl_numberOf N u1.1.1) fun u2 =>
 some (((IntKind.i64.wrap u2.1.1), ()), ((u1.2.1.1, (u1.2.1.2.1, ())), ())) := by kernel_rfl
set_option maxRecDepth 100000 in
theorem impl_cursor_byte.say (N : Nat) : SayOk Try.prog (impl_cursor_byte.S N) := sayOk_mk (N := N) (H := impl_cursor_byte.H) (preps := [⟨[], [], [], []⟩]) (l := impl_cursor_byte.says) (fn := Try.f95) (c := bodyOf Try.f95)
  (by kernel_rfl) (by kernel_rfl) (by kernel_rfl) (by kernel_rfl) (by kernel_rfl) (by kernel_rfl) (by kernel_rfl)
  (fun N => SayAll.cons (impl_cursor_take.say N) (SayAll.cons (impl_numberOf.say N) (SayAll.nil))) (fun a s => by kernel_rfl)

/-! ### (*loop.example/g00206/impl.cursor).rest: function 131 -/
noncomputable def impl_cursor_rest.H : Hints := hintsOf []
noncomputable def impl_cursor_rest.says (N : Nat) : List Say := [impl_cursor_take.S N]
noncomputable def impl_cursor_rest.call (N : Nat) : CallK := callBy (impl_cursor_rest.says N)
noncomputable def impl_cursor_rest.qt (N : Nat) : FuncId → List PV → Sig → Cl := qtBy (impl_cursor_rest.says N)
noncomputable def impl_cursor_rest (N : Nat) (p0_0 : ByteArray) (p0_1 : Bool) : Option ((ByteArray × Unit) × ((ByteArray × (Bool × Unit)) × Unit)) :=
  ofFn Try.prog impl_cursor_rest.call impl_cursor_rest.qt impl_cursor_rest.H N Try.f131 [.one (.ptr 0 0)] [.cells [ck_s, ck_b]] [ak_s] [.cells [ck_s, ck_b]] [⟨[], [], [], []⟩] ((), ()) ((p0_0, (p0_1, ())), ())
noncomputable def impl_cursor_rest.S (N : Nat) : Say := ⟨false, 131, [.one (.ptr 0 0)], [.cells [ck_s, ck_b]], [ak_s], [.cells [ck_s, ck_b]], fun a s => impl_cursor_rest N s.1.1 s.1.2.1⟩
set_option maxRecDepth 100000 in
theorem impl_cursor_rest.eq (N : Nat) (p0_0 : ByteArray) (p0_1 : Bool) : impl_cursor_rest N p0_0 p0_1 =
 andK (impl_cursor_take N (p0_0.size : Int) p0_0 p0_1) fun u1 =>
 some ((u1.1.1, ()), ((u1.2.1.1, (u1.2.1.2.1, ())), ())) := by kernel_rfl
set_option maxRecDepth 100000 in
theorem impl_cursor_rest.say (N : Nat) : SayOk Try.prog (impl_cursor_rest.S N) := sayOk_mk (N := N) (H := impl_cursor_rest.H) (preps := [⟨[], [], [], []⟩]) (l := impl_cursor_rest.says) (fn := Try.f131) (c := bodyOf Try.f131)
  (by kernel_rfl) (by kernel_rfl) (by kernel_rfl) (by kernel_rfl) (by kernel_rfl) (by kernel_rfl) (by kernel_rfl)
  (fun N => SayAll.cons (impl_cursor_take.say N) (SayAll.nil)) (fun a s => by kernel_rfl)

/-! ### loop.example/g00206/impl.TakeVarint: function 177 -/
noncomputable def impl_TakeVarint.H : Hints := hintsOf []
noncomputable def impl_TakeVarint.says (N : Nat) : List Say := [impl_numberOf.S N]
noncomputable def impl_TakeVarint.call (N : Nat) : CallK := callBy (impl_TakeVarint.says N)
noncomputable def impl_TakeVarint.qt (N : Nat) : FuncId → List PV → Sig → Cl := qtBy (impl_TakeVarint.says N)
noncomputable def impl_TakeVarint (N : Nat) (s : ByteArray) : Option ((Int × (Int × Unit)) × Unit) :=
  ofFn Try.prog impl_TakeVarint.call impl_TakeVarint.qt impl_TakeVarint.H N Try.f177 [ak_s] [] [ak_i, ak_i] [] [⟨[], [], [], []⟩] (s, ()) ()
noncomputable def impl_TakeVarint.S (N : Nat) : Say := ⟨false, 177, [ak_s], [], [ak_i, ak_i], [], fun a s => impl_TakeVarint N a.1⟩
set_option maxRecDepth 100000 in
theorem impl_TakeVarint.eq (N : Nat) (s : ByteArray) : impl_TakeVarint N s =
 sel (decide (s = (⟨#[]⟩ : ByteArray)))
  (
  some ((0, (0, ())), ()))
  (
  chk (decide (0 < (s.size : Int))) (
  chk (decide (0 ≤ (shrI .u8 ((bytesL s).getD 0 0) 6))) (
  sel (decide ((s.size : Int) < (shlI .i64 1 (shrI .u8 ((bytesL s).getD 0 0) 6))))
   (
   some ((0, (0, ())), ()))
   (
   chk ((decide (0 ≤ (shlI .i64 1 (shrI .u8 ((bytesL s).getD 0 0) 6)))) && (decide ((shlI .i64 1 (shrI .u8 ((bytesL s).getD 0 0) 6)) ≤ (s.size : Int)))) (
   andK (impl_numberOf N (s.extract 0 (Int.toNat (shlI .i64 1 (shrI .u8 ((bytesL s).getD 0 0) 6))))) fun u1 =>
   chk (decide (0 ≤ (IntKind.i64.wrap ((IntKind.i64.wrap (8 * (shlI .i64 1 (shrI .u8 ((bytesL s).getD 0 0) 6)))) - 2)))) (
   some (((IntKind.i64.wrap (Go.bits .and .u64 u1.1.1 (IntKind.u64.wrap ((shlI .u64 1 (IntKind.i64.wrap ((IntKind.i64.wrap (8 * (shlI .i64 1 (shrI .u8 ((bytesL s).getD 0 0) 6)))) - 2))) - 1)))), ((shlI .i64 1 (shrI .u8 ((bytesL s).getD 0 0) 6)), ())), ()))))))) := by kernel_rfl
set_option maxRecDepth 100000 in
theorem impl_TakeVarint.say (N : Nat) : SayOk Try.prog (impl_TakeVarint.S N) := sayOk_mk (N := N) (H := impl_TakeVarint.H) (preps := [⟨[], [], [], []⟩]) (l := impl_TakeVarint.says) (fn := Try.f177) (c := bodyOf Try.f177)
  (by kernel_rfl) (by kernel_rfl) (by kernel_rfl) (by kernel_rfl) (by kernel_rfl) (by kernel_rfl) (by kernel_rfl)
  (fun N => SayAll.cons (impl_numberOf.say N) (SayAll.nil)) (fun a s => by kernel_rfl)

/-! ### (*loop.example/g00206/impl.cursor).number: function 130 -/
noncomputable def impl_cursor_number.H : Hints := hintsOf [(4, .join [⟨.normal, [3, 4], [0], [.one (.ptr 0 0)], [.cells [ck_s, ck_b]], [⟨[], [], [], []⟩]⟩])]
noncomputable def impl_cursor_number.says (N : Nat) : List Say := [impl_TakeVarint.S N]
noncomputable def impl_cursor_number.call (N : Nat) : CallK := callBy (impl_cursor_number.says N)
noncomputable def impl_cursor_number.qt (N : Nat) : FuncId → List PV → Sig → Cl := qtBy (impl_cursor_number.says N)
noncomputable def impl_cursor_number (N : Nat) (p0_0 : ByteArray) (p0_1 : Bool) : Option ((Int × Unit) × ((ByteArray × (Bool × Unit)) × Unit)) :=
  ofFn Try.prog impl_cursor_number.call impl_cursor_number.qt impl_cursor_number.H N Try.f130 [.one (.ptr 0 0)] [.cells [ck_s, ck_b]] [ak_i] [.cells [ck_s, ck_b]] [⟨[], [], [], []⟩] ((), ()) ((p0_0, (p0_1, ())), ())
noncomputable def impl_cursor_number.S (N : Nat) : Say := ⟨false, 130, [.one (.ptr 0 0)], [.cells [ck_s, ck_b]], [ak_i], [.cells [ck_s, ck_b]], fun a s => impl_cursor_number N s.1.1 s.1.2.1⟩
set_option maxRecDepth 100000 in
theorem impl_cursor_number.eq (N : Nat) (p0_0 : ByteArray) (p0_1 : Bool) : impl_cursor_number N p0_0 p0_1 =
 andK (impl_TakeVarint N p0_0) fun u1 =>
 andK (α := ((Unit × Unit) × ((ByteArray × (Bool × Unit)) × Unit))) (
  sel (decide (u1.1.2.1 = 0))
   (
   some ((((), ()), ((p0_0, (true, ())), ()))))
   (
   some ((((), ()), ((p0_0, (p0_1, ())), ()))))) fun j2 =>
 chk ((decide (0 ≤ u1.1.2.1)) && ((decide (u1.1.2.1 ≤ (j2.2.1.1.size : Int))) && (decide ((j2.2.1.1.size : Int) ≤ (j2.2.1.1.size : Int))))) (
 some ((u1.1.1, ()), (((j2.2.1.1.extract (Int.toNat u1.1.2.1) (Int.toNat (j2.2.1.1.size : Int))), (j2.2.1.2.1, ())), ()))) := by kernel_rfl
set_option maxRecDepth 100000 in
theorem impl_cursor_number.say (N : Nat) : SayOk Try.prog (impl_cursor_number.S N) := sayOk_mk (N := N) (H := impl_cursor_number.H) (preps := [⟨[], [], [], []⟩]) (l := impl_cursor_number.says) (fn := Try.f130) (c := bodyOf Try.f130)
  (by kernel_rfl) (by kernel_rfl) (by kernel_rfl) (by kernel_rfl) (by kernel_rfl) (by kernel_rfl) (by kernel_rfl)
  (fun N => SayAll.cons (impl_TakeVarint.say N) (SayAll.nil)) (fun a s => by kernel_rfl)

/-! ### (*loop.example/g00206/impl.cursor).counted: function 157 -/
noncomputable def impl_cursor_counted.H : Hints := hintsOf []
noncomputable def impl_cursor_counted.says (N : Nat) : List Say := [impl_cursor_number.S N, impl_cursor_take.S N]
noncomputable def impl_cursor_counted.call (N : Nat) : CallK := callBy (impl_cursor_counted.says N)
noncomputable def impl_cursor_counted.qt (N : Nat) : FuncId → List PV → Sig → Cl := qtBy (impl_cursor_counted.says N)
noncomputable def impl_cursor_counted (N : Nat) (p0_0 : ByteArray) (p0_1 : Bool) : Option ((ByteArray × Unit) × ((ByteArray × (Bool × Unit)) × Unit)) :=
  ofFn Try.prog impl_cursor_counted.call impl_cursor_counted.qt impl_cursor_counted.H N Try.f157 [.one (.ptr 0 0)] [.cells [ck_s, ck_b]] [ak_s] [.cells [ck_s, ck_b]] [⟨[], [], [], []⟩] ((), ()) ((p0_0, (p0_1, ())), ())
noncomputable def impl_cursor_counted.S (N : Nat) : Say := ⟨false, 157, [.one (.ptr 0 0)], [.cells [ck_s, ck_b]], [ak_s], [.cells [ck_s, ck_b]], fun a s => impl_cursor_counted N s.1.1 s.1.2.1⟩
set_option maxRecDepth 100000 in
theorem impl_cursor_counted.eq (N : Nat) (p0_0 : ByteArray) (p0_1 : Bool) : impl_cursor_counted N p0_0 p0_1 =
 andK (impl_cursor_number N p0_0 p0_1) fun u1 =>
 andK (impl_cursor_take N u1.1.1 u1.2.1.1 u1.2.1.2.1) fun u2 =>
 some ((u2.1.1, ()), ((u2.2.1.1, (u2.2.1.2.1, ())), ())) := by kernel_rfl
set_option maxRecDepth 100000 in
theorem impl_cursor_counted.say (N : Nat) : SayOk Try.prog (impl_cursor_counted.S N) := sayOk_mk (N := N) (H := impl_cursor_counted.H) (preps := [⟨[], [], [], []⟩]) (l := impl_cursor_counted.says) (fn := Try.f157) (c := bodyOf Try.f157)
  (by kernel_rfl) (by kernel_rfl) (by kernel_rfl) (by kernel_rfl) (by kernel_rfl) (by kernel_rfl) (by kernel_rfl)
  (fun N => SayAll.cons (impl_cursor_number.say N) (SayAll.cons (impl_cursor_take.say N) (SayAll.nil))) (fun a s => by kernel_rfl)

/-! ### (*loop.example/g00206/impl.cursor).header: function 96 -/
noncomputable def impl_cursor_header.H : Hints := hintsOf [(5000010, .join [⟨.normal, [], [0, 6, 7, 57], [.one (.ptr 0 0), .one (.ptr 1 0), .one (.ptr 2 0), ak_b], [.cells [ck_s, ck_b], .cells [ck_i, ck_i, ck_i, ck_s, ck_s, ck_s, ck_s, .nil], .cells [ck_i, ck_i, ck_i, ck_s, ck_s, ck_s, ck_s, .own 3], .rows (.int .i64)], [⟨[], [], [], []⟩]⟩]),
  (2000010, .loop ⟨.normal, [], [0, 6, 7], [.one (.ptr 0 0), .one (.ptr 1 0), .one (.ptr 2 0)], [.cells [ck_s, ck_b], .cells [ck_i, ck_i, ck_i, ck_s, ck_s, ck_s, ck_s, .nil], .cells [ck_i, ck_i, ck_i, ck_s, ck_s, ck_s, ck_s, .own 3], .rows (.int .i64)], [⟨[], [(2, (7, (.int .i64)))], [], [3]⟩, ⟨[], [], [], [3]⟩]⟩ [⟨(.exit 0), [], [6, 7], [.one (.ptr 1 0), .one (.ptr 2 0)], [.cells [ck_s, ck_b], .cells [ck_i, ck_i, ck_i, ck_s, ck_s, ck_s, ck_s, .nil], .cells [ck_i, ck_i, ck_i, ck_s, ck_s, ck_s, ck_s, .own 3], .rows (.int .i64)], [⟨[], [], [], [3]⟩]⟩]),
  (15, .join [⟨.normal, [], [0, 6, 7], [.one (.ptr 0 0), .one (.ptr 1 0), .one (.ptr 2 0)], [.cells [ck_s, ck_b], .cells [ck_i, ck_i, ck_i, ck_s, ck_s, ck_s, ck_s, .nil], .cells [ck_i, ck_i, ck_i, ck_s, ck_s, ck_s, ck_s, .nil]], [⟨[], [], [], []⟩]⟩])]
noncomputable def impl_cursor_header.says (N : Nat) : List Say := [impl_cursor_take.S N, impl_cursor_rest.S N, impl_numberOf.S N, impl_cursor_byte.S N, impl_cursor_counted.S N]
noncomputable def impl_cursor_header.call (N : Nat) : CallK := callBy (impl_cursor_header.says N)
noncomputable def impl_cursor_header.qt (N : Nat) : FuncId → List PV → Sig → Cl := qtBy (impl_cursor_header.says N)
noncomputable def impl_cursor_header.l0.hd : Alt := ⟨.normal, [], [0, 6, 7], [.one (.ptr 0 0), .one (.ptr 1 0), .one (.ptr 2 0)], [.cells [ck_s, ck_b], .cells [ck_i, ck_i, ck_i, ck_s, ck_s, ck_s, ck_s, .nil], .cells [ck_i, ck_i, ck_i, ck_s, ck_s, ck_s, ck_s, .own 3], .rows (.int .i64)], [⟨[], [(2, (7, (.int .i64)))], [], [3]⟩, ⟨[], [], [], [3]⟩]⟩
noncomputable def impl_cursor_header.l0.outs : List Alt := [⟨(.exit 0), [], [6, 7], [.one (.ptr 1 0), .one (.ptr 2 0)], [.cells [ck_s, ck_b], .cells [ck_i, ck_i, ck_i, ck_s, ck_s, ck_s, ck_s, .nil], .cells [ck_i, ck_i, ck_i, ck_s, ck_s, ck_s, ck_s, .own 3], .rows (.int .i64)], [⟨[], [], [], [3]⟩]⟩]
noncomputable def impl_cursor_header.l0 (N : Nat) (p0_01 : ByteArray) (p0_11 : Bool) (p1_0 : Int) (p1_1 : Int) (p1_2 : Int) (p1_3 : ByteArray) (p1_4 : ByteArray) (p1_5 : ByteArray) (p1_6 : ByteArray) (p2_0 : Int) (p2_1 : Int) (p2_2 : Int) (p2_3 : ByteArray) (p2_4 : ByteArray) (p2_5 : ByteArray) (p2_6 : ByteArray) (p3 : (List Int)) : Option ((Unit × (Unit × Unit)) × ((ByteArray × (Bool × Unit)) × ((Int × (Int × (Int × (ByteArray × (ByteArray × (ByteArray × (ByteArray × (Unit × Unit)))))))) × ((Int × (Int × (Int × (ByteArray × (ByteArray × (ByteArray × (ByteArray × (Unit × Unit)))))))) × ((List Int) × Unit))))) :=
  loopK Try.prog impl_cursor_header.call impl_cursor_header.qt impl_cursor_header.H (codeAt (bodyOf Try.f96) [1, 1, 1, 1, 1, 1, 0, 1, 0, 1, 0, 0, 0]) 3 impl_cursor_header.l0.hd impl_cursor_header.l0.outs [] N (((), ((), ((), ()))), ((p0_01, (p0_11, ())), ((p1_0, (p1_1, (p1_2, (p1_3, (p1_4, (p1_5, (p1_6, ((), ())))))))), ((p2_0, (p2_1, (p2_2, (p2_3, (p2_4, (p2_5, (p2_6, ((), ())))))))), (p3, ())))))
noncomputable def impl_cursor_header (N : Nat) (o : Int) (t : Int) (p0_0 : ByteArray) (p0_1 : Bool) : Option (((Int × (Int × (Int × (ByteArray × (ByteArray × (ByteArray × (ByteArray × ((List Int) × Unit)))))))) × Unit) × ((ByteArray × (Bool × Unit)) × Unit)) :=
  ofFn Try.prog impl_cursor_header.call impl_cursor_header.qt impl_cursor_header.H N Try.f96 [.one (.ptr 0 0), ak_i, ak_i] [.cells [ck_s, ck_b]] [.agg [ck_i, ck_i, ck_i, ck_s, ck_s, ck_s, ck_s, .sh (.rows (.int .i64))]] [.cells [ck_s, ck_b]] [⟨[], [], [], []⟩, ⟨[], [], [3], []⟩] ((), (o, (t, ()))) ((p0_0, (p0_1, ())), ())
noncomputable def impl_cursor_header.S (N : Nat) : Say := ⟨false, 96, [.one (.ptr 0 0), ak_i, ak_i], [.cells [ck_s, ck_b]], [.agg [ck_i, ck_i, ck_i, ck_s, ck_s, ck_s, ck_s, .sh (.rows (.int .i64))]], [.cells [ck_s, ck_b]], fun a s => impl_cursor_header N a.2.1 a.2.2.1 s.1.1 s.1.2.1⟩
set_option maxRecDepth 100000 in
theorem impl_cursor_header.l0.eq (N : Nat) (p0_01 : ByteArray) (p0_11 : Bool) (p1_0 : Int) (p1_1 : Int) (p1_2 : Int) (p1_3 : ByteArray) (p1_4 : ByteArray) (p1_5 : ByteArray) (p1_6 : ByteArray) (p2_0 : Int) (p2_1 : Int) (p2_2 : Int) (p2_3 : ByteArray) (p2_4 : ByteArray) (p2_5 : ByteArray) (p2_6 : ByteArray) (p3 : (List Int)) : impl_cursor_header.l0 (N + 1) p0_01 p0_11 p1_0 p1_1 p1_2 p1_3 p1_4 p1_5 p1_6 p2_0 p2_1 p2_2 p2_3 p2_4 p2_5 p2_6 p3 =
 andK (α := ((Unit × (Unit × (Unit × (Bool × Unit)))) × ((ByteArray × (Bool × Unit)) × ((Int × (Int × (Int × (ByteArray × (ByteArray × (ByteArray × (ByteArray × (Unit × Unit)))))))) × ((Int × (Int × (Int × (ByteArray × (ByteArray × (ByteArray × (ByteArray × (Unit × Unit)))))))) × ((List Int) × Unit)))))) (
  sel (!(decide (p0_01 = (⟨#[]⟩ : ByteArray))))
   (
   some ((((), ((), ((), ((!p0_11), ())))), ((p0_01, (p0_11, ())), ((p1_0, (p1_1, (p1_2, (p1_3, (p1_4, (p1_5, (p1_6, ((), ())))))))), ((p2_0, (p2_1, (p2_2, (p2_3, (p2_4, (p2_5, (p2_6, ((), ())))))))), (p3, ())))))))
   (
   some ((((), ((), ((), (false, ())))), ((p0_01, (p0_11, ())), ((p1_0, (p1_1, (p1_2, (p1_3, (p1_4, (p1_5, (p1_6, ((), ())))))))), ((p2_0, (p2_1, (p2_2, (p2_3, (p2_4, (p2_5, (p2_6, ((), ())))))))), (p3, ())))))))) fun j9 =>
 sel j9.1.2.2.2.1
  (
  andK (impl_cursor_take N 4 j9.2.1.1 j9.2.1.2.1) fun u10 =>
  andK (impl_numberOf N u10.1.1) fun u11 =>
  chk (decide (j9.2.2.2.2.1.length + 1 < most)) (
  impl_cursor_header.l0 N u10.2.1.1 u10.2.1.2.1 j9.2.2.1.1 j9.2.2.1.2.1 j9.2.2.1.2.2.1 j9.2.2.1.2.2.2.1 j9.2.2.1.2.2.2.2.1 j9.2.2.1.2.2.2.2.2.1 j9.2.2.1.2.2.2.2.2.2.1 j9.2.2.2.1.1 j9.2.2.2.1.2.1 j9.2.2.2.1.2.2.1 j9.2.2.2.1.2.2.2.1 j9.2.2.2.1.2.2.2.2.1 j9.2.2.2.1.2.2.2.2.2.1 j9.2.2.2.1.2.2.2.2.2.2.1 (j9.2.2.2.2.1 ++ [(IntKind.i64.wrap u11.1.1)])))
  (
  some ((((), ((), ())), ((j9.2.1.1, (j9.2.1.2.1, ())), ((j9.2.2.1.1, (j9.2.2.1.2.1, (j9.2.2.1.2.2.1, (j9.2.2.1.2.2.2.1, (j9.2.2.1.2.2.2.2.1, (j9.2.2.1.2.2.2.2.2.1, (j9.2.2.1.2.2.2.2.2.2.1, ((), ())))))))), ((j9.2.2.2.1.1, (j9.2.2.2.1.2.1, (j9.2.2.2.1.2.2.1, (j9.2.2.2.1.2.2.2.1, (j9.2.2.2.1.2.2.2.2.1, (j9.2.2.2.1.2.2.2.2.2.1, (j9.2.2.2.1.2.2.2.2.2.2.1, ((), ())))))))), (j9.2.2.2.2.1, ()))))))) := by kernel_rfl
set_option maxRecDepth 100000 in
theorem impl_cursor_header.eq (N : Nat) (o : Int) (t : Int) (p0_0 : ByteArray) (p0_1 : Bool) : impl_cursor_header N o t p0_0 p0_1 =
 sel (decide ((Go.bits .and .i64 o 128) = 0))
  (
  andK (impl_cursor_take N t p0_0 p0_1) fun u1 =>
  andK (impl_cursor_rest N u1.2.1.1 u1.2.1.2.1) fun u2 =>
  some (((5, ((Go.bits .and .i64 o 15), (0, (u1.1.1, ((⟨#[]⟩ : ByteArray), ((⟨#[]⟩ : ByteArray), (u2.1.1, ([], ())))))))), ()), ((u2.2.1.1, (u2.2.1.2.1, ())), ())))
  (
  andK (impl_cursor_take N 4 p0_0 p0_1) fun u3 =>
  andK (impl_numberOf N u3.1.1) fun u4 =>
  andK (impl_cursor_byte N u3.2.1.1 u3.2.1.2.1) fun u5 =>
  andK (impl_cursor_take N u5.1.1 u5.2.1.1 u5.2.1.2.1) fun u6 =>
  andK (impl_cursor_byte N u6.2.1.1 u6.2.1.2.1) fun u7 =>
  andK (impl_cursor_take N u7.1.1 u7.2.1.1 u7.2.1.2.1) fun u8 =>
  sel (decide ((IntKind.i64.wrap u4.1.1) = 0))
   (
   andK (impl_cursor_header.l0 N u8.2.1.1 u8.2.1.2.1 0 0 0 (⟨#[]⟩ : ByteArray) (⟨#[]⟩ : ByteArray) (⟨#[]⟩ : ByteArray) (⟨#[]⟩ : ByteArray) 4 (Go.bits .and .i64 o 15) (IntKind.i64.wrap u4.1.1) u6.1.1 u8.1.1 (⟨#[]⟩ : ByteArray) (⟨#[]⟩ : ByteArray) []) fun l12 =>
   some (((l12.2.2.2.1.1, (l12.2.2.2.1.2.1, (l12.2.2.2.1.2.2.1, (l12.2.2.2.1.2.2.2.1, (l12.2.2.2.1.2.2.2.2.1, (l12.2.2.2.1.2.2.2.2.2.1, (l12.2.2.2.1.2.2.2.2.2.2.1, (l12.2.2.2.2.1, ())))))))), ()), ((l12.2.1.1, (l12.2.1.2.1, ())), ())))
   (
   andK (α := ((Unit × (Unit × (Unit × Unit))) × ((ByteArray × (Bool × Unit)) × ((Int × (Int × (Int × (ByteArray × (ByteArray × (ByteArray × (ByteArray × (Unit × Unit)))))))) × ((Int × (Int × (Int × (ByteArray × (ByteArray × (ByteArray × (ByteArray × (Unit × Unit)))))))) × Unit))))) (
    sel (decide ((Int.tmod (IntKind.i64.wrap (Int.tdiv o 16)) 4) = 0))
     (
     andK (impl_cursor_counted N u8.2.1.1 u8.2.1.2.1) fun u13 =>
     some ((((), ((), ((), ()))), ((u13.2.1.1, (u13.2.1.2.1, ())), ((0, (0, (0, ((⟨#[]⟩ : ByteArray), ((⟨#[]⟩ : ByteArray), ((⟨#[]⟩ : ByteArray), ((⟨#[]⟩ : ByteArray), ((), ())))))))), (((Int.tmod (IntKind.i64.wrap (Int.tdiv o 16)) 4), ((Go.bits .and .i64 o 15), ((IntKind.i64.wrap u4.1.1), (u6.1.1, (u8.1.1, (u13.1.1, ((⟨#[]⟩ : ByteArray), ((), ())))))))), ()))))))
     (
     some ((((), ((), ((), ()))), ((u8.2.1.1, (u8.2.1.2.1, ())), ((0, (0, (0, ((⟨#[]⟩ : ByteArray), ((⟨#[]⟩ : ByteArray), ((⟨#[]⟩ : ByteArray), ((⟨#[]⟩ : ByteArray), ((), ())))))))), (((Int.tmod (IntKind.i64.wrap (Int.tdiv o 16)) 4), ((Go.bits .and .i64 o 15), ((IntKind.i64.wrap u4.1.1), (u6.1.1, (u8.1.1, ((⟨#[]⟩ : ByteArray), ((⟨#[]⟩ : ByteArray), ((), ())))))))), ()))))))) fun j14 =>
   sel (decide (j14.2.2.2.1.1 = 3))
    (
    andK (impl_cursor_rest N j14.2.1.1 j14.2.1.2.1) fun u15 =>
    some (((j14.2.2.2.1.1, (j14.2.2.2.1.2.1, (j14.2.2.2.1.2.2.1, (j14.2.2.2.1.2.2.2.1, (j14.2.2.2.1.2.2.2.2.1, (j14.2.2.2.1.2.2.2.2.2.1, (u15.1.1, ([], ())))))))), ()), ((u15.2.1.1, (u15.2.1.2.1, ())), ())))
    (
    andK (impl_cursor_counted N j14.2.1.1 j14.2.1.2.1) fun u16 =>
    some (((j14.2.2.2.1.1, (j14.2.2.2.1.2.1, (j14.2.2.2.1.2.2.1, (j14.2.2.2.1.2.2.2.1, (j14.2.2.2.1.2.2.2.2.1, (j14.2.2.2.1.2.2.2.2.2.1, (u16.1.1, ([], ())))))))), ()), ((u16.2.1.1, (u16.2.1.2.1, ())), ()))))) := by kernel_rfl
set_option maxRecDepth 100000 in
theorem impl_cursor_header.say (N : Nat) : SayOk Try.prog (impl_cursor_header.S N) := sayOk_mk (N := N) (H := impl_cursor_header.H) (preps := [⟨[], [], [], []⟩, ⟨[], [], [3], []⟩]) (l := impl_cursor_header.says) (fn := Try.f96) (c := bodyOf Try.f96)
  (by kernel_rfl) (by kernel_rfl) (by kernel_rfl) (by kernel_rfl) (by kernel_rfl) (by kernel_rfl) (by kernel_rfl)
  (fun N => SayAll.cons (impl_cursor_take.say N) (SayAll.cons (impl_cursor_rest.say N) (SayAll.cons (impl_numberOf.say N) (SayAll.cons (impl_cursor_byte.say N) (SayAll.cons (impl_cursor_counted.say N) (SayAll.nil)))))) (fun a s => by kernel_rfl)

/-! ### loop.example/g00206/impl.long: function 106 -/
noncomputable def impl_long.H : Hints := hintsOf []
noncomputable def impl_long.says (N : Nat) : List Say := [impl_in.S N]
noncomputable def impl_long.call (N : Nat) : CallK := callBy (impl_long.says N)
noncomputable def impl_long.qt (N : Nat) : FuncId → List PV → Sig → Cl := qtBy (impl_long.says N)
noncomputable def impl_long (N : Nat) (form : Int) : Option ((Bool × Unit) × Unit) :=
  ofFn Try.prog impl_long.call impl_long.qt impl_long.H N Try.f106 [ak_i] [] [ak_b] [] [⟨[], [], [], []⟩] (form, ()) ()
noncomputable def impl_long.S (N : Nat) : Say := ⟨false, 106, [ak_i], [], [ak_b], [], fun a s => impl_long N a.1⟩
set_option maxRecDepth 100000 in
theorem impl_long.eq (N : Nat) (form : Int) : impl_long N form =
 andK (impl_in N form 0 3) fun u1 =>
 some ((u1.1.1, ()), ()) := by kernel_rfl
set_option maxRecDepth 100000 in
theorem impl_long.say (N : Nat) : SayOk Try.prog (impl_long.S N) := sayOk_mk (N := N) (H := impl_long.H) (preps := [⟨[], [], [], []⟩]) (l := impl_long.says) (fn := Try.f106) (c := bodyOf Try.f106)
  (by kernel_rfl) (by kernel_rfl) (by kernel_rfl) (by kernel_rfl) (by kernel_rfl) (by kernel_rfl) (by kernel_rfl)
  (fun N => SayAll.cons (impl_in.say N) (SayAll.nil)) (fun a s => by kernel_rfl)

/-! ### loop.example/g00206/impl.isVersion: function 100 -/
noncomputable def impl_isVersion.H : Hints := hintsOf []
noncomputable def impl_isVersion.says (N : Nat) : List Say := [impl_in.S N]
noncomputable def impl_isVersion.call (N : Nat) : CallK := callBy (impl_isVersion.says N)
noncomputable def impl_isVersion.qt (N : Nat) : FuncId → List PV → Sig → Cl := qtBy (impl_isVersion.says N)
noncomputable def impl_isVersion (N : Nat) (n : Int) : Option ((Bool × Unit) × Unit) :=
  ofFn Try.prog impl_isVersion.call impl_isVersion.qt impl_isVersion.H N Try.f100 [ak_i] [] [ak_b] [] [⟨[], [], [], []⟩] (n, ()) ()
noncomputable def impl_isVersion.S (N : Nat) : Say := ⟨false, 100, [ak_i], [], [ak_b], [], fun a s => impl_isVersion N a.1⟩
set_option maxRecDepth 100000 in
theorem impl_isVersion.eq (N : Nat) (n : Int) : impl_isVersion N n =
 andK (impl_in N n 1 4294967295) fun u1 =>
 some ((u1.1.1, ()), ()) := by kernel_rfl
set_option maxRecDepth 100000 in
theorem impl_isVersion.say (N : Nat) : SayOk Try.prog (impl_isVersion.S N) := sayOk_mk (N := N) (H := impl_isVersion.H) (preps := [⟨[], [], [], []⟩]) (l := impl_isVersion.says) (fn := Try.f100) (c := bodyOf Try.f100)
  (by kernel_rfl) (by kernel_rfl) (by kernel_rfl) (by kernel_rfl) (by kernel_rfl) (by kernel_rfl) (by kernel_rfl)
  (fun N => SayAll.cons (impl_in.say N) (SayAll.nil)) (fun a s => by kernel_rfl)

/-! ### loop.example/g00206/impl.GoodHeader$1: function 107 -/
noncomputable def impl_GoodHeader_1.H : Hints := hintsOf []
noncomputable def impl_GoodHeader_1.says (N : Nat) : List Say := [impl_in.S N]
noncomputable def impl_GoodHeader_1.call (N : Nat) : CallK := callBy (impl_GoodHeader_1.says N)
noncomputable def impl_GoodHeader_1.qt (N : Nat) : FuncId → List PV → Sig → Cl := qtBy (impl_GoodHeader_1.says N)
noncomputable def impl_GoodHeader_1 (N : Nat) (n : Int) : Option ((Bool × Unit) × Unit) :=
  ofFn Try.prog impl_GoodHeader_1.call impl_GoodHeader_1.qt impl_GoodHeader_1.H N Try.f107 [ak_i] [] [ak_b] [] [⟨[], [], [], []⟩] (n, ()) ()
noncomputable def impl_GoodHeader_1.S (N : Nat) : Say := ⟨false, 107, [ak_i], [], [ak_b], [], fun a s => impl_GoodHeader_1 N a.1⟩
set_option maxRecDepth 100000 in
theorem impl_GoodHeader_1.eq (N : Nat) (n : Int) : impl_GoodHeader_1 N n =
 andK (impl_in N n 0 4294967295) fun u1 =>
 some (((!u1.1.1), ()), ()) := by kernel_rfl
set_option maxRecDepth 100000 in
theorem impl_GoodHeader_1.say (N : Nat) : SayOk Try.prog (impl_GoodHeader_1.S N) := sayOk_mk (N := N) (H := impl_GoodHeader_1.H) (preps := [⟨[], [], [], []⟩]) (l := impl_GoodHeader_1.says) (fn := Try.f107) (c := bodyOf Try.f107)
  (by kernel_rfl) (by kernel_rfl) (by kernel_rfl) (by kernel_rfl) (by kernel_rfl) (by kernel_rfl) (by kernel_rfl)
  (fun N => SayAll.cons (impl_in.say N) (SayAll.nil)) (fun a s => by kernel_rfl)

/-! ### slices.IndexFunc[[]int,int]: function 159 -/
noncomputable def slices_IndexFuncint_int.H : Hints := hintsOf [(2000002, .loop ⟨.normal, [0, 1, 7], [8], [ak_i], [], [⟨[], [], [], []⟩]⟩ [⟨.ret, [], [4], [ak_i], [], [⟨[], [], [], []⟩]⟩, ⟨(.exit 0), [], [], [], [], [⟨[], [], [], []⟩]⟩])]
noncomputable def slices_IndexFuncint_int.says (N : Nat) : List Say := [impl_GoodHeader_1.S N]
noncomputable def slices_IndexFuncint_int.call (N : Nat) : CallK := callBy (slices_IndexFuncint_int.says N)
noncomputable def slices_IndexFuncint_int.qt (N : Nat) : FuncId → List PV → Sig → Cl := qtBy (slices_IndexFuncint_int.says N)
noncomputable def slices_IndexFuncint_int.l0.hd : Alt := ⟨.normal, [0, 1, 7], [8], [ak_i], [], [⟨[], [], [], []⟩]⟩
noncomputable def slices_IndexFuncint_int.l0.outs : List Alt := [⟨.ret, [], [4], [ak_i], [], [⟨[], [], [], []⟩]⟩, ⟨(.exit 0), [], [], [], [], [⟨[], [], [], []⟩]⟩]
noncomputable def slices_IndexFuncint_int.l0 (N : Nat) (s1 : (List Int)) (t7 : Int) (t8 : Int) : Option (((Int × Unit) × Unit) ⊕ (Unit × Unit)) :=
  loopK Try.prog slices_IndexFuncint_int.call slices_IndexFuncint_int.qt slices_IndexFuncint_int.H (codeAt (bodyOf Try.f159) [1, 0, 1, 0, 0]) 0 slices_IndexFuncint_int.l0.hd slices_IndexFuncint_int.l0.outs [(0, .rows false (.int .i64) s1), (1, .fn 107 []), (7, .v (.int .i64 t7))] N ((t8, ()), ())
noncomputable def slices_IndexFuncint_int (N : Nat) (s : (List Int)) : Option ((Int × Unit) × Unit) :=
  ofFn Try.prog slices_IndexFuncint_int.call slices_IndexFuncint_int.qt slices_IndexFuncint_int.H N Try.f159 [.one (.sh (.rows (.int .i64))), .fn 107 []] [] [ak_i] [] [⟨[], [], [], []⟩] (s, ((), ())) ()
noncomputable def slices_IndexFuncint_int.S (N : Nat) : Say := ⟨false, 159, [.one (.sh (.rows (.int .i64))), .fn 107 []], [], [ak_i], [], fun a s => slices_IndexFuncint_int N a.1⟩
set_option maxRecDepth 100000 in
theorem slices_IndexFuncint_int.l0.eq (N : Nat) (s1 : (List Int)) (t7 : Int) (t8 : Int) : slices_IndexFuncint_int.l0 (N + 1) s1 t7 t8 =
 sel (decide (t8 < t7))
  (
  chk ((decide (0 ≤ t8)) && (decide (t8 < (s1.length : Int)))) (
  andK (impl_GoodHeader_1 N (s1.getD (Int.toNat t8) 0)) fun u1 =>
  sel u1.1.1
   (
   some (.inl ((t8, ()), ())))
   (
   slices_IndexFuncint_int.l0 N s1 t7 (IntKind.i64.wrap (t8 + 1)))))
  (
  some (.inr (((), ())))) := by kernel_rfl
set_option maxRecDepth 100000 in
theorem slices_IndexFuncint_int.eq (N : Nat) (s : (List Int)) : slices_IndexFuncint_int N s =
 andK (slices_IndexFuncint_int.l0 N s (s.length : Int) 0) fun l2 =>
 orK l2 (fun x3 =>
  some ((x3.1.1, ()), ()))
  (fun x4 =>
  some (((-1), ()), ())) := by kernel_rfl
set_option maxRecDepth 100000 in
theorem slices_IndexFuncint_int.say (N : Nat) : SayOk Try.prog (slices_IndexFuncint_int.S N) := sayOk_mk (N := N) (H := slices_IndexFuncint_int.H) (preps := [⟨[], [], [], []⟩]) (l := slices_IndexFuncint_int.says) (fn := Try.f159) (c := bodyOf Try.f159)
  (by kernel_rfl) (by kernel_rfl) (by kernel_rfl) (by kernel_rfl) (by kernel_rfl) (by kernel_rfl) (by kernel_rfl)
  (fun N => SayAll.cons (impl_GoodHeader_1.say N) (SayAll.nil)) (fun a s => by kernel_rfl)

/-! ### slices.ContainsFunc[[]int,int]: function 98 -/
noncomputable def slices_ContainsFuncint_int.H : Hints := hintsOf []
noncomputable def slices_ContainsFuncint_int.says (N : Nat) : List Say := [slices_IndexFuncint_int.S N]
noncomputable def slices_ContainsFuncint_int.call (N : Nat) : CallK := callBy (slices_ContainsFuncint_int.says N)
noncomputable def slices_ContainsFuncint_int.qt (N : Nat) : FuncId → List PV → Sig → Cl := qtBy (slices_ContainsFuncint_int.says N)
noncomputable def slices_ContainsFuncint_int (N : Nat) (s : (List Int)) : Option ((Bool × Unit) × Unit) :=
  ofFn Try.prog slices_ContainsFuncint_int.call slices_ContainsFuncint_int.qt slices_ContainsFuncint_int.H N Try.f98 [.one (.sh (.rows (.int .i64))), .fn 107 []] [] [ak_b] [] [⟨[], [], [], []⟩] (s, ((), ())) ()
noncomputable def slices_ContainsFuncint_int.S (N : Nat) : Say := ⟨false, 98, [.one (.sh (.rows (.int .i64))), .fn 107 []], [], [ak_b], [], fun a s => slices_ContainsFuncint_int N a.1⟩
set_option maxRecDepth 100000 in
theorem slices_ContainsFuncint_int.eq (N : Nat) (s : (List Int)) : slices_ContainsFuncint_int N s =
 andK (slices_IndexFuncint_int N s) fun u1 =>
 some (((decide (0 ≤ u1.1.1)), ()), ()) := by kernel_rfl
set_option maxRecDepth 100000 in
theorem slices_ContainsFuncint_int.say (N : Nat) : SayOk Try.prog (slices_ContainsFuncint_int.S N) := sayOk_mk (N := N) (H := slices_ContainsFuncint_int.H) (preps := [⟨[], [], [], []⟩]) (l := slices_ContainsFuncint_int.says) (fn := Try.f98) (c := bodyOf Try.f98)
  (by kernel_rfl) (by kernel_rfl) (by kernel_rfl) (by kernel_rfl) (by kernel_rfl) (by kernel_rfl) (by kernel_rfl)
  (fun N => SayAll.cons (slices_IndexFuncint_int.say N) (SayAll.nil)) (fun a s => by kernel_rfl)

/-! ### loop.example/g00206/impl.GoodHeader: function 42 -/
noncomputable def impl_GoodHeader.H : Hints := hintsOf [(5000001, .join [⟨.normal, [], [1, 31], [.one (.ptr 0 0), ak_b], [.cells [ck_i, ck_i, ck_i, ck_s, ck_s, ck_s, ck_s, .sh (.rows (.int .i64))]], [⟨[], [], [], []⟩]⟩]),
  (5000003, .join [⟨.normal, [], [1, 50], [.one (.ptr 0 0), ak_b], [.cells [ck_i, ck_i, ck_i, ck_s, ck_s, ck_s, ck_s, .sh (.rows (.int .i64))]], [⟨[], [], [], []⟩]⟩]),
  (5000006, .join [⟨.normal, [], [2], [ak_b], [.cells [ck_i, ck_i, ck_i, ck_s, ck_s, ck_s, ck_s, .sh (.rows (.int .i64))]], [⟨[], [], [], []⟩]⟩]),
  (5000009, .join [⟨.normal, [], [2], [ak_b], [.cells [ck_i, ck_i, ck_i, ck_s, ck_s, ck_s, ck_s, .sh (.rows (.int .i64))]], [⟨[], [], [], []⟩]⟩])]
noncomputable def impl_GoodHeader.says (N : Nat) : List Say := [impl_in.S N, impl_long.S N, impl_isVersion.S N, slices_ContainsFuncint_int.S N]
noncomputable def impl_GoodHeader.call (N : Nat) : CallK := callBy (impl_GoodHeader.says N)
noncomputable def impl_GoodHeader.qt (N : Nat) : FuncId → List PV → Sig → Cl := qtBy (impl_GoodHeader.says N)
noncomputable def impl_GoodHeader (N : Nat) (G_0 : Int) (G_1 : Int) (G_2 : Int) (G_3 : ByteArray) (G_4 : ByteArray) (G_5 : ByteArray) (G_6 : ByteArray) (G_7 : (List Int)) : Option ((Bool × Unit) × Unit) :=
  ofFn Try.prog impl_GoodHeader.call impl_GoodHeader.qt impl_GoodHeader.H N Try.f42 [.agg [ck_i, ck_i, ck_i, ck_s, ck_s, ck_s, ck_s, .sh (.rows (.int .i64))]] [] [ak_b] [] [⟨[], [], [], []⟩] ((G_0, (G_1, (G_2, (G_3, (G_4, (G_5, (G_6, (G_7, ())))))))), ()) ()
noncomputable def impl_GoodHeader.S (N : Nat) : Say := ⟨false, 42, [.agg [ck_i, ck_i, ck_i, ck_s, ck_s, ck_s, ck_s, .sh (.rows (.int .i64))]], [], [ak_b], [], fun a s => impl_GoodHeader N a.1.1 a.1.2.1 a.1.2.2.1 a.1.2.2.2.1 a.1.2.2.2.2.1 a.1.2.2.2.2.2.1 a.1.2.2.2.2.2.2.1 a.1.2.2.2.2.2.2.2.1⟩
set_option maxRecDepth 100000 in
theorem impl_GoodHeader.eq (N : Nat) (G_0 : Int) (G_1 : Int) (G_2 : Int) (G_3 : ByteArray) (G_4 : ByteArray) (G_5 : ByteArray) (G_6 : ByteArray) (G_7 : (List Int)) : impl_GoodHeader N G_0 G_1 G_2 G_3 G_4 G_5 G_6 G_7 =
 andK (α := ((Unit × (Bool × Unit)) × ((Int × (Int × (Int × (ByteArray × (ByteArray × (ByteArray × (ByteArray × ((List Int) × Unit)))))))) × Unit))) (
  sel (decide (20 < (G_3.size : Int)))
   (
   some ((((), (true, ())), ((G_0, (G_1, (G_2, (G_3, (G_4, (G_5, (G_6, (G_7, ())))))))), ()))))
   (
   sel (decide (20 < (G_4.size : Int)))
    (
    some ((((), (true, ())), ((G_0, (G_1, (G_2, (G_3, (G_4, (G_5, (G_6, (G_7, ())))))))), ()))))
    (
    andK (impl_in N G_1 0 15) fun u1 =>
    sel (!u1.1.1)
     (
     some ((((), (true, ())), ((G_0, (G_1, (G_2, (G_3, (G_4, (G_5, (G_6, (G_7, ())))))))), ()))))
     (
     sel (decide (200 < (G_5.size : Int)))
      (
      some ((((), (true, ())), ((G_0, (G_1, (G_2, (G_3, (G_4, (G_5, (G_6, (G_7, ())))))))), ()))))
      (
      some ((((), ((decide (1200 < (G_6.size : Int))), ())), ((G_0, (G_1, (G_2, (G_3, (G_4, (G_5, (G_6, (G_7, ())))))))), ())))))))) fun j2 =>
 sel j2.1.2.1
  (
  some ((false, ()), ()))
  (
  andK (α := ((Unit × (Bool × Unit)) × ((Int × (Int × (Int × (ByteArray × (ByteArray × (ByteArray × (ByteArray × ((List Int) × Unit)))))))) × Unit))) (
   sel (!(decide (j2.2.1.1 = 0)))
    (
    sel (!(decide (j2.2.1.2.2.2.2.2.1 = (⟨#[]⟩ : ByteArray))))
     (
     some ((((), (true, ())), ((j2.2.1.1, (j2.2.1.2.1, (j2.2.1.2.2.1, (j2.2.1.2.2.2.1, (j2.2.1.2.2.2.2.1, (j2.2.1.2.2.2.2.2.1, (j2.2.1.2.2.2.2.2.2.1, (j2.2.1.2.2.2.2.2.2.2.1, ())))))))), ()))))
     (
     sel (!(decide (j2.2.1.1 = 4)))
      (
      some ((((), ((decide (0 < (j2.2.1.2.2.2.2.2.2.2.1.length : Int))), ())), ((j2.2.1.1, (j2.2.1.2.1, (j2.2.1.2.2.1, (j2.2.1.2.2.2.1, (j2.2.1.2.2.2.2.1, (j2.2.1.2.2.2.2.2.1, (j2.2.1.2.2.2.2.2.2.1, (j2.2.1.2.2.2.2.2.2.2.1, ())))))))), ()))))
      (
      some ((((), (false, ())), ((j2.2.1.1, (j2.2.1.2.1, (j2.2.1.2.2.1, (j2.2.1.2.2.2.1, (j2.2.1.2.2.2.2.1, (j2.2.1.2.2.2.2.2.1, (j2.2.1.2.2.2.2.2.2.1, (j2.2.1.2.2.2.2.2.2.2.1, ())))))))), ()))))))
    (
    sel (!(decide (j2.2.1.1 = 4)))
     (
     some ((((), ((decide (0 < (j2.2.1.2.2.2.2.2.2.2.1.length : Int))), ())), ((j2.2.1.1, (j2.2.1.2.1, (j2.2.1.2.2.1, (j2.2.1.2.2.2.1, (j2.2.1.2.2.2.2.1, (j2.2.1.2.2.2.2.2.1, (j2.2.1.2.2.2.2.2.2.1, (j2.2.1.2.2.2.2.2.2.2.1, ())))))))), ()))))
     (
     some ((((), (false, ())), ((j2.2.1.1, (j2.2.1.2.1, (j2.2.1.2.2.1, (j2.2.1.2.2.2.1, (j2.2.1.2.2.2.2.1, (j2.2.1.2.2.2.2.2.1, (j2.2.1.2.2.2.2.2.2.1, (j2.2.1.2.2.2.2.2.2.2.1, ())))))))), ())))))) fun j3 =>
  sel j3.1.2.1
   (
   some ((false, ()), ()))
   (
   andK (impl_long N j3.2.1.1) fun u4 =>
   sel u4.1.1
    (
    andK (α := ((Bool × Unit) × ((Int × (Int × (Int × (ByteArray × (ByteArray × (ByteArray × (ByteArray × ((List Int) × Unit)))))))) × Unit))) (
     andK (impl_isVersion N j3.2.1.2.2.1) fun u5 =>
     sel u5.1.1
      (
      some ((((!(decide (j3.2.1.2.2.2.2.2.2.1 = (⟨#[]⟩ : ByteArray)))), ()), ((j3.2.1.1, (j3.2.1.2.1, (j3.2.1.2.2.1, (j3.2.1.2.2.2.1, (j3.2.1.2.2.2.2.1, (j3.2.1.2.2.2.2.2.1, (j3.2.1.2.2.2.2.2.2.1, (j3.2.1.2.2.2.2.2.2.2.1, ())))))))), ()))))
      (
      some (((false, ()), ((j3.2.1.1, (j3.2.1.2.1, (j3.2.1.2.2.1, (j3.2.1.2.2.2.1, (j3.2.1.2.2.2.2.1, (j3.2.1.2.2.2.2.2.1, (j3.2.1.2.2.2.2.2.2.1, (j3.2.1.2.2.2.2.2.2.2.1, ())))))))), ()))))) fun j6 =>
    some ((j6.1.1, ()), ()))
    (
    sel (decide (j3.2.1.1 = 4))
     (
     andK (slices_ContainsFuncint_int N j3.2.1.2.2.2.2.2.2.2.1) fun u7 =>
     andK (α := ((Bool × Unit) × ((Int × (Int × (Int × (ByteArray × (ByteArray × (ByteArray × (ByteArray × ((List Int) × Unit)))))))) × Unit))) (
      sel (decide (j3.2.1.2.2.1 = 0))
       (
       sel (decide (j3.2.1.2.2.2.2.2.2.1 = (⟨#[]⟩ : ByteArray)))
        (
        andK (impl_in N (j3.2.1.2.2.2.2.2.2.2.1.length : Int) 1 20) fun u8 =>
        sel u8.1.1
         (
         some ((((!u7.1.1), ()), ((j3.2.1.1, (j3.2.1.2.1, (j3.2.1.2.2.1, (j3.2.1.2.2.2.1, (j3.2.1.2.2.2.2.1, (j3.2.1.2.2.2.2.2.1, (j3.2.1.2.2.2.2.2.2.1, (j3.2.1.2.2.2.2.2.2.2.1, ())))))))), ()))))
         (
         some (((false, ()), ((j3.2.1.1, (j3.2.1.2.1, (j3.2.1.2.2.1, (j3.2.1.2.2.2.1, (j3.2.1.2.2.2.2.1, (j3.2.1.2.2.2.2.2.1, (j3.2.1.2.2.2.2.2.2.1, (j3.2.1.2.2.2.2.2.2.2.1, ())))))))), ())))))
        (
        some (((false, ()), ((j3.2.1.1, (j3.2.1.2.1, (j3.2.1.2.2.1, (j3.2.1.2.2.2.1, (j3.2.1.2.2.2.2.1, (j3.2.1.2.2.2.2.2.1, (j3.2.1.2.2.2.2.2.2.1, (j3.2.1.2.2.2.2.2.2.2.1, ())))))))), ())))))
       (
       some (((false, ()), ((j3.2.1.1, (j3.2.1.2.1, (j3.2.1.2.2.1, (j3.2.1.2.2.2.1, (j3.2.1.2.2.2.2.1, (j3.2.1.2.2.2.2.2.1, (j3.2.1.2.2.2.2.2.2.1, (j3.2.1.2.2.2.2.2.2.2.1, ())))))))), ()))))) fun j9 =>
     some ((j9.1.1, ()), ()))
     (
     sel (decide (j3.2.1.1 = 5))
      (
      sel (decide (j3.2.1.2.2.1 = 0))
       (
       some (((decide (j3.2.1.2.2.2.2.1 = (⟨#[]⟩ : ByteArray))), ()), ()))
       (
       some ((false, ()), ())))
      (
      some ((false, ()), ())))))) := by kernel_rfl
set_option maxRecDepth 100000 in
theorem impl_GoodHeader.say (N : Nat) : SayOk Try.prog (impl_GoodHeader.S N) := sayOk_mk (N := N) (H := impl_GoodHeader.H) (preps := [⟨[], [], [], []⟩]) (l := impl_GoodHeader.says) (fn := Try.f42) (c := bodyOf Try.f42)
  (by kernel_rfl) (by kernel_rfl) (by kernel_rfl) (by kernel_rfl) (by kernel_rfl) (by kernel_rfl) (by kernel_rfl)
  (fun N => SayAll.cons (impl_in.say N) (SayAll.cons (impl_long.say N) (SayAll.cons (impl_isVersion.say N) (SayAll.cons (slices_ContainsFuncint_int.say N) (SayAll.nil))))) (fun a s => by kernel_rfl)

/-! ### loop.example/g00206/impl.ReadHeader: function 37 -/
noncomputable def impl_ReadHeader.H : Hints := hintsOf [(5000008, .join [⟨.normal, [0, 1], [4, 7, 9, 10], [.one (.ptr 0 0), .one (.ptr 1 0), .one (.ptr 2 0), ak_b], [.cells [ck_i, ck_i, ck_i, ck_s, ck_s, ck_s, ck_s, .nil], .cells [ck_s, ck_b], .cells [ck_i, ck_i, ck_i, ck_s, ck_s, ck_s, ck_s, .sh (.rows (.int .i64))]], [⟨[], [], [], []⟩]⟩]),
  (5000011, .join [⟨.normal, [0], [4, 7, 9, 52], [.one (.ptr 0 0), .one (.ptr 1 0), .one (.ptr 2 0), ak_b], [.cells [ck_i, ck_i, ck_i, ck_s, ck_s, ck_s, ck_s, .nil], .cells [ck_s, ck_b], .cells [ck_i, ck_i, ck_i, ck_s, ck_s, ck_s, ck_s, .sh (.rows (.int .i64))]], [⟨[], [], [], []⟩]⟩])]
noncomputable def impl_ReadHeader.says (N : Nat) : List Say := [impl_cursor_byte.S N, impl_cursor_header.S N, impl_shortOk.S N, impl_GoodHeader.S N]
noncomputable def impl_ReadHeader.call (N : Nat) : CallK := callBy (impl_ReadHeader.says N)
noncomputable def impl_ReadHeader.qt (N : Nat) : FuncId → List PV → Sig → Cl := qtBy (impl_ReadHeader.says N)
noncomputable def impl_ReadHeader (N : Nat) (G : ByteArray) (o : Int) : Option (((Int × (Int × (Int × (ByteArray × (ByteArray × (ByteArray × (ByteArray × ((List Int) × Unit)))))))) × (Int × (Int × Unit))) × Unit) :=
  ofFn Try.prog impl_ReadHeader.call impl_ReadHeader.qt impl_ReadHeader.H N Try.f37 [ak_s, ak_i] [] [.agg [ck_i, ck_i, ck_i, ck_s, ck_s, ck_s, ck_s, .sh (.rows (.int .i64))], ak_i, ak_i] [] [⟨[], [], [], []⟩] (G, (o, ())) ()
noncomputable def impl_ReadHeader.S (N : Nat) : Say := ⟨false, 37, [ak_s, ak_i], [], [.agg [ck_i, ck_i, ck_i, ck_s, ck_s, ck_s, ck_s, .sh (.rows (.int .i64))], ak_i, ak_i], [], fun a s => impl_ReadHeader N a.1 a.2.1⟩
set_option maxRecDepth 100000 in
theorem impl_ReadHeader.eq (N : Nat) (G : ByteArray) (o : Int) : impl_ReadHeader N G o =
 andK (impl_cursor_byte N G false) fun u1 =>
 sel u1.2.1.2.1
  (
  some (((0, (0, (0, ((⟨#[]⟩ : ByteArray), ((⟨#[]⟩ : ByteArray), ((⟨#[]⟩ : ByteArray), ((⟨#[]⟩ : ByteArray), ([], ())))))))), (0, (1, ()))), ()))
  (
  sel (decide ((Go.bits .and .i64 u1.1.1 64) = 0))
   (
   some (((0, (0, (0, ((⟨#[]⟩ : ByteArray), ((⟨#[]⟩ : ByteArray), ((⟨#[]⟩ : ByteArray), ((⟨#[]⟩ : ByteArray), ([], ())))))))), (0, (2, ()))), ()))
   (
   andK (impl_cursor_header N u1.1.1 (mmI true o 0) u1.2.1.1 u1.2.1.2.1) fun u2 =>
   andK (α := ((Unit × (Unit × (Unit × (Bool × Unit)))) × ((Int × (Int × (Int × (ByteArray × (ByteArray × (ByteArray × (ByteArray × (Unit × Unit)))))))) × ((ByteArray × (Bool × Unit)) × ((Int × (Int × (Int × (ByteArray × (ByteArray × (ByteArray × (ByteArray × ((List Int) × Unit)))))))) × Unit))))) (
    sel (decide (u2.1.1.1 = 5))
     (
     some ((((), ((), ((), ((!(decide ((Int.tmod (IntKind.i64.wrap (Int.tdiv u1.1.1 16)) 4) = 0))), ())))), ((0, (0, (0, ((⟨#[]⟩ : ByteArray), ((⟨#[]⟩ : ByteArray), ((⟨#[]⟩ : ByteArray), ((⟨#[]⟩ : ByteArray), ((), ())))))))), ((u2.2.1.1, (u2.2.1.2.1, ())), ((u2.1.1.1, (u2.1.1.2.1, (u2.1.1.2.2.1, (u2.1.1.2.2.2.1, (u2.1.1.2.2.2.2.1, (u2.1.1.2.2.2.2.2.1, (u2.1.1.2.2.2.2.2.2.1, (u2.1.1.2.2.2.2.2.2.2.1, ())))))))), ()))))))
     (
     sel (decide (u2.1.1.1 = 4))
      (
      some ((((), ((), ((), ((!(decide ((Int.tmod (IntKind.i64.wrap (Int.tdiv u1.1.1 16)) 4) = 0))), ())))), ((0, (0, (0, ((⟨#[]⟩ : ByteArray), ((⟨#[]⟩ : ByteArray), ((⟨#[]⟩ : ByteArray), ((⟨#[]⟩ : ByteArray), ((), ())))))))), ((u2.2.1.1, (u2.2.1.2.1, ())), ((u2.1.1.1, (u2.1.1.2.1, (u2.1.1.2.2.1, (u2.1.1.2.2.2.1, (u2.1.1.2.2.2.2.1, (u2.1.1.2.2.2.2.2.1, (u2.1.1.2.2.2.2.2.2.1, (u2.1.1.2.2.2.2.2.2.2.1, ())))))))), ()))))))
      (
      some ((((), ((), ((), (false, ())))), ((0, (0, (0, ((⟨#[]⟩ : ByteArray), ((⟨#[]⟩ : ByteArray), ((⟨#[]⟩ : ByteArray), ((⟨#[]⟩ : ByteArray), ((), ())))))))), ((u2.2.1.1, (u2.2.1.2.1, ())), ((u2.1.1.1, (u2.1.1.2.1, (u2.1.1.2.2.1, (u2.1.1.2.2.2.1, (u2.1.1.2.2.2.2.1, (u2.1.1.2.2.2.2.2.1, (u2.1.1.2.2.2.2.2.2.1, (u2.1.1.2.2.2.2.2.2.2.1, ())))))))), ())))))))) fun j3 =>
   sel j3.2.2.1.2.1
    (
    some (((0, (0, (0, ((⟨#[]⟩ : ByteArray), ((⟨#[]⟩ : ByteArray), ((⟨#[]⟩ : ByteArray), ((⟨#[]⟩ : ByteArray), ([], ())))))))), (0, (1, ()))), ()))
    (
    andK (α := ((Unit × (Unit × (Unit × (Bool × Unit)))) × ((Int × (Int × (Int × (ByteArray × (ByteArray × (ByteArray × (ByteArray × (Unit × Unit)))))))) × ((ByteArray × (Bool × Unit)) × ((Int × (Int × (Int × (ByteArray × (ByteArray × (ByteArray × (ByteArray × ((List Int) × Unit)))))))) × Unit))))) (
     sel j3.1.2.2.2.1
      (
      some ((((), ((), ((), (true, ())))), ((j3.2.1.1, (j3.2.1.2.1, (j3.2.1.2.2.1, (j3.2.1.2.2.2.1, (j3.2.1.2.2.2.2.1, (j3.2.1.2.2.2.2.2.1, (j3.2.1.2.2.2.2.2.2.1, ((), ())))))))), ((j3.2.2.1.1, (j3.2.2.1.2.1, ())), ((j3.2.2.2.1.1, (j3.2.2.2.1.2.1, (j3.2.2.2.1.2.2.1, (j3.2.2.2.1.2.2.2.1, (j3.2.2.2.1.2.2.2.2.1, (j3.2.2.2.1.2.2.2.2.2.1, (j3.2.2.2.1.2.2.2.2.2.2.1, (j3.2.2.2.1.2.2.2.2.2.2.2.1, ())))))))), ()))))))
      (
      andK (impl_shortOk N o) fun u4 =>
      sel (!u4.1.1)
       (
       some ((((), ((), ((), (true, ())))), ((j3.2.1.1, (j3.2.1.2.1, (j3.2.1.2.2.1, (j3.2.1.2.2.2.1, (j3.2.1.2.2.2.2.1, (j3.2.1.2.2.2.2.2.1, (j3.2.1.2.2.2.2.2.2.1, ((), ())))))))), ((j3.2.2.1.1, (j3.2.2.1.2.1, ())), ((j3.2.2.2.1.1, (j3.2.2.2.1.2.1, (j3.2.2.2.1.2.2.1, (j3.2.2.2.1.2.2.2.1, (j3.2.2.2.1.2.2.2.2.1, (j3.2.2.2.1.2.2.2.2.2.1, (j3.2.2.2.1.2.2.2.2.2.2.1, (j3.2.2.2.1.2.2.2.2.2.2.2.1, ())))))))), ()))))))
       (
       andK (impl_GoodHeader N j3.2.2.2.1.1 j3.2.2.2.1.2.1 j3.2.2.2.1.2.2.1 j3.2.2.2.1.2.2.2.1 j3.2.2.2.1.2.2.2.2.1 j3.2.2.2.1.2.2.2.2.2.1 j3.2.2.2.1.2.2.2.2.2.2.1 j3.2.2.2.1.2.2.2.2.2.2.2.1) fun u5 =>
       some ((((), ((), ((), ((!u5.1.1), ())))), ((j3.2.1.1, (j3.2.1.2.1, (j3.2.1.2.2.1, (j3.2.1.2.2.2.1, (j3.2.1.2.2.2.2.1, (j3.2.1.2.2.2.2.2.1, (j3.2.1.2.2.2.2.2.2.1, ((), ())))))))), ((j3.2.2.1.1, (j3.2.2.1.2.1, ())), ((j3.2.2.2.1.1, (j3.2.2.2.1.2.1, (j3.2.2.2.1.2.2.1, (j3.2.2.2.1.2.2.2.1, (j3.2.2.2.1.2.2.2.2.1, (j3.2.2.2.1.2.2.2.2.2.1, (j3.2.2.2.1.2.2.2.2.2.2.1, (j3.2.2.2.1.2.2.2.2.2.2.2.1, ())))))))), ())))))))) fun j6 =>
    sel j6.1.2.2.2.1
     (
     some (((0, (0, (0, ((⟨#[]⟩ : ByteArray), ((⟨#[]⟩ : ByteArray), ((⟨#[]⟩ : ByteArray), ((⟨#[]⟩ : ByteArray), ([], ())))))))), (0, (3, ()))), ()))
     (
     some (((j6.2.2.2.1.1, (j6.2.2.2.1.2.1, (j6.2.2.2.1.2.2.1, (j6.2.2.2.1.2.2.2.1, (j6.2.2.2.1.2.2.2.2.1, (j6.2.2.2.1.2.2.2.2.2.1, (j6.2.2.2.1.2.2.2.2.2.2.1, (j6.2.2.2.1.2.2.2.2.2.2.2.1, ())))))))), ((IntKind.i64.wrap ((G.size : Int) - (j6.2.2.1.1.size : Int))), (0, ()))), ()))))) := by kernel_rfl
set_option maxRecDepth 100000 in
theorem impl_ReadHeader.say (N : Nat) : SayOk Try.prog (impl_ReadHeader.S N) := sayOk_mk (N := N) (H := impl_ReadHeader.H) (preps := [⟨[], [], [], []⟩]) (l := impl_ReadHeader.says) (fn := Try.f37) (c := bodyOf Try.f37)
  (by kernel_rfl) (by kernel_rfl) (by kernel_rfl) (by kernel_rfl) (by kernel_rfl) (by kernel_rfl) (by kernel_rfl)
  (fun N => SayAll.cons (impl_cursor_byte.say N) (SayAll.cons (impl_cursor_header.say N) (SayAll.cons (impl_shortOk.say N) (SayAll.cons (impl_GoodHeader.say N) (SayAll.nil))))) (fun a s => by kernel_rfl)

/-! ### loop.example/g00206/impl.CutDatagram: function 34 -/
noncomputable def impl_CutDatagram.H : Hints := hintsOf [(5000001, .join [⟨.normal, [0, 1], [17], [ak_b], [], [⟨[], [], [], []⟩]⟩]),
  (2000004, .loop ⟨.normal, [1], [0, 6], [ak_s, .one (.own 0)], [.rows .str], [⟨[(6, .str)], [], [], [0]⟩, ⟨[], [], [], [0]⟩]⟩ [⟨.ret, [], [4, 5], [.one .nil, ak_b], [], [⟨[], [], [], []⟩]⟩, ⟨(.exit 0), [], [6], [.one (.own 0)], [.rows .str], [⟨[], [], [], [0]⟩]⟩])]
noncomputable def impl_CutDatagram.says (N : Nat) : List Say := [impl_shortOk.S N, impl_ReadHeader.S N]
noncomputable def impl_CutDatagram.call (N : Nat) : CallK := callBy (impl_CutDatagram.says N)
noncomputable def impl_CutDatagram.qt (N : Nat) : FuncId → List PV → Sig → Cl := qtBy (impl_CutDatagram.says N)
noncomputable def impl_CutDatagram.l0.hd : Alt := ⟨.normal, [1], [0, 6], [ak_s, .one (.own 0)], [.rows .str], [⟨[(6, .str)], [], [], [0]⟩, ⟨[], [], [], [0]⟩]⟩
noncomputable def impl_CutDatagram.l0.outs : List Alt := [⟨.ret, [], [4, 5], [.one .nil, ak_b], [], [⟨[], [], [], []⟩]⟩, ⟨(.exit 0), [], [6], [.one (.own 0)], [.rows .str], [⟨[], [], [], [0]⟩]⟩]
noncomputable def impl_CutDatagram.l0 (N : Nat) (short1 : Int) (s1 : ByteArray) (p0 : (List ByteArray)) : Option (((Unit × (Bool × Unit)) × Unit) ⊕ ((Unit × Unit) × ((List ByteArray) × Unit))) :=
  loopK Try.prog impl_CutDatagram.call impl_CutDatagram.qt impl_CutDatagram.H (codeAt (bodyOf Try.f34) [1, 1, 1, 0, 0, 0]) 0 impl_CutDatagram.l0.hd impl_CutDatagram.l0.outs [(1, .v (.int .i64 short1))] N ((s1, ((), ())), (p0, ()))
noncomputable def impl_CutDatagram (N : Nat) (s : ByteArray) (short : Int) : Option ((Unit × (Bool × Unit)) × ((List ByteArray) × Unit)) :=
  ofFn Try.prog impl_CutDatagram.call impl_CutDatagram.qt impl_CutDatagram.H N Try.f34 [ak_s, ak_i] [] [.one (.own 0), ak_b] [.rows .str] [⟨[(0, .str)], [], [], [0]⟩, ⟨[], [], [], [0]⟩] (s, (short, ())) ()
noncomputable def impl_CutDatagram.S (N : Nat) : Say := ⟨false, 34, [ak_s, ak_i], [], [.one (.own 0), ak_b], [.rows .str], fun a s => impl_CutDatagram N a.1 a.2.1⟩
set_option maxRecDepth 100000 in
theorem impl_CutDatagram.l0.eq (N : Nat) (short1 : Int) (s1 : ByteArray) (p0 : (List ByteArray)) : impl_CutDatagram.l0 (N + 1) short1 s1 p0 =
 sel (!(decide (s1 = (⟨#[]⟩ : ByteArray))))
  (
  andK (impl_ReadHeader N s1 short1) fun u3 =>
  sel (!(decide (u3.1.2.2.1 = 0)))
   (
   some (.inl (((), (false, ())), ())))
   (
   chk ((decide (0 ≤ u3.1.2.1)) && (decide (u3.1.2.1 ≤ (s1.size : Int)))) (
   chk (decide (p0.length + 1 < most)) (
   chk ((decide (0 ≤ u3.1.2.1)) && ((decide (u3.1.2.1 ≤ (s1.size : Int))) && (decide ((s1.size : Int) ≤ (s1.size : Int))))) (
   impl_CutDatagram.l0 N short1 (s1.extract (Int.toNat u3.1.2.1) (Int.toNat (s1.size : Int))) (p0 ++ [(s1.extract 0 (Int.toNat u3.1.2.1))]))))))
  (
  some (.inr ((((), ()), (p0, ()))))) := by kernel_rfl
set_option maxRecDepth 100000 in
theorem impl_CutDatagram.eq (N : Nat) (s : ByteArray) (short : Int) : impl_CutDatagram N s short =
 andK (α := ((Bool × Unit) × Unit)) (
  sel (decide (1500 < (s.size : Int)))
   (
   some (((true, ()), ())))
   (
   andK (impl_shortOk N short) fun u1 =>
   some ((((!u1.1.1), ()), ())))) fun j2 =>
 sel j2.1.1
  (
  some (((), (false, ())), ([], ())))
  (
  andK (impl_CutDatagram.l0 N short s []) fun l4 =>
  orK l4 (fun x5 =>
   some (((), (x5.1.2.1, ())), ([], ())))
   (fun x6 =>
   some (((), (true, ())), (x6.2.1, ())))) := by kernel_rfl
set_option maxRecDepth 100000 in
theorem impl_CutDatagram.say (N : Nat) : SayOk Try.prog (impl_CutDatagram.S N) := sayOk_mk (N := N) (H := impl_CutDatagram.H) (preps := [⟨[(0, .str)], [], [], [0]⟩, ⟨[], [], [], [0]⟩]) (l := impl_CutDatagram.says) (fn := Try.f34) (c := bodyOf Try.f34)
  (by kernel_rfl) (by kernel_rfl) (by kernel_rfl) (by kernel_rfl) (by kernel_rfl) (by kernel_rfl) (by kernel_rfl)
  (fun N => SayAll.cons (impl_shortOk.say N) (SayAll.cons (impl_ReadHeader.say N) (SayAll.nil))) (fun a s => by kernel_rfl)

/-! ### (*loop.example/g00206/spec.l1R).take: function 217 -/
noncomputable def spec_l1R_take.H : Hints := hintsOf [(5000001, .join [⟨.normal, [1], [0, 23], [.one (.ptr 0 0), ak_b], [.cells [ck_s, ck_i, ck_i]], [⟨[], [], [], []⟩]⟩]),
  (3, .join [⟨.normal, [1], [0], [.one (.ptr 0 0)], [.cells [ck_s, ck_i, ck_i]], [⟨[], [], [], []⟩]⟩])]
noncomputable def spec_l1R_take.says (N : Nat) : List Say := []
noncomputable def spec_l1R_take.call (N : Nat) : CallK := callBy (spec_l1R_take.says N)
noncomputable def spec_l1R_take.qt (N : Nat) : FuncId → List PV → Sig → Cl := qtBy (spec_l1R_take.says N)
noncomputable def spec_l1R_take (N : Nat) (n : Int) (p0_0 : ByteArray) (p0_1 : Int) (p0_2 : Int) : Option ((ByteArray × Unit) × ((ByteArray × (Int × (Int × Unit))) × Unit)) :=
  ofFn Try.prog spec_l1R_take.call spec_l1R_take.qt spec_l1R_take.H N Try.f217 [.one (.ptr 0 0), ak_i] [.cells [ck_s, ck_i, ck_i]] [ak_s] [.cells [ck_s, ck_i, ck_i]] [⟨[], [], [], []⟩] ((), (n, ())) ((p0_0, (p0_1, (p0_2, ()))), ())
noncomputable def spec_l1R_take.S (N : Nat) : Say := ⟨false, 217, [.one (.ptr 0 0), ak_i], [.cells [ck_s, ck_i, ck_i]], [ak_s], [.cells [ck_s, ck_i, ck_i]], fun a s => spec_l1R_take N a.2.1 s.1.1 s.1.2.1 s.1.2.2.1⟩
set_option maxRecDepth 100000 in
theorem spec_l1R_take.eq (N : Nat) (n : Int) (p0_0 : ByteArray) (p0_1 : Int) (p0_2 : Int) : spec_l1R_take N n p0_0 p0_1 p0_2 =
 andK (α := ((Unit × Unit) × ((ByteArray × (Int × (Int × Unit))) × Unit))) (
  andK (α := ((Unit × (Bool × Unit)) × ((ByteArray × (Int × (Int × Unit))) × Unit))) (
   sel (decide (p0_2 = 0))
    (
    some ((((), ((decide ((IntKind.i64.wrap ((p0_0.size : Int) - p0_1)) < n)), ())), ((p0_0, (p0_1, (p0_2, ()))), ()))))
    (
    some ((((), (false, ())), ((p0_0, (p0_1, (p0_2, ()))), ()))))) fun j1 =>
  sel j1.1.2.1
   (
   some ((((), ()), ((j1.2.1.1, (j1.2.1.2.1, (1, ()))), ()))))
   (
   some ((((), ()), ((j1.2.1.1, (j1.2.1.2.1, (j1.2.1.2.2.1, ()))), ()))))) fun j2 =>
 sel (!(decide (j2.2.1.2.2.1 = 0)))
  (
  some (((⟨#[]⟩ : ByteArray), ()), ((j2.2.1.1, (j2.2.1.2.1, (j2.2.1.2.2.1, ()))), ())))
  (
  chk ((decide (0 ≤ (IntKind.i64.wrap ((IntKind.i64.wrap (j2.2.1.2.1 + n)) - n)))) && ((decide ((IntKind.i64.wrap ((IntKind.i64.wrap (j2.2.1.2.1 + n)) - n)) ≤ (IntKind.i64.wrap (j2.2.1.2.1 + n)))) && (decide ((IntKind.i64.wrap (j2.2.1.2.1 + n)) ≤ (j2.2.1.1.size : Int))))) (
  some (((j2.2.1.1.extract (Int.toNat (IntKind.i64.wrap ((IntKind.i64.wrap (j2.2.1.2.1 + n)) - n))) (Int.toNat (IntKind.i64.wrap (j2.2.1.2.1 + n)))), ()), ((j2.2.1.1, ((IntKind.i64.wrap (j2.2.1.2.1 + n)), (j2.2.1.2.2.1, ()))), ())))) := by kernel_rfl
set_option maxRecDepth 100000 in
theorem spec_l1R_take.say (N : Nat) : SayOk Try.prog (spec_l1R_take.S N) := sayOk_mk (N := N) (H := spec_l1R_take.H) (preps := [⟨[], [], [], []⟩]) (l := spec_l1R_take.says) (fn := Try.f217) (c := bodyOf Try.f217)
  (by kernel_rfl) (by kernel_rfl) (by kernel_rfl) (by kernel_rfl) (by kernel_rfl) (by kernel_rfl) (by kernel_rfl)
  (fun N => SayAll.nil) (fun a s => by kernel_rfl)

/-! ### loop.example/g00206/spec.l1Big: function 176 -/
noncomputable def spec_l1Big.H : Hints := hintsOf [(2000003, .loop ⟨.normal, [0], [3, 4], [ak_i, ak_i], [], [⟨[], [], [], []⟩]⟩ [⟨(.exit 0), [], [3], [ak_i], [], [⟨[], [], [], []⟩]⟩])]
noncomputable def spec_l1Big.says (N : Nat) : List Say := []
noncomputable def spec_l1Big.call (N : Nat) : CallK := callBy (spec_l1Big.says N)
noncomputable def spec_l1Big.qt (N : Nat) : FuncId → List PV → Sig → Cl := qtBy (spec_l1Big.says N)
noncomputable def spec_l1Big.l0.hd : Alt := ⟨.normal, [0], [3, 4], [ak_i, ak_i], [], [⟨[], [], [], []⟩]⟩
noncomputable def spec_l1Big.l0.outs : List Alt := [⟨(.exit 0), [], [3], [ak_i], [], [⟨[], [], [], []⟩]⟩]
noncomputable def spec_l1Big.l0 (N : Nat) (s1 : ByteArray) (n : Int) (i : Int) : Option ((Int × Unit) × Unit) :=
  loopK Try.prog spec_l1Big.call spec_l1Big.qt spec_l1Big.H (codeAt (bodyOf Try.f176) [1, 1, 0, 1, 0, 0]) 0 spec_l1Big.l0.hd spec_l1Big.l0.outs [(0, .v (.string s1))] N ((n, (i, ())), ())
noncomputable def spec_l1Big (N : Nat) (s : ByteArray) : Option ((Int × Unit) × Unit) :=
  ofFn Try.prog spec_l1Big.call spec_l1Big.qt spec_l1Big.H N Try.f176 [ak_s] [] [ak_i] [] [⟨[], [], [], []⟩] (s, ()) ()
noncomputable def spec_l1Big.S (N : Nat) : Say := ⟨false, 176, [ak_s], [], [ak_i], [], fun a s => spec_l1Big N a.1⟩
set_option maxRecDepth 100000 in
theorem spec_l1Big.l0.eq (N : Nat) (s1 : ByteArray) (n : Int) (i : Int) : spec_l1Big.l0 (N + 1) s1 n i =
 sel (decide (i < (s1.size : Int)))
  (
  chk ((decide (0 ≤ i)) && (decide (i < (s1.size : Int)))) (
  spec_l1Big.l0 N s1 (Go.bits .or .i64 (shlI .i64 n 8) (IntKind.i64.wrap ((bytesL s1).getD (Int.toNat i) 0))) (IntKind.i64.wrap (i + 1))))
  (
  some (((n, ()), ()))) := by kernel_rfl
set_option maxRecDepth 100000 in
theorem spec_l1Big.eq (N : Nat) (s : ByteArray) : spec_l1Big N s =
 andK (spec_l1Big.l0 N s 0 0) fun l1 =>
 some ((l1.1.1, ()), ()) := by kernel_rfl
set_option maxRecDepth 100000 in
theorem spec_l1Big.say (N : Nat) : SayOk Try.prog (spec_l1Big.S N) := sayOk_mk (N := N) (H := spec_l1Big.H) (preps := [⟨[], [], [], []⟩]) (l := spec_l1Big.says) (fn := Try.f176) (c := bodyOf Try.f176)
  (by kernel_rfl) (by kernel_rfl) (by kernel_rfl) (by kernel_rfl) (by kernel_rfl) (by kernel_rfl) (by kernel_rfl)
  (fun N => SayAll.nil) (fun a s => by kernel_rfl)

/-! ### (*loop.example/g00206/spec.l1R).id: function 218 -/
noncomputable def spec_l1R_id.H : Hints := hintsOf [(5000002, .join [⟨.normal, [3], [0, 15], [.one (.ptr 0 0), ak_b], [.cells [ck_s, ck_i, ck_i]], [⟨[], [], [], []⟩]⟩]),
  (4, .join [⟨.normal, [3], [0], [.one (.ptr 0 0)], [.cells [ck_s, ck_i, ck_i]], [⟨[], [], [], []⟩]⟩])]
noncomputable def spec_l1R_id.says (N : Nat) : List Say := [spec_l1R_take.S N, spec_l1Big.S N]
noncomputable def spec_l1R_id.call (N : Nat) : CallK := callBy (spec_l1R_id.says N)
noncomputable def spec_l1R_id.qt (N : Nat) : FuncId → List PV → Sig → Cl := qtBy (spec_l1R_id.says N)
noncomputable def spec_l1R_id (N : Nat) (p0_0 : ByteArray) (p0_1 : Int) (p0_2 : Int) : Option ((ByteArray × Unit) × ((ByteArray × (Int × (Int × Unit))) × Unit)) :=
  ofFn Try.prog spec_l1R_id.call spec_l1R_id.qt spec_l1R_id.H N Try.f218 [.one (.ptr 0 0)] [.cells [ck_s, ck_i, ck_i]] [ak_s] [.cells [ck_s, ck_i, ck_i]] [⟨[], [], [], []⟩] ((), ()) ((p0_0, (p0_1, (p0_2, ()))), ())
noncomputable def spec_l1R_id.S (N : Nat) : Say := ⟨false, 218, [.one (.ptr 0 0)], [.cells [ck_s, ck_i, ck_i]], [ak_s], [.cells [ck_s, ck_i, ck_i]], fun a s => spec_l1R_id N s.1.1 s.1.2.1 s.1.2.2.1⟩
set_option maxRecDepth 100000 in
theorem spec_l1R_id.eq (N : Nat) (p0_0 : ByteArray) (p0_1 : Int) (p0_2 : Int) : spec_l1R_id N p0_0 p0_1 p0_2 =
 andK (spec_l1R_take N 1 p0_0 p0_1 p0_2) fun u1 =>
 andK (spec_l1Big N u1.1.1) fun u2 =>
 andK (α := ((Unit × Unit) × ((ByteArray × (Int × (Int × Unit))) × Unit))) (
  andK (α := ((Unit × (Bool × Unit)) × ((ByteArray × (Int × (Int × Unit))) × Unit))) (
   sel (decide (u1.2.1.2.2.1 = 0))
    (
    some ((((), ((decide (20 < u2.1.1)), ())), ((u1.2.1.1, (u1.2.1.2.1, (u1.2.1.2.2.1, ()))), ()))))
    (
    some ((((), (false, ())), ((u1.2.1.1, (u1.2.1.2.1, (u1.2.1.2.2.1, ()))), ()))))) fun j3 =>
  sel j3.1.2.1
   (
   some ((((), ()), ((j3.2.1.1, (j3.2.1.2.1, (3, ()))), ()))))
   (
   some ((((), ()), ((j3.2.1.1, (j3.2.1.2.1, (j3.2.1.2.2.1, ()))), ()))))) fun j4 =>
 andK (spec_l1R_take N u2.1.1 j4.2.1.1 j4.2.1.2.1 j4.2.1.2.2.1) fun u5 =>
 some ((u5.1.1, ()), ((u5.2.1.1, (u5.2.1.2.1, (u5.2.1.2.2.1, ()))), ())) := by kernel_rfl
set_option maxRecDepth 100000 in
theorem spec_l1R_id.say (N : Nat) : SayOk Try.prog (spec_l1R_id.S N) := sayOk_mk (N := N) (H := spec_l1R_id.H) (preps := [⟨[], [], [], []⟩]) (l := spec_l1R_id.says) (fn := Try.f218) (c := bodyOf Try.f218)
  (by kernel_rfl) (by kernel_rfl) (by kernel_rfl) (by kernel_rfl) (by kernel_rfl) (by kernel_rfl) (by kernel_rfl)
  (fun N => SayAll.cons (spec_l1R_take.say N) (SayAll.cons (spec_l1Big.say N) (SayAll.nil))) (fun a s => by kernel_rfl)

/-! ### loop.example/g00206/spec.l1Take: function 121 -/
noncomputable def spec_l1Take.H : Hints := hintsOf []
noncomputable def spec_l1Take.says (N : Nat) : List Say := [spec_l1Big.S N]
noncomputable def spec_l1Take.call (N : Nat) : CallK := callBy (spec_l1Take.says N)
noncomputable def spec_l1Take.qt (N : Nat) : FuncId → List PV → Sig → Cl := qtBy (spec_l1Take.says N)
noncomputable def spec_l1Take (N : Nat) (s : ByteArray) : Option ((Int × (Int × Unit)) × Unit) :=
  ofFn Try.prog spec_l1Take.call spec_l1Take.qt spec_l1Take.H N Try.f121 [ak_s] [] [ak_i, ak_i] [] [⟨[], [], [], []⟩] (s, ()) ()
noncomputable def spec_l1Take.S (N : Nat) : Say := ⟨false, 121, [ak_s], [], [ak_i, ak_i], [], fun a s => spec_l1Take N a.1⟩
set_option maxRecDepth 100000 in
theorem spec_l1Take.eq (N : Nat) (s : ByteArray) : spec_l1Take N s =
 sel (decide (s = (⟨#[]⟩ : ByteArray)))
  (
  some ((0, (0, ())), ()))
  (
  chk (decide (0 < (s.size : Int))) (
  chk (decide (0 ≤ (IntKind.u64.wrap (shrI .u8 ((bytesL s).getD 0 0) 6)))) (
  sel (decide ((s.size : Int) < (shlI .i64 1 (IntKind.u64.wrap (shrI .u8 ((bytesL s).getD 0 0) 6)))))
   (
   some ((0, (0, ())), ()))
   (
   chk ((decide (0 ≤ (shlI .i64 1 (IntKind.u64.wrap (shrI .u8 ((bytesL s).getD 0 0) 6))))) && (decide ((shlI .i64 1 (IntKind.u64.wrap (shrI .u8 ((bytesL s).getD 0 0) 6))) ≤ (s.size : Int)))) (
   chk (decide (0 < ((bytesL (s.extract 0 (Int.toNat (shlI .i64 1 (IntKind.u64.wrap (shrI .u8 ((bytesL s).getD 0 0) 6)))))).length : Int))) (
   chk (decide (0 < ((bytesL (s.extract 0 (Int.toNat (shlI .i64 1 (IntKind.u64.wrap (shrI .u8 ((bytesL s).getD 0 0) 6)))))).length : Int))) (
   andK (spec_l1Big N (strL ((bytesL (s.extract 0 (Int.toNat (shlI .i64 1 (IntKind.u64.wrap (shrI .u8 ((bytesL s).getD 0 0) 6)))))).set 0 (Go.bits .and .u8 ((bytesL (s.extract 0 (Int.toNat (shlI .i64 1 (IntKind.u64.wrap (shrI .u8 ((bytesL s).getD 0 0) 6)))))).getD 0 0) 63)))) fun u1 =>
   some ((u1.1.1, ((shlI .i64 1 (IntKind.u64.wrap (shrI .u8 ((bytesL s).getD 0 0) 6))), ())), ())))))))) := by kernel_rfl
set_option maxRecDepth 100000 in
theorem spec_l1Take.say (N : Nat) : SayOk Try.prog (spec_l1Take.S N) := sayOk_mk (N := N) (H := spec_l1Take.H) (preps := [⟨[], [], [], []⟩]) (l := spec_l1Take.says) (fn := Try.f121) (c := bodyOf Try.f121)
  (by kernel_rfl) (by kernel_rfl) (by kernel_rfl) (by kernel_rfl) (by kernel_rfl) (by kernel_rfl) (by kernel_rfl)
  (fun N => SayAll.cons (spec_l1Big.say N) (SayAll.nil)) (fun a s => by kernel_rfl)

/-! ### (*loop.example/g00206/spec.l1R).num: function 236 -/
noncomputable def spec_l1R_num.H : Hints := hintsOf [(5000002, .join [⟨.normal, [3, 4], [0, 26], [.one (.ptr 0 0), ak_b], [.cells [ck_s, ck_i, ck_i]], [⟨[], [], [], []⟩]⟩]),
  (4, .join [⟨.normal, [3, 4], [0], [.one (.ptr 0 0)], [.cells [ck_s, ck_i, ck_i]], [⟨[], [], [], []⟩]⟩])]
noncomputable def spec_l1R_num.says (N : Nat) : List Say := [spec_l1Take.S N]
noncomputable def spec_l1R_num.call (N : Nat) : CallK := callBy (spec_l1R_num.says N)
noncomputable def spec_l1R_num.qt (N : Nat) : FuncId → List PV → Sig → Cl := qtBy (spec_l1R_num.says N)
noncomputable def spec_l1R_num (N : Nat) (p0_0 : ByteArray) (p0_1 : Int) (p0_2 : Int) : Option ((Int × Unit) × ((ByteArray × (Int × (Int × Unit))) × Unit)) :=
  ofFn Try.prog spec_l1R_num.call spec_l1R_num.qt spec_l1R_num.H N Try.f236 [.one (.ptr 0 0)] [.cells [ck_s, ck_i, ck_i]] [ak_i] [.cells [ck_s, ck_i, ck_i]] [⟨[], [], [], []⟩] ((), ()) ((p0_0, (p0_1, (p0_2, ()))), ())
noncomputable def spec_l1R_num.S (N : Nat) : Say := ⟨false, 236, [.one (.ptr 0 0)], [.cells [ck_s, ck_i, ck_i]], [ak_i], [.cells [ck_s, ck_i, ck_i]], fun a s => spec_l1R_num N s.1.1 s.1.2.1 s.1.2.2.1⟩
set_option maxRecDepth 100000 in
theorem spec_l1R_num.eq (N : Nat) (p0_0 : ByteArray) (p0_1 : Int) (p0_2 : Int) : spec_l1R_num N p0_0 p0_1 p0_2 =
 chk ((decide (0 ≤ p0_1)) && ((decide (p0_1 ≤ (p0_0.size : Int))) && (decide ((p0_0.size : Int) ≤ (p0_0.size : Int))))) (
 andK (spec_l1Take N (p0_0.extract (Int.toNat p0_1) (Int.toNat (p0_0.size : Int)))) fun u1 =>
 andK (α := ((Unit × Unit) × ((ByteArray × (Int × (Int × Unit))) × Unit))) (
  andK (α := ((Unit × (Bool × Unit)) × ((ByteArray × (Int × (Int × Unit))) × Unit))) (
   sel (decide (u1.1.2.1 = 0))
    (
    some ((((), ((decide (p0_2 = 0)), ())), ((p0_0, (p0_1, (p0_2, ()))), ()))))
    (
    some ((((), (false, ())), ((p0_0, (p0_1, (p0_2, ()))), ()))))) fun j2 =>
  sel j2.1.2.1
   (
   some ((((), ()), ((j2.2.1.1, (j2.2.1.2.1, (1, ()))), ()))))
   (
   some ((((), ()), ((j2.2.1.1, (j2.2.1.2.1, (j2.2.1.2.2.1, ()))), ()))))) fun j3 =>
 some ((u1.1.1, ()), ((j3.2.1.1, ((IntKind.i64.wrap (j3.2.1.2.1 + u1.1.2.1)), (j3.2.1.2.2.1, ()))), ()))) := by kernel_rfl
set_option maxRecDepth 100000 in
theorem spec_l1R_num.say (N : Nat) : SayOk Try.prog (spec_l1R_num.S N) := sayOk_mk (N := N) (H := spec_l1R_num.H) (preps := [⟨[], [], [], []⟩]) (l := spec_l1R_num.says) (fn := Try.f236) (c := bodyOf Try.f236)
  (by kernel_rfl) (by kernel_rfl) (by kernel_rfl) (by kernel_rfl) (by kernel_rfl) (by kernel_rfl) (by kernel_rfl)
  (fun N => SayAll.cons (spec_l1Take.say N) (SayAll.nil)) (fun a s => by kernel_rfl)

/-! ### (*loop.example/g00206/spec.l1R).text: function 219 -/
noncomputable def spec_l1R_text.H : Hints := hintsOf []
noncomputable def spec_l1R_text.says (N : Nat) : List Say := [spec_l1R_num.S N, spec_l1R_take.S N]
noncomputable def spec_l1R_text.call (N : Nat) : CallK := callBy (spec_l1R_text.says N)
noncomputable def spec_l1R_text.qt (N : Nat) : FuncId → List PV → Sig → Cl := qtBy (spec_l1R_text.says N)
noncomputable def spec_l1R_text (N : Nat) (p0_0 : ByteArray) (p0_1 : Int) (p0_2 : Int) : Option ((ByteArray × Unit) × ((ByteArray × (Int × (Int × Unit))) × Unit)) :=
  ofFn Try.prog spec_l1R_text.call spec_l1R_text.qt spec_l1R_text.H N Try.f219 [.one (.ptr 0 0)] [.cells [ck_s, ck_i, ck_i]] [ak_s] [.cells [ck_s, ck_i, ck_i]] [⟨[], [], [], []⟩] ((), ()) ((p0_0, (p0_1, (p0_2, ()))), ())
noncomputable def spec_l1R_text.S (N : Nat) : Say := ⟨false, 219, [.one (.ptr 0 0)], [.cells [ck_s, ck_i, ck_i]], [ak_s], [.cells [ck_s, ck_i, ck_i]], fun a s => spec_l1R_text N s.1.1 s.1.2.1 s.1.2.2.1⟩
set_option maxRecDepth 100000 in
theorem spec_l1R_text.eq (N : Nat) (p0_0 : ByteArray) (p0_1 : Int) (p0_2 : Int) : spec_l1R_text N p0_0 p0_1 p0_2 =
 andK (spec_l1R_num N p0_0 p0_1 p0_2) fun u1 =>
 andK (spec_l1R_take N u1.1.1 u1.2.1.1 u1.2.1.2.1 u1.2.1.2.2.1) fun u2 =>
 some ((u2.1.1, ()), ((u2.2.1.1, (u2.2.1.2.1, (u2.2.1.2.2.1, ()))), ())) := by kernel_rfl
set_option maxRecDepth 100000 in
theorem spec_l1R_text.say (N : Nat) : SayOk Try.prog (spec_l1R_text.S N) := sayOk_mk (N := N) (H := spec_l1R_text.H) (preps := [⟨[], [], [], []⟩]) (l := spec_l1R_text.says) (fn := Try.f219) (c := bodyOf Try.f219)
  (by kernel_rfl) (by kernel_rfl) (by kernel_rfl) (by kernel_rfl) (by kernel_rfl) (by kernel_rfl) (by kernel_rfl)
  (fun N => SayAll.cons (spec_l1R_num.say N) (SayAll.cons (spec_l1R_take.say N) (SayAll.nil))) (fun a s => by kernel_rfl)

/-! ### loop.example/g00206/spec.l2Read: function 193 -/
noncomputable def spec_l2Read.H : Hints := hintsOf [(11, .join [⟨.normal, [1], [0, 4, 6], [.one (.ptr 0 0), .one (.ptr 1 0), .one (.ptr 2 0)], [.cells [ck_s, ck_i, ck_i], .cells [ck_i, ck_i, ck_i, ck_s, ck_s, ck_s, ck_s, .nil], .cells [ck_i, ck_i, ck_i, ck_s, ck_s, ck_s, ck_s, .nil]], [⟨[], [], [], []⟩]⟩]),
  (5000019, .join [⟨.normal, [], [0, 4, 6, 78], [.one (.ptr 0 0), .one (.ptr 1 0), .one (.ptr 2 0), ak_b], [.cells [ck_s, ck_i, ck_i], .cells [ck_i, ck_i, ck_i, ck_s, ck_s, ck_s, ck_s, .nil], .cells [ck_i, ck_i, ck_i, ck_s, ck_s, ck_s, ck_s, .nil]], [⟨[], [], [], []⟩]⟩]),
  (21, .join [⟨.normal, [], [0, 4, 6], [.one (.ptr 0 0), .one (.ptr 1 0), .one (.ptr 2 0)], [.cells [ck_s, ck_i, ck_i], .cells [ck_i, ck_i, ck_i, ck_s, ck_s, ck_s, ck_s, .nil], .cells [ck_i, ck_i, ck_i, ck_s, ck_s, ck_s, ck_s, .nil]], [⟨[], [], [], []⟩]⟩]),
  (5000022, .join [⟨.normal, [], [0, 4, 6, 99], [.one (.ptr 0 0), .one (.ptr 1 0), .one (.ptr 2 0), ak_b], [.cells [ck_s, ck_i, ck_i], .cells [ck_i, ck_i, ck_i, ck_s, ck_s, ck_s, ck_s, .nil], .cells [ck_i, ck_i, ck_i, ck_s, ck_s, ck_s, ck_s, .own 3], .rows (.int .i64)], [⟨[], [], [], []⟩]⟩]),
  (2000022, .loop ⟨.normal, [], [0, 4, 6], [.one (.ptr 0 0), .one (.ptr 1 0), .one (.ptr 2 0)], [.cells [ck_s, ck_i, ck_i], .cells [ck_i, ck_i, ck_i, ck_s, ck_s, ck_s, ck_s, .nil], .cells [ck_i, ck_i, ck_i, ck_s, ck_s, ck_s, ck_s, .own 3], .rows (.int .i64)], [⟨[], [(2, (7, (.int .i64)))], [], [3]⟩, ⟨[], [], [], [3]⟩]⟩ [⟨(.exit 0), [], [4, 6], [.one (.ptr 1 0), .one (.ptr 2 0)], [.cells [ck_s, ck_i, ck_i], .cells [ck_i, ck_i, ck_i, ck_s, ck_s, ck_s, ck_s, .nil], .cells [ck_i, ck_i, ck_i, ck_s, ck_s, ck_s, ck_s, .own 3], .rows (.int .i64)], [⟨[], [], [], [3]⟩]⟩]),
  (27, .join [⟨.normal, [], [0, 4, 6], [.one (.ptr 0 0), .one (.ptr 1 0), .one (.ptr 2 0)], [.cells [ck_s, ck_i, ck_i], .cells [ck_i, ck_i, ck_i, ck_s, ck_s, ck_s, ck_s, .nil], .cells [ck_i, ck_i, ck_i, ck_s, ck_s, ck_s, ck_s, .nil]], [⟨[], [], [], []⟩]⟩])]
noncomputable def spec_l2Read.says (N : Nat) : List Say := [spec_l1R_take.S N, spec_l1Big.S N, spec_l1R_id.S N, spec_l1R_text.S N]
noncomputable def spec_l2Read.call (N : Nat) : CallK := callBy (spec_l2Read.says N)
noncomputable def spec_l2Read.qt (N : Nat) : FuncId → List PV → Sig → Cl := qtBy (spec_l2Read.says N)
noncomputable def spec_l2Read.l0.hd : Alt := ⟨.normal, [], [0, 4, 6], [.one (.ptr 0 0), .one (.ptr 1 0), .one (.ptr 2 0)], [.cells [ck_s, ck_i, ck_i], .cells [ck_i, ck_i, ck_i, ck_s, ck_s, ck_s, ck_s, .nil], .cells [ck_i, ck_i, ck_i, ck_s, ck_s, ck_s, ck_s, .own 3], .rows (.int .i64)], [⟨[], [(2, (7, (.int .i64)))], [], [3]⟩, ⟨[], [], [], [3]⟩]⟩
noncomputable def spec_l2Read.l0.outs : List Alt := [⟨(.exit 0), [], [4, 6], [.one (.ptr 1 0), .one (.ptr 2 0)], [.cells [ck_s, ck_i, ck_i], .cells [ck_i, ck_i, ck_i, ck_s, ck_s, ck_s, ck_s, .nil], .cells [ck_i, ck_i, ck_i, ck_s, ck_s, ck_s, ck_s, .own 3], .rows (.int .i64)], [⟨[], [], [], [3]⟩]⟩]
noncomputable def spec_l2Read.l0 (N : Nat) (p0_01 : ByteArray) (p0_11 : Int) (p0_21 : Int) (p1_0 : Int) (p1_1 : Int) (p1_2 : Int) (p1_3 : ByteArray) (p1_4 : ByteArray) (p1_5 : ByteArray) (p1_6 : ByteArray) (p2_0 : Int) (p2_1 : Int) (p2_2 : Int) (p2_3 : ByteArray) (p2_4 : ByteArray) (p2_5 : ByteArray) (p2_6 : ByteArray) (p3 : (List Int)) : Option ((Unit × (Unit × Unit)) × ((ByteArray × (Int × (Int × Unit))) × ((Int × (Int × (Int × (ByteArray × (ByteArray × (ByteArray × (ByteArray × (Unit × Unit)))))))) × ((Int × (Int × (Int × (ByteArray × (ByteArray × (ByteArray × (ByteArray × (Unit × Unit)))))))) × ((List Int) × Unit))))) :=
  loopK Try.prog spec_l2Read.call spec_l2Read.qt spec_l2Read.H (codeAt (bodyOf Try.f193) [1, 1, 1, 1, 1, 1, 1, 1, 1, 1, 0, 1, 0, 1, 1, 0, 0, 0]) 3 spec_l2Read.l0.hd spec_l2Read.l0.outs [] N (((), ((), ((), ()))), ((p0_01, (p0_11, (p0_21, ()))), ((p1_0, (p1_1, (p1_2, (p1_3, (p1_4, (p1_5, (p1_6, ((), ())))))))), ((p2_0, (p2_1, (p2_2, (p2_3, (p2_4, (p2_5, (p2_6, ((), ())))))))), (p3, ())))))
noncomputable def spec_l2Read (N : Nat) (o : Int) (p0_0 : ByteArray) (p0_1 : Int) (p0_2 : Int) : Option (((Int × (Int × (Int × (ByteArray × (ByteArray × (ByteArray × (ByteArray × ((List Int) × Unit)))))))) × Unit) × ((ByteArray × (Int × (Int × Unit))) × Unit)) :=
  ofFn Try.prog spec_l2Read.call spec_l2Read.qt spec_l2Read.H N Try.f193 [.one (.ptr 0 0), ak_i] [.cells [ck_s, ck_i, ck_i]] [.agg [ck_i, ck_i, ck_i, ck_s, ck_s, ck_s, ck_s, .sh (.rows (.int .i64))]] [.cells [ck_s, ck_i, ck_i]] [⟨[], [], [], []⟩, ⟨[], [], [3], []⟩] ((), (o, ())) ((p0_0, (p0_1, (p0_2, ()))), ())
noncomputable def spec_l2Read.S (N : Nat) : Say := ⟨false, 193, [.one (.ptr 0 0), ak_i], [.cells [ck_s, ck_i, ck_i]], [.agg [ck_i, ck_i, ck_i, ck_s, ck_s, ck_s, ck_s, .sh (.rows (.int .i64))]], [.cells [ck_s, ck_i, ck_i]], fun a s => spec_l2Read N a.2.1 s.1.1 s.1.2.1 s.1.2.2.1⟩
set_option maxRecDepth 100000 in
theorem spec_l2Read.l0.eq (N : Nat) (p0_01 : ByteArray) (p0_11 : Int) (p0_21 : Int) (p1_0 : Int) (p1_1 : Int) (p1_2 : Int) (p1_3 : ByteArray) (p1_4 : ByteArray) (p1_5 : ByteArray) (p1_6 : ByteArray) (p2_0 : Int) (p2_1 : Int) (p2_2 : Int) (p2_3 : ByteArray) (p2_4 : ByteArray) (p2_5 : ByteArray) (p2_6 : ByteArray) (p3 : (List Int)) : spec_l2Read.l0 (N + 1) p0_01 p0_11 p0_21 p1_0 p1_1 p1_2 p1_3 p1_4 p1_5 p1_6 p2_0 p2_1 p2_2 p2_3 p2_4 p2_5 p2_6 p3 =
 andK (α := ((Unit × (Unit × (Unit × (Bool × Unit)))) × ((ByteArray × (Int × (Int × Unit))) × ((Int × (Int × (Int × (ByteArray × (ByteArray × (ByteArray × (ByteArray × (Unit × Unit)))))))) × ((Int × (Int × (Int × (ByteArray × (ByteArray × (ByteArray × (ByteArray × (Unit × Unit)))))))) × ((List Int) × Unit)))))) (
  sel (decide (p0_21 = 0))
   (
   some ((((), ((), ((), ((decide (p0_11 < (p0_01.size : Int))), ())))), ((p0_01, (p0_11, (p0_21, ()))), ((p1_0, (p1_1, (p1_2, (p1_3, (p1_4, (p1_5, (p1_6, ((), ())))))))), ((p2_0, (p2_1, (p2_2, (p2_3, (p2_4, (p2_5, (p2_6, ((), ())))))))), (p3, ())))))))
   (
   some ((((), ((), ((), (false, ())))), ((p0_01, (p0_11, (p0_21, ()))), ((p1_0, (p1_1, (p1_2, (p1_3, (p1_4, (p1_5, (p1_6, ((), ())))))))), ((p2_0, (p2_1, (p2_2, (p2_3, (p2_4, (p2_5, (p2_6, ((), ())))))))), (p3, ())))))))) fun j12 =>
 sel j12.1.2.2.2.1
  (
  andK (spec_l1R_take N 4 j12.2.1.1 j12.2.1.2.1 j12.2.1.2.2.1) fun u13 =>
  andK (spec_l1Big N u13.1.1) fun u14 =>
  chk (decide (j12.2.2.2.2.1.length + 1 < most)) (
  spec_l2Read.l0 N u13.2.1.1 u13.2.1.2.1 u13.2.1.2.2.1 j12.2.2.1.1 j12.2.2.1.2.1 j12.2.2.1.2.2.1 j12.2.2.1.2.2.2.1 j12.2.2.1.2.2.2.2.1 j12.2.2.1.2.2.2.2.2.1 j12.2.2.1.2.2.2.2.2.2.1 j12.2.2.2.1.1 j12.2.2.2.1.2.1 j12.2.2.2.1.2.2.1 j12.2.2.2.1.2.2.2.1 j12.2.2.2.1.2.2.2.2.1 j12.2.2.2.1.2.2.2.2.2.1 j12.2.2.2.1.2.2.2.2.2.2.1 (j12.2.2.2.2.1 ++ [u14.1.1])))
  (
  some ((((), ((), ())), ((j12.2.1.1, (j12.2.1.2.1, (j12.2.1.2.2.1, ()))), ((j12.2.2.1.1, (j12.2.2.1.2.1, (j12.2.2.1.2.2.1, (j12.2.2.1.2.2.2.1, (j12.2.2.1.2.2.2.2.1, (j12.2.2.1.2.2.2.2.2.1, (j12.2.2.1.2.2.2.2.2.2.1, ((), ())))))))), ((j12.2.2.2.1.1, (j12.2.2.2.1.2.1, (j12.2.2.2.1.2.2.1, (j12.2.2.2.1.2.2.2.1, (j12.2.2.2.1.2.2.2.2.1, (j12.2.2.2.1.2.2.2.2.2.1, (j12.2.2.2.1.2.2.2.2.2.2.1, ((), ())))))))), (j12.2.2.2.2.1, ()))))))) := by kernel_rfl
set_option maxRecDepth 100000 in
theorem spec_l2Read.eq (N : Nat) (o : Int) (p0_0 : ByteArray) (p0_1 : Int) (p0_2 : Int) : spec_l2Read N o p0_0 p0_1 p0_2 =
 andK (spec_l1R_take N 1 p0_0 p0_1 p0_2) fun u1 =>
 andK (spec_l1Big N u1.1.1) fun u2 =>
 sel (!(decide (u1.2.1.2.2.1 = 0)))
  (
  some (((5, ((Go.bits .and .i64 u2.1.1 15), (0, ((⟨#[]⟩ : ByteArray), ((⟨#[]⟩ : ByteArray), ((⟨#[]⟩ : ByteArray), ((⟨#[]⟩ : ByteArray), ([], ())))))))), ()), ((u1.2.1.1, (u1.2.1.2.1, (u1.2.1.2.2.1, ()))), ())))
  (
  sel (decide ((Go.bits .and .i64 u2.1.1 64) = 0))
   (
   some (((5, ((Go.bits .and .i64 u2.1.1 15), (0, ((⟨#[]⟩ : ByteArray), ((⟨#[]⟩ : ByteArray), ((⟨#[]⟩ : ByteArray), ((⟨#[]⟩ : ByteArray), ([], ())))))))), ()), ((u1.2.1.1, (u1.2.1.2.1, (2, ()))), ())))
   (
   sel (decide (u2.1.1 < 128))
    (
    andK (α := ((Unit × (Unit × (Unit × Unit))) × ((ByteArray × (Int × (Int × Unit))) × ((Int × (Int × (Int × (ByteArray × (ByteArray × (ByteArray × (ByteArray × (Unit × Unit)))))))) × ((Int × (Int × (Int × (ByteArray × (ByteArray × (ByteArray × (ByteArray × (Unit × Unit)))))))) × Unit))))) (
     sel (!(decide ((Go.bits .and .i64 u2.1.1 48) = 0)))
      (
      some ((((), ((), ((), ()))), ((u1.2.1.1, (u1.2.1.2.1, (3, ()))), ((0, (0, (0, ((⟨#[]⟩ : ByteArray), ((⟨#[]⟩ : ByteArray), ((⟨#[]⟩ : ByteArray), ((⟨#[]⟩ : ByteArray), ((), ())))))))), ((5, ((Go.bits .and .i64 u2.1.1 15), (0, ((⟨#[]⟩ : ByteArray), ((⟨#[]⟩ : ByteArray), ((⟨#[]⟩ : ByteArray), ((⟨#[]⟩ : ByteArray), ((), ())))))))), ()))))))
      (
      some ((((), ((), ((), ()))), ((u1.2.1.1, (u1.2.1.2.1, (u1.2.1.2.2.1, ()))), ((0, (0, (0, ((⟨#[]⟩ : ByteArray), ((⟨#[]⟩ : ByteArray), ((⟨#[]⟩ : ByteArray), ((⟨#[]⟩ : ByteArray), ((), ())))))))), ((5, ((Go.bits .and .i64 u2.1.1 15), (0, ((⟨#[]⟩ : ByteArray), ((⟨#[]⟩ : ByteArray), ((⟨#[]⟩ : ByteArray), ((⟨#[]⟩ : ByteArray), ((), ())))))))), ()))))))) fun j3 =>
    andK (spec_l1R_take N o j3.2.1.1 j3.2.1.2.1 j3.2.1.2.2.1) fun u4 =>
    andK (spec_l1R_take N (IntKind.i64.wrap ((u4.2.1.1.size : Int) - u4.2.1.2.1)) u4.2.1.1 u4.2.1.2.1 u4.2.1.2.2.1) fun u5 =>
    some (((j3.2.2.2.1.1, (j3.2.2.2.1.2.1, (j3.2.2.2.1.2.2.1, (u4.1.1, (j3.2.2.2.1.2.2.2.2.1, (j3.2.2.2.1.2.2.2.2.2.1, (u5.1.1, ([], ())))))))), ()), ((u5.2.1.1, (u5.2.1.2.1, (u5.2.1.2.2.1, ()))), ())))
    (
    andK (spec_l1R_take N 4 u1.2.1.1 u1.2.1.2.1 u1.2.1.2.2.1) fun u6 =>
    andK (spec_l1Big N u6.1.1) fun u7 =>
    andK (spec_l1R_id N u6.2.1.1 u6.2.1.2.1 u6.2.1.2.2.1) fun u8 =>
    andK (spec_l1R_id N u8.2.1.1 u8.2.1.2.1 u8.2.1.2.2.1) fun u9 =>
    sel (decide (u7.1.1 = 0))
     (
     andK (α := ((Unit × (Unit × (Unit × Unit))) × ((ByteArray × (Int × (Int × Unit))) × ((Int × (Int × (Int × (ByteArray × (ByteArray × (ByteArray × (ByteArray × (Unit × Unit)))))))) × ((Int × (Int × (Int × (ByteArray × (ByteArray × (ByteArray × (ByteArray × (Unit × Unit)))))))) × Unit))))) (
      andK (α := ((Unit × (Unit × (Unit × (Bool × Unit)))) × ((ByteArray × (Int × (Int × Unit))) × ((Int × (Int × (Int × (ByteArray × (ByteArray × (ByteArray × (ByteArray × (Unit × Unit)))))))) × ((Int × (Int × (Int × (ByteArray × (ByteArray × (ByteArray × (ByteArray × (Unit × Unit)))))))) × Unit))))) (
       sel (decide (u9.2.1.2.2.1 = 0))
        (
        some ((((), ((), ((), ((!(decide ((Go.bits .and .i64 (shrI .i64 u2.1.1 4) 3) = 0))), ())))), ((u9.2.1.1, (u9.2.1.2.1, (u9.2.1.2.2.1, ()))), ((0, (0, (0, ((⟨#[]⟩ : ByteArray), ((⟨#[]⟩ : ByteArray), ((⟨#[]⟩ : ByteArray), ((⟨#[]⟩ : ByteArray), ((), ())))))))), (((Go.bits .and .i64 (shrI .i64 u2.1.1 4) 3), ((Go.bits .and .i64 u2.1.1 15), (u7.1.1, (u8.1.1, (u9.1.1, ((⟨#[]⟩ : ByteArray), ((⟨#[]⟩ : ByteArray), ((), ())))))))), ()))))))
        (
        some ((((), ((), ((), (false, ())))), ((u9.2.1.1, (u9.2.1.2.1, (u9.2.1.2.2.1, ()))), ((0, (0, (0, ((⟨#[]⟩ : ByteArray), ((⟨#[]⟩ : ByteArray), ((⟨#[]⟩ : ByteArray), ((⟨#[]⟩ : ByteArray), ((), ())))))))), (((Go.bits .and .i64 (shrI .i64 u2.1.1 4) 3), ((Go.bits .and .i64 u2.1.1 15), (u7.1.1, (u8.1.1, (u9.1.1, ((⟨#[]⟩ : ByteArray), ((⟨#[]⟩ : ByteArray), ((), ())))))))), ()))))))) fun j10 =>
      sel j10.1.2.2.2.1
       (
       some ((((), ((), ((), ()))), ((j10.2.1.1, (j10.2.1.2.1, (3, ()))), ((j10.2.2.1.1, (j10.2.2.1.2.1, (j10.2.2.1.2.2.1, (j10.2.2.1.2.2.2.1, (j10.2.2.1.2.2.2.2.1, (j10.2.2.1.2.2.2.2.2.1, (j10.2.2.1.2.2.2.2.2.2.1, ((), ())))))))), ((j10.2.2.2.1.1, (j10.2.2.2.1.2.1, (j10.2.2.2.1.2.2.1, (j10.2.2.2.1.2.2.2.1, (j10.2.2.2.1.2.2.2.2.1, (j10.2.2.2.1.2.2.2.2.2.1, (j10.2.2.2.1.2.2.2.2.2.2.1, ((), ())))))))), ()))))))
       (
       some ((((), ((), ((), ()))), ((j10.2.1.1, (j10.2.1.2.1, (j10.2.1.2.2.1, ()))), ((j10.2.2.1.1, (j10.2.2.1.2.1, (j10.2.2.1.2.2.1, (j10.2.2.1.2.2.2.1, (j10.2.2.1.2.2.2.2.1, (j10.2.2.1.2.2.2.2.2.1, (j10.2.2.1.2.2.2.2.2.2.1, ((), ())))))))), ((j10.2.2.2.1.1, (j10.2.2.2.1.2.1, (j10.2.2.2.1.2.2.1, (j10.2.2.2.1.2.2.2.1, (j10.2.2.2.1.2.2.2.2.1, (j10.2.2.2.1.2.2.2.2.2.1, (j10.2.2.2.1.2.2.2.2.2.2.1, ((), ())))))))), ()))))))) fun j11 =>
     andK (spec_l2Read.l0 N j11.2.1.1 j11.2.1.2.1 j11.2.1.2.2.1 j11.2.2.1.1 j11.2.2.1.2.1 j11.2.2.1.2.2.1 j11.2.2.1.2.2.2.1 j11.2.2.1.2.2.2.2.1 j11.2.2.1.2.2.2.2.2.1 j11.2.2.1.2.2.2.2.2.2.1 4 j11.2.2.2.1.2.1 j11.2.2.2.1.2.2.1 j11.2.2.2.1.2.2.2.1 j11.2.2.2.1.2.2.2.2.1 j11.2.2.2.1.2.2.2.2.2.1 j11.2.2.2.1.2.2.2.2.2.2.1 []) fun l15 =>
     some (((l15.2.2.2.1.1, (l15.2.2.2.1.2.1, (l15.2.2.2.1.2.2.1, (l15.2.2.2.1.2.2.2.1, (l15.2.2.2.1.2.2.2.2.1, (l15.2.2.2.1.2.2.2.2.2.1, (l15.2.2.2.1.2.2.2.2.2.2.1, (l15.2.2.2.2.1, ())))))))), ()), ((l15.2.1.1, (l15.2.1.2.1, (l15.2.1.2.2.1, ()))), ())))
     (
     andK (α := ((Unit × (Unit × (Unit × Unit))) × ((ByteArray × (Int × (Int × Unit))) × ((Int × (Int × (Int × (ByteArray × (ByteArray × (ByteArray × (ByteArray × (Unit × Unit)))))))) × ((Int × (Int × (Int × (ByteArray × (ByteArray × (ByteArray × (ByteArray × (Unit × Unit)))))))) × Unit))))) (
      sel (decide ((Go.bits .and .i64 (shrI .i64 u2.1.1 4) 3) = 0))
       (
       andK (spec_l1R_text N u9.2.1.1 u9.2.1.2.1 u9.2.1.2.2.1) fun u16 =>
       some ((((), ((), ((), ()))), ((u16.2.1.1, (u16.2.1.2.1, (u16.2.1.2.2.1, ()))), ((0, (0, (0, ((⟨#[]⟩ : ByteArray), ((⟨#[]⟩ : ByteArray), ((⟨#[]⟩ : ByteArray), ((⟨#[]⟩ : ByteArray), ((), ())))))))), (((Go.bits .and .i64 (shrI .i64 u2.1.1 4) 3), ((Go.bits .and .i64 u2.1.1 15), (u7.1.1, (u8.1.1, (u9.1.1, (u16.1.1, ((⟨#[]⟩ : ByteArray), ((), ())))))))), ()))))))
       (
       some ((((), ((), ((), ()))), ((u9.2.1.1, (u9.2.1.2.1, (u9.2.1.2.2.1, ()))), ((0, (0, (0, ((⟨#[]⟩ : ByteArray), ((⟨#[]⟩ : ByteArray), ((⟨#[]⟩ : ByteArray), ((⟨#[]⟩ : ByteArray), ((), ())))))))), (((Go.bits .and .i64 (shrI .i64 u2.1.1 4) 3), ((Go.bits .and .i64 u2.1.1 15), (u7.1.1, (u8.1.1, (u9.1.1, ((⟨#[]⟩ : ByteArray), ((⟨#[]⟩ : ByteArray), ((), ())))))))), ()))))))) fun j17 =>
     sel (decide (j17.2.2.2.1.1 = 3))
      (
      andK (spec_l1R_take N (IntKind.i64.wrap ((j17.2.1.1.size : Int) - j17.2.1.2.1)) j17.2.1.1 j17.2.1.2.1 j17.2.1.2.2.1) fun u18 =>
      some (((j17.2.2.2.1.1, (j17.2.2.2.1.2.1, (j17.2.2.2.1.2.2.1, (j17.2.2.2.1.2.2.2.1, (j17.2.2.2.1.2.2.2.2.1, (j17.2.2.2.1.2.2.2.2.2.1, (u18.1.1, ([], ())))))))), ()), ((u18.2.1.1, (u18.2.1.2.1, (u18.2.1.2.2.1, ()))), ())))
      (
      andK (spec_l1R_text N j17.2.1.1 j17.2.1.2.1 j17.2.1.2.2.1) fun u19 =>
      some (((j17.2.2.2.1.1, (j17.2.2.2.1.2.1, (j17.2.2.2.1.2.2.1, (j17.2.2.2.1.2.2.2.1, (j17.2.2.2.1.2.2.2.2.1, (j17.2.2.2.1.2.2.2.2.2.1, (u19.1.1, ([], ())))))))), ()), ((u19.2.1.1, (u19.2.1.2.1, (u19.2.1.2.2.1, ()))), ()))))))) := by kernel_rfl
set_option maxRecDepth 100000 in
theorem spec_l2Read.say (N : Nat) : SayOk Try.prog (spec_l2Read.S N) := sayOk_mk (N := N) (H := spec_l2Read.H) (preps := [⟨[], [], [], []⟩, ⟨[], [], [3], []⟩]) (l := spec_l2Read.says) (fn := Try.f193) (c := bodyOf Try.f193)
  (by kernel_rfl) (by kernel_rfl) (by kernel_rfl) (by kernel_rfl) (by kernel_rfl) (by kernel_rfl) (by kernel_rfl)
  (fun N => SayAll.cons (spec_l1R_take.say N) (SayAll.cons (spec_l1Big.say N) (SayAll.cons (spec_l1R_id.say N) (SayAll.cons (spec_l1R_text.say N) (SayAll.nil))))) (fun a s => by kernel_rfl)

/-! ### loop.example/g00206/spec.l2Header: function 154 -/
noncomputable def spec_l2Header.H : Hints := hintsOf [(5000003, .join [⟨.normal, [], [4, 7, 8, 24], [.one (.ptr 0 0), .one (.ptr 1 0), .one (.ptr 2 0), ak_b], [.cells [ck_i, ck_i, ck_i, ck_s, ck_s, ck_s, ck_s, .nil], .cells [ck_s, ck_i, ck_i], .cells [ck_i, ck_i, ck_i, ck_s, ck_s, ck_s, ck_s, .sh (.rows (.int .i64))]], [⟨[], [], [], []⟩]⟩]),
  (5, .join [⟨.normal, [], [4, 7, 8], [.one (.ptr 0 0), .one (.ptr 1 0), .one (.ptr 2 0)], [.cells [ck_i, ck_i, ck_i, ck_s, ck_s, ck_s, ck_s, .nil], .cells [ck_s, ck_i, ck_i], .cells [ck_i, ck_i, ck_i, ck_s, ck_s, ck_s, ck_s, .sh (.rows (.int .i64))]], [⟨[], [], [], []⟩]⟩])]
noncomputable def spec_l2Header.says (N : Nat) : List Say := [spec_l2Read.S N, spec_GoodHeader.S N]
noncomputable def spec_l2Header.call (N : Nat) : CallK := callBy (spec_l2Header.says N)
noncomputable def spec_l2Header.qt (N : Nat) : FuncId → List PV → Sig → Cl := qtBy (spec_l2Header.says N)
noncomputable def spec_l2Header (N : Nat) (s : ByteArray) (short : Int) : Option (((Int × (Int × (Int × (ByteArray × (ByteArray × (ByteArray × (ByteArray × ((List Int) × Unit)))))))) × (Int × (Int × Unit))) × Unit) :=
  ofFn Try.prog spec_l2Header.call spec_l2Header.qt spec_l2Header.H N Try.f154 [ak_s, ak_i] [] [.agg [ck_i, ck_i, ck_i, ck_s, ck_s, ck_s, ck_s, .sh (.rows (.int .i64))], ak_i, ak_i] [] [⟨[], [], [], []⟩] (s, (short, ())) ()
noncomputable def spec_l2Header.S (N : Nat) : Say := ⟨false, 154, [ak_s, ak_i], [], [.agg [ck_i, ck_i, ck_i, ck_s, ck_s, ck_s, ck_s, .sh (.rows (.int .i64))], ak_i, ak_i], [], fun a s => spec_l2Header N a.1 a.2.1⟩
set_option maxRecDepth 100000 in
theorem spec_l2Header.eq (N : Nat) (s : ByteArray) (short : Int) : spec_l2Header N s short =
 andK (spec_l2Read N short s 0 0) fun u1 =>
 andK (α := ((Unit × (Unit × (Unit × Unit))) × ((Int × (Int × (Int × (ByteArray × (ByteArray × (ByteArray × (ByteArray × (Unit × Unit)))))))) × ((ByteArray × (Int × (Int × Unit))) × ((Int × (Int × (Int × (ByteArray × (ByteArray × (ByteArray × (ByteArray × ((List Int) × Unit)))))))) × Unit))))) (
  andK (α := ((Unit × (Unit × (Unit × (Bool × Unit)))) × ((Int × (Int × (Int × (ByteArray × (ByteArray × (ByteArray × (ByteArray × (Unit × Unit)))))))) × ((ByteArray × (Int × (Int × Unit))) × ((Int × (Int × (Int × (ByteArray × (ByteArray × (ByteArray × (ByteArray × ((List Int) × Unit)))))))) × Unit))))) (
   sel (decide (u1.2.1.2.2.1 = 0))
    (
    andK (spec_GoodHeader N u1.1.1.1 u1.1.1.2.1 u1.1.1.2.2.1 u1.1.1.2.2.2.1 u1.1.1.2.2.2.2.1 u1.1.1.2.2.2.2.2.1 u1.1.1.2.2.2.2.2.2.1 u1.1.1.2.2.2.2.2.2.2.1) fun u2 =>
    some ((((), ((), ((), ((!u2.1.1), ())))), ((0, (0, (0, ((⟨#[]⟩ : ByteArray), ((⟨#[]⟩ : ByteArray), ((⟨#[]⟩ : ByteArray), ((⟨#[]⟩ : ByteArray), ((), ())))))))), ((u1.2.1.1, (u1.2.1.2.1, (u1.2.1.2.2.1, ()))), ((u1.1.1.1, (u1.1.1.2.1, (u1.1.1.2.2.1, (u1.1.1.2.2.2.1, (u1.1.1.2.2.2.2.1, (u1.1.1.2.2.2.2.2.1, (u1.1.1.2.2.2.2.2.2.1, (u1.1.1.2.2.2.2.2.2.2.1, ())))))))), ()))))))
    (
    some ((((), ((), ((), (false, ())))), ((0, (0, (0, ((⟨#[]⟩ : ByteArray), ((⟨#[]⟩ : ByteArray), ((⟨#[]⟩ : ByteArray), ((⟨#[]⟩ : ByteArray), ((), ())))))))), ((u1.2.1.1, (u1.2.1.2.1, (u1.2.1.2.2.1, ()))), ((u1.1.1.1, (u1.1.1.2.1, (u1.1.1.2.2.1, (u1.1.1.2.2.2.1, (u1.1.1.2.2.2.2.1, (u1.1.1.2.2.2.2.2.1, (u1.1.1.2.2.2.2.2.2.1, (u1.1.1.2.2.2.2.2.2.2.1, ())))))))), ()))))))) fun j3 =>
  sel j3.1.2.2.2.1
   (
   some ((((), ((), ((), ()))), ((j3.2.1.1, (j3.2.1.2.1, (j3.2.1.2.2.1, (j3.2.1.2.2.2.1, (j3.2.1.2.2.2.2.1, (j3.2.1.2.2.2.2.2.1, (j3.2.1.2.2.2.2.2.2.1, ((), ())))))))), ((j3.2.2.1.1, (j3.2.2.1.2.1, (3, ()))), ((j3.2.2.2.1.1, (j3.2.2.2.1.2.1, (j3.2.2.2.1.2.2.1, (j3.2.2.2.1.2.2.2.1, (j3.2.2.2.1.2.2.2.2.1, (j3.2.2.2.1.2.2.2.2.2.1, (j3.2.2.2.1.2.2.2.2.2.2.1, (j3.2.2.2.1.2.2.2.2.2.2.2.1, ())))))))), ()))))))
   (
   some ((((), ((), ((), ()))), ((j3.2.1.1, (j3.2.1.2.1, (j3.2.1.2.2.1, (j3.2.1.2.2.2.1, (j3.2.1.2.2.2.2.1, (j3.2.1.2.2.2.2.2.1, (j3.2.1.2.2.2.2.2.2.1, ((), ())))))))), ((j3.2.2.1.1, (j3.2.2.1.2.1, (j3.2.2.1.2.2.1, ()))), ((j3.2.2.2.1.1, (j3.2.2.2.1.2.1, (j3.2.2.2.1.2.2.1, (j3.2.2.2.1.2.2.2.1, (j3.2.2.2.1.2.2.2.2.1, (j3.2.2.2.1.2.2.2.2.2.1, (j3.2.2.2.1.2.2.2.2.2.2.1, (j3.2.2.2.1.2.2.2.2.2.2.2.1, ())))))))), ()))))))) fun j4 =>
 sel (!(decide (j4.2.2.1.2.2.1 = 0)))
  (
  some (((0, (0, (0, ((⟨#[]⟩ : ByteArray), ((⟨#[]⟩ : ByteArray), ((⟨#[]⟩ : ByteArray), ((⟨#[]⟩ : ByteArray), ([], ())))))))), (0, (j4.2.2.1.2.2.1, ()))), ()))
  (
  some (((j4.2.2.2.1.1, (j4.2.2.2.1.2.1, (j4.2.2.2.1.2.2.1, (j4.2.2.2.1.2.2.2.1, (j4.2.2.2.1.2.2.2.2.1, (j4.2.2.2.1.2.2.2.2.2.1, (j4.2.2.2.1.2.2.2.2.2.2.1, (j4.2.2.2.1.2.2.2.2.2.2.2.1, ())))))))), (j4.2.2.1.2.1, (0, ()))), ())) := by kernel_rfl
set_option maxRecDepth 100000 in
theorem spec_l2Header.say (N : Nat) : SayOk Try.prog (spec_l2Header.S N) := sayOk_mk (N := N) (H := spec_l2Header.H) (preps := [⟨[], [], [], []⟩]) (l := spec_l2Header.says) (fn := Try.f154) (c := bodyOf Try.f154)
  (by kernel_rfl) (by kernel_rfl) (by kernel_rfl) (by kernel_rfl) (by kernel_rfl) (by kernel_rfl) (by kernel_rfl)
  (fun N => SayAll.cons (spec_l2Read.say N) (SayAll.cons (spec_GoodHeader.say N) (SayAll.nil))) (fun a s => by kernel_rfl)

/-! ### loop.example/g00206/spec.l2Cut: function 94 -/
noncomputable def spec_l2Cut.H : Hints := hintsOf [(2000002, .loop ⟨.normal, [1], [0, 6], [ak_s, .one (.own 0)], [.rows .str], [⟨[(6, .str)], [], [], [0]⟩, ⟨[], [], [], [0]⟩]⟩ [⟨.ret, [], [4, 5], [.one .nil, ak_b], [], [⟨[], [], [], []⟩]⟩, ⟨(.exit 0), [], [6], [.one (.own 0)], [.rows .str], [⟨[], [], [], [0]⟩]⟩])]
noncomputable def spec_l2Cut.says (N : Nat) : List Say := [spec_l2Header.S N]
noncomputable def spec_l2Cut.call (N : Nat) : CallK := callBy (spec_l2Cut.says N)
noncomputable def spec_l2Cut.qt (N : Nat) : FuncId → List PV → Sig → Cl := qtBy (spec_l2Cut.says N)
noncomputable def spec_l2Cut.l0.hd : Alt := ⟨.normal, [1], [0, 6], [ak_s, .one (.own 0)], [.rows .str], [⟨[(6, .str)], [], [], [0]⟩, ⟨[], [], [], [0]⟩]⟩
noncomputable def spec_l2Cut.l0.outs : List Alt := [⟨.ret, [], [4, 5], [.one .nil, ak_b], [], [⟨[], [], [], []⟩]⟩, ⟨(.exit 0), [], [6], [.one (.own 0)], [.rows .str], [⟨[], [], [], [0]⟩]⟩]
noncomputable def spec_l2Cut.l0 (N : Nat) (short1 : Int) (s1 : ByteArray) (p0 : (List ByteArray)) : Option (((Unit × (Bool × Unit)) × Unit) ⊕ ((Unit × Unit) × ((List ByteArray) × Unit))) :=
  loopK Try.prog spec_l2Cut.call spec_l2Cut.qt spec_l2Cut.H (codeAt (bodyOf Try.f94) [1, 1, 0, 0, 0]) 0 spec_l2Cut.l0.hd spec_l2Cut.l0.outs [(1, .v (.int .i64 short1))] N ((s1, ((), ())), (p0, ()))
noncomputable def spec_l2Cut (N : Nat) (s : ByteArray) (short : Int) : Option ((Unit × (Bool × Unit)) × ((List ByteArray) × Unit)) :=
  ofFn Try.prog spec_l2Cut.call spec_l2Cut.qt spec_l2Cut.H N Try.f94 [ak_s, ak_i] [] [.one (.own 0), ak_b] [.rows .str] [⟨[(0, .str)], [], [], [0]⟩, ⟨[], [], [], [0]⟩] (s, (short, ())) ()
noncomputable def spec_l2Cut.S (N : Nat) : Say := ⟨false, 94, [ak_s, ak_i], [], [.one (.own 0), ak_b], [.rows .str], fun a s => spec_l2Cut N a.1 a.2.1⟩
set_option maxRecDepth 100000 in
theorem spec_l2Cut.l0.eq (N : Nat) (short1 : Int) (s1 : ByteArray) (p0 : (List ByteArray)) : spec_l2Cut.l0 (N + 1) short1 s1 p0 =
 sel (decide (0 < (s1.size : Int)))
  (
  andK (spec_l2Header N s1 short1) fun u1 =>
  sel (!(decide (u1.1.2.2.1 = 0)))
   (
   some (.inl (((), (false, ())), ())))
   (
   chk ((decide (0 ≤ u1.1.2.1)) && (decide (u1.1.2.1 ≤ (s1.size : Int)))) (
   chk (decide (p0.length + 1 < most)) (
   chk ((decide (0 ≤ u1.1.2.1)) && ((decide (u1.1.2.1 ≤ (s1.size : Int))) && (decide ((s1.size : Int) ≤ (s1.size : Int))))) (
   spec_l2Cut.l0 N short1 (s1.extract (Int.toNat u1.1.2.1) (Int.toNat (s1.size : Int))) (p0 ++ [(s1.extract 0 (Int.toNat u1.1.2.1))]))))))
  (
  some (.inr ((((), ()), (p0, ()))))) := by kernel_rfl
set_option maxRecDepth 100000 in
theorem spec_l2Cut.eq (N : Nat) (s : ByteArray) (short : Int) : spec_l2Cut N s short =
 andK (spec_l2Cut.l0 N short s []) fun l2 =>
 orK l2 (fun x3 =>
  some (((), (x3.1.2.1, ())), ([], ())))
  (fun x4 =>
  some (((), (true, ())), (x4.2.1, ()))) := by kernel_rfl
set_option maxRecDepth 100000 in
theorem spec_l2Cut.say (N : Nat) : SayOk Try.prog (spec_l2Cut.S N) := sayOk_mk (N := N) (H := spec_l2Cut.H) (preps := [⟨[(0, .str)], [], [], [0]⟩, ⟨[], [], [], [0]⟩]) (l := spec_l2Cut.says) (fn := Try.f94) (c := bodyOf Try.f94)
  (by kernel_rfl) (by kernel_rfl) (by kernel_rfl) (by kernel_rfl) (by kernel_rfl) (by kernel_rfl) (by kernel_rfl)
  (fun N => SayAll.cons (spec_l2Header.say N) (SayAll.nil)) (fun a s => by kernel_rfl)

/-! ### loop.example/g00206/spec.CutDatagram: function 35 -/
noncomputable def spec_CutDatagram.H : Hints := hintsOf [(5000001, .join [⟨.normal, [0, 1], [13], [ak_b], [], [⟨[], [], [], []⟩]⟩])]
noncomputable def spec_CutDatagram.says (N : Nat) : List Say := [spec_l1In.S N, spec_l2Cut.S N]
noncomputable def spec_CutDatagram.call (N : Nat) : CallK := callBy (spec_CutDatagram.says N)
noncomputable def spec_CutDatagram.qt (N : Nat) : FuncId → List PV → Sig → Cl := qtBy (spec_CutDatagram.says N)
noncomputable def spec_CutDatagram (N : Nat) (s : ByteArray) (short : Int) : Option ((Unit × (Bool × Unit)) × ((List ByteArray) × Unit)) :=
  ofFn Try.prog spec_CutDatagram.call spec_CutDatagram.qt spec_CutDatagram.H N Try.f35 [ak_s, ak_i] [] [.one (.own 0), ak_b] [.rows .str] [⟨[(0, .str)], [], [], [0]⟩, ⟨[], [], [], [0]⟩] (s, (short, ())) ()
noncomputable def spec_CutDatagram.S (N : Nat) : Say := ⟨false, 35, [ak_s, ak_i], [], [.one (.own 0), ak_b], [.rows .str], fun a s => spec_CutDatagram N a.1 a.2.1⟩
set_option maxRecDepth 100000 in
theorem spec_CutDatagram.eq (N : Nat) (s : ByteArray) (short : Int) : spec_CutDatagram N s short =
 andK (α := ((Bool × Unit) × Unit)) (
  sel (decide (1500 < (s.size : Int)))
   (
   some (((true, ()), ())))
   (
   andK (spec_l1In N short 0 20) fun u1 =>
   some ((((!u1.1.1), ()), ())))) fun j2 =>
 sel j2.1.1
  (
  some (((), (false, ())), ([], ())))
  (
  andK (spec_l2Cut N s short) fun u3 =>
  some (((), (u3.1.2.1, ())), (u3.2.1, ()))) := by kernel_rfl
set_option maxRecDepth 100000 in
theorem spec_CutDatagram.say (N : Nat) : SayOk Try.prog (spec_CutDatagram.S N) := sayOk_mk (N := N) (H := spec_CutDatagram.H) (preps := [⟨[(0, .str)], [], [], [0]⟩, ⟨[], [], [], [0]⟩]) (l := spec_CutDatagram.says) (fn := Try.f35) (c := bodyOf Try.f35)
  (by kernel_rfl) (by kernel_rfl) (by kernel_rfl) (by kernel_rfl) (by kernel_rfl) (by kernel_rfl) (by kernel_rfl)
  (fun N => SayAll.cons (spec_l1In.say N) (SayAll.cons (spec_l2Cut.say N) (SayAll.nil))) (fun a s => by kernel_rfl)

/-! ### loop.example/g00206/laws.sameTexts: function 36 -/
noncomputable def laws_sameTexts.H : Hints := hintsOf [(2000004, .loop ⟨.normal, [0, 1, 12], [13], [ak_i], [], [⟨[], [], [], []⟩]⟩ [⟨.ret, [], [4], [ak_b], [], [⟨[], [], [], []⟩]⟩, ⟨(.exit 0), [], [], [], [], [⟨[], [], [], []⟩]⟩])]
noncomputable def laws_sameTexts.says (N : Nat) : List Say := []
noncomputable def laws_sameTexts.call (N : Nat) : CallK := callBy (laws_sameTexts.says N)
noncomputable def laws_sameTexts.qt (N : Nat) : FuncId → List PV → Sig → Cl := qtBy (laws_sameTexts.says N)
noncomputable def laws_sameTexts.l0.hd : Alt := ⟨.normal, [0, 1, 12], [13], [ak_i], [], [⟨[], [], [], []⟩]⟩
noncomputable def laws_sameTexts.l0.outs : List Alt := [⟨.ret, [], [4], [ak_b], [], [⟨[], [], [], []⟩]⟩, ⟨(.exit 0), [], [], [], [], [⟨[], [], [], []⟩]⟩]
noncomputable def laws_sameTexts.l0 (N : Nat) (a1 : (List ByteArray)) (b1 : (List ByteArray)) (t12 : Int) (t13 : Int) : Option (((Bool × Unit) × Unit) ⊕ (Unit × Unit)) :=
  loopK Try.prog laws_sameTexts.call laws_sameTexts.qt laws_sameTexts.H (codeAt (bodyOf Try.f36) [1, 1, 0, 1, 0, 0]) 0 laws_sameTexts.l0.hd laws_sameTexts.l0.outs [(0, .rows false .str a1), (1, .rows false .str b1), (12, .v (.int .i64 t12))] N ((t13, ()), ())
noncomputable def laws_sameTexts (N : Nat) (a : (List ByteArray)) (b : (List ByteArray)) : Option ((Bool × Unit) × Unit) :=
  ofFn Try.prog laws_sameTexts.call laws_sameTexts.qt laws_sameTexts.H N Try.f36 [.one (.sh (.rows .str)), .one (.sh (.rows .str))] [] [ak_b] [] [⟨[], [], [], []⟩] (a, (b, ())) ()
noncomputable def laws_sameTexts.S (N : Nat) : Say := ⟨false, 36, [.one (.sh (.rows .str)), .one (.sh (.rows .str))], [], [ak_b], [], fun a s => laws_sameTexts N a.1 a.2.1⟩
set_option maxRecDepth 100000 in
theorem laws_sameTexts.l0.eq (N : Nat) (a1 : (List ByteArray)) (b1 : (List ByteArray)) (t12 : Int) (t13 : Int) : laws_sameTexts.l0 (N + 1) a1 b1 t12 t13 =
 sel (decide (t13 < t12))
  (
  chk ((decide (0 ≤ t13)) && (decide (t13 < (a1.length : Int)))) (
  chk ((decide (0 ≤ t13)) && (decide (t13 < (b1.length : Int)))) (
  sel (!(decide ((a1.getD (Int.toNat t13) (⟨#[]⟩ : ByteArray)) = (b1.getD (Int.toNat t13) (⟨#[]⟩ : ByteArray)))))
   (
   some (.inl ((false, ()), ())))
   (
   laws_sameTexts.l0 N a1 b1 t12 (IntKind.i64.wrap (t13 + 1))))))
  (
  some (.inr (((), ())))) := by kernel_rfl
set_option maxRecDepth 100000 in
theorem laws_sameTexts.eq (N : Nat) (a : (List ByteArray)) (b : (List ByteArray)) : laws_sameTexts N a b =
 sel (!(decide ((a.length : Int) = (b.length : Int))))
  (
  some ((false, ()), ()))
  (
  andK (laws_sameTexts.l0 N a b (a.length : Int) 0) fun l1 =>
  orK l1 (fun x2 =>
   some ((x2.1.1, ()), ()))
   (fun x3 =>
   some ((true, ()), ()))) := by kernel_rfl
set_option maxRecDepth 100000 in
theorem laws_sameTexts.say (N : Nat) : SayOk Try.prog (laws_sameTexts.S N) := sayOk_mk (N := N) (H := laws_sameTexts.H) (preps := [⟨[], [], [], []⟩]) (l := laws_sameTexts.says) (fn := Try.f36) (c := bodyOf Try.f36)
  (by kernel_rfl) (by kernel_rfl) (by kernel_rfl) (by kernel_rfl) (by kernel_rfl) (by kernel_rfl) (by kernel_rfl)
  (fun N => SayAll.nil) (fun a s => by kernel_rfl)
noncomputable def laws_sameTexts.SB (N : Nat) : Say := laws_sameTexts.S N |>.lent
theorem laws_sameTexts.sayB (N : Nat) : SayOk Try.prog (laws_sameTexts.SB N) := (laws_sameTexts.say N).lent

/-! ### loop.example/g00206/spec.DrawVersionAnswer: function 38 -/
noncomputable def spec_DrawVersionAnswer.H : Hints := hintsOf [(5, .join [⟨.normal, [], [2, 4, 5], [.one (.ptr 0 0), .one (.ptr 1 0), .one (.ptr 3 0)], [.cells [ck_i, ck_i, ck_i, ck_s, ck_s, ck_s, ck_s, .nil], .cells [.sh (.rows (.int .u8)), ck_i, .sh (.int .u64)], .gone, .cells [ck_i, ck_i, ck_i, ck_s, ck_s, ck_s, ck_s, .sh (.rows (.int .i64))]], [⟨[], [(3, (7, (.int .i64)))], [4], []⟩, ⟨[], [], [2], []⟩]⟩]),
  (2000007, .loop ⟨.normal, [], [2, 4, 5, 6, 7], [.one (.ptr 0 0), .one (.ptr 1 0), .one (.ptr 3 0), .one (.own 4), ak_i], [.cells [ck_i, ck_i, ck_i, ck_s, ck_s, ck_s, ck_s, .nil], .cells [.sh (.rows (.int .u8)), ck_i, .sh (.int .u64)], .gone, .cells [ck_i, ck_i, ck_i, ck_s, ck_s, ck_s, ck_s, .sh (.rows (.int .i64))], .rows (.int .i64)], [⟨[(6, (.int .i64))], [], [], [4]⟩, ⟨[], [], [], [4]⟩]⟩ [⟨(.exit 0), [], [2, 5, 6], [.one (.ptr 0 0), .one (.ptr 3 0), .one (.own 4)], [.cells [ck_i, ck_i, ck_i, ck_s, ck_s, ck_s, ck_s, .nil], .cells [.sh (.rows (.int .u8)), ck_i, .sh (.int .u64)], .gone, .cells [ck_i, ck_i, ck_i, ck_s, ck_s, ck_s, ck_s, .sh (.rows (.int .i64))], .rows (.int .i64)], [⟨[], [], [], [4]⟩]⟩])]
noncomputable def spec_DrawVersionAnswer.says (N : Nat) : List Say := [spec_l1Cur_header.S N, spec_l1Cur_one.S N, spec_l1Cur_pick.S N, spec_l1Cur_among.S N]
noncomputable def spec_DrawVersionAnswer.call (N : Nat) : CallK := callBy (spec_DrawVersionAnswer.says N)
noncomputable def spec_DrawVersionAnswer.qt (N : Nat) : FuncId → List PV → Sig → Cl := qtBy (spec_DrawVersionAnswer.says N)
noncomputable def spec_DrawVersionAnswer.l0.hd : Alt := ⟨.normal, [], [2, 4, 5, 6, 7], [.one (.ptr 0 0), .one (.ptr 1 0), .one (.ptr 3 0), .one (.own 4), ak_i], [.cells [ck_i, ck_i, ck_i, ck_s, ck_s, ck_s, ck_s, .nil], .cells [.sh (.rows (.int .u8)), ck_i, .sh (.int .u64)], .gone, .cells [ck_i, ck_i, ck_i, ck_s, ck_s, ck_s, ck_s, .sh (.rows (.int .i64))], .rows (.int .i64)], [⟨[(6, (.int .i64))], [], [], [4]⟩, ⟨[], [], [], [4]⟩]⟩
noncomputable def spec_DrawVersionAnswer.l0.outs : List Alt := [⟨(.exit 0), [], [2, 5, 6], [.one (.ptr 0 0), .one (.ptr 3 0), .one (.own 4)], [.cells [ck_i, ck_i, ck_i, ck_s, ck_s, ck_s, ck_s, .nil], .cells [.sh (.rows (.int .u8)), ck_i, .sh (.int .u64)], .gone, .cells [ck_i, ck_i, ck_i, ck_s, ck_s, ck_s, ck_s, .sh (.rows (.int .i64))], .rows (.int .i64)], [⟨[], [], [], [4]⟩]⟩]
noncomputable def spec_DrawVersionAnswer.l0 (N : Nat) (n : Int) (p0_0 : Int) (p0_1 : Int) (p0_2 : Int) (p0_3 : ByteArray) (p0_4 : ByteArray) (p0_5 : ByteArray) (p0_6 : ByteArray) (p1_0 : (List Int)) (p1_1 : Int) (p1_2 : Int) (p3_0 : Int) (p3_1 : Int) (p3_2 : Int) (p3_3 : ByteArray) (p3_4 : ByteArray) (p3_5 : ByteArray) (p3_6 : ByteArray) (p3_7 : (List Int)) (p4 : (List Int)) : Option ((Unit × (Unit × (Unit × Unit))) × ((Int × (Int × (Int × (ByteArray × (ByteArray × (ByteArray × (ByteArray × (Unit × Unit)))))))) × (((List Int) × (Int × (Int × Unit))) × (Unit × ((Int × (Int × (Int × (ByteArray × (ByteArray × (ByteArray × (ByteArray × ((List Int) × Unit)))))))) × ((List Int) × Unit)))))) :=
  loopK Try.prog spec_DrawVersionAnswer.call spec_DrawVersionAnswer.qt spec_DrawVersionAnswer.H (codeAt (bodyOf Try.f38) [1, 1, 1, 1, 1, 0, 1, 0, 0]) 4 spec_DrawVersionAnswer.l0.hd spec_DrawVersionAnswer.l0.outs [] N (((), ((), ((), ((), (n, ()))))), ((p0_0, (p0_1, (p0_2, (p0_3, (p0_4, (p0_5, (p0_6, ((), ())))))))), ((p1_0, (p1_1, (p1_2, ()))), ((), ((p3_0, (p3_1, (p3_2, (p3_3, (p3_4, (p3_5, (p3_6, (p3_7, ())))))))), (p4, ()))))))
noncomputable def spec_DrawVersionAnswer (N : Nat) (code : (List Int)) : Option (((Int × (Int × (Int × (ByteArray × (ByteArray × (ByteArray × (ByteArray × ((List Int) × Unit)))))))) × (Unit × Unit)) × ((List Int) × Unit)) :=
  ofFn Try.prog spec_DrawVersionAnswer.call spec_DrawVersionAnswer.qt spec_DrawVersionAnswer.H N Try.f38 [.one (.sh (.rows (.int .u8)))] [] [.agg [ck_i, ck_i, ck_i, ck_s, ck_s, ck_s, ck_s, .sh (.rows (.int .i64))], .one (.own 0)] [.rows (.int .i64)] [⟨[], [], [], [4]⟩] (code, ()) ()
noncomputable def spec_DrawVersionAnswer.S (N : Nat) : Say := ⟨false, 38, [.one (.sh (.rows (.int .u8)))], [], [.agg [ck_i, ck_i, ck_i, ck_s, ck_s, ck_s, ck_s, .sh (.rows (.int .i64))], .one (.own 0)], [.rows (.int .i64)], fun a s => spec_DrawVersionAnswer N a.1⟩
set_option maxRecDepth 100000 in
theorem spec_DrawVersionAnswer.l0.eq (N : Nat) (n : Int) (p0_0 : Int) (p0_1 : Int) (p0_2 : Int) (p0_3 : ByteArray) (p0_4 : ByteArray) (p0_5 : ByteArray) (p0_6 : ByteArray) (p1_0 : (List Int)) (p1_1 : Int) (p1_2 : Int) (p3_0 : Int) (p3_1 : Int) (p3_2 : Int) (p3_3 : ByteArray) (p3_4 : ByteArray) (p3_5 : ByteArray) (p3_6 : ByteArray) (p3_7 : (List Int)) (p4 : (List Int)) : spec_DrawVersionAnswer.l0 (N + 1) n p0_0 p0_1 p0_2 p0_3 p0_4 p0_5 p0_6 p1_0 p1_1 p1_2 p3_0 p3_1 p3_2 p3_3 p3_4 p3_5 p3_6 p3_7 p4 =
 sel (decide (0 < n))
  (
  andK (spec_l1Cur_among N [1, 2, 3, 4294967295, 0] p1_0 p1_1 p1_2) fun u6 =>
  chk (decide (p4.length + 1 < most)) (
  spec_DrawVersionAnswer.l0 N (IntKind.i64.wrap (n - 1)) p0_0 p0_1 p0_2 p0_3 p0_4 p0_5 p0_6 u6.2.1.1 u6.2.1.2.1 u6.2.1.2.2.1 p3_0 p3_1 p3_2 p3_3 p3_4 p3_5 p3_6 p3_7 (p4 ++ [u6.1.1])))
  (
  some ((((), ((), ((), ()))), ((p0_0, (p0_1, (p0_2, (p0_3, (p0_4, (p0_5, (p0_6, ((), ())))))))), ((p1_0, (p1_1, (p1_2, ()))), ((), ((p3_0, (p3_1, (p3_2, (p3_3, (p3_4, (p3_5, (p3_6, (p3_7, ())))))))), (p4, ())))))))) := by kernel_rfl
set_option maxRecDepth 100000 in
theorem spec_DrawVersionAnswer.eq (N : Nat) (code : (List Int)) : spec_DrawVersionAnswer N code =
 andK (spec_l1Cur_header N code 0 0) fun u1 =>
 andK (α := ((Unit × (Unit × (Unit × Unit))) × ((Int × (Int × (Int × (ByteArray × (ByteArray × (ByteArray × (ByteArray × (Unit × Unit)))))))) × (((List Int) × (Int × (Int × Unit))) × (Unit × ((Int × (Int × (Int × (ByteArray × (ByteArray × (ByteArray × (ByteArray × ((List Int) × Unit)))))))) × Unit)))))) (
  andK (spec_l1Cur_one N 2 u1.2.1.1 u1.2.1.2.1 u1.2.1.2.2.1) fun u2 =>
  sel u2.1.1
   (
   andK (spec_l1Cur_pick N 3 u2.2.1.1 u2.2.1.2.1 u2.2.1.2.2.1) fun u3 =>
   some ((((), ((), ((), ()))), ((0, (0, (0, ((⟨#[]⟩ : ByteArray), ((⟨#[]⟩ : ByteArray), ((⟨#[]⟩ : ByteArray), ((⟨#[]⟩ : ByteArray), ((), ())))))))), ((u3.2.1.1, (u3.2.1.2.1, (u3.2.1.2.2.1, ()))), ((), ((0, (0, ((IntKind.i64.wrap (1 + u3.1.1)), ((⟨#[100, 101, 115, 116]⟩ : ByteArray), ((⟨#[115, 114, 99]⟩ : ByteArray), ((⟨#[]⟩ : ByteArray), ((⟨#[112]⟩ : ByteArray), ([], ())))))))), ())))))))
   (
   some ((((), ((), ((), ()))), ((0, (0, (0, ((⟨#[]⟩ : ByteArray), ((⟨#[]⟩ : ByteArray), ((⟨#[]⟩ : ByteArray), ((⟨#[]⟩ : ByteArray), ((), ())))))))), ((u2.2.1.1, (u2.2.1.2.1, (u2.2.1.2.2.1, ()))), ((), ((u1.1.1.1, (u1.1.1.2.1, (u1.1.1.2.2.1, (u1.1.1.2.2.2.1, (u1.1.1.2.2.2.2.1, (u1.1.1.2.2.2.2.2.1, (u1.1.1.2.2.2.2.2.2.1, (u1.2.2.1, ())))))))), ())))))))) fun j4 =>
 andK (spec_l1Cur_pick N 4 j4.2.2.1.1 j4.2.2.1.2.1 j4.2.2.1.2.2.1) fun u5 =>
 andK (spec_DrawVersionAnswer.l0 N u5.1.1 j4.2.1.1 j4.2.1.2.1 j4.2.1.2.2.1 j4.2.1.2.2.2.1 j4.2.1.2.2.2.2.1 j4.2.1.2.2.2.2.2.1 j4.2.1.2.2.2.2.2.2.1 u5.2.1.1 u5.2.1.2.1 u5.2.1.2.2.1 j4.2.2.2.2.1.1 j4.2.2.2.2.1.2.1 j4.2.2.2.2.1.2.2.1 j4.2.2.2.2.1.2.2.2.1 j4.2.2.2.2.1.2.2.2.2.1 j4.2.2.2.2.1.2.2.2.2.2.1 j4.2.2.2.2.1.2.2.2.2.2.2.1 j4.2.2.2.2.1.2.2.2.2.2.2.2.1 []) fun l7 =>
 some (((l7.2.2.2.2.1.1, (l7.2.2.2.2.1.2.1, (l7.2.2.2.2.1.2.2.1, (l7.2.2.2.2.1.2.2.2.1, (l7.2.2.2.2.1.2.2.2.2.1, (l7.2.2.2.2.1.2.2.2.2.2.1, (l7.2.2.2.2.1.2.2.2.2.2.2.1, (l7.2.2.2.2.1.2.2.2.2.2.2.2.1, ())))))))), ((), ())), (l7.2.2.2.2.2.1, ())) := by kernel_rfl
set_option maxRecDepth 100000 in
theorem spec_DrawVersionAnswer.say (N : Nat) : SayOk Try.prog (spec_DrawVersionAnswer.S N) := sayOk_mk (N := N) (H := spec_DrawVersionAnswer.H) (preps := [⟨[], [], [], [4]⟩]) (l := spec_DrawVersionAnswer.says) (fn := Try.f38) (c := bodyOf Try.f38)
  (by kernel_rfl) (by kernel_rfl) (by kernel_rfl) (by kernel_rfl) (by kernel_rfl) (by kernel_rfl) (by kernel_rfl)
  (fun N => SayAll.cons (spec_l1Cur_header.say N) (SayAll.cons (spec_l1Cur_one.say N) (SayAll.cons (spec_l1Cur_pick.say N) (SayAll.cons (spec_l1Cur_among.say N) (SayAll.nil))))) (fun a s => by kernel_rfl)

/-! ### loop.example/g00206/impl.VersionAnswer$1: function 99 -/
noncomputable def impl_VersionAnswer_1.H : Hints := hintsOf []
noncomputable def impl_VersionAnswer_1.says (N : Nat) : List Say := [impl_isVersion.S N]
noncomputable def impl_VersionAnswer_1.call (N : Nat) : CallK := callBy (impl_VersionAnswer_1.says N)
noncomputable def impl_VersionAnswer_1.qt (N : Nat) : FuncId → List PV → Sig → Cl := qtBy (impl_VersionAnswer_1.says N)
noncomputable def impl_VersionAnswer_1 (N : Nat) (n : Int) : Option ((Bool × Unit) × Unit) :=
  ofFn Try.prog impl_VersionAnswer_1.call impl_VersionAnswer_1.qt impl_VersionAnswer_1.H N Try.f99 [ak_i] [] [ak_b] [] [⟨[], [], [], []⟩] (n, ()) ()
noncomputable def impl_VersionAnswer_1.S (N : Nat) : Say := ⟨false, 99, [ak_i], [], [ak_b], [], fun a s => impl_VersionAnswer_1 N a.1⟩
set_option maxRecDepth 100000 in
theorem impl_VersionAnswer_1.eq (N : Nat) (n : Int) : impl_VersionAnswer_1 N n =
 andK (impl_isVersion N n) fun u1 =>
 some (((!u1.1.1), ()), ()) := by kernel_rfl
set_option maxRecDepth 100000 in
theorem impl_VersionAnswer_1.say (N : Nat) : SayOk Try.prog (impl_VersionAnswer_1.S N) := sayOk_mk (N := N) (H := impl_VersionAnswer_1.H) (preps := [⟨[], [], [], []⟩]) (l := impl_VersionAnswer_1.says) (fn := Try.f99) (c := bodyOf Try.f99)
  (by kernel_rfl) (by kernel_rfl) (by kernel_rfl) (by kernel_rfl) (by kernel_rfl) (by kernel_rfl) (by kernel_rfl)
  (fun N => SayAll.cons (impl_isVersion.say N) (SayAll.nil)) (fun a s => by kernel_rfl)

/-! ### slices.IndexFunc[[]int,int]: function 159 -/
noncomputable def slices_IndexFuncint_int_2.H : Hints := hintsOf [(2000002, .loop ⟨.normal, [0, 1, 7], [8], [ak_i], [], [⟨[], [], [], []⟩]⟩ [⟨.ret, [], [4], [ak_i], [], [⟨[], [], [], []⟩]⟩, ⟨(.exit 0), [], [], [], [], [⟨[], [], [], []⟩]⟩])]
noncomputable def slices_IndexFuncint_int_2.says (N : Nat) : List Say := [impl_VersionAnswer_1.S N]
noncomputable def slices_IndexFuncint_int_2.call (N : Nat) : CallK := callBy (slices_IndexFuncint_int_2.says N)
noncomputable def slices_IndexFuncint_int_2.qt (N : Nat) : FuncId → List PV → Sig → Cl := qtBy (slices_IndexFuncint_int_2.says N)
noncomputable def slices_IndexFuncint_int_2.l0.hd : Alt := ⟨.normal, [0, 1, 7], [8], [ak_i], [], [⟨[], [], [], []⟩]⟩
noncomputable def slices_IndexFuncint_int_2.l0.outs : List Alt := [⟨.ret, [], [4], [ak_i], [], [⟨[], [], [], []⟩]⟩, ⟨(.exit 0), [], [], [], [], [⟨[], [], [], []⟩]⟩]
noncomputable def slices_IndexFuncint_int_2.l0 (N : Nat) (s1 : (List Int)) (t7 : Int) (t8 : Int) : Option (((Int × Unit) × Unit) ⊕ (Unit × Unit)) :=
  loopK Try.prog slices_IndexFuncint_int_2.call slices_IndexFuncint_int_2.qt slices_IndexFuncint_int_2.H (codeAt (bodyOf Try.f159) [1, 0, 1, 0, 0]) 0 slices_IndexFuncint_int_2.l0.hd slices_IndexFuncint_int_2.l0.outs [(0, .rows false (.int .i64) s1), (1, .fn 99 []), (7, .v (.int .i64 t7))] N ((t8, ()), ())
noncomputable def slices_IndexFuncint_int_2 (N : Nat) (s : (List Int)) : Option ((Int × Unit) × Unit) :=
  ofFn Try.prog slices_IndexFuncint_int_2.call slices_IndexFuncint_int_2.qt slices_IndexFuncint_int_2.H N Try.f159 [.one (.sh (.rows (.int .i64))), .fn 99 []] [] [ak_i] [] [⟨[], [], [], []⟩] (s, ((), ())) ()
noncomputable def slices_IndexFuncint_int_2.S (N : Nat) : Say := ⟨false, 159, [.one (.sh (.rows (.int .i64))), .fn 99 []], [], [ak_i], [], fun a s => slices_IndexFuncint_int_2 N a.1⟩
set_option maxRecDepth 100000 in
theorem slices_IndexFuncint_int_2.l0.eq (N : Nat) (s1 : (List Int)) (t7 : Int) (t8 : Int) : slices_IndexFuncint_int_2.l0 (N + 1) s1 t7 t8 =
 sel (decide (t8 < t7))
  (
  chk ((decide (0 ≤ t8)) && (decide (t8 < (s1.length : Int)))) (
  andK (impl_VersionAnswer_1 N (s1.getD (Int.toNat t8) 0)) fun u1 =>
  sel u1.1.1
   (
   some (.inl ((t8, ()), ())))
   (
   slices_IndexFuncint_int_2.l0 N s1 t7 (IntKind.i64.wrap (t8 + 1)))))
  (
  some (.inr (((), ())))) := by kernel_rfl
set_option maxRecDepth 100000 in
theorem slices_IndexFuncint_int_2.eq (N : Nat) (s : (List Int)) : slices_IndexFuncint_int_2 N s =
 andK (slices_IndexFuncint_int_2.l0 N s (s.length : Int) 0) fun l2 =>
 orK l2 (fun x3 =>
  some ((x3.1.1, ()), ()))
  (fun x4 =>
  some (((-1), ()), ())) := by kernel_rfl
set_option maxRecDepth 100000 in
theorem slices_IndexFuncint_int_2.say (N : Nat) : SayOk Try.prog (slices_IndexFuncint_int_2.S N) := sayOk_mk (N := N) (H := slices_IndexFuncint_int_2.H) (preps := [⟨[], [], [], []⟩]) (l := slices_IndexFuncint_int_2.says) (fn := Try.f159) (c := bodyOf Try.f159)
  (by kernel_rfl) (by kernel_rfl) (by kernel_rfl) (by kernel_rfl) (by kernel_rfl) (by kernel_rfl) (by kernel_rfl)
  (fun N => SayAll.cons (impl_VersionAnswer_1.say N) (SayAll.nil)) (fun a s => by kernel_rfl)

/-! ### slices.ContainsFunc[[]int,int]: function 98 -/
noncomputable def slices_ContainsFuncint_int_2.H : Hints := hintsOf []
noncomputable def slices_ContainsFuncint_int_2.says (N : Nat) : List Say := [slices_IndexFuncint_int_2.S N]
noncomputable def slices_ContainsFuncint_int_2.call (N : Nat) : CallK := callBy (slices_ContainsFuncint_int_2.says N)
noncomputable def slices_ContainsFuncint_int_2.qt (N : Nat) : FuncId → List PV → Sig → Cl := qtBy (slices_ContainsFuncint_int_2.says N)
noncomputable def slices_ContainsFuncint_int_2 (N : Nat) (s : (List Int)) : Option ((Bool × Unit) × Unit) :=
  ofFn Try.prog slices_ContainsFuncint_int_2.call slices_ContainsFuncint_int_2.qt slices_ContainsFuncint_int_2.H N Try.f98 [.one (.sh (.rows (.int .i64))), .fn 99 []] [] [ak_b] [] [⟨[], [], [], []⟩] (s, ((), ())) ()
noncomputable def slices_ContainsFuncint_int_2.S (N : Nat) : Say := ⟨false, 98, [.one (.sh (.rows (.int .i64))), .fn 99 []], [], [ak_b], [], fun a s => slices_ContainsFuncint_int_2 N a.1⟩
set_option maxRecDepth 100000 in
theorem slices_ContainsFuncint_int_2.eq (N : Nat) (s : (List Int)) : slices_ContainsFuncint_int_2 N s =
 andK (slices_IndexFuncint_int_2 N s) fun u1 =>
 some (((decide (0 ≤ u1.1.1)), ()), ()) := by kernel_rfl
set_option maxRecDepth 100000 in
theorem slices_ContainsFuncint_int_2.say (N : Nat) : SayOk Try.prog (slices_ContainsFuncint_int_2.S N) := sayOk_mk (N := N) (H := slices_ContainsFuncint_int_2.H) (preps := [⟨[], [], [], []⟩]) (l := slices_ContainsFuncint_int_2.says) (fn := Try.f98) (c := bodyOf Try.f98)
  (by kernel_rfl) (by kernel_rfl) (by kernel_rfl) (by kernel_rfl) (by kernel_rfl) (by kernel_rfl) (by kernel_rfl)
  (fun N => SayAll.cons (slices_IndexFuncint_int_2.say N) (SayAll.nil)) (fun a s => by kernel_rfl)
noncomputable def slices_ContainsFuncint_int_2.SB (N : Nat) : Say := slices_ContainsFuncint_int_2.S N |>.lent
theorem slices_ContainsFuncint_int_2.sayB (N : Nat) : SayOk Try.prog (slices_ContainsFuncint_int_2.SB N) := (slices_ContainsFuncint_int_2.say N).lent

/-! ### slices.Index[[]int,int]: function 160 -/
noncomputable def slices_Indexint_int.H : Hints := hintsOf [(2000002, .loop ⟨.normal, [0, 1, 7], [8], [ak_i], [], [⟨[], [], [], []⟩]⟩ [⟨.ret, [], [4], [ak_i], [], [⟨[], [], [], []⟩]⟩, ⟨(.exit 0), [], [], [], [], [⟨[], [], [], []⟩]⟩])]
noncomputable def slices_Indexint_int.says (N : Nat) : List Say := []
noncomputable def slices_Indexint_int.call (N : Nat) : CallK := callBy (slices_Indexint_int.says N)
noncomputable def slices_Indexint_int.qt (N : Nat) : FuncId → List PV → Sig → Cl := qtBy (slices_Indexint_int.says N)
noncomputable def slices_Indexint_int.l0.hd : Alt := ⟨.normal, [0, 1, 7], [8], [ak_i], [], [⟨[], [], [], []⟩]⟩
noncomputable def slices_Indexint_int.l0.outs : List Alt := [⟨.ret, [], [4], [ak_i], [], [⟨[], [], [], []⟩]⟩, ⟨(.exit 0), [], [], [], [], [⟨[], [], [], []⟩]⟩]
noncomputable def slices_Indexint_int.l0 (N : Nat) (s1 : (List Int)) (v1 : Int) (t7 : Int) (t8 : Int) : Option (((Int × Unit) × Unit) ⊕ (Unit × Unit)) :=
  loopK Try.prog slices_Indexint_int.call slices_Indexint_int.qt slices_Indexint_int.H (codeAt (bodyOf Try.f160) [1, 0, 1, 0, 0]) 0 slices_Indexint_int.l0.hd slices_Indexint_int.l0.outs [(0, .rows false (.int .i64) s1), (1, .v (.int .i64 v1)), (7, .v (.int .i64 t7))] N ((t8, ()), ())
noncomputable def slices_Indexint_int (N : Nat) (s : (List Int)) (v : Int) : Option ((Int × Unit) × Unit) :=
  ofFn Try.prog slices_Indexint_int.call slices_Indexint_int.qt slices_Indexint_int.H N Try.f160 [.one (.sh (.rows (.int .i64))), ak_i] [] [ak_i] [] [⟨[], [], [], []⟩] (s, (v, ())) ()
noncomputable def slices_Indexint_int.S (N : Nat) : Say := ⟨false, 160, [.one (.sh (.rows (.int .i64))), ak_i], [], [ak_i], [], fun a s => slices_Indexint_int N a.1 a.2.1⟩
set_option maxRecDepth 100000 in
theorem slices_Indexint_int.l0.eq (N : Nat) (s1 : (List Int)) (v1 : Int) (t7 : Int) (t8 : Int) : slices_Indexint_int.l0 (N + 1) s1 v1 t7 t8 =
 sel (decide (t8 < t7))
  (
  chk ((decide (0 ≤ t8)) && (decide (t8 < (s1.length : Int)))) (
  sel (decide (v1 = (s1.getD (Int.toNat t8) 0)))
   (
   some (.inl ((t8, ()), ())))
   (
   slices_Indexint_int.l0 N s1 v1 t7 (IntKind.i64.wrap (t8 + 1)))))
  (
  some (.inr (((), ())))) := by kernel_rfl
set_option maxRecDepth 100000 in
theorem slices_Indexint_int.eq (N : Nat) (s : (List Int)) (v : Int) : slices_Indexint_int N s v =
 andK (slices_Indexint_int.l0 N s v (s.length : Int) 0) fun l1 =>
 orK l1 (fun x2 =>
  some ((x2.1.1, ()), ()))
  (fun x3 =>
  some (((-1), ()), ())) := by kernel_rfl
set_option maxRecDepth 100000 in
theorem slices_Indexint_int.say (N : Nat) : SayOk Try.prog (slices_Indexint_int.S N) := sayOk_mk (N := N) (H := slices_Indexint_int.H) (preps := [⟨[], [], [], []⟩]) (l := slices_Indexint_int.says) (fn := Try.f160) (c := bodyOf Try.f160)
  (by kernel_rfl) (by kernel_rfl) (by kernel_rfl) (by kernel_rfl) (by kernel_rfl) (by kernel_rfl) (by kernel_rfl)
  (fun N => SayAll.nil) (fun a s => by kernel_rfl)

/-! ### slices.Contains[[]int,int]: function 101 -/
noncomputable def slices_Containsint_int.H : Hints := hintsOf []
noncomputable def slices_Containsint_int.says (N : Nat) : List Say := [slices_Indexint_int.S N]
noncomputable def slices_Containsint_int.call (N : Nat) : CallK := callBy (slices_Containsint_int.says N)
noncomputable def slices_Containsint_int.qt (N : Nat) : FuncId → List PV → Sig → Cl := qtBy (slices_Containsint_int.says N)
noncomputable def slices_Containsint_int (N : Nat) (s : (List Int)) (v : Int) : Option ((Bool × Unit) × Unit) :=
  ofFn Try.prog slices_Containsint_int.call slices_Containsint_int.qt slices_Containsint_int.H N Try.f101 [.one (.sh (.rows (.int .i64))), ak_i] [] [ak_b] [] [⟨[], [], [], []⟩] (s, (v, ())) ()
noncomputable def slices_Containsint_int.S (N : Nat) : Say := ⟨false, 101, [.one (.sh (.rows (.int .i64))), ak_i], [], [ak_b], [], fun a s => slices_Containsint_int N a.1 a.2.1⟩
set_option maxRecDepth 100000 in
theorem slices_Containsint_int.eq (N : Nat) (s : (List Int)) (v : Int) : slices_Containsint_int N s v =
 andK (slices_Indexint_int N s v) fun u1 =>
 some (((decide (0 ≤ u1.1.1)), ()), ()) := by kernel_rfl
set_option maxRecDepth 100000 in
theorem slices_Containsint_int.say (N : Nat) : SayOk Try.prog (slices_Containsint_int.S N) := sayOk_mk (N := N) (H := slices_Containsint_int.H) (preps := [⟨[], [], [], []⟩]) (l := slices_Containsint_int.says) (fn := Try.f101) (c := bodyOf Try.f101)
  (by kernel_rfl) (by kernel_rfl) (by kernel_rfl) (by kernel_rfl) (by kernel_rfl) (by kernel_rfl) (by kernel_rfl)
  (fun N => SayAll.cons (slices_Indexint_int.say N) (SayAll.nil)) (fun a s => by kernel_rfl)
noncomputable def slices_Containsint_int.SB (N : Nat) : Say := slices_Containsint_int.S N |>.lent
theorem slices_Containsint_int.sayB (N : Nat) : SayOk Try.prog (slices_Containsint_int.SB N) := (slices_Containsint_int.say N).lent

/-! ### slices.Clone[[]int,int]: function 102 -/
noncomputable def slices_Cloneint_int (N : Nat) (s : (List Int)) : Option ((Unit × Unit) × ((List Int) × Unit)) := chk (decide (s.length < most)) (some (((), ()), (s, ())))
noncomputable def slices_Cloneint_int.S (N : Nat) : Say := ⟨false, 102, [.one (.sh (.rows (.int .i64)))], [], [.one (.own 0)], [.rows (.int .i64)], fun a s => slices_Cloneint_int N a.1⟩
theorem slices_Cloneint_int.eq (N : Nat) (s : (List Int)) : slices_Cloneint_int N s =
 chk (decide (s.length < most)) (
 some (((), ()), (s, ()))) := rfl
set_option maxRecDepth 100000 in
theorem slices_Cloneint_int.say (N : Nat) : SayOk Try.prog (slices_Cloneint_int.S N) := sayOk_nil (H := hintsOf []) (fn := Try.f102) (c := bodyOf Try.f102) (preps := [⟨[(0, (.int .i64))], [], [], [0]⟩, ⟨[], [], [], [0]⟩])
  (by kernel_rfl) (by kernel_rfl) (by kernel_rfl) (by kernel_rfl) (by kernel_rfl) (by kernel_rfl) (by kernel_rfl)
  (fun cap => by kernel_rfl) (fun a cap => by kernel_rfl) (fun x xs => by kernel_rfl)
noncomputable def slices_Cloneint_int.SB (N : Nat) : Say := slices_Cloneint_int.S N |>.lent
theorem slices_Cloneint_int.sayB (N : Nat) : SayOk Try.prog (slices_Cloneint_int.SB N) := (slices_Cloneint_int.say N).lent

/-! ### loop.example/g00206/impl.VersionAnswer: function 39 -/
noncomputable def impl_VersionAnswer_2.H : Hints := hintsOf [(5000002, .join [⟨.normal, [], [1, 2, 4, 31], [.one (.own 0), .one (.ptr 1 0), .one (.ptr 2 0), ak_b], [.rows (.int .i64) true, .cells [ck_i, ck_i, ck_i, ck_s, ck_s, ck_s, ck_s, .sh (.rows (.int .i64))], .cells [ck_i, ck_i, ck_i, ck_s, ck_s, ck_s, ck_s, .nil]], [⟨[], [], [], []⟩]⟩])]
noncomputable def impl_VersionAnswer_2.says (N : Nat) : List Say := [slices_ContainsFuncint_int_2.SB N, impl_GoodHeader.S N, impl_in.S N, slices_Containsint_int.SB N, slices_Cloneint_int.SB N]
noncomputable def impl_VersionAnswer_2.call (N : Nat) : CallK := callBy (impl_VersionAnswer_2.says N)
noncomputable def impl_VersionAnswer_2.qt (N : Nat) : FuncId → List PV → Sig → Cl := qtBy (impl_VersionAnswer_2.says N)
noncomputable def impl_VersionAnswer_2 (N : Nat) (h_0 : Int) (h_1 : Int) (h_2 : Int) (h_3 : ByteArray) (h_4 : ByteArray) (h_5 : ByteArray) (h_6 : ByteArray) (h_7 : (List Int)) (p0 : (List Int)) : Option (((Int × (Int × (Int × (ByteArray × (ByteArray × (ByteArray × (ByteArray × ((List Int) × Unit)))))))) × (Bool × Unit)) × ((List Int) × Unit)) :=
  ofFn Try.prog impl_VersionAnswer_2.call impl_VersionAnswer_2.qt impl_VersionAnswer_2.H N Try.f39 [.agg [ck_i, ck_i, ck_i, ck_s, ck_s, ck_s, ck_s, .sh (.rows (.int .i64))], .one (.own 0)] [.rows (.int .i64)] [.agg [ck_i, ck_i, ck_i, ck_s, ck_s, ck_s, ck_s, .sh (.rows (.int .i64))], ak_b] [.rows (.int .i64) true] [⟨[], [], [], []⟩, ⟨[], [], [3], []⟩] ((h_0, (h_1, (h_2, (h_3, (h_4, (h_5, (h_6, (h_7, ())))))))), ((), ())) (p0, ())
noncomputable def impl_VersionAnswer_2.S (N : Nat) : Say := ⟨false, 39, [.agg [ck_i, ck_i, ck_i, ck_s, ck_s, ck_s, ck_s, .sh (.rows (.int .i64))], .one (.own 0)], [.rows (.int .i64)], [.agg [ck_i, ck_i, ck_i, ck_s, ck_s, ck_s, ck_s, .sh (.rows (.int .i64))], ak_b], [.rows (.int .i64) true], fun a s => impl_VersionAnswer_2 N a.1.1 a.1.2.1 a.1.2.2.1 a.1.2.2.2.1 a.1.2.2.2.2.1 a.1.2.2.2.2.2.1 a.1.2.2.2.2.2.2.1 a.1.2.2.2.2.2.2.2.1 s.1⟩
set_option maxRecDepth 100000 in
theorem impl_VersionAnswer_2.eq (N : Nat) (h_0 : Int) (h_1 : Int) (h_2 : Int) (h_3 : ByteArray) (h_4 : ByteArray) (h_5 : ByteArray) (h_6 : ByteArray) (h_7 : (List Int)) (p0 : (List Int)) : impl_VersionAnswer_2 N h_0 h_1 h_2 h_3 h_4 h_5 h_6 h_7 p0 =
 andK (slices_ContainsFuncint_int_2 N p0) fun u1 =>
 andK (α := ((Unit × (Unit × (Unit × (Bool × Unit)))) × ((List Int) × ((Int × (Int × (Int × (ByteArray × (ByteArray × (ByteArray × (ByteArray × ((List Int) × Unit)))))))) × ((Int × (Int × (Int × (ByteArray × (ByteArray × (ByteArray × (ByteArray × (Unit × Unit)))))))) × Unit))))) (
  andK (impl_GoodHeader N h_0 h_1 h_2 h_3 h_4 h_5 h_6 h_7) fun u2 =>
  sel (!u2.1.1)
   (
   some ((((), ((), ((), (true, ())))), (p0, ((h_0, (h_1, (h_2, (h_3, (h_4, (h_5, (h_6, (h_7, ())))))))), ((0, (0, (0, ((⟨#[]⟩ : ByteArray), ((⟨#[]⟩ : ByteArray), ((⟨#[]⟩ : ByteArray), ((⟨#[]⟩ : ByteArray), ((), ())))))))), ()))))))
   (
   sel (!(decide (h_0 = 0)))
    (
    some ((((), ((), ((), (true, ())))), (p0, ((h_0, (h_1, (h_2, (h_3, (h_4, (h_5, (h_6, (h_7, ())))))))), ((0, (0, (0, ((⟨#[]⟩ : ByteArray), ((⟨#[]⟩ : ByteArray), ((⟨#[]⟩ : ByteArray), ((⟨#[]⟩ : ByteArray), ((), ())))))))), ()))))))
    (
    andK (impl_in N (p0.length : Int) 1 20) fun u3 =>
    sel (!u3.1.1)
     (
     some ((((), ((), ((), (true, ())))), (p0, ((h_0, (h_1, (h_2, (h_3, (h_4, (h_5, (h_6, (h_7, ())))))))), ((0, (0, (0, ((⟨#[]⟩ : ByteArray), ((⟨#[]⟩ : ByteArray), ((⟨#[]⟩ : ByteArray), ((⟨#[]⟩ : ByteArray), ((), ())))))))), ()))))))
     (
     sel u1.1.1
      (
      some ((((), ((), ((), (true, ())))), (p0, ((h_0, (h_1, (h_2, (h_3, (h_4, (h_5, (h_6, (h_7, ())))))))), ((0, (0, (0, ((⟨#[]⟩ : ByteArray), ((⟨#[]⟩ : ByteArray), ((⟨#[]⟩ : ByteArray), ((⟨#[]⟩ : ByteArray), ((), ())))))))), ()))))))
      (
      andK (slices_Containsint_int N p0 h_2) fun u4 =>
      some ((((), ((), ((), (u4.1.1, ())))), (p0, ((h_0, (h_1, (h_2, (h_3, (h_4, (h_5, (h_6, (h_7, ())))))))), ((0, (0, (0, ((⟨#[]⟩ : ByteArray), ((⟨#[]⟩ : ByteArray), ((⟨#[]⟩ : ByteArray), ((⟨#[]⟩ : ByteArray), ((), ())))))))), ())))))))))) fun j5 =>
 sel j5.1.2.2.2.1
  (
  some (((0, (0, (0, ((⟨#[]⟩ : ByteArray), ((⟨#[]⟩ : ByteArray), ((⟨#[]⟩ : ByteArray), ((⟨#[]⟩ : ByteArray), ([], ())))))))), (false, ())), (j5.2.1, ())))
  (
  andK (slices_Cloneint_int N j5.2.1) fun u6 =>
  some (((4, (0, (0, (j5.2.2.1.2.2.2.2.1, (j5.2.2.1.2.2.2.1, ((⟨#[]⟩ : ByteArray), ((⟨#[]⟩ : ByteArray), (u6.2.1, ())))))))), (true, ())), (j5.2.1, ()))) := by kernel_rfl
set_option maxRecDepth 100000 in
theorem impl_VersionAnswer_2.say (N : Nat) : SayOk Try.prog (impl_VersionAnswer_2.S N) := sayOk_mk (N := N) (H := impl_VersionAnswer_2.H) (preps := [⟨[], [], [], []⟩, ⟨[], [], [3], []⟩]) (l := impl_VersionAnswer_2.says) (fn := Try.f39) (c := bodyOf Try.f39)
  (by kernel_rfl) (by kernel_rfl) (by kernel_rfl) (by kernel_rfl) (by kernel_rfl) (by kernel_rfl) (by kernel_rfl)
  (fun N => SayAll.cons (slices_ContainsFuncint_int_2.sayB N) (SayAll.cons (impl_GoodHeader.say N) (SayAll.cons (impl_in.say N) (SayAll.cons (slices_Containsint_int.sayB N) (SayAll.cons (slices_Cloneint_int.sayB N) (SayAll.nil)))))) (fun a s => by kernel_rfl)

/-! ### loop.example/g00206/spec.l1Has: function 104 -/
noncomputable def spec_l1Has.H : Hints := hintsOf [(2000002, .loop ⟨.normal, [1, 7, 8], [9], [ak_i], [], [⟨[], [], [], []⟩]⟩ [⟨.ret, [], [4], [ak_b], [], [⟨[], [], [], []⟩]⟩, ⟨(.exit 0), [], [], [], [], [⟨[], [], [], []⟩]⟩])]
noncomputable def spec_l1Has.says (N : Nat) : List Say := []
noncomputable def spec_l1Has.call (N : Nat) : CallK := callBy (spec_l1Has.says N)
noncomputable def spec_l1Has.qt (N : Nat) : FuncId → List PV → Sig → Cl := qtBy (spec_l1Has.says N)
noncomputable def spec_l1Has.l0.hd : Alt := ⟨.normal, [1, 7, 8], [9], [ak_i], [], [⟨[], [], [], []⟩]⟩
noncomputable def spec_l1Has.l0.outs : List Alt := [⟨.ret, [], [4], [ak_b], [], [⟨[], [], [], []⟩]⟩, ⟨(.exit 0), [], [], [], [], [⟨[], [], [], []⟩]⟩]
noncomputable def spec_l1Has.l0 (N : Nat) (n1 : Int) (t7 : (List Int)) (t8 : Int) (t9 : Int) : Option (((Bool × Unit) × Unit) ⊕ (Unit × Unit)) :=
  loopK Try.prog spec_l1Has.call spec_l1Has.qt spec_l1Has.H (codeAt (bodyOf Try.f104) [1, 0, 1, 0, 0]) 0 spec_l1Has.l0.hd spec_l1Has.l0.outs [(1, .v (.int .i64 n1)), (7, .rows false (.int .i64) t7), (8, .v (.int .i64 t8))] N ((t9, ()), ())
noncomputable def spec_l1Has (N : Nat) (l : (List Int)) (n : Int) : Option ((Bool × Unit) × Unit) :=
  ofFn Try.prog spec_l1Has.call spec_l1Has.qt spec_l1Has.H N Try.f104 [.one (.sh (.rows (.int .i64))), ak_i] [] [ak_b] [] [⟨[], [], [], []⟩] (l, (n, ())) ()
noncomputable def spec_l1Has.S (N : Nat) : Say := ⟨false, 104, [.one (.sh (.rows (.int .i64))), ak_i], [], [ak_b], [], fun a s => spec_l1Has N a.1 a.2.1⟩
set_option maxRecDepth 100000 in
theorem spec_l1Has.l0.eq (N : Nat) (n1 : Int) (t7 : (List Int)) (t8 : Int) (t9 : Int) : spec_l1Has.l0 (N + 1) n1 t7 t8 t9 =
 sel (decide (t9 < t8))
  (
  chk ((decide (0 ≤ t9)) && (decide (t9 < (t7.length : Int)))) (
  sel (decide ((t7.getD (Int.toNat t9) 0) = n1))
   (
   some (.inl ((true, ()), ())))
   (
   spec_l1Has.l0 N n1 t7 t8 (IntKind.i64.wrap (t9 + 1)))))
  (
  some (.inr (((), ())))) := by kernel_rfl
set_option maxRecDepth 100000 in
theorem spec_l1Has.eq (N : Nat) (l : (List Int)) (n : Int) : spec_l1Has N l n =
 andK (spec_l1Has.l0 N n l (l.length : Int) 0) fun l1 =>
 orK l1 (fun x2 =>
  some ((x2.1.1, ()), ()))
  (fun x3 =>
  some ((false, ()), ())) := by kernel_rfl
set_option maxRecDepth 100000 in
theorem spec_l1Has.say (N : Nat) : SayOk Try.prog (spec_l1Has.S N) := sayOk_mk (N := N) (H := spec_l1Has.H) (preps := [⟨[], [], [], []⟩]) (l := spec_l1Has.says) (fn := Try.f104) (c := bodyOf Try.f104)
  (by kernel_rfl) (by kernel_rfl) (by kernel_rfl) (by kernel_rfl) (by kernel_rfl) (by kernel_rfl) (by kernel_rfl)
  (fun N => SayAll.nil) (fun a s => by kernel_rfl)
noncomputable def spec_l1Has.SB (N : Nat) : Say := spec_l1Has.S N |>.lent
theorem spec_l1Has.sayB (N : Nat) : SayOk Try.prog (spec_l1Has.SB N) := (spec_l1Has.say N).lent

/-! ### loop.example/g00206/spec.VersionAnswer: function 40 -/
noncomputable def spec_VersionAnswer_2.H : Hints := hintsOf [(5000001, .join [⟨.normal, [], [1, 2, 4, 27], [.one (.own 0), .one (.ptr 1 0), .one (.ptr 2 0), ak_b], [.rows (.int .i64) true, .cells [ck_i, ck_i, ck_i, ck_s, ck_s, ck_s, ck_s, .sh (.rows (.int .i64))], .cells [ck_i, ck_i, ck_i, ck_s, ck_s, ck_s, ck_s, .nil]], [⟨[], [], [], []⟩]⟩]),
  (2000004, .loop ⟨.normal, [30], [1, 2, 4, 29, 31], [.one (.own 0), .one (.ptr 1 0), .one (.ptr 2 0), .one (.own 0), ak_i], [.rows (.int .i64) true, .cells [ck_i, ck_i, ck_i, ck_s, ck_s, ck_s, ck_s, .sh (.rows (.int .i64))], .cells [ck_i, ck_i, ck_i, ck_s, ck_s, ck_s, ck_s, .nil]], [⟨[], [], [], []⟩]⟩ [⟨.ret, [], [4, 5], [.one (.ptr 2 0), ak_b], [.rows (.int .i64) true, .cells [ck_i, ck_i, ck_i, ck_s, ck_s, ck_s, ck_s, .sh (.rows (.int .i64))], .cells [ck_i, ck_i, ck_i, ck_s, ck_s, ck_s, ck_s, .nil]], [⟨[], [], [], []⟩]⟩, ⟨(.exit 0), [], [1, 2, 4], [.one (.own 0), .one (.ptr 1 0), .one (.ptr 2 0)], [.rows (.int .i64) true, .cells [ck_i, ck_i, ck_i, ck_s, ck_s, ck_s, ck_s, .sh (.rows (.int .i64))], .cells [ck_i, ck_i, ck_i, ck_s, ck_s, ck_s, ck_s, .nil]], [⟨[], [], [], []⟩]⟩])]
noncomputable def spec_VersionAnswer_2.says (N : Nat) : List Say := [spec_GoodHeader.S N, spec_l1In.S N, spec_l1Has.SB N]
noncomputable def spec_VersionAnswer_2.call (N : Nat) : CallK := callBy (spec_VersionAnswer_2.says N)
noncomputable def spec_VersionAnswer_2.qt (N : Nat) : FuncId → List PV → Sig → Cl := qtBy (spec_VersionAnswer_2.says N)
noncomputable def spec_VersionAnswer_2.l0.hd : Alt := ⟨.normal, [30], [1, 2, 4, 29, 31], [.one (.own 0), .one (.ptr 1 0), .one (.ptr 2 0), .one (.own 0), ak_i], [.rows (.int .i64) true, .cells [ck_i, ck_i, ck_i, ck_s, ck_s, ck_s, ck_s, .sh (.rows (.int .i64))], .cells [ck_i, ck_i, ck_i, ck_s, ck_s, ck_s, ck_s, .nil]], [⟨[], [], [], []⟩]⟩
noncomputable def spec_VersionAnswer_2.l0.outs : List Alt := [⟨.ret, [], [4, 5], [.one (.ptr 2 0), ak_b], [.rows (.int .i64) true, .cells [ck_i, ck_i, ck_i, ck_s, ck_s, ck_s, ck_s, .sh (.rows (.int .i64))], .cells [ck_i, ck_i, ck_i, ck_s, ck_s, ck_s, ck_s, .nil]], [⟨[], [], [], []⟩]⟩, ⟨(.exit 0), [], [1, 2, 4], [.one (.own 0), .one (.ptr 1 0), .one (.ptr 2 0)], [.rows (.int .i64) true, .cells [ck_i, ck_i, ck_i, ck_s, ck_s, ck_s, ck_s, .sh (.rows (.int .i64))], .cells [ck_i, ck_i, ck_i, ck_s, ck_s, ck_s, ck_s, .nil]], [⟨[], [], [], []⟩]⟩]
noncomputable def spec_VersionAnswer_2.l0 (N : Nat) (t30 : Int) (t31 : Int) (p01 : (List Int)) (p1_0 : Int) (p1_1 : Int) (p1_2 : Int) (p1_3 : ByteArray) (p1_4 : ByteArray) (p1_5 : ByteArray) (p1_6 : ByteArray) (p1_7 : (List Int)) (p2_0 : Int) (p2_1 : Int) (p2_2 : Int) (p2_3 : ByteArray) (p2_4 : ByteArray) (p2_5 : ByteArray) (p2_6 : ByteArray) : Option (((Unit × (Bool × Unit)) × ((List Int) × ((Int × (Int × (Int × (ByteArray × (ByteArray × (ByteArray × (ByteArray × ((List Int) × Unit)))))))) × ((Int × (Int × (Int × (ByteArray × (ByteArray × (ByteArray × (ByteArray × (Unit × Unit)))))))) × Unit)))) ⊕ ((Unit × (Unit × (Unit × Unit))) × ((List Int) × ((Int × (Int × (Int × (ByteArray × (ByteArray × (ByteArray × (ByteArray × ((List Int) × Unit)))))))) × ((Int × (Int × (Int × (ByteArray × (ByteArray × (ByteArray × (ByteArray × (Unit × Unit)))))))) × Unit))))) :=
  loopK Try.prog spec_VersionAnswer_2.call spec_VersionAnswer_2.qt spec_VersionAnswer_2.H (codeAt (bodyOf Try.f40) [1, 1, 0, 1, 0, 0]) 3 spec_VersionAnswer_2.l0.hd spec_VersionAnswer_2.l0.outs [(30, .v (.int .i64 t30))] N (((), ((), ((), ((), (t31, ()))))), (p01, ((p1_0, (p1_1, (p1_2, (p1_3, (p1_4, (p1_5, (p1_6, (p1_7, ())))))))), ((p2_0, (p2_1, (p2_2, (p2_3, (p2_4, (p2_5, (p2_6, ((), ())))))))), ()))))
noncomputable def spec_VersionAnswer_2 (N : Nat) (h_0 : Int) (h_1 : Int) (h_2 : Int) (h_3 : ByteArray) (h_4 : ByteArray) (h_5 : ByteArray) (h_6 : ByteArray) (h_7 : (List Int)) (p0 : (List Int)) : Option (((Int × (Int × (Int × (ByteArray × (ByteArray × (ByteArray × (ByteArray × ((List Int) × Unit)))))))) × (Bool × Unit)) × ((List Int) × Unit)) :=
  ofFn Try.prog spec_VersionAnswer_2.call spec_VersionAnswer_2.qt spec_VersionAnswer_2.H N Try.f40 [.agg [ck_i, ck_i, ck_i, ck_s, ck_s, ck_s, ck_s, .sh (.rows (.int .i64))], .one (.own 0)] [.rows (.int .i64)] [.agg [ck_i, ck_i, ck_i, ck_s, ck_s, ck_s, ck_s, .sh (.rows (.int .i64))], ak_b] [.rows (.int .i64) true] [⟨[], [], [], []⟩, ⟨[], [], [3], []⟩] ((h_0, (h_1, (h_2, (h_3, (h_4, (h_5, (h_6, (h_7, ())))))))), ((), ())) (p0, ())
noncomputable def spec_VersionAnswer_2.S (N : Nat) : Say := ⟨false, 40, [.agg [ck_i, ck_i, ck_i, ck_s, ck_s, ck_s, ck_s, .sh (.rows (.int .i64))], .one (.own 0)], [.rows (.int .i64)], [.agg [ck_i, ck_i, ck_i, ck_s, ck_s, ck_s, ck_s, .sh (.rows (.int .i64))], ak_b], [.rows (.int .i64) true], fun a s => spec_VersionAnswer_2 N a.1.1 a.1.2.1 a.1.2.2.1 a.1.2.2.2.1 a.1.2.2.2.2.1 a.1.2.2.2.2.2.1 a.1.2.2.2.2.2.2.1 a.1.2.2.2.2.2.2.2.1 s.1⟩
set_option maxRecDepth 100000 in
theorem spec_VersionAnswer_2.l0.eq (N : Nat) (t30 : Int) (t31 : Int) (p01 : (List Int)) (p1_0 : Int) (p1_1 : Int) (p1_2 : Int) (p1_3 : ByteArray) (p1_4 : ByteArray) (p1_5 : ByteArray) (p1_6 : ByteArray) (p1_7 : (List Int)) (p2_0 : Int) (p2_1 : Int) (p2_2 : Int) (p2_3 : ByteArray) (p2_4 : ByteArray) (p2_5 : ByteArray) (p2_6 : ByteArray) : spec_VersionAnswer_2.l0 (N + 1) t30 t31 p01 p1_0 p1_1 p1_2 p1_3 p1_4 p1_5 p1_6 p1_7 p2_0 p2_1 p2_2 p2_3 p2_4 p2_5 p2_6 =
 sel (decide (t31 < t30))
  (
  chk ((decide (0 ≤ t31)) && (decide (t31 < (p01.length : Int)))) (
  andK (spec_l1In N (p01.getD (Int.toNat t31) 0) 1 4294967295) fun u5 =>
  sel (!u5.1.1)
   (
   some (.inl (((), (false, ())), (p01, ((p1_0, (p1_1, (p1_2, (p1_3, (p1_4, (p1_5, (p1_6, (p1_7, ())))))))), ((0, (0, (0, ((⟨#[]⟩ : ByteArray), ((⟨#[]⟩ : ByteArray), ((⟨#[]⟩ : ByteArray), ((⟨#[]⟩ : ByteArray), ((), ())))))))), ()))))))
   (
   spec_VersionAnswer_2.l0 N t30 (IntKind.i64.wrap (t31 + 1)) p01 p1_0 p1_1 p1_2 p1_3 p1_4 p1_5 p1_6 p1_7 p2_0 p2_1 p2_2 p2_3 p2_4 p2_5 p2_6)))
  (
  some (.inr ((((), ((), ((), ()))), (p01, ((p1_0, (p1_1, (p1_2, (p1_3, (p1_4, (p1_5, (p1_6, (p1_7, ())))))))), ((p2_0, (p2_1, (p2_2, (p2_3, (p2_4, (p2_5, (p2_6, ((), ())))))))), ()))))))) := by kernel_rfl
set_option maxRecDepth 100000 in
theorem spec_VersionAnswer_2.eq (N : Nat) (h_0 : Int) (h_1 : Int) (h_2 : Int) (h_3 : ByteArray) (h_4 : ByteArray) (h_5 : ByteArray) (h_6 : ByteArray) (h_7 : (List Int)) (p0 : (List Int)) : spec_VersionAnswer_2 N h_0 h_1 h_2 h_3 h_4 h_5 h_6 h_7 p0 =
 andK (α := ((Unit × (Unit × (Unit × (Bool × Unit)))) × ((List Int) × ((Int × (Int × (Int × (ByteArray × (ByteArray × (ByteArray × (ByteArray × ((List Int) × Unit)))))))) × ((Int × (Int × (Int × (ByteArray × (ByteArray × (ByteArray × (ByteArray × (Unit × Unit)))))))) × Unit))))) (
  andK (spec_GoodHeader N h_0 h_1 h_2 h_3 h_4 h_5 h_6 h_7) fun u1 =>
  sel (!u1.1.1)
   (
   some ((((), ((), ((), (true, ())))), (p0, ((h_0, (h_1, (h_2, (h_3, (h_4, (h_5, (h_6, (h_7, ())))))))), ((0, (0, (0, ((⟨#[]⟩ : ByteArray), ((⟨#[]⟩ : ByteArray), ((⟨#[]⟩ : ByteArray), ((⟨#[]⟩ : ByteArray), ((), ())))))))), ()))))))
   (
   sel (!(decide (h_0 = 0)))
    (
    some ((((), ((), ((), (true, ())))), (p0, ((h_0, (h_1, (h_2, (h_3, (h_4, (h_5, (h_6, (h_7, ())))))))), ((0, (0, (0, ((⟨#[]⟩ : ByteArray), ((⟨#[]⟩ : ByteArray), ((⟨#[]⟩ : ByteArray), ((⟨#[]⟩ : ByteArray), ((), ())))))))), ()))))))
    (
    andK (spec_l1In N (p0.length : Int) 1 20) fun u2 =>
    sel (!u2.1.1)
     (
     some ((((), ((), ((), (true, ())))), (p0, ((h_0, (h_1, (h_2, (h_3, (h_4, (h_5, (h_6, (h_7, ())))))))), ((0, (0, (0, ((⟨#[]⟩ : ByteArray), ((⟨#[]⟩ : ByteArray), ((⟨#[]⟩ : ByteArray), ((⟨#[]⟩ : ByteArray), ((), ())))))))), ()))))))
     (
     andK (spec_l1Has N p0 h_2) fun u3 =>
     some ((((), ((), ((), (u3.1.1, ())))), (p0, ((h_0, (h_1, (h_2, (h_3, (h_4, (h_5, (h_6, (h_7, ())))))))), ((0, (0, (0, ((⟨#[]⟩ : ByteArray), ((⟨#[]⟩ : ByteArray), ((⟨#[]⟩ : ByteArray), ((⟨#[]⟩ : ByteArray), ((), ())))))))), ()))))))))) fun j4 =>
 sel j4.1.2.2.2.1
  (
  some (((0, (0, (0, ((⟨#[]⟩ : ByteArray), ((⟨#[]⟩ : ByteArray), ((⟨#[]⟩ : ByteArray), ((⟨#[]⟩ : ByteArray), ([], ())))))))), (false, ())), (j4.2.1, ())))
  (
  andK (spec_VersionAnswer_2.l0 N (j4.2.1.length : Int) 0 j4.2.1 j4.2.2.1.1 j4.2.2.1.2.1 j4.2.2.1.2.2.1 j4.2.2.1.2.2.2.1 j4.2.2.1.2.2.2.2.1 j4.2.2.1.2.2.2.2.2.1 j4.2.2.1.2.2.2.2.2.2.1 j4.2.2.1.2.2.2.2.2.2.2.1 j4.2.2.2.1.1 j4.2.2.2.1.2.1 j4.2.2.2.1.2.2.1 j4.2.2.2.1.2.2.2.1 j4.2.2.2.1.2.2.2.2.1 j4.2.2.2.1.2.2.2.2.2.1 j4.2.2.2.1.2.2.2.2.2.2.1) fun l6 =>
  orK l6 (fun x7 =>
   some (((x7.2.2.2.1.1, (x7.2.2.2.1.2.1, (x7.2.2.2.1.2.2.1, (x7.2.2.2.1.2.2.2.1, (x7.2.2.2.1.2.2.2.2.1, (x7.2.2.2.1.2.2.2.2.2.1, (x7.2.2.2.1.2.2.2.2.2.2.1, ([], ())))))))), (x7.1.2.1, ())), (x7.2.1, ())))
   (fun x8 =>
   chk (decide (x8.2.1.length < most)) (
   some (((4, (0, (0, (x8.2.2.1.2.2.2.2.1, (x8.2.2.1.2.2.2.1, ((⟨#[]⟩ : ByteArray), ((⟨#[]⟩ : ByteArray), (x8.2.1, ())))))))), (true, ())), (x8.2.1, ()))))) := by kernel_rfl
set_option maxRecDepth 100000 in
theorem spec_VersionAnswer_2.say (N : Nat) : SayOk Try.prog (spec_VersionAnswer_2.S N) := sayOk_mk (N := N) (H := spec_VersionAnswer_2.H) (preps := [⟨[], [], [], []⟩, ⟨[], [], [3], []⟩]) (l := spec_VersionAnswer_2.says) (fn := Try.f40) (c := bodyOf Try.f40)
  (by kernel_rfl) (by kernel_rfl) (by kernel_rfl) (by kernel_rfl) (by kernel_rfl) (by kernel_rfl) (by kernel_rfl)
  (fun N => SayAll.cons (spec_GoodHeader.say N) (SayAll.cons (spec_l1In.say N) (SayAll.cons (spec_l1Has.sayB N) (SayAll.nil)))) (fun a s => by kernel_rfl)

/-! ### loop.example/g00206/laws.sameInts: function 105 -/
noncomputable def laws_sameInts.H : Hints := hintsOf [(2000004, .loop ⟨.normal, [0, 1, 12], [13], [ak_i], [], [⟨[], [], [], []⟩]⟩ [⟨.ret, [], [4], [ak_b], [], [⟨[], [], [], []⟩]⟩, ⟨(.exit 0), [], [], [], [], [⟨[], [], [], []⟩]⟩])]
noncomputable def laws_sameInts.says (N : Nat) : List Say := []
noncomputable def laws_sameInts.call (N : Nat) : CallK := callBy (laws_sameInts.says N)
noncomputable def laws_sameInts.qt (N : Nat) : FuncId → List PV → Sig → Cl := qtBy (laws_sameInts.says N)
noncomputable def laws_sameInts.l0.hd : Alt := ⟨.normal, [0, 1, 12], [13], [ak_i], [], [⟨[], [], [], []⟩]⟩
noncomputable def laws_sameInts.l0.outs : List Alt := [⟨.ret, [], [4], [ak_b], [], [⟨[], [], [], []⟩]⟩, ⟨(.exit 0), [], [], [], [], [⟨[], [], [], []⟩]⟩]
noncomputable def laws_sameInts.l0 (N : Nat) (a1 : (List Int)) (b1 : (List Int)) (t12 : Int) (t13 : Int) : Option (((Bool × Unit) × Unit) ⊕ (Unit × Unit)) :=
  loopK Try.prog laws_sameInts.call laws_sameInts.qt laws_sameInts.H (codeAt (bodyOf Try.f105) [1, 1, 0, 1, 0, 0]) 0 laws_sameInts.l0.hd laws_sameInts.l0.outs [(0, .rows false (.int .i64) a1), (1, .rows false (.int .i64) b1), (12, .v (.int .i64 t12))] N ((t13, ()), ())
noncomputable def laws_sameInts (N : Nat) (a : (List Int)) (b : (List Int)) : Option ((Bool × Unit) × Unit) :=
  ofFn Try.prog laws_sameInts.call laws_sameInts.qt laws_sameInts.H N Try.f105 [.one (.sh (.rows (.int .i64))), .one (.sh (.rows (.int .i64)))] [] [ak_b] [] [⟨[], [], [], []⟩] (a, (b, ())) ()
noncomputable def laws_sameInts.S (N : Nat) : Say := ⟨false, 105, [.one (.sh (.rows (.int .i64))), .one (.sh (.rows (.int .i64)))], [], [ak_b], [], fun a s => laws_sameInts N a.1 a.2.1⟩
set_option maxRecDepth 100000 in
theorem laws_sameInts.l0.eq (N : Nat) (a1 : (List Int)) (b1 : (List Int)) (t12 : Int) (t13 : Int) : laws_sameInts.l0 (N + 1) a1 b1 t12 t13 =
 sel (decide (t13 < t12))
  (
  chk ((decide (0 ≤ t13)) && (decide (t13 < (a1.length : Int)))) (
  chk ((decide (0 ≤ t13)) && (decide (t13 < (b1.length : Int)))) (
  sel (!(decide ((a1.getD (Int.toNat t13) 0) = (b1.getD (Int.toNat t13) 0))))
   (
   some (.inl ((false, ()), ())))
   (
   laws_sameInts.l0 N a1 b1 t12 (IntKind.i64.wrap (t13 + 1))))))
  (
  some (.inr (((), ())))) := by kernel_rfl
set_option maxRecDepth 100000 in
theorem laws_sameInts.eq (N : Nat) (a : (List Int)) (b : (List Int)) : laws_sameInts N a b =
 sel (!(decide ((a.length : Int) = (b.length : Int))))
  (
  some ((false, ()), ()))
  (
  andK (laws_sameInts.l0 N a b (a.length : Int) 0) fun l1 =>
  orK l1 (fun x2 =>
   some ((x2.1.1, ()), ()))
   (fun x3 =>
   some ((true, ()), ()))) := by kernel_rfl
set_option maxRecDepth 100000 in
theorem laws_sameInts.say (N : Nat) : SayOk Try.prog (laws_sameInts.S N) := sayOk_mk (N := N) (H := laws_sameInts.H) (preps := [⟨[], [], [], []⟩]) (l := laws_sameInts.says) (fn := Try.f105) (c := bodyOf Try.f105)
  (by kernel_rfl) (by kernel_rfl) (by kernel_rfl) (by kernel_rfl) (by kernel_rfl) (by kernel_rfl) (by kernel_rfl)
  (fun N => SayAll.nil) (fun a s => by kernel_rfl)

/-! ### loop.example/g00206/laws.sameHeaders: function 41 -/
noncomputable def laws_sameHeaders.H : Hints := hintsOf []
noncomputable def laws_sameHeaders.says (N : Nat) : List Say := [laws_sameInts.S N]
noncomputable def laws_sameHeaders.call (N : Nat) : CallK := callBy (laws_sameHeaders.says N)
noncomputable def laws_sameHeaders.qt (N : Nat) : FuncId → List PV → Sig → Cl := qtBy (laws_sameHeaders.says N)
noncomputable def laws_sameHeaders (N : Nat) (a_0 : Int) (a_1 : Int) (a_2 : Int) (a_3 : ByteArray) (a_4 : ByteArray) (a_5 : ByteArray) (a_6 : ByteArray) (a_7 : (List Int)) (b_0 : Int) (b_1 : Int) (b_2 : Int) (b_3 : ByteArray) (b_4 : ByteArray) (b_5 : ByteArray) (b_6 : ByteArray) (b_7 : (List Int)) : Option ((Bool × Unit) × Unit) :=
  ofFn Try.prog laws_sameHeaders.call laws_sameHeaders.qt laws_sameHeaders.H N Try.f41 [.agg [ck_i, ck_i, ck_i, ck_s, ck_s, ck_s, ck_s, .sh (.rows (.int .i64))], .agg [ck_i, ck_i, ck_i, ck_s, ck_s, ck_s, ck_s, .sh (.rows (.int .i64))]] [] [ak_b] [] [⟨[], [], [], []⟩] ((a_0, (a_1, (a_2, (a_3, (a_4, (a_5, (a_6, (a_7, ())))))))), ((b_0, (b_1, (b_2, (b_3, (b_4, (b_5, (b_6, (b_7, ())))))))), ())) ()
noncomputable def laws_sameHeaders.S (N : Nat) : Say := ⟨false, 41, [.agg [ck_i, ck_i, ck_i, ck_s, ck_s, ck_s, ck_s, .sh (.rows (.int .i64))], .agg [ck_i, ck_i, ck_i, ck_s, ck_s, ck_s, ck_s, .sh (.rows (.int .i64))]], [], [ak_b], [], fun a s => laws_sameHeaders N a.1.1 a.1.2.1 a.1.2.2.1 a.1.2.2.2.1 a.1.2.2.2.2.1 a.1.2.2.2.2.2.1 a.1.2.2.2.2.2.2.1 a.1.2.2.2.2.2.2.2.1 a.2.1.1 a.2.1.2.1 a.2.1.2.2.1 a.2.1.2.2.2.1 a.2.1.2.2.2.2.1 a.2.1.2.2.2.2.2.1 a.2.1.2.2.2.2.2.2.1 a.2.1.2.2.2.2.2.2.2.1⟩
set_option maxRecDepth 100000 in
theorem laws_sameHeaders.eq (N : Nat) (a_0 : Int) (a_1 : Int) (a_2 : Int) (a_3 : ByteArray) (a_4 : ByteArray) (a_5 : ByteArray) (a_6 : ByteArray) (a_7 : (List Int)) (b_0 : Int) (b_1 : Int) (b_2 : Int) (b_3 : ByteArray) (b_4 : ByteArray) (b_5 : ByteArray) (b_6 : ByteArray) (b_7 : (List Int)) : laws_sameHeaders N a_0 a_1 a_2 a_3 a_4 a_5 a_6 a_7 b_0 b_1 b_2 b_3 b_4 b_5 b_6 b_7 =
 sel (decide (a_0 = b_0))
  (
  sel (decide (a_1 = b_1))
   (
   sel (decide (a_2 = b_2))
    (
    sel (decide (a_3 = b_3))
     (
     sel (decide (a_4 = b_4))
      (
      sel (decide (a_5 = b_5))
       (
       sel (decide (a_6 = b_6))
        (
        andK (laws_sameInts N a_7 b_7) fun u1 =>
        some ((u1.1.1, ()), ()))
        (
        some ((false, ()), ())))
       (
       some ((false, ()), ())))
      (
      some ((false, ()), ())))
     (
     some ((false, ()), ())))
    (
    some ((false, ()), ())))
   (
   some ((false, ()), ())))
  (
  some ((false, ()), ())) := by kernel_rfl
set_option maxRecDepth 100000 in
theorem laws_sameHeaders.say (N : Nat) : SayOk Try.prog (laws_sameHeaders.S N) := sayOk_mk (N := N) (H := laws_sameHeaders.H) (preps := [⟨[], [], [], []⟩]) (l := laws_sameHeaders.says) (fn := Try.f41) (c := bodyOf Try.f41)
  (by kernel_rfl) (by kernel_rfl) (by kernel_rfl) (by kernel_rfl) (by kernel_rfl) (by kernel_rfl) (by kernel_rfl)
  (fun N => SayAll.cons (laws_sameInts.say N) (SayAll.nil)) (fun a s => by kernel_rfl)

/-! ### loop.example/g00206/laws.FnCut: function 7 -/
noncomputable def laws_FnCut.H : Hints := hintsOf [(5000006, .join [⟨.normal, [1, 5, 6, 8], [7, 54], [.one (.own 0), ak_b], [.rows .str, .rows .str], [⟨[], [], [], []⟩]⟩]),
  (5000014, .join [⟨.normal, [1, 5, 6, 8, 11, 56, 57], [55, 78], [.one (.own 0), ak_b], [.rows .str, .rows .str, .cells [ck_i, ck_i, ck_i, ck_s, ck_s, ck_s, ck_s, .sh (.rows (.int .i64))]], [⟨[], [], [], []⟩]⟩]),
  (2000010, .loop ⟨.normal, [1, 5, 6, 8, 56], [11, 55, 57], [ak_s, .one (.own 0), ak_i], [.rows .str, .rows .str], [⟨[], [], [], []⟩]⟩ [⟨.ret, [], [4], [ak_b], [.rows .str, .rows .str], [⟨[], [], [], []⟩]⟩, ⟨(.exit 0), [1, 5, 8], [11], [ak_s], [.rows .str, .rows .str], [⟨[], [], [], []⟩]⟩]),
  (5000017, .join [⟨.normal, [1], [85], [ak_b], [.rows .str, .rows .str], [⟨[], [], [], []⟩]⟩]),
  (5000022, .join [⟨.normal, [20], [17, 19, 111], [.one (.ptr 3 0), .one (.ptr 4 0), ak_b], [.rows .str, .rows .str, .rows (.int .i64), .cells [ck_i, ck_i, ck_i, ck_s, ck_s, ck_s, ck_s, .sh (.rows (.int .i64))], .cells [ck_i, ck_i, ck_i, ck_s, ck_s, ck_s, ck_s, .sh (.rows (.int .i64))], .cells [ck_i, ck_i, ck_i, ck_s, ck_s, ck_s, ck_s, .sh (.rows (.int .i64))]], [⟨[], [], [], []⟩]⟩])]
noncomputable def laws_FnCut.says (N : Nat) : List Say := [spec_DrawCutDatagram.S N, impl_CutDatagram.S N, spec_CutDatagram.S N, laws_sameTexts.SB N, impl_ReadHeader.S N, spec_DrawVersionAnswer.S N, impl_VersionAnswer_2.S N, spec_VersionAnswer_2.S N, laws_sameHeaders.S N, impl_GoodHeader.S N]
noncomputable def laws_FnCut.call (N : Nat) : CallK := callBy (laws_FnCut.says N)
noncomputable def laws_FnCut.qt (N : Nat) : FuncId → List PV → Sig → Cl := qtBy (laws_FnCut.says N)
noncomputable def laws_FnCut.l0.hd : Alt := ⟨.normal, [1, 5, 6, 8, 56], [11, 55, 57], [ak_s, .one (.own 0), ak_i], [.rows .str, .rows .str], [⟨[], [], [], []⟩]⟩
noncomputable def laws_FnCut.l0.outs : List Alt := [⟨.ret, [], [4], [ak_b], [.rows .str, .rows .str], [⟨[], [], [], []⟩]⟩, ⟨(.exit 0), [1, 5, 8], [11], [ak_s], [.rows .str, .rows .str], [⟨[], [], [], []⟩]⟩]
noncomputable def laws_FnCut.l0 (N : Nat) (o1 : (List Int)) (d : ByteArray) (e : Int) (t : Bool) (t56 : Int) (r : ByteArray) (t57 : Int) (p0 : (List ByteArray)) (p1 : (List ByteArray)) : Option (((Bool × Unit) × ((List ByteArray) × ((List ByteArray) × Unit))) ⊕ ((ByteArray × Unit) × ((List ByteArray) × ((List ByteArray) × Unit)))) :=
  loopK Try.prog laws_FnCut.call laws_FnCut.qt laws_FnCut.H (codeAt (bodyOf Try.f7) [1, 1, 1, 1, 1, 1, 1, 0, 1, 0, 0]) 2 laws_FnCut.l0.hd laws_FnCut.l0.outs [(1, .rows false (.int .u8) o1), (5, .v (.string d)), (6, .v (.int .i64 e)), (8, .v (.bool t)), (56, .v (.int .i64 t56))] N ((r, ((), (t57, ()))), (p0, (p1, ())))
noncomputable def laws_FnCut (N : Nat) (G : (List Int)) (o : (List Int)) : Option ((Bool × Unit) × Unit) :=
  ofFn Try.prog laws_FnCut.call laws_FnCut.qt laws_FnCut.H N Try.f7 [.one (.sh (.rows (.int .u8))), .one (.sh (.rows (.int .u8)))] [] [ak_b] [] [⟨[], [], [], []⟩] (G, (o, ())) ()
noncomputable def laws_FnCut.S (N : Nat) : Say := ⟨false, 7, [.one (.sh (.rows (.int .u8))), .one (.sh (.rows (.int .u8)))], [], [ak_b], [], fun a s => laws_FnCut N a.1 a.2.1⟩
set_option maxRecDepth 100000 in
theorem laws_FnCut.l0.eq (N : Nat) (o1 : (List Int)) (d : ByteArray) (e : Int) (t : Bool) (t56 : Int) (r : ByteArray) (t57 : Int) (p0 : (List ByteArray)) (p1 : (List ByteArray)) : laws_FnCut.l0 (N + 1) o1 d e t t56 r t57 p0 p1 =
 sel (decide (t57 < t56))
  (
  chk ((decide (0 ≤ t57)) && (decide (t57 < (p0.length : Int)))) (
  chk (decide (r.size + (p0.getD (Int.toNat t57) (⟨#[]⟩ : ByteArray)).size ≤ 9223372036854775807)) (
  andK (impl_ReadHeader N (p0.getD (Int.toNat t57) (⟨#[]⟩ : ByteArray)) e) fun u6 =>
  andK (α := ((Unit × (Bool × Unit)) × ((List ByteArray) × ((List ByteArray) × ((Int × (Int × (Int × (ByteArray × (ByteArray × (ByteArray × (ByteArray × ((List Int) × Unit)))))))) × Unit))))) (
   sel (!(decide (u6.1.2.2.1 = 0)))
    (
    some ((((), (true, ())), (p0, (p1, ((u6.1.1.1, (u6.1.1.2.1, (u6.1.1.2.2.1, (u6.1.1.2.2.2.1, (u6.1.1.2.2.2.2.1, (u6.1.1.2.2.2.2.2.1, (u6.1.1.2.2.2.2.2.2.1, (u6.1.1.2.2.2.2.2.2.2.1, ())))))))), ()))))))
    (
    some ((((), ((!(decide (u6.1.2.1 = ((p0.getD (Int.toNat t57) (⟨#[]⟩ : ByteArray)).size : Int)))), ())), (p0, (p1, ((u6.1.1.1, (u6.1.1.2.1, (u6.1.1.2.2.1, (u6.1.1.2.2.2.1, (u6.1.1.2.2.2.2.1, (u6.1.1.2.2.2.2.2.1, (u6.1.1.2.2.2.2.2.2.1, (u6.1.1.2.2.2.2.2.2.2.1, ())))))))), ()))))))) fun j7 =>
  sel j7.1.2.1
   (
   some (.inl ((false, ()), (j7.2.1, (j7.2.2.1, ())))))
   (
   laws_FnCut.l0 N o1 d e t t56 (r ++ (p0.getD (Int.toNat t57) (⟨#[]⟩ : ByteArray))) (IntKind.i64.wrap (t57 + 1)) j7.2.1 j7.2.2.1))))
  (
  some (.inr (((r, ()), (p0, (p1, ())))))) := by kernel_rfl
set_option maxRecDepth 100000 in
theorem laws_FnCut.eq (N : Nat) (G : (List Int)) (o : (List Int)) : laws_FnCut N G o =
 sel (decide (1048576 < (IntKind.i64.wrap ((G.length : Int) + (o.length : Int)))))
  (
  some ((true, ()), ()))
  (
  andK (spec_DrawCutDatagram N G) fun u1 =>
  andK (impl_CutDatagram N u1.1.1 u1.1.2.1) fun u2 =>
  andK (spec_CutDatagram N u1.1.1 u1.1.2.1) fun u3 =>
  andK (α := ((Unit × (Bool × Unit)) × ((List ByteArray) × ((List ByteArray) × Unit)))) (
   sel (!(u2.1.2.1 == u3.1.2.1))
    (
    some ((((), (true, ())), (u2.2.1, (u3.2.1, ())))))
    (
    andK (laws_sameTexts N u2.2.1 u3.2.1) fun u4 =>
    some ((((), ((!u4.1.1), ())), (u2.2.1, (u3.2.1, ())))))) fun j5 =>
  sel j5.1.2.1
   (
   some ((false, ()), ()))
   (
   andK (laws_FnCut.l0 N o u1.1.1 u1.1.2.1 u2.1.2.1 (j5.2.1.length : Int) (⟨#[]⟩ : ByteArray) 0 j5.2.1 j5.2.2.1) fun l8 =>
   orK l8 (fun x9 =>
    some ((x9.1.1, ()), ()))
    (fun x10 =>
    andK (α := ((Bool × Unit) × ((List ByteArray) × ((List ByteArray) × Unit)))) (
     sel u2.1.2.1
      (
      some ((((!(decide (x10.1.1 = u1.1.1))), ()), (x10.2.1, (x10.2.2.1, ())))))
      (
      some (((false, ()), (x10.2.1, (x10.2.2.1, ())))))) fun j11 =>
    sel j11.1.1
     (
     some ((false, ()), ()))
     (
     andK (spec_DrawVersionAnswer N o) fun u12 =>
     andK (impl_VersionAnswer_2 N u12.1.1.1 u12.1.1.2.1 u12.1.1.2.2.1 u12.1.1.2.2.2.1 u12.1.1.2.2.2.2.1 u12.1.1.2.2.2.2.2.1 u12.1.1.2.2.2.2.2.2.1 u12.1.1.2.2.2.2.2.2.2.1 u12.2.1) fun u13 =>
     andK (spec_VersionAnswer_2 N u12.1.1.1 u12.1.1.2.1 u12.1.1.2.2.1 u12.1.1.2.2.2.1 u12.1.1.2.2.2.2.1 u12.1.1.2.2.2.2.2.1 u12.1.1.2.2.2.2.2.2.1 u12.1.1.2.2.2.2.2.2.2.1 u13.2.1) fun u14 =>
     andK (α := ((Unit × (Unit × (Bool × Unit))) × ((List ByteArray) × ((List ByteArray) × ((List Int) × ((Int × (Int × (Int × (ByteArray × (ByteArray × (ByteArray × (ByteArray × ((List Int) × Unit)))))))) × ((Int × (Int × (Int × (ByteArray × (ByteArray × (ByteArray × (ByteArray × ((List Int) × Unit)))))))) × ((Int × (Int × (Int × (ByteArray × (ByteArray × (ByteArray × (ByteArray × ((List Int) × Unit)))))))) × Unit)))))))) (
      sel (!(u13.1.2.1 == u14.1.2.1))
       (
       some ((((), ((), (true, ()))), (j11.2.1, (j11.2.2.1, (u14.2.1, ((u12.1.1.1, (u12.1.1.2.1, (u12.1.1.2.2.1, (u12.1.1.2.2.2.1, (u12.1.1.2.2.2.2.1, (u12.1.1.2.2.2.2.2.1, (u12.1.1.2.2.2.2.2.2.1, (u12.1.1.2.2.2.2.2.2.2.1, ())))))))), ((u13.1.1.1, (u13.1.1.2.1, (u13.1.1.2.2.1, (u13.1.1.2.2.2.1, (u13.1.1.2.2.2.2.1, (u13.1.1.2.2.2.2.2.1, (u13.1.1.2.2.2.2.2.2.1, (u13.1.1.2.2.2.2.2.2.2.1, ())))))))), ((u14.1.1.1, (u14.1.1.2.1, (u14.1.1.2.2.1, (u14.1.1.2.2.2.1, (u14.1.1.2.2.2.2.1, (u14.1.1.2.2.2.2.2.1, (u14.1.1.2.2.2.2.2.2.1, (u14.1.1.2.2.2.2.2.2.2.1, ())))))))), ())))))))))
       (
       andK (laws_sameHeaders N u13.1.1.1 u13.1.1.2.1 u13.1.1.2.2.1 u13.1.1.2.2.2.1 u13.1.1.2.2.2.2.1 u13.1.1.2.2.2.2.2.1 u13.1.1.2.2.2.2.2.2.1 u13.1.1.2.2.2.2.2.2.2.1 u14.1.1.1 u14.1.1.2.1 u14.1.1.2.2.1 u14.1.1.2.2.2.1 u14.1.1.2.2.2.2.1 u14.1.1.2.2.2.2.2.1 u14.1.1.2.2.2.2.2.2.1 u14.1.1.2.2.2.2.2.2.2.1) fun u15 =>
       some ((((), ((), ((!u15.1.1), ()))), (j11.2.1, (j11.2.2.1, (u14.2.1, ((u12.1.1.1, (u12.1.1.2.1, (u12.1.1.2.2.1, (u12.1.1.2.2.2.1, (u12.1.1.2.2.2.2.1, (u12.1.1.2.2.2.2.2.1, (u12.1.1.2.2.2.2.2.2.1, (u12.1.1.2.2.2.2.2.2.2.1, ())))))))), ((u13.1.1.1, (u13.1.1.2.1, (u13.1.1.2.2.1, (u13.1.1.2.2.2.1, (u13.1.1.2.2.2.2.1, (u13.1.1.2.2.2.2.2.1, (u13.1.1.2.2.2.2.2.2.1, (u13.1.1.2.2.2.2.2.2.2.1, ())))))))), ((u14.1.1.1, (u14.1.1.2.1, (u14.1.1.2.2.1, (u14.1.1.2.2.2.1, (u14.1.1.2.2.2.2.1, (u14.1.1.2.2.2.2.2.1, (u14.1.1.2.2.2.2.2.2.1, (u14.1.1.2.2.2.2.2.2.2.1, ())))))))), ())))))))))) fun j16 =>
     sel j16.1.2.2.1
      (
      some ((false, ()), ()))
      (
      sel (!u13.1.2.1)
       (
       some ((true, ()), ()))
       (
       sel (decide (j16.2.2.2.2.2.1.2.2.2.1 = j16.2.2.2.2.1.2.2.2.2.1))
        (
        sel (decide (j16.2.2.2.2.2.1.2.2.2.2.1 = j16.2.2.2.2.1.2.2.2.1))
         (
         andK (impl_GoodHeader N j16.2.2.2.2.2.1.1 j16.2.2.2.2.2.1.2.1 j16.2.2.2.2.2.1.2.2.1 j16.2.2.2.2.2.1.2.2.2.1 j16.2.2.2.2.2.1.2.2.2.2.1 j16.2.2.2.2.2.1.2.2.2.2.2.1 j16.2.2.2.2.2.1.2.2.2.2.2.2.1 j16.2.2.2.2.2.1.2.2.2.2.2.2.2.1) fun u17 =>
         some ((u17.1.1, ()), ()))
         (
         some ((false, ()), ())))
        (
        some ((false, ()), ())))))))) := by kernel_rfl
set_option maxRecDepth 100000 in
theorem laws_FnCut.say (N : Nat) : SayOk Try.prog (laws_FnCut.S N) := sayOk_mk (N := N) (H := laws_FnCut.H) (preps := [⟨[], [], [], []⟩]) (l := laws_FnCut.says) (fn := Try.f7) (c := bodyOf Try.f7)
  (by kernel_rfl) (by kernel_rfl) (by kernel_rfl) (by kernel_rfl) (by kernel_rfl) (by kernel_rfl) (by kernel_rfl)
  (fun N => SayAll.cons (spec_DrawCutDatagram.say N) (SayAll.cons (impl_CutDatagram.say N) (SayAll.cons (spec_CutDatagram.say N) (SayAll.cons (laws_sameTexts.sayB N) (SayAll.cons (impl_ReadHeader.say N) (SayAll.cons (spec_DrawVersionAnswer.say N) (SayAll.cons (impl_VersionAnswer_2.say N) (SayAll.cons (spec_VersionAnswer_2.say N) (SayAll.cons (laws_sameHeaders.say N) (SayAll.cons (impl_GoodHeader.say N) (SayAll.nil))))))))))) (fun a s => by kernel_rfl)

end Go.Proofs.Yteichkkbhpdjcaa.GFnCut
