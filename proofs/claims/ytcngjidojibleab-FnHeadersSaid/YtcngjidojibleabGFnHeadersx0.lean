-- Written by a program of this session out of the translation; Lean checks it.
import Derived.Test.YtcngjidojibleabPmLaw
import Derived.Test.YtcngjidojibleabProg
set_option linter.unusedVariables false
namespace Go.Proofs.Ytcngjidojibleab.GFnHeaders
open Go Go.Proofs Go.Proofs.YtcngjidojibleabPM

/-! ### (*loop.example/g00206/spec.l1Cur).next: function 104 -/
noncomputable def spec_l1Cur_next.H : Hints := hintsOf [(4, .join [⟨.normal, [], [0, 3], [.one (.ptr 0 0), ak_i], [.cells [.sh (.rows (.int .u8)), ck_i, .sh (.int .u64)]], [⟨[], [], [], []⟩]⟩])]
noncomputable def spec_l1Cur_next.says (N : Nat) : List Say := []
noncomputable def spec_l1Cur_next.call (N : Nat) : CallK := callBy (spec_l1Cur_next.says N)
noncomputable def spec_l1Cur_next.qt (N : Nat) : FuncId → List PV → Sig → Cl := qtBy (spec_l1Cur_next.says N)
noncomputable def spec_l1Cur_next (N : Nat) (p0_0 : (List Int)) (p0_1 : Int) (p0_2 : Int) : Option ((Int × Unit) × (((List Int) × (Int × (Int × Unit))) × Unit)) :=
  ofFn Try.prog spec_l1Cur_next.call spec_l1Cur_next.qt spec_l1Cur_next.H N Try.f104 [.one (.ptr 0 0)] [.cells [.sh (.rows (.int .u8)), ck_i, .sh (.int .u64)]] [ak_i] [.cells [.sh (.rows (.int .u8)), ck_i, .sh (.int .u64)]] [⟨[], [], [], []⟩] ((), ()) ((p0_0, (p0_1, (p0_2, ()))), ())
noncomputable def spec_l1Cur_next.S (N : Nat) : Say := ⟨false, 104, [.one (.ptr 0 0)], [.cells [.sh (.rows (.int .u8)), ck_i, .sh (.int .u64)]], [ak_i], [.cells [.sh (.rows (.int .u8)), ck_i, .sh (.int .u64)]], fun a s => spec_l1Cur_next N s.1.1 s.1.2.1 s.1.2.2.1⟩
set_option maxRecDepth 100000 in
theorem spec_l1Cur_next.eq (N : Nat) (p0_0 : (List Int)) (p0_1 : Int) (p0_2 : Int) : spec_l1Cur_next N p0_0 p0_1 p0_2 =
 andK (α := ((Unit × (Int × Unit)) × (((List Int) × (Int × (Int × Unit))) × Unit))) (
  sel (decide (p0_1 < (p0_0.length : Int)))
   (
   chk ((decide (0 ≤ p0_1)) && (decide (p0_1 < (p0_0.length : Int)))) (
   some ((((), ((IntKind.i64.wrap (p0_0.getD (Int.toNat p0_1) 0)), ())), ((p0_0, (p0_1, (p0_2, ()))), ())))))
   (
   some ((((), (0, ())), ((p0_0, (p0_1, (p0_2, ()))), ()))))) fun j1 =>
 sel (decide ((IntKind.i64.wrap (j1.2.1.2.1 + 1)) ≤ (j1.2.1.1.length : Int)))
  (
  some ((j1.1.2.1, ()), ((j1.2.1.1, ((IntKind.i64.wrap (j1.2.1.2.1 + 1)), ((IntKind.u64.wrap ((IntKind.u64.wrap ((IntKind.u64.wrap (j1.2.1.2.2.1 * 6364136223846793005)) + (IntKind.u64.wrap j1.1.2.1))) + 1442695040888963407)), ()))), ())))
  (
  some (((IntKind.i64.wrap (Go.bits .and .u64 (shrI .u64 (IntKind.u64.wrap ((IntKind.u64.wrap ((IntKind.u64.wrap (j1.2.1.2.2.1 * 6364136223846793005)) + (IntKind.u64.wrap j1.1.2.1))) + 1442695040888963407)) 40) 255)), ()), ((j1.2.1.1, ((IntKind.i64.wrap (j1.2.1.2.1 + 1)), ((IntKind.u64.wrap ((IntKind.u64.wrap ((IntKind.u64.wrap (j1.2.1.2.2.1 * 6364136223846793005)) + (IntKind.u64.wrap j1.1.2.1))) + 1442695040888963407)), ()))), ()))) := by kernel_rfl
set_option maxRecDepth 100000 in
theorem spec_l1Cur_next.say (N : Nat) : SayOk Try.prog (spec_l1Cur_next.S N) := sayOk_mk (N := N) (H := spec_l1Cur_next.H) (preps := [⟨[], [], [], []⟩]) (l := spec_l1Cur_next.says) (fn := Try.f104) (c := bodyOf Try.f104)
  (by kernel_rfl) (by kernel_rfl) (by kernel_rfl) (by kernel_rfl) (by kernel_rfl) (by kernel_rfl) (by kernel_rfl)
  (fun N => SayAll.nil) (fun a s => by kernel_rfl)

/-! ### (*loop.example/g00206/spec.l1Cur).pick: function 47 -/
noncomputable def spec_l1Cur_pick.H : Hints := hintsOf []
noncomputable def spec_l1Cur_pick.says (N : Nat) : List Say := [spec_l1Cur_next.S N]
noncomputable def spec_l1Cur_pick.call (N : Nat) : CallK := callBy (spec_l1Cur_pick.says N)
noncomputable def spec_l1Cur_pick.qt (N : Nat) : FuncId → List PV → Sig → Cl := qtBy (spec_l1Cur_pick.says N)
noncomputable def spec_l1Cur_pick (N : Nat) (n : Int) (p0_0 : (List Int)) (p0_1 : Int) (p0_2 : Int) : Option ((Int × Unit) × (((List Int) × (Int × (Int × Unit))) × Unit)) :=
  ofFn Try.prog spec_l1Cur_pick.call spec_l1Cur_pick.qt spec_l1Cur_pick.H N Try.f47 [.one (.ptr 0 0), ak_i] [.cells [.sh (.rows (.int .u8)), ck_i, .sh (.int .u64)]] [ak_i] [.cells [.sh (.rows (.int .u8)), ck_i, .sh (.int .u64)]] [⟨[], [], [], []⟩] ((), (n, ())) ((p0_0, (p0_1, (p0_2, ()))), ())
noncomputable def spec_l1Cur_pick.S (N : Nat) : Say := ⟨false, 47, [.one (.ptr 0 0), ak_i], [.cells [.sh (.rows (.int .u8)), ck_i, .sh (.int .u64)]], [ak_i], [.cells [.sh (.rows (.int .u8)), ck_i, .sh (.int .u64)]], fun a s => spec_l1Cur_pick N a.2.1 s.1.1 s.1.2.1 s.1.2.2.1⟩
set_option maxRecDepth 100000 in
theorem spec_l1Cur_pick.eq (N : Nat) (n : Int) (p0_0 : (List Int)) (p0_1 : Int) (p0_2 : Int) : spec_l1Cur_pick N n p0_0 p0_1 p0_2 =
 sel (decide (n ≤ 1))
  (
  some ((0, ()), ((p0_0, (p0_1, (p0_2, ()))), ())))
  (
  andK (spec_l1Cur_next N p0_0 p0_1 p0_2) fun u1 =>
  sel (decide (200 < n))
   (
   andK (spec_l1Cur_next N u1.2.1.1 u1.2.1.2.1 u1.2.1.2.2.1) fun u2 =>
   chk (n != 0) (
   some (((Int.tmod (IntKind.i64.wrap ((IntKind.i64.wrap (u1.1.1 * 256)) + u2.1.1)) n), ()), ((u2.2.1.1, (u2.2.1.2.1, (u2.2.1.2.2.1, ()))), ()))))
   (
   chk (n != 0) (
   some (((Int.tmod u1.1.1 n), ()), ((u1.2.1.1, (u1.2.1.2.1, (u1.2.1.2.2.1, ()))), ()))))) := by kernel_rfl
set_option maxRecDepth 100000 in
theorem spec_l1Cur_pick.say (N : Nat) : SayOk Try.prog (spec_l1Cur_pick.S N) := sayOk_mk (N := N) (H := spec_l1Cur_pick.H) (preps := [⟨[], [], [], []⟩]) (l := spec_l1Cur_pick.says) (fn := Try.f47) (c := bodyOf Try.f47)
  (by kernel_rfl) (by kernel_rfl) (by kernel_rfl) (by kernel_rfl) (by kernel_rfl) (by kernel_rfl) (by kernel_rfl)
  (fun N => SayAll.cons (spec_l1Cur_next.say N) (SayAll.nil)) (fun a s => by kernel_rfl)

/-! ### (*loop.example/g00206/spec.l1Cur).one: function 45 -/
noncomputable def spec_l1Cur_one.H : Hints := hintsOf []
noncomputable def spec_l1Cur_one.says (N : Nat) : List Say := [spec_l1Cur_pick.S N]
noncomputable def spec_l1Cur_one.call (N : Nat) : CallK := callBy (spec_l1Cur_one.says N)
noncomputable def spec_l1Cur_one.qt (N : Nat) : FuncId → List PV → Sig → Cl := qtBy (spec_l1Cur_one.says N)
noncomputable def spec_l1Cur_one (N : Nat) (n : Int) (p0_0 : (List Int)) (p0_1 : Int) (p0_2 : Int) : Option ((Bool × Unit) × (((List Int) × (Int × (Int × Unit))) × Unit)) :=
  ofFn Try.prog spec_l1Cur_one.call spec_l1Cur_one.qt spec_l1Cur_one.H N Try.f45 [.one (.ptr 0 0), ak_i] [.cells [.sh (.rows (.int .u8)), ck_i, .sh (.int .u64)]] [ak_b] [.cells [.sh (.rows (.int .u8)), ck_i, .sh (.int .u64)]] [⟨[], [], [], []⟩] ((), (n, ())) ((p0_0, (p0_1, (p0_2, ()))), ())
noncomputable def spec_l1Cur_one.S (N : Nat) : Say := ⟨false, 45, [.one (.ptr 0 0), ak_i], [.cells [.sh (.rows (.int .u8)), ck_i, .sh (.int .u64)]], [ak_b], [.cells [.sh (.rows (.int .u8)), ck_i, .sh (.int .u64)]], fun a s => spec_l1Cur_one N a.2.1 s.1.1 s.1.2.1 s.1.2.2.1⟩
set_option maxRecDepth 100000 in
theorem spec_l1Cur_one.eq (N : Nat) (n : Int) (p0_0 : (List Int)) (p0_1 : Int) (p0_2 : Int) : spec_l1Cur_one N n p0_0 p0_1 p0_2 =
 andK (spec_l1Cur_pick N n p0_0 p0_1 p0_2) fun u1 =>
 some (((decide (u1.1.1 = 0)), ()), ((u1.2.1.1, (u1.2.1.2.1, (u1.2.1.2.2.1, ()))), ())) := by kernel_rfl
set_option maxRecDepth 100000 in
theorem spec_l1Cur_one.say (N : Nat) : SayOk Try.prog (spec_l1Cur_one.S N) := sayOk_mk (N := N) (H := spec_l1Cur_one.H) (preps := [⟨[], [], [], []⟩]) (l := spec_l1Cur_one.says) (fn := Try.f45) (c := bodyOf Try.f45)
  (by kernel_rfl) (by kernel_rfl) (by kernel_rfl) (by kernel_rfl) (by kernel_rfl) (by kernel_rfl) (by kernel_rfl)
  (fun N => SayAll.cons (spec_l1Cur_pick.say N) (SayAll.nil)) (fun a s => by kernel_rfl)

/-! ### (*loop.example/g00206/spec.l1Cur).among: function 58 -/
noncomputable def spec_l1Cur_among.H : Hints := hintsOf []
noncomputable def spec_l1Cur_among.says (N : Nat) : List Say := [spec_l1Cur_pick.S N]
noncomputable def spec_l1Cur_among.call (N : Nat) : CallK := callBy (spec_l1Cur_among.says N)
noncomputable def spec_l1Cur_among.qt (N : Nat) : FuncId → List PV → Sig → Cl := qtBy (spec_l1Cur_among.says N)
noncomputable def spec_l1Cur_among (N : Nat) (list : (List Int)) (p0_0 : (List Int)) (p0_1 : Int) (p0_2 : Int) : Option ((Int × Unit) × (((List Int) × (Int × (Int × Unit))) × Unit)) :=
  ofFn Try.prog spec_l1Cur_among.call spec_l1Cur_among.qt spec_l1Cur_among.H N Try.f58 [.one (.ptr 0 0), .one (.sh (.rows (.int .i64)))] [.cells [.sh (.rows (.int .u8)), ck_i, .sh (.int .u64)]] [ak_i] [.cells [.sh (.rows (.int .u8)), ck_i, .sh (.int .u64)]] [⟨[], [], [], []⟩] ((), (list, ())) ((p0_0, (p0_1, (p0_2, ()))), ())
noncomputable def spec_l1Cur_among.S (N : Nat) : Say := ⟨false, 58, [.one (.ptr 0 0), .one (.sh (.rows (.int .i64)))], [.cells [.sh (.rows (.int .u8)), ck_i, .sh (.int .u64)]], [ak_i], [.cells [.sh (.rows (.int .u8)), ck_i, .sh (.int .u64)]], fun a s => spec_l1Cur_among N a.2.1 s.1.1 s.1.2.1 s.1.2.2.1⟩
set_option maxRecDepth 100000 in
theorem spec_l1Cur_among.eq (N : Nat) (list : (List Int)) (p0_0 : (List Int)) (p0_1 : Int) (p0_2 : Int) : spec_l1Cur_among N list p0_0 p0_1 p0_2 =
 andK (spec_l1Cur_pick N (list.length : Int) p0_0 p0_1 p0_2) fun u1 =>
 chk ((decide (0 ≤ u1.1.1)) && (decide (u1.1.1 < (list.length : Int)))) (
 some (((list.getD (Int.toNat u1.1.1) 0), ()), ((u1.2.1.1, (u1.2.1.2.1, (u1.2.1.2.2.1, ()))), ()))) := by kernel_rfl
set_option maxRecDepth 100000 in
theorem spec_l1Cur_among.say (N : Nat) : SayOk Try.prog (spec_l1Cur_among.S N) := sayOk_mk (N := N) (H := spec_l1Cur_among.H) (preps := [⟨[], [], [], []⟩]) (l := spec_l1Cur_among.says) (fn := Try.f58) (c := bodyOf Try.f58)
  (by kernel_rfl) (by kernel_rfl) (by kernel_rfl) (by kernel_rfl) (by kernel_rfl) (by kernel_rfl) (by kernel_rfl)
  (fun N => SayAll.cons (spec_l1Cur_pick.say N) (SayAll.nil)) (fun a s => by kernel_rfl)

/-! ### (*loop.example/g00206/spec.l1Cur).sizedBytes: function 46 -/
noncomputable def spec_l1Cur_sizedBytes.H : Hints := hintsOf [(2000003, .loop ⟨.normal, [10], [0, 5, 11], [.one (.ptr 0 0), .one (.own 1), ak_i], [.cells [.sh (.rows (.int .u8)), ck_i, .sh (.int .u64)], .rows (.int .u8)], [⟨[], [], [], []⟩]⟩ [⟨(.exit 0), [], [5], [.one (.own 1)], [.cells [.sh (.rows (.int .u8)), ck_i, .sh (.int .u64)], .rows (.int .u8)], [⟨[], [], [], []⟩]⟩])]
noncomputable def spec_l1Cur_sizedBytes.says (N : Nat) : List Say := [spec_l1Cur_pick.S N]
noncomputable def spec_l1Cur_sizedBytes.call (N : Nat) : CallK := callBy (spec_l1Cur_sizedBytes.says N)
noncomputable def spec_l1Cur_sizedBytes.qt (N : Nat) : FuncId → List PV → Sig → Cl := qtBy (spec_l1Cur_sizedBytes.says N)
noncomputable def spec_l1Cur_sizedBytes.l0.hd : Alt := ⟨.normal, [10], [0, 5, 11], [.one (.ptr 0 0), .one (.own 1), ak_i], [.cells [.sh (.rows (.int .u8)), ck_i, .sh (.int .u64)], .rows (.int .u8)], [⟨[], [], [], []⟩]⟩
noncomputable def spec_l1Cur_sizedBytes.l0.outs : List Alt := [⟨(.exit 0), [], [5], [.one (.own 1)], [.cells [.sh (.rows (.int .u8)), ck_i, .sh (.int .u64)], .rows (.int .u8)], [⟨[], [], [], []⟩]⟩]
noncomputable def spec_l1Cur_sizedBytes.l0 (N : Nat) (t10 : Int) (t11 : Int) (p0_01 : (List Int)) (p0_11 : Int) (p0_21 : Int) (p1 : (List Int)) : Option ((Unit × Unit) × (((List Int) × (Int × (Int × Unit))) × ((List Int) × Unit))) :=
  loopK Try.prog spec_l1Cur_sizedBytes.call spec_l1Cur_sizedBytes.qt spec_l1Cur_sizedBytes.H (codeAt (bodyOf Try.f46) [1, 1, 0, 1, 0, 0]) 2 spec_l1Cur_sizedBytes.l0.hd spec_l1Cur_sizedBytes.l0.outs [(10, .v (.int .i64 t10))] N (((), ((), (t11, ()))), ((p0_01, (p0_11, (p0_21, ()))), (p1, ())))
noncomputable def spec_l1Cur_sizedBytes (N : Nat) (n : Int) (p0_0 : (List Int)) (p0_1 : Int) (p0_2 : Int) : Option ((Unit × Unit) × (((List Int) × (Int × (Int × Unit))) × ((List Int) × Unit))) :=
  ofFn Try.prog spec_l1Cur_sizedBytes.call spec_l1Cur_sizedBytes.qt spec_l1Cur_sizedBytes.H N Try.f46 [.one (.ptr 0 0), ak_i] [.cells [.sh (.rows (.int .u8)), ck_i, .sh (.int .u64)]] [.one (.own 1)] [.cells [.sh (.rows (.int .u8)), ck_i, .sh (.int .u64)], .rows (.int .u8)] [⟨[], [], [], [1]⟩] ((), (n, ())) ((p0_0, (p0_1, (p0_2, ()))), ())
noncomputable def spec_l1Cur_sizedBytes.S (N : Nat) : Say := ⟨false, 46, [.one (.ptr 0 0), ak_i], [.cells [.sh (.rows (.int .u8)), ck_i, .sh (.int .u64)]], [.one (.own 1)], [.cells [.sh (.rows (.int .u8)), ck_i, .sh (.int .u64)], .rows (.int .u8)], fun a s => spec_l1Cur_sizedBytes N a.2.1 s.1.1 s.1.2.1 s.1.2.2.1⟩
set_option maxRecDepth 100000 in
theorem spec_l1Cur_sizedBytes.l0.eq (N : Nat) (t10 : Int) (t11 : Int) (p0_01 : (List Int)) (p0_11 : Int) (p0_21 : Int) (p1 : (List Int)) : spec_l1Cur_sizedBytes.l0 (N + 1) t10 t11 p0_01 p0_11 p0_21 p1 =
 sel (decide (t11 < t10))
  (
  andK (spec_l1Cur_pick N 256 p0_01 p0_11 p0_21) fun u1 =>
  chk ((decide (0 ≤ t11)) && (decide (t11 < (p1.length : Int)))) (
  spec_l1Cur_sizedBytes.l0 N t10 (IntKind.i64.wrap (t11 + 1)) u1.2.1.1 u1.2.1.2.1 u1.2.1.2.2.1 (p1.set (Int.toNat t11) (IntKind.u8.wrap u1.1.1))))
  (
  some ((((), ()), ((p0_01, (p0_11, (p0_21, ()))), (p1, ()))))) := by kernel_rfl
set_option maxRecDepth 100000 in
theorem spec_l1Cur_sizedBytes.eq (N : Nat) (n : Int) (p0_0 : (List Int)) (p0_1 : Int) (p0_2 : Int) : spec_l1Cur_sizedBytes N n p0_0 p0_1 p0_2 =
 chk ((decide (0 ≤ n)) && ((smallI n) && (decide (n = n)))) (
 andK (spec_l1Cur_sizedBytes.l0 N ((List.replicate (Int.toNat n) (0 : Int)).length : Int) 0 p0_0 p0_1 p0_2 (List.replicate (Int.toNat n) (0 : Int))) fun l2 =>
 some (((), ()), ((l2.2.1.1, (l2.2.1.2.1, (l2.2.1.2.2.1, ()))), (l2.2.2.1, ())))) := by kernel_rfl
set_option maxRecDepth 100000 in
theorem spec_l1Cur_sizedBytes.say (N : Nat) : SayOk Try.prog (spec_l1Cur_sizedBytes.S N) := sayOk_mk (N := N) (H := spec_l1Cur_sizedBytes.H) (preps := [⟨[], [], [], [1]⟩]) (l := spec_l1Cur_sizedBytes.says) (fn := Try.f46) (c := bodyOf Try.f46)
  (by kernel_rfl) (by kernel_rfl) (by kernel_rfl) (by kernel_rfl) (by kernel_rfl) (by kernel_rfl) (by kernel_rfl)
  (fun N => SayAll.cons (spec_l1Cur_pick.say N) (SayAll.nil)) (fun a s => by kernel_rfl)

/-! ### (*loop.example/g00206/spec.l1Cur).id: function 114 -/
noncomputable def spec_l1Cur_id.H : Hints := hintsOf [(4, .join [⟨.normal, [], [0, 3], [.one (.ptr 0 0), ak_i], [.cells [.sh (.rows (.int .u8)), ck_i, .sh (.int .u64)]], [⟨[], [], [], []⟩]⟩])]
noncomputable def spec_l1Cur_id.says (N : Nat) : List Say := [spec_l1Cur_pick.S N, spec_l1Cur_one.S N, spec_l1Cur_among.S N, spec_l1Cur_sizedBytes.S N]
noncomputable def spec_l1Cur_id.call (N : Nat) : CallK := callBy (spec_l1Cur_id.says N)
noncomputable def spec_l1Cur_id.qt (N : Nat) : FuncId → List PV → Sig → Cl := qtBy (spec_l1Cur_id.says N)
noncomputable def spec_l1Cur_id (N : Nat) (p0_0 : (List Int)) (p0_1 : Int) (p0_2 : Int) : Option ((ByteArray × Unit) × (((List Int) × (Int × (Int × Unit))) × Unit)) :=
  ofFn Try.prog spec_l1Cur_id.call spec_l1Cur_id.qt spec_l1Cur_id.H N Try.f114 [.one (.ptr 0 0)] [.cells [.sh (.rows (.int .u8)), ck_i, .sh (.int .u64)]] [ak_s] [.cells [.sh (.rows (.int .u8)), ck_i, .sh (.int .u64)]] [⟨[], [], [], []⟩] ((), ()) ((p0_0, (p0_1, (p0_2, ()))), ())
noncomputable def spec_l1Cur_id.S (N : Nat) : Say := ⟨false, 114, [.one (.ptr 0 0)], [.cells [.sh (.rows (.int .u8)), ck_i, .sh (.int .u64)]], [ak_s], [.cells [.sh (.rows (.int .u8)), ck_i, .sh (.int .u64)]], fun a s => spec_l1Cur_id N s.1.1 s.1.2.1 s.1.2.2.1⟩
set_option maxRecDepth 100000 in
theorem spec_l1Cur_id.eq (N : Nat) (p0_0 : (List Int)) (p0_1 : Int) (p0_2 : Int) : spec_l1Cur_id N p0_0 p0_1 p0_2 =
 andK (spec_l1Cur_pick N 10 p0_0 p0_1 p0_2) fun u1 =>
 andK (α := ((Unit × (Int × Unit)) × (((List Int) × (Int × (Int × Unit))) × Unit))) (
  andK (spec_l1Cur_one N 12 u1.2.1.1 u1.2.1.2.1 u1.2.1.2.2.1) fun u2 =>
  sel u2.1.1
   (
   andK (spec_l1Cur_among N [20, 21, 0] u2.2.1.1 u2.2.1.2.1 u2.2.1.2.2.1) fun u3 =>
   some ((((), (u3.1.1, ())), ((u3.2.1.1, (u3.2.1.2.1, (u3.2.1.2.2.1, ()))), ()))))
   (
   some ((((), (u1.1.1, ())), ((u2.2.1.1, (u2.2.1.2.1, (u2.2.1.2.2.1, ()))), ()))))) fun j4 =>
 andK (spec_l1Cur_sizedBytes N j4.1.2.1 j4.2.1.1 j4.2.1.2.1 j4.2.1.2.2.1) fun u5 =>
 some (((strL u5.2.2.1), ()), ((u5.2.1.1, (u5.2.1.2.1, (u5.2.1.2.2.1, ()))), ())) := by kernel_rfl
set_option maxRecDepth 100000 in
theorem spec_l1Cur_id.say (N : Nat) : SayOk Try.prog (spec_l1Cur_id.S N) := sayOk_mk (N := N) (H := spec_l1Cur_id.H) (preps := [⟨[], [], [], []⟩]) (l := spec_l1Cur_id.says) (fn := Try.f114) (c := bodyOf Try.f114)
  (by kernel_rfl) (by kernel_rfl) (by kernel_rfl) (by kernel_rfl) (by kernel_rfl) (by kernel_rfl) (by kernel_rfl)
  (fun N => SayAll.cons (spec_l1Cur_pick.say N) (SayAll.cons (spec_l1Cur_one.say N) (SayAll.cons (spec_l1Cur_among.say N) (SayAll.cons (spec_l1Cur_sizedBytes.say N) (SayAll.nil))))) (fun a s => by kernel_rfl)

/-! ### (*loop.example/g00206/spec.l1Cur).header: function 126 -/
noncomputable def spec_l1Cur_header.H : Hints := hintsOf [(5, .join [⟨.normal, [], [0, 2, 3], [.one (.ptr 0 0), .one (.ptr 1 0), .one (.ptr 3 0)], [.cells [.sh (.rows (.int .u8)), ck_i, .sh (.int .u64)], .cells [ck_i, ck_i, ck_i, ck_s, ck_s, ck_s, ck_s, .nil], .rows (.int .u8), .cells [ck_i, ck_i, ck_i, ck_s, ck_s, ck_s, ck_s, .nil]], [⟨[], [], [], []⟩]⟩]),
  (5000005, .join [⟨.normal, [], [0, 2, 3, 34], [.one (.ptr 0 0), .one (.ptr 1 0), .one (.ptr 3 0), ak_b], [.cells [.sh (.rows (.int .u8)), ck_i, .sh (.int .u64)], .cells [ck_i, ck_i, ck_i, ck_s, ck_s, ck_s, ck_s, .nil], .rows (.int .u8), .cells [ck_i, ck_i, ck_i, ck_s, ck_s, ck_s, ck_s, .nil]], [⟨[], [], [], []⟩]⟩]),
  (7, .join [⟨.normal, [], [0, 2, 3], [.one (.ptr 0 0), .one (.ptr 1 0), .one (.ptr 3 0)], [.cells [.sh (.rows (.int .u8)), ck_i, .sh (.int .u64)], .cells [ck_i, ck_i, ck_i, ck_s, ck_s, ck_s, ck_s, .nil], .rows (.int .u8), .cells [ck_i, ck_i, ck_i, ck_s, ck_s, ck_s, ck_s, .nil]], [⟨[], [], [], []⟩]⟩]),
  (2000011, .loop ⟨.normal, [], [0, 2, 3, 4], [.one (.ptr 0 0), .one (.ptr 1 0), .one (.ptr 3 0), ak_i], [.cells [.sh (.rows (.int .u8)), ck_i, .sh (.int .u64)], .cells [ck_i, ck_i, ck_i, ck_s, ck_s, ck_s, ck_s, .nil], .rows (.int .u8), .cells [ck_i, ck_i, ck_i, ck_s, ck_s, ck_s, ck_s, .own 4], .rows (.int .i64)], [⟨[], [(3, (7, (.int .i64)))], [], [4]⟩, ⟨[], [], [], [4]⟩]⟩ [⟨(.exit 0), [], [0, 2, 3], [.one (.ptr 0 0), .one (.ptr 1 0), .one (.ptr 3 0)], [.cells [.sh (.rows (.int .u8)), ck_i, .sh (.int .u64)], .cells [ck_i, ck_i, ck_i, ck_s, ck_s, ck_s, ck_s, .nil], .rows (.int .u8), .cells [ck_i, ck_i, ck_i, ck_s, ck_s, ck_s, ck_s, .own 4], .rows (.int .i64)], [⟨[], [], [], [4]⟩]⟩]),
  (14, .join [⟨.normal, [], [0, 2, 3], [.one (.ptr 0 0), .one (.ptr 1 0), .one (.ptr 3 0)], [.cells [.sh (.rows (.int .u8)), ck_i, .sh (.int .u64)], .cells [ck_i, ck_i, ck_i, ck_s, ck_s, ck_s, ck_s, .nil], .rows (.int .u8), .cells [ck_i, ck_i, ck_i, ck_s, ck_s, ck_s, ck_s, .own 4], .rows (.int .i64)], [⟨[], [], [], [4]⟩, ⟨[], [(3, (7, (.int .i64)))], [], [4]⟩]⟩])]
noncomputable def spec_l1Cur_header.says (N : Nat) : List Say := [spec_l1Cur_pick.S N, spec_l1Cur_id.S N, spec_l1Cur_sizedBytes.S N, spec_l1Cur_among.S N, spec_l1Cur_one.S N]
noncomputable def spec_l1Cur_header.call (N : Nat) : CallK := callBy (spec_l1Cur_header.says N)
noncomputable def spec_l1Cur_header.qt (N : Nat) : FuncId → List PV → Sig → Cl := qtBy (spec_l1Cur_header.says N)
noncomputable def spec_l1Cur_header.l0.hd : Alt := ⟨.normal, [], [0, 2, 3, 4], [.one (.ptr 0 0), .one (.ptr 1 0), .one (.ptr 3 0), ak_i], [.cells [.sh (.rows (.int .u8)), ck_i, .sh (.int .u64)], .cells [ck_i, ck_i, ck_i, ck_s, ck_s, ck_s, ck_s, .nil], .rows (.int .u8), .cells [ck_i, ck_i, ck_i, ck_s, ck_s, ck_s, ck_s, .own 4], .rows (.int .i64)], [⟨[], [(3, (7, (.int .i64)))], [], [4]⟩, ⟨[], [], [], [4]⟩]⟩
noncomputable def spec_l1Cur_header.l0.outs : List Alt := [⟨(.exit 0), [], [0, 2, 3], [.one (.ptr 0 0), .one (.ptr 1 0), .one (.ptr 3 0)], [.cells [.sh (.rows (.int .u8)), ck_i, .sh (.int .u64)], .cells [ck_i, ck_i, ck_i, ck_s, ck_s, ck_s, ck_s, .nil], .rows (.int .u8), .cells [ck_i, ck_i, ck_i, ck_s, ck_s, ck_s, ck_s, .own 4], .rows (.int .i64)], [⟨[], [], [], [4]⟩]⟩]
noncomputable def spec_l1Cur_header.l0 (N : Nat) (o : Int) (p0_01 : (List Int)) (p0_11 : Int) (p0_21 : Int) (p1_0 : Int) (p1_1 : Int) (p1_2 : Int) (p1_3 : ByteArray) (p1_4 : ByteArray) (p1_5 : ByteArray) (p1_6 : ByteArray) (p2 : (List Int)) (p3_0 : Int) (p3_1 : Int) (p3_2 : Int) (p3_3 : ByteArray) (p3_4 : ByteArray) (p3_5 : ByteArray) (p3_6 : ByteArray) (p4 : (List Int)) : Option ((Unit × (Unit × (Unit × Unit))) × (((List Int) × (Int × (Int × Unit))) × ((Int × (Int × (Int × (ByteArray × (ByteArray × (ByteArray × (ByteArray × (Unit × Unit)))))))) × ((List Int) × ((Int × (Int × (Int × (ByteArray × (ByteArray × (ByteArray × (ByteArray × (Unit × Unit)))))))) × ((List Int) × Unit)))))) :=
  loopK Try.prog spec_l1Cur_header.call spec_l1Cur_header.qt spec_l1Cur_header.H (codeAt (bodyOf Try.f126) [1, 1, 1, 1, 0, 1, 0, 1, 1, 1, 0, 0]) 4 spec_l1Cur_header.l0.hd spec_l1Cur_header.l0.outs [] N (((), ((), ((), (o, ())))), ((p0_01, (p0_11, (p0_21, ()))), ((p1_0, (p1_1, (p1_2, (p1_3, (p1_4, (p1_5, (p1_6, ((), ())))))))), (p2, ((p3_0, (p3_1, (p3_2, (p3_3, (p3_4, (p3_5, (p3_6, ((), ())))))))), (p4, ()))))))
noncomputable def spec_l1Cur_header (N : Nat) (p0_0 : (List Int)) (p0_1 : Int) (p0_2 : Int) : Option (((Int × (Int × (Int × (ByteArray × (ByteArray × (ByteArray × (ByteArray × (Unit × Unit)))))))) × Unit) × (((List Int) × (Int × (Int × Unit))) × ((List Int) × Unit))) :=
  ofFn Try.prog spec_l1Cur_header.call spec_l1Cur_header.qt spec_l1Cur_header.H N Try.f126 [.one (.ptr 0 0)] [.cells [.sh (.rows (.int .u8)), ck_i, .sh (.int .u64)]] [.agg [ck_i, ck_i, ck_i, ck_s, ck_s, ck_s, ck_s, .own 1]] [.cells [.sh (.rows (.int .u8)), ck_i, .sh (.int .u64)], .rows (.int .i64)] [⟨[], [], [], [4]⟩] ((), ()) ((p0_0, (p0_1, (p0_2, ()))), ())
noncomputable def spec_l1Cur_header.S (N : Nat) : Say := ⟨false, 126, [.one (.ptr 0 0)], [.cells [.sh (.rows (.int .u8)), ck_i, .sh (.int .u64)]], [.agg [ck_i, ck_i, ck_i, ck_s, ck_s, ck_s, ck_s, .own 1]], [.cells [.sh (.rows (.int .u8)), ck_i, .sh (.int .u64)], .rows (.int .i64)], fun a s => spec_l1Cur_header N s.1.1 s.1.2.1 s.1.2.2.1⟩
set_option maxRecDepth 100000 in
theorem spec_l1Cur_header.l0.eq (N : Nat) (o : Int) (p0_01 : (List Int)) (p0_11 : Int) (p0_21 : Int) (p1_0 : Int) (p1_1 : Int) (p1_2 : Int) (p1_3 : ByteArray) (p1_4 : ByteArray) (p1_5 : ByteArray) (p1_6 : ByteArray) (p2 : (List Int)) (p3_0 : Int) (p3_1 : Int) (p3_2 : Int) (p3_3 : ByteArray) (p3_4 : ByteArray) (p3_5 : ByteArray) (p3_6 : ByteArray) (p4 : (List Int)) : spec_l1Cur_header.l0 (N + 1) o p0_01 p0_11 p0_21 p1_0 p1_1 p1_2 p1_3 p1_4 p1_5 p1_6 p2 p3_0 p3_1 p3_2 p3_3 p3_4 p3_5 p3_6 p4 =
 sel (decide (0 < o))
  (
  andK (spec_l1Cur_among N [0, 1, 4294967295, 7] p0_01 p0_11 p0_21) fun u15 =>
  chk (decide (p4.length + 1 < most)) (
  spec_l1Cur_header.l0 N (IntKind.i64.wrap (o - 1)) u15.2.1.1 u15.2.1.2.1 u15.2.1.2.2.1 p1_0 p1_1 p1_2 p1_3 p1_4 p1_5 p1_6 p2 p3_0 p3_1 p3_2 p3_3 p3_4 p3_5 p3_6 (p4 ++ [u15.1.1])))
  (
  some ((((), ((), ((), ()))), ((p0_01, (p0_11, (p0_21, ()))), ((p1_0, (p1_1, (p1_2, (p1_3, (p1_4, (p1_5, (p1_6, ((), ())))))))), (p2, ((p3_0, (p3_1, (p3_2, (p3_3, (p3_4, (p3_5, (p3_6, ((), ())))))))), (p4, ())))))))) := by kernel_rfl
set_option maxRecDepth 100000 in
theorem spec_l1Cur_header.eq (N : Nat) (p0_0 : (List Int)) (p0_1 : Int) (p0_2 : Int) : spec_l1Cur_header N p0_0 p0_1 p0_2 =
 andK (spec_l1Cur_pick N 6 p0_0 p0_1 p0_2) fun u1 =>
 andK (spec_l1Cur_pick N 16 u1.2.1.1 u1.2.1.2.1 u1.2.1.2.2.1) fun u2 =>
 andK (spec_l1Cur_id N u2.2.1.1 u2.2.1.2.1 u2.2.1.2.2.1) fun u3 =>
 andK (spec_l1Cur_pick N 20 u3.2.1.1 u3.2.1.2.1 u3.2.1.2.2.1) fun u4 =>
 andK (spec_l1Cur_sizedBytes N (IntKind.i64.wrap (1 + u4.1.1)) u4.2.1.1 u4.2.1.2.1 u4.2.1.2.2.1) fun u5 =>
 andK (α := ((Unit × (Unit × (Unit × Unit))) × (((List Int) × (Int × (Int × Unit))) × ((Int × (Int × (Int × (ByteArray × (ByteArray × (ByteArray × (ByteArray × (Unit × Unit)))))))) × ((List Int) × ((Int × (Int × (Int × (ByteArray × (ByteArray × (ByteArray × (ByteArray × (Unit × Unit)))))))) × Unit)))))) (
  sel (!(decide (u1.1.1 = 5)))
   (
   andK (spec_l1Cur_id N u5.2.1.1 u5.2.1.2.1 u5.2.1.2.2.1) fun u6 =>
   andK (spec_l1Cur_among N [1, 1, 4294967295, 1798521807] u6.2.1.1 u6.2.1.2.1 u6.2.1.2.2.1) fun u7 =>
   some ((((), ((), ((), ()))), ((u7.2.1.1, (u7.2.1.2.1, (u7.2.1.2.2.1, ()))), ((0, (0, (0, ((⟨#[]⟩ : ByteArray), ((⟨#[]⟩ : ByteArray), ((⟨#[]⟩ : ByteArray), ((⟨#[]⟩ : ByteArray), ((), ())))))))), (u5.2.2.1, ((u1.1.1, (u2.1.1, (u7.1.1, (u3.1.1, (u6.1.1, ((⟨#[]⟩ : ByteArray), ((strL u5.2.2.1), ((), ())))))))), ())))))))
   (
   some ((((), ((), ((), ()))), ((u5.2.1.1, (u5.2.1.2.1, (u5.2.1.2.2.1, ()))), ((0, (0, (0, ((⟨#[]⟩ : ByteArray), ((⟨#[]⟩ : ByteArray), ((⟨#[]⟩ : ByteArray), ((⟨#[]⟩ : ByteArray), ((), ())))))))), (u5.2.2.1, ((u1.1.1, (u2.1.1, (0, (u3.1.1, ((⟨#[]⟩ : ByteArray), ((⟨#[]⟩ : ByteArray), ((strL u5.2.2.1), ((), ())))))))), ())))))))) fun j8 =>
 andK (α := ((Unit × (Unit × (Unit × Unit))) × (((List Int) × (Int × (Int × Unit))) × ((Int × (Int × (Int × (ByteArray × (ByteArray × (ByteArray × (ByteArray × (Unit × Unit)))))))) × ((List Int) × ((Int × (Int × (Int × (ByteArray × (ByteArray × (ByteArray × (ByteArray × (Unit × Unit)))))))) × Unit)))))) (
  andK (α := ((Unit × (Unit × (Unit × (Bool × Unit)))) × (((List Int) × (Int × (Int × Unit))) × ((Int × (Int × (Int × (ByteArray × (ByteArray × (ByteArray × (ByteArray × (Unit × Unit)))))))) × ((List Int) × ((Int × (Int × (Int × (ByteArray × (ByteArray × (ByteArray × (ByteArray × (Unit × Unit)))))))) × Unit)))))) (
   sel (decide (j8.2.2.2.2.1.1 = 0))
    (
    andK (spec_l1Cur_one N 2 j8.2.1.1 j8.2.1.2.1 j8.2.1.2.2.1) fun u9 =>
    some ((((), ((), ((), (u9.1.1, ())))), ((u9.2.1.1, (u9.2.1.2.1, (u9.2.1.2.2.1, ()))), ((j8.2.2.1.1, (j8.2.2.1.2.1, (j8.2.2.1.2.2.1, (j8.2.2.1.2.2.2.1, (j8.2.2.1.2.2.2.2.1, (j8.2.2.1.2.2.2.2.2.1, (j8.2.2.1.2.2.2.2.2.2.1, ((), ())))))))), (j8.2.2.2.1, ((j8.2.2.2.2.1.1, (j8.2.2.2.2.1.2.1, (j8.2.2.2.2.1.2.2.1, (j8.2.2.2.2.1.2.2.2.1, (j8.2.2.2.2.1.2.2.2.2.1, (j8.2.2.2.2.1.2.2.2.2.2.1, (j8.2.2.2.2.1.2.2.2.2.2.2.1, ((), ())))))))), ())))))))
    (
    some ((((), ((), ((), (false, ())))), ((j8.2.1.1, (j8.2.1.2.1, (j8.2.1.2.2.1, ()))), ((j8.2.2.1.1, (j8.2.2.1.2.1, (j8.2.2.1.2.2.1, (j8.2.2.1.2.2.2.1, (j8.2.2.1.2.2.2.2.1, (j8.2.2.1.2.2.2.2.2.1, (j8.2.2.1.2.2.2.2.2.2.1, ((), ())))))))), (j8.2.2.2.1, ((j8.2.2.2.2.1.1, (j8.2.2.2.2.1.2.1, (j8.2.2.2.2.1.2.2.1, (j8.2.2.2.2.1.2.2.2.1, (j8.2.2.2.2.1.2.2.2.2.1, (j8.2.2.2.2.1.2.2.2.2.2.1, (j8.2.2.2.2.1.2.2.2.2.2.2.1, ((), ())))))))), ())))))))) fun j10 =>
  sel j10.1.2.2.2.1
   (
   andK (spec_l1Cur_pick N 80 j10.2.1.1 j10.2.1.2.1 j10.2.1.2.2.1) fun u11 =>
   andK (spec_l1Cur_sizedBytes N u11.1.1 u11.2.1.1 u11.2.1.2.1 u11.2.1.2.2.1) fun u12 =>
   some ((((), ((), ((), ()))), ((u12.2.1.1, (u12.2.1.2.1, (u12.2.1.2.2.1, ()))), ((j10.2.2.1.1, (j10.2.2.1.2.1, (j10.2.2.1.2.2.1, (j10.2.2.1.2.2.2.1, (j10.2.2.1.2.2.2.2.1, (j10.2.2.1.2.2.2.2.2.1, (j10.2.2.1.2.2.2.2.2.2.1, ((), ())))))))), (j10.2.2.2.1, ((j10.2.2.2.2.1.1, (j10.2.2.2.2.1.2.1, (j10.2.2.2.2.1.2.2.1, (j10.2.2.2.2.1.2.2.2.1, (j10.2.2.2.2.1.2.2.2.2.1, ((strL u12.2.2.1), (j10.2.2.2.2.1.2.2.2.2.2.2.1, ((), ())))))))), ())))))))
   (
   some ((((), ((), ((), ()))), ((j10.2.1.1, (j10.2.1.2.1, (j10.2.1.2.2.1, ()))), ((j10.2.2.1.1, (j10.2.2.1.2.1, (j10.2.2.1.2.2.1, (j10.2.2.1.2.2.2.1, (j10.2.2.1.2.2.2.2.1, (j10.2.2.1.2.2.2.2.2.1, (j10.2.2.1.2.2.2.2.2.2.1, ((), ())))))))), (j10.2.2.2.1, ((j10.2.2.2.2.1.1, (j10.2.2.2.2.1.2.1, (j10.2.2.2.2.1.2.2.1, (j10.2.2.2.2.1.2.2.2.1, (j10.2.2.2.2.1.2.2.2.2.1, (j10.2.2.2.2.1.2.2.2.2.2.1, (j10.2.2.2.2.1.2.2.2.2.2.2.1, ((), ())))))))), ())))))))) fun j13 =>
 andK (α := ((Unit × (Unit × (Unit × Unit))) × (((List Int) × (Int × (Int × Unit))) × ((Int × (Int × (Int × (ByteArray × (ByteArray × (ByteArray × (ByteArray × (Unit × Unit)))))))) × ((List Int) × ((Int × (Int × (Int × (ByteArray × (ByteArray × (ByteArray × (ByteArray × (Unit × Unit)))))))) × ((List Int) × Unit))))))) (
  sel (decide (j13.2.2.2.2.1.1 = 4))
   (
   andK (spec_l1Cur_pick N 4 j13.2.1.1 j13.2.1.2.1 j13.2.1.2.2.1) fun u14 =>
   andK (spec_l1Cur_header.l0 N (IntKind.i64.wrap (1 + u14.1.1)) u14.2.1.1 u14.2.1.2.1 u14.2.1.2.2.1 j13.2.2.1.1 j13.2.2.1.2.1 j13.2.2.1.2.2.1 j13.2.2.1.2.2.2.1 j13.2.2.1.2.2.2.2.1 j13.2.2.1.2.2.2.2.2.1 j13.2.2.1.2.2.2.2.2.2.1 j13.2.2.2.1 j13.2.2.2.2.1.1 j13.2.2.2.2.1.2.1 0 j13.2.2.2.2.1.2.2.2.1 j13.2.2.2.2.1.2.2.2.2.1 j13.2.2.2.2.1.2.2.2.2.2.1 (⟨#[]⟩ : ByteArray) []) fun l16 =>
   some ((((), ((), ((), ()))), ((l16.2.1.1, (l16.2.1.2.1, (l16.2.1.2.2.1, ()))), ((l16.2.2.1.1, (l16.2.2.1.2.1, (l16.2.2.1.2.2.1, (l16.2.2.1.2.2.2.1, (l16.2.2.1.2.2.2.2.1, (l16.2.2.1.2.2.2.2.2.1, (l16.2.2.1.2.2.2.2.2.2.1, ((), ())))))))), (l16.2.2.2.1, ((l16.2.2.2.2.1.1, (l16.2.2.2.2.1.2.1, (l16.2.2.2.2.1.2.2.1, (l16.2.2.2.2.1.2.2.2.1, (l16.2.2.2.2.1.2.2.2.2.1, (l16.2.2.2.2.1.2.2.2.2.2.1, (l16.2.2.2.2.1.2.2.2.2.2.2.1, ((), ())))))))), (l16.2.2.2.2.2.1, ()))))))))
   (
   some ((((), ((), ((), ()))), ((j13.2.1.1, (j13.2.1.2.1, (j13.2.1.2.2.1, ()))), ((j13.2.2.1.1, (j13.2.2.1.2.1, (j13.2.2.1.2.2.1, (j13.2.2.1.2.2.2.1, (j13.2.2.1.2.2.2.2.1, (j13.2.2.1.2.2.2.2.2.1, (j13.2.2.1.2.2.2.2.2.2.1, ((), ())))))))), (j13.2.2.2.1, ((j13.2.2.2.2.1.1, (j13.2.2.2.2.1.2.1, (j13.2.2.2.2.1.2.2.1, (j13.2.2.2.2.1.2.2.2.1, (j13.2.2.2.2.1.2.2.2.2.1, (j13.2.2.2.2.1.2.2.2.2.2.1, (j13.2.2.2.2.1.2.2.2.2.2.2.1, ((), ())))))))), ([], ()))))))))) fun j17 =>
 andK (spec_l1Cur_pick N 40 j17.2.1.1 j17.2.1.2.1 j17.2.1.2.2.1) fun u18 =>
 sel (decide (u18.1.1 = 0))
  (
  some (((j17.2.2.2.2.1.1, (16, (j17.2.2.2.2.1.2.2.1, (j17.2.2.2.2.1.2.2.2.1, (j17.2.2.2.2.1.2.2.2.2.1, (j17.2.2.2.2.1.2.2.2.2.2.1, (j17.2.2.2.2.1.2.2.2.2.2.2.1, ((), ())))))))), ()), ((u18.2.1.1, (u18.2.1.2.1, (u18.2.1.2.2.1, ()))), (j17.2.2.2.2.2.1, ()))))
  (
  sel (decide (u18.1.1 = 1))
   (
   andK (spec_l1Cur_among N [(-1), 0, 4294967296] u18.2.1.1 u18.2.1.2.1 u18.2.1.2.2.1) fun u19 =>
   some (((j17.2.2.2.2.1.1, (j17.2.2.2.2.1.2.1, (u19.1.1, (j17.2.2.2.2.1.2.2.2.1, (j17.2.2.2.2.1.2.2.2.2.1, (j17.2.2.2.2.1.2.2.2.2.2.1, (j17.2.2.2.2.1.2.2.2.2.2.2.1, ((), ())))))))), ()), ((u19.2.1.1, (u19.2.1.2.1, (u19.2.1.2.2.1, ()))), (j17.2.2.2.2.2.1, ()))))
   (
   sel (decide (u18.1.1 = 2))
    (
    andK (spec_l1Cur_among N [0, 1200, 1201] u18.2.1.1 u18.2.1.2.1 u18.2.1.2.2.1) fun u20 =>
    chk ((decide (0 ≤ u20.1.1)) && ((smallI u20.1.1) && (decide (u20.1.1 = u20.1.1)))) (
    some (((j17.2.2.2.2.1.1, (j17.2.2.2.2.1.2.1, (j17.2.2.2.2.1.2.2.1, (j17.2.2.2.2.1.2.2.2.1, (j17.2.2.2.2.1.2.2.2.2.1, (j17.2.2.2.2.1.2.2.2.2.2.1, ((strL (List.replicate (Int.toNat u20.1.1) (0 : Int))), ((), ())))))))), ()), ((u20.2.1.1, (u20.2.1.2.1, (u20.2.1.2.2.1, ()))), (j17.2.2.2.2.2.1, ())))))
    (
    sel (decide (u18.1.1 = 3))
     (
     some (((j17.2.2.2.2.1.1, (j17.2.2.2.2.1.2.1, (j17.2.2.2.2.1.2.2.1, (j17.2.2.2.2.1.2.2.2.1, (j17.2.2.2.2.1.2.2.2.2.1, ((⟨#[116]⟩ : ByteArray), (j17.2.2.2.2.1.2.2.2.2.2.2.1, ((), ())))))))), ()), ((u18.2.1.1, (u18.2.1.2.1, (u18.2.1.2.2.1, ()))), (j17.2.2.2.2.2.1, ()))))
     (
     some (((j17.2.2.2.2.1.1, (j17.2.2.2.2.1.2.1, (j17.2.2.2.2.1.2.2.1, (j17.2.2.2.2.1.2.2.2.1, (j17.2.2.2.2.1.2.2.2.2.1, (j17.2.2.2.2.1.2.2.2.2.2.1, (j17.2.2.2.2.1.2.2.2.2.2.2.1, ((), ())))))))), ()), ((u18.2.1.1, (u18.2.1.2.1, (u18.2.1.2.2.1, ()))), (j17.2.2.2.2.2.1, ()))))))) := by kernel_rfl
set_option maxRecDepth 100000 in
theorem spec_l1Cur_header.say (N : Nat) : SayOk Try.prog (spec_l1Cur_header.S N) := sayOk_mk (N := N) (H := spec_l1Cur_header.H) (preps := [⟨[], [], [], [4]⟩]) (l := spec_l1Cur_header.says) (fn := Try.f126) (c := bodyOf Try.f126)
  (by kernel_rfl) (by kernel_rfl) (by kernel_rfl) (by kernel_rfl) (by kernel_rfl) (by kernel_rfl) (by kernel_rfl)
  (fun N => SayAll.cons (spec_l1Cur_pick.say N) (SayAll.cons (spec_l1Cur_id.say N) (SayAll.cons (spec_l1Cur_sizedBytes.say N) (SayAll.cons (spec_l1Cur_among.say N) (SayAll.cons (spec_l1Cur_one.say N) (SayAll.nil)))))) (fun a s => by kernel_rfl)

/-! ### loop.example/g00206/spec.DrawGoodHeader: function 83 -/
noncomputable def spec_DrawGoodHeader.H : Hints := hintsOf []
noncomputable def spec_DrawGoodHeader.says (N : Nat) : List Say := [spec_l1Cur_header.S N]
noncomputable def spec_DrawGoodHeader.call (N : Nat) : CallK := callBy (spec_DrawGoodHeader.says N)
noncomputable def spec_DrawGoodHeader.qt (N : Nat) : FuncId → List PV → Sig → Cl := qtBy (spec_DrawGoodHeader.says N)
noncomputable def spec_DrawGoodHeader (N : Nat) (code : (List Int)) : Option (((Int × (Int × (Int × (ByteArray × (ByteArray × (ByteArray × (ByteArray × (Unit × Unit)))))))) × Unit) × ((List Int) × Unit)) :=
  ofFn Try.prog spec_DrawGoodHeader.call spec_DrawGoodHeader.qt spec_DrawGoodHeader.H N Try.f83 [.one (.sh (.rows (.int .u8)))] [] [.agg [ck_i, ck_i, ck_i, ck_s, ck_s, ck_s, ck_s, .own 0]] [.rows (.int .i64)] [⟨[], [], [], [2]⟩] (code, ()) ()
noncomputable def spec_DrawGoodHeader.S (N : Nat) : Say := ⟨false, 83, [.one (.sh (.rows (.int .u8)))], [], [.agg [ck_i, ck_i, ck_i, ck_s, ck_s, ck_s, ck_s, .own 0]], [.rows (.int .i64)], fun a s => spec_DrawGoodHeader N a.1⟩
set_option maxRecDepth 100000 in
theorem spec_DrawGoodHeader.eq (N : Nat) (code : (List Int)) : spec_DrawGoodHeader N code =
 andK (spec_l1Cur_header N code 0 0) fun u1 =>
 some (((u1.1.1.1, (u1.1.1.2.1, (u1.1.1.2.2.1, (u1.1.1.2.2.2.1, (u1.1.1.2.2.2.2.1, (u1.1.1.2.2.2.2.2.1, (u1.1.1.2.2.2.2.2.2.1, ((), ())))))))), ()), (u1.2.2.1, ())) := by kernel_rfl
set_option maxRecDepth 100000 in
theorem spec_DrawGoodHeader.say (N : Nat) : SayOk Try.prog (spec_DrawGoodHeader.S N) := sayOk_mk (N := N) (H := spec_DrawGoodHeader.H) (preps := [⟨[], [], [], [2]⟩]) (l := spec_DrawGoodHeader.says) (fn := Try.f83) (c := bodyOf Try.f83)
  (by kernel_rfl) (by kernel_rfl) (by kernel_rfl) (by kernel_rfl) (by kernel_rfl) (by kernel_rfl) (by kernel_rfl)
  (fun N => SayAll.cons (spec_l1Cur_header.say N) (SayAll.nil)) (fun a s => by kernel_rfl)

/-! ### loop.example/g00206/spec.DrawHeaderBytes: function 30 -/
noncomputable def spec_DrawHeaderBytes.H : Hints := hintsOf []
noncomputable def spec_DrawHeaderBytes.says (N : Nat) : List Say := [spec_DrawGoodHeader.S N]
noncomputable def spec_DrawHeaderBytes.call (N : Nat) : CallK := callBy (spec_DrawHeaderBytes.says N)
noncomputable def spec_DrawHeaderBytes.qt (N : Nat) : FuncId → List PV → Sig → Cl := qtBy (spec_DrawHeaderBytes.says N)
noncomputable def spec_DrawHeaderBytes (N : Nat) (code : (List Int)) : Option (((Int × (Int × (Int × (ByteArray × (ByteArray × (ByteArray × (ByteArray × (Unit × Unit)))))))) × Unit) × ((List Int) × Unit)) :=
  ofFn Try.prog spec_DrawHeaderBytes.call spec_DrawHeaderBytes.qt spec_DrawHeaderBytes.H N Try.f30 [.one (.sh (.rows (.int .u8)))] [] [.agg [ck_i, ck_i, ck_i, ck_s, ck_s, ck_s, ck_s, .own 0]] [.rows (.int .i64)] [⟨[], [], [], [1]⟩] (code, ()) ()
noncomputable def spec_DrawHeaderBytes.S (N : Nat) : Say := ⟨false, 30, [.one (.sh (.rows (.int .u8)))], [], [.agg [ck_i, ck_i, ck_i, ck_s, ck_s, ck_s, ck_s, .own 0]], [.rows (.int .i64)], fun a s => spec_DrawHeaderBytes N a.1⟩
set_option maxRecDepth 100000 in
theorem spec_DrawHeaderBytes.eq (N : Nat) (code : (List Int)) : spec_DrawHeaderBytes N code =
 andK (spec_DrawGoodHeader N code) fun u1 =>
 some (((u1.1.1.1, (u1.1.1.2.1, (u1.1.1.2.2.1, (u1.1.1.2.2.2.1, (u1.1.1.2.2.2.2.1, (u1.1.1.2.2.2.2.2.1, (u1.1.1.2.2.2.2.2.2.1, ((), ())))))))), ()), (u1.2.1, ())) := by kernel_rfl
set_option maxRecDepth 100000 in
theorem spec_DrawHeaderBytes.say (N : Nat) : SayOk Try.prog (spec_DrawHeaderBytes.S N) := sayOk_mk (N := N) (H := spec_DrawHeaderBytes.H) (preps := [⟨[], [], [], [1]⟩]) (l := spec_DrawHeaderBytes.says) (fn := Try.f30) (c := bodyOf Try.f30)
  (by kernel_rfl) (by kernel_rfl) (by kernel_rfl) (by kernel_rfl) (by kernel_rfl) (by kernel_rfl) (by kernel_rfl)
  (fun N => SayAll.cons (spec_DrawGoodHeader.say N) (SayAll.nil)) (fun a s => by kernel_rfl)

/-! ### loop.example/g00206/impl.in: function 59 -/
noncomputable def impl_in.H : Hints := hintsOf []
noncomputable def impl_in.says (N : Nat) : List Say := []
noncomputable def impl_in.call (N : Nat) : CallK := callBy (impl_in.says N)
noncomputable def impl_in.qt (N : Nat) : FuncId → List PV → Sig → Cl := qtBy (impl_in.says N)
noncomputable def impl_in (N : Nat) (n : Int) (low : Int) (high : Int) : Option ((Bool × Unit) × Unit) :=
  ofFn Try.prog impl_in.call impl_in.qt impl_in.H N Try.f59 [ak_i, ak_i, ak_i] [] [ak_b] [] [⟨[], [], [], []⟩] (n, (low, (high, ()))) ()
noncomputable def impl_in.S (N : Nat) : Say := ⟨false, 59, [ak_i, ak_i, ak_i], [], [ak_b], [], fun a s => impl_in N a.1 a.2.1 a.2.2.1⟩
set_option maxRecDepth 100000 in
theorem impl_in.eq (N : Nat) (n : Int) (low : Int) (high : Int) : impl_in N n low high =
 sel (decide (low ≤ n))
  (
  some (((decide (n ≤ high)), ()), ()))
  (
  some ((false, ()), ())) := by kernel_rfl
set_option maxRecDepth 100000 in
theorem impl_in.say (N : Nat) : SayOk Try.prog (impl_in.S N) := sayOk_mk (N := N) (H := impl_in.H) (preps := [⟨[], [], [], []⟩]) (l := impl_in.says) (fn := Try.f59) (c := bodyOf Try.f59)
  (by kernel_rfl) (by kernel_rfl) (by kernel_rfl) (by kernel_rfl) (by kernel_rfl) (by kernel_rfl) (by kernel_rfl)
  (fun N => SayAll.nil) (fun a s => by kernel_rfl)

/-! ### loop.example/g00206/impl.long: function 127 -/
noncomputable def impl_long.H : Hints := hintsOf []
noncomputable def impl_long.says (N : Nat) : List Say := [impl_in.S N]
noncomputable def impl_long.call (N : Nat) : CallK := callBy (impl_long.says N)
noncomputable def impl_long.qt (N : Nat) : FuncId → List PV → Sig → Cl := qtBy (impl_long.says N)
noncomputable def impl_long (N : Nat) (form : Int) : Option ((Bool × Unit) × Unit) :=
  ofFn Try.prog impl_long.call impl_long.qt impl_long.H N Try.f127 [ak_i] [] [ak_b] [] [⟨[], [], [], []⟩] (form, ()) ()
noncomputable def impl_long.S (N : Nat) : Say := ⟨false, 127, [ak_i], [], [ak_b], [], fun a s => impl_long N a.1⟩
set_option maxRecDepth 100000 in
theorem impl_long.eq (N : Nat) (form : Int) : impl_long N form =
 andK (impl_in N form 0 3) fun u1 =>
 some ((u1.1.1, ()), ()) := by kernel_rfl
set_option maxRecDepth 100000 in
theorem impl_long.say (N : Nat) : SayOk Try.prog (impl_long.S N) := sayOk_mk (N := N) (H := impl_long.H) (preps := [⟨[], [], [], []⟩]) (l := impl_long.says) (fn := Try.f127) (c := bodyOf Try.f127)
  (by kernel_rfl) (by kernel_rfl) (by kernel_rfl) (by kernel_rfl) (by kernel_rfl) (by kernel_rfl) (by kernel_rfl)
  (fun N => SayAll.cons (impl_in.say N) (SayAll.nil)) (fun a s => by kernel_rfl)

/-! ### loop.example/g00206/impl.isVersion: function 128 -/
noncomputable def impl_isVersion.H : Hints := hintsOf []
noncomputable def impl_isVersion.says (N : Nat) : List Say := [impl_in.S N]
noncomputable def impl_isVersion.call (N : Nat) : CallK := callBy (impl_isVersion.says N)
noncomputable def impl_isVersion.qt (N : Nat) : FuncId → List PV → Sig → Cl := qtBy (impl_isVersion.says N)
noncomputable def impl_isVersion (N : Nat) (n : Int) : Option ((Bool × Unit) × Unit) :=
  ofFn Try.prog impl_isVersion.call impl_isVersion.qt impl_isVersion.H N Try.f128 [ak_i] [] [ak_b] [] [⟨[], [], [], []⟩] (n, ()) ()
noncomputable def impl_isVersion.S (N : Nat) : Say := ⟨false, 128, [ak_i], [], [ak_b], [], fun a s => impl_isVersion N a.1⟩
set_option maxRecDepth 100000 in
theorem impl_isVersion.eq (N : Nat) (n : Int) : impl_isVersion N n =
 andK (impl_in N n 1 4294967295) fun u1 =>
 some ((u1.1.1, ()), ()) := by kernel_rfl
set_option maxRecDepth 100000 in
theorem impl_isVersion.say (N : Nat) : SayOk Try.prog (impl_isVersion.S N) := sayOk_mk (N := N) (H := impl_isVersion.H) (preps := [⟨[], [], [], []⟩]) (l := impl_isVersion.says) (fn := Try.f128) (c := bodyOf Try.f128)
  (by kernel_rfl) (by kernel_rfl) (by kernel_rfl) (by kernel_rfl) (by kernel_rfl) (by kernel_rfl) (by kernel_rfl)
  (fun N => SayAll.cons (impl_in.say N) (SayAll.nil)) (fun a s => by kernel_rfl)

/-! ### loop.example/g00206/impl.GoodHeader$1: function 130 -/
noncomputable def impl_GoodHeader_1.H : Hints := hintsOf []
noncomputable def impl_GoodHeader_1.says (N : Nat) : List Say := [impl_in.S N]
noncomputable def impl_GoodHeader_1.call (N : Nat) : CallK := callBy (impl_GoodHeader_1.says N)
noncomputable def impl_GoodHeader_1.qt (N : Nat) : FuncId → List PV → Sig → Cl := qtBy (impl_GoodHeader_1.says N)
noncomputable def impl_GoodHeader_1 (N : Nat) (n : Int) : Option ((Bool × Unit) × Unit) :=
  ofFn Try.prog impl_GoodHeader_1.call impl_GoodHeader_1.qt impl_GoodHeader_1.H N Try.f130 [ak_i] [] [ak_b] [] [⟨[], [], [], []⟩] (n, ()) ()
noncomputable def impl_GoodHeader_1.S (N : Nat) : Say := ⟨false, 130, [ak_i], [], [ak_b], [], fun a s => impl_GoodHeader_1 N a.1⟩
set_option maxRecDepth 100000 in
theorem impl_GoodHeader_1.eq (N : Nat) (n : Int) : impl_GoodHeader_1 N n =
 andK (impl_in N n 0 4294967295) fun u1 =>
 some (((!u1.1.1), ()), ()) := by kernel_rfl
set_option maxRecDepth 100000 in
theorem impl_GoodHeader_1.say (N : Nat) : SayOk Try.prog (impl_GoodHeader_1.S N) := sayOk_mk (N := N) (H := impl_GoodHeader_1.H) (preps := [⟨[], [], [], []⟩]) (l := impl_GoodHeader_1.says) (fn := Try.f130) (c := bodyOf Try.f130)
  (by kernel_rfl) (by kernel_rfl) (by kernel_rfl) (by kernel_rfl) (by kernel_rfl) (by kernel_rfl) (by kernel_rfl)
  (fun N => SayAll.cons (impl_in.say N) (SayAll.nil)) (fun a s => by kernel_rfl)

/-! ### slices.IndexFunc[[]int,int]: function 162 -/
noncomputable def slices_IndexFuncint_int.H : Hints := hintsOf [(2000002, .loop ⟨.normal, [0, 1, 7], [8], [ak_i], [], [⟨[], [], [], []⟩]⟩ [⟨.ret, [], [4], [ak_i], [], [⟨[], [], [], []⟩]⟩, ⟨(.exit 0), [], [], [], [], [⟨[], [], [], []⟩]⟩])]
noncomputable def slices_IndexFuncint_int.says (N : Nat) : List Say := [impl_GoodHeader_1.S N]
noncomputable def slices_IndexFuncint_int.call (N : Nat) : CallK := callBy (slices_IndexFuncint_int.says N)
noncomputable def slices_IndexFuncint_int.qt (N : Nat) : FuncId → List PV → Sig → Cl := qtBy (slices_IndexFuncint_int.says N)
noncomputable def slices_IndexFuncint_int.l0.hd : Alt := ⟨.normal, [0, 1, 7], [8], [ak_i], [], [⟨[], [], [], []⟩]⟩
noncomputable def slices_IndexFuncint_int.l0.outs : List Alt := [⟨.ret, [], [4], [ak_i], [], [⟨[], [], [], []⟩]⟩, ⟨(.exit 0), [], [], [], [], [⟨[], [], [], []⟩]⟩]
noncomputable def slices_IndexFuncint_int.l0 (N : Nat) (s1 : (List Int)) (t7 : Int) (t8 : Int) : Option (((Int × Unit) × Unit) ⊕ (Unit × Unit)) :=
  loopK Try.prog slices_IndexFuncint_int.call slices_IndexFuncint_int.qt slices_IndexFuncint_int.H (codeAt (bodyOf Try.f162) [1, 0, 1, 0, 0]) 0 slices_IndexFuncint_int.l0.hd slices_IndexFuncint_int.l0.outs [(0, .rows false (.int .i64) s1), (1, .fn 130 []), (7, .v (.int .i64 t7))] N ((t8, ()), ())
noncomputable def slices_IndexFuncint_int (N : Nat) (s : (List Int)) : Option ((Int × Unit) × Unit) :=
  ofFn Try.prog slices_IndexFuncint_int.call slices_IndexFuncint_int.qt slices_IndexFuncint_int.H N Try.f162 [.one (.sh (.rows (.int .i64))), .fn 130 []] [] [ak_i] [] [⟨[], [], [], []⟩] (s, ((), ())) ()
noncomputable def slices_IndexFuncint_int.S (N : Nat) : Say := ⟨false, 162, [.one (.sh (.rows (.int .i64))), .fn 130 []], [], [ak_i], [], fun a s => slices_IndexFuncint_int N a.1⟩
set_option maxRecDepth 100000 in
theorem slices_IndexFuncint_int.l0.eq (N : Nat) (s1 : (List Int)) (t7 : Int) (t8 : Int) : slices_IndexFuncint_int.l0 (N + 1) s1 t7 t8 =
 sel (decide (t8 < t7))
  (
  chk ((decide (0 ≤ t8)) && (decide (t8 < (s1.length : Int)))) (
  andK (impl_GoodHeader_1 N (s1.getD (Int.toNat t8) 0)) fun u1 =>
  sel u1.1.1
   (
   some (.inl ((t8, ()), ())))
   (
   slices_IndexFuncint_int.l0 N s1 t7 (IntKind.i64.wrap (t8 + 1)))))
  (
  some (.inr (((), ())))) := by kernel_rfl
set_option maxRecDepth 100000 in
theorem slices_IndexFuncint_int.eq (N : Nat) (s : (List Int)) : slices_IndexFuncint_int N s =
 andK (slices_IndexFuncint_int.l0 N s (s.length : Int) 0) fun l2 =>
 orK l2 (fun x3 =>
  some ((x3.1.1, ()), ()))
  (fun x4 =>
  some (((-1), ()), ())) := by kernel_rfl
set_option maxRecDepth 100000 in
theorem slices_IndexFuncint_int.say (N : Nat) : SayOk Try.prog (slices_IndexFuncint_int.S N) := sayOk_mk (N := N) (H := slices_IndexFuncint_int.H) (preps := [⟨[], [], [], []⟩]) (l := slices_IndexFuncint_int.says) (fn := Try.f162) (c := bodyOf Try.f162)
  (by kernel_rfl) (by kernel_rfl) (by kernel_rfl) (by kernel_rfl) (by kernel_rfl) (by kernel_rfl) (by kernel_rfl)
  (fun N => SayAll.cons (impl_GoodHeader_1.say N) (SayAll.nil)) (fun a s => by kernel_rfl)

/-! ### slices.ContainsFunc[[]int,int]: function 129 -/
noncomputable def slices_ContainsFuncint_int.H : Hints := hintsOf []
noncomputable def slices_ContainsFuncint_int.says (N : Nat) : List Say := [slices_IndexFuncint_int.S N]
noncomputable def slices_ContainsFuncint_int.call (N : Nat) : CallK := callBy (slices_ContainsFuncint_int.says N)
noncomputable def slices_ContainsFuncint_int.qt (N : Nat) : FuncId → List PV → Sig → Cl := qtBy (slices_ContainsFuncint_int.says N)
noncomputable def slices_ContainsFuncint_int (N : Nat) (s : (List Int)) : Option ((Bool × Unit) × Unit) :=
  ofFn Try.prog slices_ContainsFuncint_int.call slices_ContainsFuncint_int.qt slices_ContainsFuncint_int.H N Try.f129 [.one (.sh (.rows (.int .i64))), .fn 130 []] [] [ak_b] [] [⟨[], [], [], []⟩] (s, ((), ())) ()
noncomputable def slices_ContainsFuncint_int.S (N : Nat) : Say := ⟨false, 129, [.one (.sh (.rows (.int .i64))), .fn 130 []], [], [ak_b], [], fun a s => slices_ContainsFuncint_int N a.1⟩
set_option maxRecDepth 100000 in
theorem slices_ContainsFuncint_int.eq (N : Nat) (s : (List Int)) : slices_ContainsFuncint_int N s =
 andK (slices_IndexFuncint_int N s) fun u1 =>
 some (((decide (0 ≤ u1.1.1)), ()), ()) := by kernel_rfl
set_option maxRecDepth 100000 in
theorem slices_ContainsFuncint_int.say (N : Nat) : SayOk Try.prog (slices_ContainsFuncint_int.S N) := sayOk_mk (N := N) (H := slices_ContainsFuncint_int.H) (preps := [⟨[], [], [], []⟩]) (l := slices_ContainsFuncint_int.says) (fn := Try.f129) (c := bodyOf Try.f129)
  (by kernel_rfl) (by kernel_rfl) (by kernel_rfl) (by kernel_rfl) (by kernel_rfl) (by kernel_rfl) (by kernel_rfl)
  (fun N => SayAll.cons (slices_IndexFuncint_int.say N) (SayAll.nil)) (fun a s => by kernel_rfl)

/-! ### loop.example/g00206/impl.GoodHeader: function 84 -/
noncomputable def impl_GoodHeader.H : Hints := hintsOf [(5000001, .join [⟨.normal, [], [1, 31], [.one (.ptr 0 0), ak_b], [.cells [ck_i, ck_i, ck_i, ck_s, ck_s, ck_s, ck_s, .sh (.rows (.int .i64))]], [⟨[], [], [], []⟩]⟩]),
  (5000003, .join [⟨.normal, [], [1, 50], [.one (.ptr 0 0), ak_b], [.cells [ck_i, ck_i, ck_i, ck_s, ck_s, ck_s, ck_s, .sh (.rows (.int .i64))]], [⟨[], [], [], []⟩]⟩]),
  (5000006, .join [⟨.normal, [], [2], [ak_b], [.cells [ck_i, ck_i, ck_i, ck_s, ck_s, ck_s, ck_s, .sh (.rows (.int .i64))]], [⟨[], [], [], []⟩]⟩]),
  (5000009, .join [⟨.normal, [], [2], [ak_b], [.cells [ck_i, ck_i, ck_i, ck_s, ck_s, ck_s, ck_s, .sh (.rows (.int .i64))]], [⟨[], [], [], []⟩]⟩])]
noncomputable def impl_GoodHeader.says (N : Nat) : List Say := [impl_in.S N, impl_long.S N, impl_isVersion.S N, slices_ContainsFuncint_int.S N]
noncomputable def impl_GoodHeader.call (N : Nat) : CallK := callBy (impl_GoodHeader.says N)
noncomputable def impl_GoodHeader.qt (N : Nat) : FuncId → List PV → Sig → Cl := qtBy (impl_GoodHeader.says N)
noncomputable def impl_GoodHeader (N : Nat) (G_0 : Int) (G_1 : Int) (G_2 : Int) (G_3 : ByteArray) (G_4 : ByteArray) (G_5 : ByteArray) (G_6 : ByteArray) (G_7 : (List Int)) : Option ((Bool × Unit) × Unit) :=
  ofFn Try.prog impl_GoodHeader.call impl_GoodHeader.qt impl_GoodHeader.H N Try.f84 [.agg [ck_i, ck_i, ck_i, ck_s, ck_s, ck_s, ck_s, .sh (.rows (.int .i64))]] [] [ak_b] [] [⟨[], [], [], []⟩] ((G_0, (G_1, (G_2, (G_3, (G_4, (G_5, (G_6, (G_7, ())))))))), ()) ()
noncomputable def impl_GoodHeader.S (N : Nat) : Say := ⟨false, 84, [.agg [ck_i, ck_i, ck_i, ck_s, ck_s, ck_s, ck_s, .sh (.rows (.int .i64))]], [], [ak_b], [], fun a s => impl_GoodHeader N a.1.1 a.1.2.1 a.1.2.2.1 a.1.2.2.2.1 a.1.2.2.2.2.1 a.1.2.2.2.2.2.1 a.1.2.2.2.2.2.2.1 a.1.2.2.2.2.2.2.2.1⟩
set_option maxRecDepth 100000 in
theorem impl_GoodHeader.eq (N : Nat) (G_0 : Int) (G_1 : Int) (G_2 : Int) (G_3 : ByteArray) (G_4 : ByteArray) (G_5 : ByteArray) (G_6 : ByteArray) (G_7 : (List Int)) : impl_GoodHeader N G_0 G_1 G_2 G_3 G_4 G_5 G_6 G_7 =
 andK (α := ((Unit × (Bool × Unit)) × ((Int × (Int × (Int × (ByteArray × (ByteArray × (ByteArray × (ByteArray × ((List Int) × Unit)))))))) × Unit))) (
  sel (decide (20 < (G_3.size : Int)))
   (
   some ((((), (true, ())), ((G_0, (G_1, (G_2, (G_3, (G_4, (G_5, (G_6, (G_7, ())))))))), ()))))
   (
   sel (decide (20 < (G_4.size : Int)))
    (
    some ((((), (true, ())), ((G_0, (G_1, (G_2, (G_3, (G_4, (G_5, (G_6, (G_7, ())))))))), ()))))
    (
    andK (impl_in N G_1 0 15) fun u1 =>
    sel (!u1.1.1)
     (
     some ((((), (true, ())), ((G_0, (G_1, (G_2, (G_3, (G_4, (G_5, (G_6, (G_7, ())))))))), ()))))
     (
     sel (decide (200 < (G_5.size : Int)))
      (
      some ((((), (true, ())), ((G_0, (G_1, (G_2, (G_3, (G_4, (G_5, (G_6, (G_7, ())))))))), ()))))
      (
      some ((((), ((decide (1200 < (G_6.size : Int))), ())), ((G_0, (G_1, (G_2, (G_3, (G_4, (G_5, (G_6, (G_7, ())))))))), ())))))))) fun j2 =>
 sel j2.1.2.1
  (
  some ((false, ()), ()))
  (
  andK (α := ((Unit × (Bool × Unit)) × ((Int × (Int × (Int × (ByteArray × (ByteArray × (ByteArray × (ByteArray × ((List Int) × Unit)))))))) × Unit))) (
   sel (!(decide (j2.2.1.1 = 0)))
    (
    sel (!(decide (j2.2.1.2.2.2.2.2.1 = (⟨#[]⟩ : ByteArray))))
     (
     some ((((), (true, ())), ((j2.2.1.1, (j2.2.1.2.1, (j2.2.1.2.2.1, (j2.2.1.2.2.2.1, (j2.2.1.2.2.2.2.1, (j2.2.1.2.2.2.2.2.1, (j2.2.1.2.2.2.2.2.2.1, (j2.2.1.2.2.2.2.2.2.2.1, ())))))))), ()))))
     (
     sel (!(decide (j2.2.1.1 = 4)))
      (
      some ((((), ((decide (0 < (j2.2.1.2.2.2.2.2.2.2.1.length : Int))), ())), ((j2.2.1.1, (j2.2.1.2.1, (j2.2.1.2.2.1, (j2.2.1.2.2.2.1, (j2.2.1.2.2.2.2.1, (j2.2.1.2.2.2.2.2.1, (j2.2.1.2.2.2.2.2.2.1, (j2.2.1.2.2.2.2.2.2.2.1, ())))))))), ()))))
      (
      some ((((), (false, ())), ((j2.2.1.1, (j2.2.1.2.1, (j2.2.1.2.2.1, (j2.2.1.2.2.2.1, (j2.2.1.2.2.2.2.1, (j2.2.1.2.2.2.2.2.1, (j2.2.1.2.2.2.2.2.2.1, (j2.2.1.2.2.2.2.2.2.2.1, ())))))))), ()))))))
    (
    sel (!(decide (j2.2.1.1 = 4)))
     (
     some ((((), ((decide (0 < (j2.2.1.2.2.2.2.2.2.2.1.length : Int))), ())), ((j2.2.1.1, (j2.2.1.2.1, (j2.2.1.2.2.1, (j2.2.1.2.2.2.1, (j2.2.1.2.2.2.2.1, (j2.2.1.2.2.2.2.2.1, (j2.2.1.2.2.2.2.2.2.1, (j2.2.1.2.2.2.2.2.2.2.1, ())))))))), ()))))
     (
     some ((((), (false, ())), ((j2.2.1.1, (j2.2.1.2.1, (j2.2.1.2.2.1, (j2.2.1.2.2.2.1, (j2.2.1.2.2.2.2.1, (j2.2.1.2.2.2.2.2.1, (j2.2.1.2.2.2.2.2.2.1, (j2.2.1.2.2.2.2.2.2.2.1, ())))))))), ())))))) fun j3 =>
  sel j3.1.2.1
   (
   some ((false, ()), ()))
   (
   andK (impl_long N j3.2.1.1) fun u4 =>
   sel u4.1.1
    (
    andK (α := ((Bool × Unit) × ((Int × (Int × (Int × (ByteArray × (ByteArray × (ByteArray × (ByteArray × ((List Int) × Unit)))))))) × Unit))) (
     andK (impl_isVersion N j3.2.1.2.2.1) fun u5 =>
     sel u5.1.1
      (
      some ((((!(decide (j3.2.1.2.2.2.2.2.2.1 = (⟨#[]⟩ : ByteArray)))), ()), ((j3.2.1.1, (j3.2.1.2.1, (j3.2.1.2.2.1, (j3.2.1.2.2.2.1, (j3.2.1.2.2.2.2.1, (j3.2.1.2.2.2.2.2.1, (j3.2.1.2.2.2.2.2.2.1, (j3.2.1.2.2.2.2.2.2.2.1, ())))))))), ()))))
      (
      some (((false, ()), ((j3.2.1.1, (j3.2.1.2.1, (j3.2.1.2.2.1, (j3.2.1.2.2.2.1, (j3.2.1.2.2.2.2.1, (j3.2.1.2.2.2.2.2.1, (j3.2.1.2.2.2.2.2.2.1, (j3.2.1.2.2.2.2.2.2.2.1, ())))))))), ()))))) fun j6 =>
    some ((j6.1.1, ()), ()))
    (
    sel (decide (j3.2.1.1 = 4))
     (
     andK (slices_ContainsFuncint_int N j3.2.1.2.2.2.2.2.2.2.1) fun u7 =>
     andK (α := ((Bool × Unit) × ((Int × (Int × (Int × (ByteArray × (ByteArray × (ByteArray × (ByteArray × ((List Int) × Unit)))))))) × Unit))) (
      sel (decide (j3.2.1.2.2.1 = 0))
       (
       sel (decide (j3.2.1.2.2.2.2.2.2.1 = (⟨#[]⟩ : ByteArray)))
        (
        andK (impl_in N (j3.2.1.2.2.2.2.2.2.2.1.length : Int) 1 20) fun u8 =>
        sel u8.1.1
         (
         some ((((!u7.1.1), ()), ((j3.2.1.1, (j3.2.1.2.1, (j3.2.1.2.2.1, (j3.2.1.2.2.2.1, (j3.2.1.2.2.2.2.1, (j3.2.1.2.2.2.2.2.1, (j3.2.1.2.2.2.2.2.2.1, (j3.2.1.2.2.2.2.2.2.2.1, ())))))))), ()))))
         (
         some (((false, ()), ((j3.2.1.1, (j3.2.1.2.1, (j3.2.1.2.2.1, (j3.2.1.2.2.2.1, (j3.2.1.2.2.2.2.1, (j3.2.1.2.2.2.2.2.1, (j3.2.1.2.2.2.2.2.2.1, (j3.2.1.2.2.2.2.2.2.2.1, ())))))))), ())))))
        (
        some (((false, ()), ((j3.2.1.1, (j3.2.1.2.1, (j3.2.1.2.2.1, (j3.2.1.2.2.2.1, (j3.2.1.2.2.2.2.1, (j3.2.1.2.2.2.2.2.1, (j3.2.1.2.2.2.2.2.2.1, (j3.2.1.2.2.2.2.2.2.2.1, ())))))))), ())))))
       (
       some (((false, ()), ((j3.2.1.1, (j3.2.1.2.1, (j3.2.1.2.2.1, (j3.2.1.2.2.2.1, (j3.2.1.2.2.2.2.1, (j3.2.1.2.2.2.2.2.1, (j3.2.1.2.2.2.2.2.2.1, (j3.2.1.2.2.2.2.2.2.2.1, ())))))))), ()))))) fun j9 =>
     some ((j9.1.1, ()), ()))
     (
     sel (decide (j3.2.1.1 = 5))
      (
      sel (decide (j3.2.1.2.2.1 = 0))
       (
       some (((decide (j3.2.1.2.2.2.2.1 = (⟨#[]⟩ : ByteArray))), ()), ()))
       (
       some ((false, ()), ())))
      (
      some ((false, ()), ())))))) := by kernel_rfl
set_option maxRecDepth 100000 in
theorem impl_GoodHeader.say (N : Nat) : SayOk Try.prog (impl_GoodHeader.S N) := sayOk_mk (N := N) (H := impl_GoodHeader.H) (preps := [⟨[], [], [], []⟩]) (l := impl_GoodHeader.says) (fn := Try.f84) (c := bodyOf Try.f84)
  (by kernel_rfl) (by kernel_rfl) (by kernel_rfl) (by kernel_rfl) (by kernel_rfl) (by kernel_rfl) (by kernel_rfl)
  (fun N => SayAll.cons (impl_in.say N) (SayAll.cons (impl_long.say N) (SayAll.cons (impl_isVersion.say N) (SayAll.cons (slices_ContainsFuncint_int.say N) (SayAll.nil))))) (fun a s => by kernel_rfl)

/-! ### loop.example/g00206/impl.bigEndian: function 60 -/
noncomputable def impl_bigEndian.H : Hints := hintsOf [(2000003, .loop ⟨.normal, [], [0, 5, 6], [.one (.sh (.int .u64)), .one (.own 0), ak_i], [.rows (.int .u8)], [⟨[], [], [], []⟩]⟩ [⟨(.exit 0), [], [5], [.one (.own 0)], [.rows (.int .u8)], [⟨[], [], [], []⟩]⟩])]
noncomputable def impl_bigEndian.says (N : Nat) : List Say := []
noncomputable def impl_bigEndian.call (N : Nat) : CallK := callBy (impl_bigEndian.says N)
noncomputable def impl_bigEndian.qt (N : Nat) : FuncId → List PV → Sig → Cl := qtBy (impl_bigEndian.says N)
noncomputable def impl_bigEndian.l0.hd : Alt := ⟨.normal, [], [0, 5, 6], [.one (.sh (.int .u64)), .one (.own 0), ak_i], [.rows (.int .u8)], [⟨[], [], [], []⟩]⟩
noncomputable def impl_bigEndian.l0.outs : List Alt := [⟨(.exit 0), [], [5], [.one (.own 0)], [.rows (.int .u8)], [⟨[], [], [], []⟩]⟩]
noncomputable def impl_bigEndian.l0 (N : Nat) (n1 : Int) (i : Int) (p0 : (List Int)) : Option ((Unit × Unit) × ((List Int) × Unit)) :=
  loopK Try.prog impl_bigEndian.call impl_bigEndian.qt impl_bigEndian.H (codeAt (bodyOf Try.f60) [1, 1, 0, 1, 0, 0]) 1 impl_bigEndian.l0.hd impl_bigEndian.l0.outs [] N ((n1, ((), (i, ()))), (p0, ()))
noncomputable def impl_bigEndian (N : Nat) (n : Int) (many : Int) : Option ((ByteArray × Unit) × Unit) :=
  ofFn Try.prog impl_bigEndian.call impl_bigEndian.qt impl_bigEndian.H N Try.f60 [.one (.sh (.int .u64)), ak_i] [] [ak_s] [] [⟨[], [], [], []⟩] (n, (many, ())) ()
noncomputable def impl_bigEndian.S (N : Nat) : Say := ⟨false, 60, [.one (.sh (.int .u64)), ak_i], [], [ak_s], [], fun a s => impl_bigEndian N a.1 a.2.1⟩
set_option maxRecDepth 100000 in
theorem impl_bigEndian.l0.eq (N : Nat) (n1 : Int) (i : Int) (p0 : (List Int)) : impl_bigEndian.l0 (N + 1) n1 i p0 =
 sel (decide (0 ≤ i))
  (
  chk ((decide (0 ≤ i)) && (decide (i < (p0.length : Int)))) (
  impl_bigEndian.l0 N (shrI .u64 n1 8) (IntKind.i64.wrap (i - 1)) (p0.set (Int.toNat i) (IntKind.u8.wrap n1))))
  (
  some ((((), ()), (p0, ())))) := by kernel_rfl
set_option maxRecDepth 100000 in
theorem impl_bigEndian.eq (N : Nat) (n : Int) (many : Int) : impl_bigEndian N n many =
 chk ((decide (0 ≤ many)) && ((smallI many) && (decide (many = many)))) (
 andK (impl_bigEndian.l0 N n (IntKind.i64.wrap (many - 1)) (List.replicate (Int.toNat many) (0 : Int))) fun l1 =>
 some (((strL l1.2.1), ()), ())) := by kernel_rfl
set_option maxRecDepth 100000 in
theorem impl_bigEndian.say (N : Nat) : SayOk Try.prog (impl_bigEndian.S N) := sayOk_mk (N := N) (H := impl_bigEndian.H) (preps := [⟨[], [], [], []⟩]) (l := impl_bigEndian.says) (fn := Try.f60) (c := bodyOf Try.f60)
  (by kernel_rfl) (by kernel_rfl) (by kernel_rfl) (by kernel_rfl) (by kernel_rfl) (by kernel_rfl) (by kernel_rfl)
  (fun N => SayAll.nil) (fun a s => by kernel_rfl)

/-! ### loop.example/g00206/impl.byteCounted: function 163 -/
noncomputable def impl_byteCounted.H : Hints := hintsOf []
noncomputable def impl_byteCounted.says (N : Nat) : List Say := [impl_bigEndian.S N]
noncomputable def impl_byteCounted.call (N : Nat) : CallK := callBy (impl_byteCounted.says N)
noncomputable def impl_byteCounted.qt (N : Nat) : FuncId → List PV → Sig → Cl := qtBy (impl_byteCounted.says N)
noncomputable def impl_byteCounted (N : Nat) (s : ByteArray) : Option ((ByteArray × Unit) × Unit) :=
  ofFn Try.prog impl_byteCounted.call impl_byteCounted.qt impl_byteCounted.H N Try.f163 [ak_s] [] [ak_s] [] [⟨[], [], [], []⟩] (s, ()) ()
noncomputable def impl_byteCounted.S (N : Nat) : Say := ⟨false, 163, [ak_s], [], [ak_s], [], fun a s => impl_byteCounted N a.1⟩
set_option maxRecDepth 100000 in
theorem impl_byteCounted.eq (N : Nat) (s : ByteArray) : impl_byteCounted N s =
 andK (impl_bigEndian N (IntKind.u64.wrap (s.size : Int)) 1) fun u1 =>
 chk (decide (u1.1.1.size + s.size ≤ 9223372036854775807)) (
 some (((u1.1.1 ++ s), ()), ())) := by kernel_rfl
set_option maxRecDepth 100000 in
theorem impl_byteCounted.say (N : Nat) : SayOk Try.prog (impl_byteCounted.S N) := sayOk_mk (N := N) (H := impl_byteCounted.H) (preps := [⟨[], [], [], []⟩]) (l := impl_byteCounted.says) (fn := Try.f163) (c := bodyOf Try.f163)
  (by kernel_rfl) (by kernel_rfl) (by kernel_rfl) (by kernel_rfl) (by kernel_rfl) (by kernel_rfl) (by kernel_rfl)
  (fun N => SayAll.cons (impl_bigEndian.say N) (SayAll.nil)) (fun a s => by kernel_rfl)

/-! ### (*loop.example/g00206/impl.Header).ids: function 131 -/
noncomputable def impl_Header_ids.H : Hints := hintsOf []
noncomputable def impl_Header_ids.says (N : Nat) : List Say := [impl_byteCounted.S N]
noncomputable def impl_Header_ids.call (N : Nat) : CallK := callBy (impl_Header_ids.says N)
noncomputable def impl_Header_ids.qt (N : Nat) : FuncId → List PV → Sig → Cl := qtBy (impl_Header_ids.says N)
noncomputable def impl_Header_ids (N : Nat) (p0_0 : Int) (p0_1 : Int) (p0_2 : Int) (p0_3 : ByteArray) (p0_4 : ByteArray) (p0_5 : ByteArray) (p0_6 : ByteArray) (p0_7 : (List Int)) : Option ((ByteArray × Unit) × ((Int × (Int × (Int × (ByteArray × (ByteArray × (ByteArray × (ByteArray × ((List Int) × Unit)))))))) × Unit)) :=
  ofFn Try.prog impl_Header_ids.call impl_Header_ids.qt impl_Header_ids.H N Try.f131 [.one (.ptr 0 0)] [.cells [ck_i, ck_i, ck_i, ck_s, ck_s, ck_s, ck_s, .sh (.rows (.int .i64))]] [ak_s] [.cells [ck_i, ck_i, ck_i, ck_s, ck_s, ck_s, ck_s, .sh (.rows (.int .i64))]] [⟨[], [], [], []⟩] ((), ()) ((p0_0, (p0_1, (p0_2, (p0_3, (p0_4, (p0_5, (p0_6, (p0_7, ())))))))), ())
noncomputable def impl_Header_ids.S (N : Nat) : Say := ⟨false, 131, [.one (.ptr 0 0)], [.cells [ck_i, ck_i, ck_i, ck_s, ck_s, ck_s, ck_s, .sh (.rows (.int .i64))]], [ak_s], [.cells [ck_i, ck_i, ck_i, ck_s, ck_s, ck_s, ck_s, .sh (.rows (.int .i64))]], fun a s => impl_Header_ids N s.1.1 s.1.2.1 s.1.2.2.1 s.1.2.2.2.1 s.1.2.2.2.2.1 s.1.2.2.2.2.2.1 s.1.2.2.2.2.2.2.1 s.1.2.2.2.2.2.2.2.1⟩
set_option maxRecDepth 100000 in
theorem impl_Header_ids.eq (N : Nat) (p0_0 : Int) (p0_1 : Int) (p0_2 : Int) (p0_3 : ByteArray) (p0_4 : ByteArray) (p0_5 : ByteArray) (p0_6 : ByteArray) (p0_7 : (List Int)) : impl_Header_ids N p0_0 p0_1 p0_2 p0_3 p0_4 p0_5 p0_6 p0_7 =
 andK (impl_byteCounted N p0_3) fun u1 =>
 andK (impl_byteCounted N p0_4) fun u2 =>
 chk (decide (u1.1.1.size + u2.1.1.size ≤ 9223372036854775807)) (
 some (((u1.1.1 ++ u2.1.1), ()), ((p0_0, (p0_1, (p0_2, (p0_3, (p0_4, (p0_5, (p0_6, (p0_7, ())))))))), ()))) := by kernel_rfl
set_option maxRecDepth 100000 in
theorem impl_Header_ids.say (N : Nat) : SayOk Try.prog (impl_Header_ids.S N) := sayOk_mk (N := N) (H := impl_Header_ids.H) (preps := [⟨[], [], [], []⟩]) (l := impl_Header_ids.says) (fn := Try.f131) (c := bodyOf Try.f131)
  (by kernel_rfl) (by kernel_rfl) (by kernel_rfl) (by kernel_rfl) (by kernel_rfl) (by kernel_rfl) (by kernel_rfl)
  (fun N => SayAll.cons (impl_byteCounted.say N) (SayAll.nil)) (fun a s => by kernel_rfl)

/-! ### loop.example/g00206/impl.varintSize: function 140 -/
noncomputable def impl_varintSize.H : Hints := hintsOf []
noncomputable def impl_varintSize.says (N : Nat) : List Say := []
noncomputable def impl_varintSize.call (N : Nat) : CallK := callBy (impl_varintSize.says N)
noncomputable def impl_varintSize.qt (N : Nat) : FuncId → List PV → Sig → Cl := qtBy (impl_varintSize.says N)
noncomputable def impl_varintSize (N : Nat) (n : Int) : Option ((Int × Unit) × Unit) :=
  ofFn Try.prog impl_varintSize.call impl_varintSize.qt impl_varintSize.H N Try.f140 [ak_i] [] [ak_i] [] [⟨[], [], [], []⟩] (n, ()) ()
noncomputable def impl_varintSize.S (N : Nat) : Say := ⟨false, 140, [ak_i], [], [ak_i], [], fun a s => impl_varintSize N a.1⟩
set_option maxRecDepth 100000 in
theorem impl_varintSize.eq (N : Nat) (n : Int) : impl_varintSize N n =
 sel (decide (n < 64))
  (
  some ((1, ()), ()))
  (
  sel (decide (n < 16384))
   (
   some ((2, ()), ()))
   (
   sel (decide (n < 1073741824))
    (
    some ((4, ()), ()))
    (
    some ((8, ()), ())))) := by kernel_rfl
set_option maxRecDepth 100000 in
theorem impl_varintSize.say (N : Nat) : SayOk Try.prog (impl_varintSize.S N) := sayOk_mk (N := N) (H := impl_varintSize.H) (preps := [⟨[], [], [], []⟩]) (l := impl_varintSize.says) (fn := Try.f140) (c := bodyOf Try.f140)
  (by kernel_rfl) (by kernel_rfl) (by kernel_rfl) (by kernel_rfl) (by kernel_rfl) (by kernel_rfl) (by kernel_rfl)
  (fun N => SayAll.nil) (fun a s => by kernel_rfl)

/-! ### loop.example/g00206/impl.varint: function 93 -/
noncomputable def impl_varint.H : Hints := hintsOf []
noncomputable def impl_varint.says (N : Nat) : List Say := [impl_varintSize.S N, impl_bigEndian.S N]
noncomputable def impl_varint.call (N : Nat) : CallK := callBy (impl_varint.says N)
noncomputable def impl_varint.qt (N : Nat) : FuncId → List PV → Sig → Cl := qtBy (impl_varint.says N)
noncomputable def impl_varint (N : Nat) (n : Int) : Option ((ByteArray × Unit) × Unit) :=
  ofFn Try.prog impl_varint.call impl_varint.qt impl_varint.H N Try.f93 [ak_i] [] [ak_s] [] [⟨[], [], [], []⟩] (n, ()) ()
noncomputable def impl_varint.S (N : Nat) : Say := ⟨false, 93, [ak_i], [], [ak_s], [], fun a s => impl_varint N a.1⟩
set_option maxRecDepth 100000 in
theorem impl_varint.eq (N : Nat) (n : Int) : impl_varint N n =
 andK (impl_varintSize N n) fun u1 =>
 chk (hasK u1.1.1 [(8, 3), (4, 2), (2, 1), (1, 0)]) (
 chk (decide (0 ≤ (IntKind.i64.wrap ((IntKind.i64.wrap (8 * u1.1.1)) - 2)))) (
 andK (impl_bigEndian N (Go.bits .or .u64 (IntKind.u64.wrap n) (shlI .u64 (getK u1.1.1 [(8, 3), (4, 2), (2, 1), (1, 0)]) (IntKind.i64.wrap ((IntKind.i64.wrap (8 * u1.1.1)) - 2)))) u1.1.1) fun u2 =>
 some ((u2.1.1, ()), ()))) := by kernel_rfl
set_option maxRecDepth 100000 in
theorem impl_varint.say (N : Nat) : SayOk Try.prog (impl_varint.S N) := sayOk_mk (N := N) (H := impl_varint.H) (preps := [⟨[], [], [], []⟩]) (l := impl_varint.says) (fn := Try.f93) (c := bodyOf Try.f93)
  (by kernel_rfl) (by kernel_rfl) (by kernel_rfl) (by kernel_rfl) (by kernel_rfl) (by kernel_rfl) (by kernel_rfl)
  (fun N => SayAll.cons (impl_varintSize.say N) (SayAll.cons (impl_bigEndian.say N) (SayAll.nil))) (fun a s => by kernel_rfl)

/-! ### loop.example/g00206/impl.counted: function 94 -/
noncomputable def impl_counted.H : Hints := hintsOf []
noncomputable def impl_counted.says (N : Nat) : List Say := [impl_varint.S N]
noncomputable def impl_counted.call (N : Nat) : CallK := callBy (impl_counted.says N)
noncomputable def impl_counted.qt (N : Nat) : FuncId → List PV → Sig → Cl := qtBy (impl_counted.says N)
noncomputable def impl_counted (N : Nat) (s : ByteArray) : Option ((ByteArray × Unit) × Unit) :=
  ofFn Try.prog impl_counted.call impl_counted.qt impl_counted.H N Try.f94 [ak_s] [] [ak_s] [] [⟨[], [], [], []⟩] (s, ()) ()
noncomputable def impl_counted.S (N : Nat) : Say := ⟨false, 94, [ak_s], [], [ak_s], [], fun a s => impl_counted N a.1⟩
set_option maxRecDepth 100000 in
theorem impl_counted.eq (N : Nat) (s : ByteArray) : impl_counted N s =
 andK (impl_varint N (s.size : Int)) fun u1 =>
 chk (decide (u1.1.1.size + s.size ≤ 9223372036854775807)) (
 some (((u1.1.1 ++ s), ()), ())) := by kernel_rfl
set_option maxRecDepth 100000 in
theorem impl_counted.say (N : Nat) : SayOk Try.prog (impl_counted.S N) := sayOk_mk (N := N) (H := impl_counted.H) (preps := [⟨[], [], [], []⟩]) (l := impl_counted.says) (fn := Try.f94) (c := bodyOf Try.f94)
  (by kernel_rfl) (by kernel_rfl) (by kernel_rfl) (by kernel_rfl) (by kernel_rfl) (by kernel_rfl) (by kernel_rfl)
  (fun N => SayAll.cons (impl_varint.say N) (SayAll.nil)) (fun a s => by kernel_rfl)

/-! ### (*loop.example/g00206/impl.Header).bytes: function 85 -/
noncomputable def impl_Header_bytes.H : Hints := hintsOf [(2000007, .loop ⟨.normal, [47, 48], [3, 49], [ak_s, ak_i], [.cells [ck_i, ck_i, ck_i, ck_s, ck_s, ck_s, ck_s, .sh (.rows (.int .i64))]], [⟨[], [], [], []⟩]⟩ [⟨(.exit 1), [], [3], [ak_s], [.cells [ck_i, ck_i, ck_i, ck_s, ck_s, ck_s, ck_s, .sh (.rows (.int .i64))]], [⟨[], [], [], []⟩]⟩]),
  (15, .join [⟨.normal, [], [0, 6], [.one (.ptr 0 0), ak_s], [.cells [ck_i, ck_i, ck_i, ck_s, ck_s, ck_s, ck_s, .sh (.rows (.int .i64))]], [⟨[], [], [], []⟩]⟩]),
  (17, .join [⟨.normal, [], [0, 6], [.one (.ptr 0 0), ak_s], [.cells [ck_i, ck_i, ck_i, ck_s, ck_s, ck_s, ck_s, .sh (.rows (.int .i64))]], [⟨[], [], [], []⟩]⟩])]
noncomputable def impl_Header_bytes.says (N : Nat) : List Say := [impl_bigEndian.S N, impl_Header_ids.S N, impl_counted.S N]
noncomputable def impl_Header_bytes.call (N : Nat) : CallK := callBy (impl_Header_bytes.says N)
noncomputable def impl_Header_bytes.qt (N : Nat) : FuncId → List PV → Sig → Cl := qtBy (impl_Header_bytes.says N)
noncomputable def impl_Header_bytes.l0.hd : Alt := ⟨.normal, [47, 48], [3, 49], [ak_s, ak_i], [.cells [ck_i, ck_i, ck_i, ck_s, ck_s, ck_s, ck_s, .sh (.rows (.int .i64))]], [⟨[], [], [], []⟩]⟩
noncomputable def impl_Header_bytes.l0.outs : List Alt := [⟨(.exit 1), [], [3], [ak_s], [.cells [ck_i, ck_i, ck_i, ck_s, ck_s, ck_s, ck_s, .sh (.rows (.int .i64))]], [⟨[], [], [], []⟩]⟩]
noncomputable def impl_Header_bytes.l0 (N : Nat) (t47 : (List Int)) (t48 : Int) (C : ByteArray) (t49 : Int) (p0_01 : Int) (p0_11 : Int) (p0_21 : Int) (p0_31 : ByteArray) (p0_41 : ByteArray) (p0_51 : ByteArray) (p0_61 : ByteArray) (p0_71 : (List Int)) : Option ((ByteArray × Unit) × ((Int × (Int × (Int × (ByteArray × (ByteArray × (ByteArray × (ByteArray × ((List Int) × Unit)))))))) × Unit)) :=
  loopK Try.prog impl_Header_bytes.call impl_Header_bytes.qt impl_Header_bytes.H (codeAt (bodyOf Try.f85) [1, 0, 1, 0, 1, 1, 1, 0, 1, 0, 1, 0, 0]) 1 impl_Header_bytes.l0.hd impl_Header_bytes.l0.outs [(47, .rows false (.int .i64) t47), (48, .v (.int .i64 t48))] N ((C, (t49, ())), ((p0_01, (p0_11, (p0_21, (p0_31, (p0_41, (p0_51, (p0_61, (p0_71, ())))))))), ()))
noncomputable def impl_Header_bytes (N : Nat) (p0_0 : Int) (p0_1 : Int) (p0_2 : Int) (p0_3 : ByteArray) (p0_4 : ByteArray) (p0_5 : ByteArray) (p0_6 : ByteArray) (p0_7 : (List Int)) : Option ((ByteArray × Unit) × ((Int × (Int × (Int × (ByteArray × (ByteArray × (ByteArray × (ByteArray × ((List Int) × Unit)))))))) × Unit)) :=
  ofFn Try.prog impl_Header_bytes.call impl_Header_bytes.qt impl_Header_bytes.H N Try.f85 [.one (.ptr 0 0)] [.cells [ck_i, ck_i, ck_i, ck_s, ck_s, ck_s, ck_s, .sh (.rows (.int .i64))]] [ak_s] [.cells [ck_i, ck_i, ck_i, ck_s, ck_s, ck_s, ck_s, .sh (.rows (.int .i64))]] [⟨[], [], [], []⟩] ((), ()) ((p0_0, (p0_1, (p0_2, (p0_3, (p0_4, (p0_5, (p0_6, (p0_7, ())))))))), ())
noncomputable def impl_Header_bytes.S (N : Nat) : Say := ⟨false, 85, [.one (.ptr 0 0)], [.cells [ck_i, ck_i, ck_i, ck_s, ck_s, ck_s, ck_s, .sh (.rows (.int .i64))]], [ak_s], [.cells [ck_i, ck_i, ck_i, ck_s, ck_s, ck_s, ck_s, .sh (.rows (.int .i64))]], fun a s => impl_Header_bytes N s.1.1 s.1.2.1 s.1.2.2.1 s.1.2.2.2.1 s.1.2.2.2.2.1 s.1.2.2.2.2.2.1 s.1.2.2.2.2.2.2.1 s.1.2.2.2.2.2.2.2.1⟩
set_option maxRecDepth 100000 in
theorem impl_Header_bytes.l0.eq (N : Nat) (t47 : (List Int)) (t48 : Int) (C : ByteArray) (t49 : Int) (p0_01 : Int) (p0_11 : Int) (p0_21 : Int) (p0_31 : ByteArray) (p0_41 : ByteArray) (p0_51 : ByteArray) (p0_61 : ByteArray) (p0_71 : (List Int)) : impl_Header_bytes.l0 (N + 1) t47 t48 C t49 p0_01 p0_11 p0_21 p0_31 p0_41 p0_51 p0_61 p0_71 =
 sel (decide (t49 < t48))
  (
  chk ((decide (0 ≤ t49)) && (decide (t49 < (t47.length : Int)))) (
  andK (impl_bigEndian N (IntKind.u64.wrap (t47.getD (Int.toNat t49) 0)) 4) fun u5 =>
  chk (decide (C.size + u5.1.1.size ≤ 9223372036854775807)) (
  impl_Header_bytes.l0 N t47 t48 (C ++ u5.1.1) (IntKind.i64.wrap (t49 + 1)) p0_01 p0_11 p0_21 p0_31 p0_41 p0_51 p0_61 p0_71)))
  (
  some (((C, ()), ((p0_01, (p0_11, (p0_21, (p0_31, (p0_41, (p0_51, (p0_61, (p0_71, ())))))))), ())))) := by kernel_rfl
set_option maxRecDepth 100000 in
theorem impl_Header_bytes.eq (N : Nat) (p0_0 : Int) (p0_1 : Int) (p0_2 : Int) (p0_3 : ByteArray) (p0_4 : ByteArray) (p0_5 : ByteArray) (p0_6 : ByteArray) (p0_7 : (List Int)) : impl_Header_bytes N p0_0 p0_1 p0_2 p0_3 p0_4 p0_5 p0_6 p0_7 =
 sel (decide (p0_0 = 5))
  (
  andK (impl_bigEndian N (IntKind.u64.wrap (IntKind.i64.wrap (64 + p0_1))) 1) fun u1 =>
  chk (decide (u1.1.1.size + p0_3.size ≤ 9223372036854775807)) (
  chk (decide ((u1.1.1 ++ p0_3).size + p0_6.size ≤ 9223372036854775807)) (
  some ((((u1.1.1 ++ p0_3) ++ p0_6), ()), ((p0_0, (p0_1, (p0_2, (p0_3, (p0_4, (p0_5, (p0_6, (p0_7, ())))))))), ())))))
  (
  sel (decide (p0_0 = 4))
   (
   andK (impl_bigEndian N (IntKind.u64.wrap (IntKind.i64.wrap (192 + p0_1))) 1) fun u2 =>
   andK (impl_bigEndian N 0 4) fun u3 =>
   chk (decide (u2.1.1.size + u3.1.1.size ≤ 9223372036854775807)) (
   andK (impl_Header_ids N p0_0 p0_1 p0_2 p0_3 p0_4 p0_5 p0_6 p0_7) fun u4 =>
   chk (decide ((u2.1.1 ++ u3.1.1).size + u4.1.1.size ≤ 9223372036854775807)) (
   andK (impl_Header_bytes.l0 N u4.2.1.2.2.2.2.2.2.2.1 (u4.2.1.2.2.2.2.2.2.2.1.length : Int) ((u2.1.1 ++ u3.1.1) ++ u4.1.1) 0 u4.2.1.1 u4.2.1.2.1 u4.2.1.2.2.1 u4.2.1.2.2.2.1 u4.2.1.2.2.2.2.1 u4.2.1.2.2.2.2.2.1 u4.2.1.2.2.2.2.2.2.1 u4.2.1.2.2.2.2.2.2.2.1) fun l6 =>
   some ((l6.1.1, ()), ((l6.2.1.1, (l6.2.1.2.1, (l6.2.1.2.2.1, (l6.2.1.2.2.2.1, (l6.2.1.2.2.2.2.1, (l6.2.1.2.2.2.2.2.1, (l6.2.1.2.2.2.2.2.2.1, (l6.2.1.2.2.2.2.2.2.2.1, ())))))))), ())))))
   (
   andK (impl_bigEndian N (IntKind.u64.wrap (IntKind.i64.wrap ((IntKind.i64.wrap (192 + (IntKind.i64.wrap (16 * p0_0)))) + p0_1))) 1) fun u7 =>
   andK (impl_bigEndian N (IntKind.u64.wrap p0_2) 4) fun u8 =>
   chk (decide (u7.1.1.size + u8.1.1.size ≤ 9223372036854775807)) (
   andK (impl_Header_ids N p0_0 p0_1 p0_2 p0_3 p0_4 p0_5 p0_6 p0_7) fun u9 =>
   chk (decide ((u7.1.1 ++ u8.1.1).size + u9.1.1.size ≤ 9223372036854775807)) (
   andK (α := ((Unit × (ByteArray × Unit)) × ((Int × (Int × (Int × (ByteArray × (ByteArray × (ByteArray × (ByteArray × ((List Int) × Unit)))))))) × Unit))) (
    sel (decide (u9.2.1.1 = 0))
     (
     andK (impl_counted N u9.2.1.2.2.2.2.2.1) fun u10 =>
     chk (decide (((u7.1.1 ++ u8.1.1) ++ u9.1.1).size + u10.1.1.size ≤ 9223372036854775807)) (
     some ((((), ((((u7.1.1 ++ u8.1.1) ++ u9.1.1) ++ u10.1.1), ())), ((u9.2.1.1, (u9.2.1.2.1, (u9.2.1.2.2.1, (u9.2.1.2.2.2.1, (u9.2.1.2.2.2.2.1, (u9.2.1.2.2.2.2.2.1, (u9.2.1.2.2.2.2.2.2.1, (u9.2.1.2.2.2.2.2.2.2.1, ())))))))), ())))))
     (
     some ((((), (((u7.1.1 ++ u8.1.1) ++ u9.1.1), ())), ((u9.2.1.1, (u9.2.1.2.1, (u9.2.1.2.2.1, (u9.2.1.2.2.2.1, (u9.2.1.2.2.2.2.1, (u9.2.1.2.2.2.2.2.1, (u9.2.1.2.2.2.2.2.2.1, (u9.2.1.2.2.2.2.2.2.2.1, ())))))))), ()))))) fun j11 =>
   andK (α := ((Unit × (ByteArray × Unit)) × ((Int × (Int × (Int × (ByteArray × (ByteArray × (ByteArray × (ByteArray × ((List Int) × Unit)))))))) × Unit))) (
    sel (!(decide (j11.2.1.1 = 3)))
     (
     andK (impl_bigEndian N (IntKind.u64.wrap (IntKind.i64.wrap (16384 + (j11.2.1.2.2.2.2.2.2.1.size : Int)))) 2) fun u12 =>
     chk (decide (j11.1.2.1.size + u12.1.1.size ≤ 9223372036854775807)) (
     some ((((), ((j11.1.2.1 ++ u12.1.1), ())), ((j11.2.1.1, (j11.2.1.2.1, (j11.2.1.2.2.1, (j11.2.1.2.2.2.1, (j11.2.1.2.2.2.2.1, (j11.2.1.2.2.2.2.2.1, (j11.2.1.2.2.2.2.2.2.1, (j11.2.1.2.2.2.2.2.2.2.1, ())))))))), ())))))
     (
     some ((((), (j11.1.2.1, ())), ((j11.2.1.1, (j11.2.1.2.1, (j11.2.1.2.2.1, (j11.2.1.2.2.2.1, (j11.2.1.2.2.2.2.1, (j11.2.1.2.2.2.2.2.1, (j11.2.1.2.2.2.2.2.2.1, (j11.2.1.2.2.2.2.2.2.2.1, ())))))))), ()))))) fun j13 =>
   chk (decide (j13.1.2.1.size + j13.2.1.2.2.2.2.2.2.1.size ≤ 9223372036854775807)) (
   some (((j13.1.2.1 ++ j13.2.1.2.2.2.2.2.2.1), ()), ((j13.2.1.1, (j13.2.1.2.1, (j13.2.1.2.2.1, (j13.2.1.2.2.2.1, (j13.2.1.2.2.2.2.1, (j13.2.1.2.2.2.2.2.1, (j13.2.1.2.2.2.2.2.2.1, (j13.2.1.2.2.2.2.2.2.2.1, ())))))))), ()))))))) := by kernel_rfl
set_option maxRecDepth 100000 in
theorem impl_Header_bytes.say (N : Nat) : SayOk Try.prog (impl_Header_bytes.S N) := sayOk_mk (N := N) (H := impl_Header_bytes.H) (preps := [⟨[], [], [], []⟩]) (l := impl_Header_bytes.says) (fn := Try.f85) (c := bodyOf Try.f85)
  (by kernel_rfl) (by kernel_rfl) (by kernel_rfl) (by kernel_rfl) (by kernel_rfl) (by kernel_rfl) (by kernel_rfl)
  (fun N => SayAll.cons (impl_bigEndian.say N) (SayAll.cons (impl_Header_ids.say N) (SayAll.cons (impl_counted.say N) (SayAll.nil)))) (fun a s => by kernel_rfl)

/-! ### loop.example/g00206/impl.HeaderBytes: function 31 -/
noncomputable def impl_HeaderBytes.H : Hints := hintsOf []
noncomputable def impl_HeaderBytes.says (N : Nat) : List Say := [impl_GoodHeader.S N, impl_Header_bytes.S N]
noncomputable def impl_HeaderBytes.call (N : Nat) : CallK := callBy (impl_HeaderBytes.says N)
noncomputable def impl_HeaderBytes.qt (N : Nat) : FuncId → List PV → Sig → Cl := qtBy (impl_HeaderBytes.says N)
noncomputable def impl_HeaderBytes (N : Nat) (h_0 : Int) (h_1 : Int) (h_2 : Int) (h_3 : ByteArray) (h_4 : ByteArray) (h_5 : ByteArray) (h_6 : ByteArray) (h_7 : (List Int)) : Option ((ByteArray × (Bool × Unit)) × Unit) :=
  ofFn Try.prog impl_HeaderBytes.call impl_HeaderBytes.qt impl_HeaderBytes.H N Try.f31 [.agg [ck_i, ck_i, ck_i, ck_s, ck_s, ck_s, ck_s, .sh (.rows (.int .i64))]] [] [ak_s, ak_b] [] [⟨[], [], [], []⟩] ((h_0, (h_1, (h_2, (h_3, (h_4, (h_5, (h_6, (h_7, ())))))))), ()) ()
noncomputable def impl_HeaderBytes.S (N : Nat) : Say := ⟨false, 31, [.agg [ck_i, ck_i, ck_i, ck_s, ck_s, ck_s, ck_s, .sh (.rows (.int .i64))]], [], [ak_s, ak_b], [], fun a s => impl_HeaderBytes N a.1.1 a.1.2.1 a.1.2.2.1 a.1.2.2.2.1 a.1.2.2.2.2.1 a.1.2.2.2.2.2.1 a.1.2.2.2.2.2.2.1 a.1.2.2.2.2.2.2.2.1⟩
set_option maxRecDepth 100000 in
theorem impl_HeaderBytes.eq (N : Nat) (h_0 : Int) (h_1 : Int) (h_2 : Int) (h_3 : ByteArray) (h_4 : ByteArray) (h_5 : ByteArray) (h_6 : ByteArray) (h_7 : (List Int)) : impl_HeaderBytes N h_0 h_1 h_2 h_3 h_4 h_5 h_6 h_7 =
 andK (impl_GoodHeader N h_0 h_1 h_2 h_3 h_4 h_5 h_6 h_7) fun u1 =>
 sel (!u1.1.1)
  (
  some (((⟨#[]⟩ : ByteArray), (false, ())), ()))
  (
  andK (impl_Header_bytes N h_0 h_1 h_2 h_3 h_4 h_5 h_6 h_7) fun u2 =>
  some ((u2.1.1, (true, ())), ())) := by kernel_rfl
set_option maxRecDepth 100000 in
theorem impl_HeaderBytes.say (N : Nat) : SayOk Try.prog (impl_HeaderBytes.S N) := sayOk_mk (N := N) (H := impl_HeaderBytes.H) (preps := [⟨[], [], [], []⟩]) (l := impl_HeaderBytes.says) (fn := Try.f31) (c := bodyOf Try.f31)
  (by kernel_rfl) (by kernel_rfl) (by kernel_rfl) (by kernel_rfl) (by kernel_rfl) (by kernel_rfl) (by kernel_rfl)
  (fun N => SayAll.cons (impl_GoodHeader.say N) (SayAll.cons (impl_Header_bytes.say N) (SayAll.nil))) (fun a s => by kernel_rfl)
noncomputable def impl_HeaderBytes.SB (N : Nat) : Say := impl_HeaderBytes.S N |>.lent
theorem impl_HeaderBytes.sayB (N : Nat) : SayOk Try.prog (impl_HeaderBytes.SB N) := (impl_HeaderBytes.say N).lent

/-! ### loop.example/g00206/spec.l1In: function 53 -/
noncomputable def spec_l1In.H : Hints := hintsOf []
noncomputable def spec_l1In.says (N : Nat) : List Say := []
noncomputable def spec_l1In.call (N : Nat) : CallK := callBy (spec_l1In.says N)
noncomputable def spec_l1In.qt (N : Nat) : FuncId → List PV → Sig → Cl := qtBy (spec_l1In.says N)
noncomputable def spec_l1In (N : Nat) (n : Int) (lo : Int) (hi : Int) : Option ((Bool × Unit) × Unit) :=
  ofFn Try.prog spec_l1In.call spec_l1In.qt spec_l1In.H N Try.f53 [ak_i, ak_i, ak_i] [] [ak_b] [] [⟨[], [], [], []⟩] (n, (lo, (hi, ()))) ()
noncomputable def spec_l1In.S (N : Nat) : Say := ⟨false, 53, [ak_i, ak_i, ak_i], [], [ak_b], [], fun a s => spec_l1In N a.1 a.2.1 a.2.2.1⟩
set_option maxRecDepth 100000 in
theorem spec_l1In.eq (N : Nat) (n : Int) (lo : Int) (hi : Int) : spec_l1In N n lo hi =
 sel (decide (lo ≤ n))
  (
  some (((decide (n ≤ hi)), ()), ()))
  (
  some ((false, ()), ())) := by kernel_rfl
set_option maxRecDepth 100000 in
theorem spec_l1In.say (N : Nat) : SayOk Try.prog (spec_l1In.S N) := sayOk_mk (N := N) (H := spec_l1In.H) (preps := [⟨[], [], [], []⟩]) (l := spec_l1In.says) (fn := Try.f53) (c := bodyOf Try.f53)
  (by kernel_rfl) (by kernel_rfl) (by kernel_rfl) (by kernel_rfl) (by kernel_rfl) (by kernel_rfl) (by kernel_rfl)
  (fun N => SayAll.nil) (fun a s => by kernel_rfl)

/-! ### loop.example/g00206/spec.l2Word: function 132 -/
noncomputable def spec_l2Word.H : Hints := hintsOf []
noncomputable def spec_l2Word.says (N : Nat) : List Say := [spec_l1In.S N]
noncomputable def spec_l2Word.call (N : Nat) : CallK := callBy (spec_l2Word.says N)
noncomputable def spec_l2Word.qt (N : Nat) : FuncId → List PV → Sig → Cl := qtBy (spec_l2Word.says N)
noncomputable def spec_l2Word (N : Nat) (n : Int) : Option ((Bool × Unit) × Unit) :=
  ofFn Try.prog spec_l2Word.call spec_l2Word.qt spec_l2Word.H N Try.f132 [ak_i] [] [ak_b] [] [⟨[], [], [], []⟩] (n, ()) ()
noncomputable def spec_l2Word.S (N : Nat) : Say := ⟨false, 132, [ak_i], [], [ak_b], [], fun a s => spec_l2Word N a.1⟩
set_option maxRecDepth 100000 in
theorem spec_l2Word.eq (N : Nat) (n : Int) : spec_l2Word N n =
 andK (spec_l1In N n 0 4294967295) fun u1 =>
 some ((u1.1.1, ()), ()) := by kernel_rfl
set_option maxRecDepth 100000 in
theorem spec_l2Word.say (N : Nat) : SayOk Try.prog (spec_l2Word.S N) := sayOk_mk (N := N) (H := spec_l2Word.H) (preps := [⟨[], [], [], []⟩]) (l := spec_l2Word.says) (fn := Try.f132) (c := bodyOf Try.f132)
  (by kernel_rfl) (by kernel_rfl) (by kernel_rfl) (by kernel_rfl) (by kernel_rfl) (by kernel_rfl) (by kernel_rfl)
  (fun N => SayAll.cons (spec_l1In.say N) (SayAll.nil)) (fun a s => by kernel_rfl)

/-! ### loop.example/g00206/spec.GoodHeader: function 86 -/
noncomputable def spec_GoodHeader.H : Hints := hintsOf [(5000001, .join [⟨.normal, [], [1, 32], [.one (.ptr 0 0), ak_b], [.cells [ck_i, ck_i, ck_i, ck_s, ck_s, ck_s, ck_s, .sh (.rows (.int .i64))]], [⟨[], [], [], []⟩]⟩]),
  (5000003, .join [⟨.normal, [], [1, 51], [.one (.ptr 0 0), ak_b], [.cells [ck_i, ck_i, ck_i, ck_s, ck_s, ck_s, ck_s, .sh (.rows (.int .i64))]], [⟨[], [], [], []⟩]⟩]),
  (5000010, .join [⟨.normal, [], [2], [ak_b], [.cells [ck_i, ck_i, ck_i, ck_s, ck_s, ck_s, ck_s, .sh (.rows (.int .i64))]], [⟨[], [], [], []⟩]⟩]),
  (2000013, .loop ⟨.normal, [70, 71], [1, 72], [.one (.ptr 0 0), ak_i], [.cells [ck_i, ck_i, ck_i, ck_s, ck_s, ck_s, ck_s, .sh (.rows (.int .i64))]], [⟨[], [], [], []⟩]⟩ [⟨.ret, [], [2], [ak_b], [.cells [ck_i, ck_i, ck_i, ck_s, ck_s, ck_s, ck_s, .sh (.rows (.int .i64))]], [⟨[], [], [], []⟩]⟩, ⟨(.exit 1), [], [1], [.one (.ptr 0 0)], [.cells [ck_i, ck_i, ck_i, ck_s, ck_s, ck_s, ck_s, .sh (.rows (.int .i64))]], [⟨[], [], [], []⟩]⟩]),
  (5000018, .join [⟨.normal, [], [2], [ak_b], [.cells [ck_i, ck_i, ck_i, ck_s, ck_s, ck_s, ck_s, .sh (.rows (.int .i64))]], [⟨[], [], [], []⟩]⟩]),
  (19, .join [⟨.ret, [], [2], [ak_b], [.cells [ck_i, ck_i, ck_i, ck_s, ck_s, ck_s, ck_s, .sh (.rows (.int .i64))]], [⟨[], [], [], []⟩]⟩, ⟨.normal, [], [1], [.one (.ptr 0 0)], [.cells [ck_i, ck_i, ck_i, ck_s, ck_s, ck_s, ck_s, .sh (.rows (.int .i64))]], [⟨[], [], [], []⟩]⟩])]
noncomputable def spec_GoodHeader.says (N : Nat) : List Say := [spec_l1In.S N, spec_l2Word.S N]
noncomputable def spec_GoodHeader.call (N : Nat) : CallK := callBy (spec_GoodHeader.says N)
noncomputable def spec_GoodHeader.qt (N : Nat) : FuncId → List PV → Sig → Cl := qtBy (spec_GoodHeader.says N)
noncomputable def spec_GoodHeader.l0.hd : Alt := ⟨.normal, [70, 71], [1, 72], [.one (.ptr 0 0), ak_i], [.cells [ck_i, ck_i, ck_i, ck_s, ck_s, ck_s, ck_s, .sh (.rows (.int .i64))]], [⟨[], [], [], []⟩]⟩
noncomputable def spec_GoodHeader.l0.outs : List Alt := [⟨.ret, [], [2], [ak_b], [.cells [ck_i, ck_i, ck_i, ck_s, ck_s, ck_s, ck_s, .sh (.rows (.int .i64))]], [⟨[], [], [], []⟩]⟩, ⟨(.exit 1), [], [1], [.one (.ptr 0 0)], [.cells [ck_i, ck_i, ck_i, ck_s, ck_s, ck_s, ck_s, .sh (.rows (.int .i64))]], [⟨[], [], [], []⟩]⟩]
noncomputable def spec_GoodHeader.l0 (N : Nat) (t70 : (List Int)) (t71 : Int) (t72 : Int) (p0_0 : Int) (p0_1 : Int) (p0_2 : Int) (p0_3 : ByteArray) (p0_4 : ByteArray) (p0_5 : ByteArray) (p0_6 : ByteArray) (p0_7 : (List Int)) : Option (((Bool × Unit) × ((Int × (Int × (Int × (ByteArray × (ByteArray × (ByteArray × (ByteArray × ((List Int) × Unit)))))))) × Unit)) ⊕ ((Unit × Unit) × ((Int × (Int × (Int × (ByteArray × (ByteArray × (ByteArray × (ByteArray × ((List Int) × Unit)))))))) × Unit))) :=
  loopK Try.prog spec_GoodHeader.call spec_GoodHeader.qt spec_GoodHeader.H (codeAt (bodyOf Try.f86) [1, 1, 1, 0, 1, 0, 1, 1, 1, 0, 0, 1, 0, 0]) 1 spec_GoodHeader.l0.hd spec_GoodHeader.l0.outs [(70, .rows false (.int .i64) t70), (71, .v (.int .i64 t71))] N (((), (t72, ())), ((p0_0, (p0_1, (p0_2, (p0_3, (p0_4, (p0_5, (p0_6, (p0_7, ())))))))), ()))
noncomputable def spec_GoodHeader.l1.hd : Alt := ⟨.normal, [70, 71], [1, 72], [.one (.ptr 0 0), ak_i], [.cells [ck_i, ck_i, ck_i, ck_s, ck_s, ck_s, ck_s, .sh (.rows (.int .i64))]], [⟨[], [], [], []⟩]⟩
noncomputable def spec_GoodHeader.l1.outs : List Alt := [⟨.ret, [], [2], [ak_b], [.cells [ck_i, ck_i, ck_i, ck_s, ck_s, ck_s, ck_s, .sh (.rows (.int .i64))]], [⟨[], [], [], []⟩]⟩, ⟨(.exit 1), [], [1], [.one (.ptr 0 0)], [.cells [ck_i, ck_i, ck_i, ck_s, ck_s, ck_s, ck_s, .sh (.rows (.int .i64))]], [⟨[], [], [], []⟩]⟩]
noncomputable def spec_GoodHeader.l1 (N : Nat) (t701 : (List Int)) (t711 : Int) (t721 : Int) (p0_01 : Int) (p0_11 : Int) (p0_21 : Int) (p0_31 : ByteArray) (p0_41 : ByteArray) (p0_51 : ByteArray) (p0_61 : ByteArray) (p0_71 : (List Int)) : Option (((Bool × Unit) × ((Int × (Int × (Int × (ByteArray × (ByteArray × (ByteArray × (ByteArray × ((List Int) × Unit)))))))) × Unit)) ⊕ ((Unit × Unit) × ((Int × (Int × (Int × (ByteArray × (ByteArray × (ByteArray × (ByteArray × ((List Int) × Unit)))))))) × Unit))) :=
  loopK Try.prog spec_GoodHeader.call spec_GoodHeader.qt spec_GoodHeader.H (codeAt (bodyOf Try.f86) [1, 1, 1, 0, 1, 0, 1, 1, 1, 0, 0, 1, 0, 0]) 1 spec_GoodHeader.l1.hd spec_GoodHeader.l1.outs [(70, .rows false (.int .i64) t701), (71, .v (.int .i64 t711))] N (((), (t721, ())), ((p0_01, (p0_11, (p0_21, (p0_31, (p0_41, (p0_51, (p0_61, (p0_71, ())))))))), ()))
noncomputable def spec_GoodHeader.l2.hd : Alt := ⟨.normal, [70, 71], [1, 72], [.one (.ptr 0 0), ak_i], [.cells [ck_i, ck_i, ck_i, ck_s, ck_s, ck_s, ck_s, .sh (.rows (.int .i64))]], [⟨[], [], [], []⟩]⟩
noncomputable def spec_GoodHeader.l2.outs : List Alt := [⟨.ret, [], [2], [ak_b], [.cells [ck_i, ck_i, ck_i, ck_s, ck_s, ck_s, ck_s, .sh (.rows (.int .i64))]], [⟨[], [], [], []⟩]⟩, ⟨(.exit 1), [], [1], [.one (.ptr 0 0)], [.cells [ck_i, ck_i, ck_i, ck_s, ck_s, ck_s, ck_s, .sh (.rows (.int .i64))]], [⟨[], [], [], []⟩]⟩]
noncomputable def spec_GoodHeader.l2 (N : Nat) (t702 : (List Int)) (t712 : Int) (t722 : Int) (p0_02 : Int) (p0_12 : Int) (p0_22 : Int) (p0_32 : ByteArray) (p0_42 : ByteArray) (p0_52 : ByteArray) (p0_62 : ByteArray) (p0_72 : (List Int)) : Option (((Bool × Unit) × ((Int × (Int × (Int × (ByteArray × (ByteArray × (ByteArray × (ByteArray × ((List Int) × Unit)))))))) × Unit)) ⊕ ((Unit × Unit) × ((Int × (Int × (Int × (ByteArray × (ByteArray × (ByteArray × (ByteArray × ((List Int) × Unit)))))))) × Unit))) :=
  loopK Try.prog spec_GoodHeader.call spec_GoodHeader.qt spec_GoodHeader.H (codeAt (bodyOf Try.f86) [1, 1, 1, 0, 1, 0, 1, 1, 1, 0, 0, 1, 0, 0]) 1 spec_GoodHeader.l2.hd spec_GoodHeader.l2.outs [(70, .rows false (.int .i64) t702), (71, .v (.int .i64 t712))] N (((), (t722, ())), ((p0_02, (p0_12, (p0_22, (p0_32, (p0_42, (p0_52, (p0_62, (p0_72, ())))))))), ()))
noncomputable def spec_GoodHeader.l3.hd : Alt := ⟨.normal, [70, 71], [1, 72], [.one (.ptr 0 0), ak_i], [.cells [ck_i, ck_i, ck_i, ck_s, ck_s, ck_s, ck_s, .sh (.rows (.int .i64))]], [⟨[], [], [], []⟩]⟩
noncomputable def spec_GoodHeader.l3.outs : List Alt := [⟨.ret, [], [2], [ak_b], [.cells [ck_i, ck_i, ck_i, ck_s, ck_s, ck_s, ck_s, .sh (.rows (.int .i64))]], [⟨[], [], [], []⟩]⟩, ⟨(.exit 1), [], [1], [.one (.ptr 0 0)], [.cells [ck_i, ck_i, ck_i, ck_s, ck_s, ck_s, ck_s, .sh (.rows (.int .i64))]], [⟨[], [], [], []⟩]⟩]
noncomputable def spec_GoodHeader.l3 (N : Nat) (t703 : (List Int)) (t713 : Int) (t723 : Int) (p0_03 : Int) (p0_13 : Int) (p0_23 : Int) (p0_33 : ByteArray) (p0_43 : ByteArray) (p0_53 : ByteArray) (p0_63 : ByteArray) (p0_73 : (List Int)) : Option (((Bool × Unit) × ((Int × (Int × (Int × (ByteArray × (ByteArray × (ByteArray × (ByteArray × ((List Int) × Unit)))))))) × Unit)) ⊕ ((Unit × Unit) × ((Int × (Int × (Int × (ByteArray × (ByteArray × (ByteArray × (ByteArray × ((List Int) × Unit)))))))) × Unit))) :=
  loopK Try.prog spec_GoodHeader.call spec_GoodHeader.qt spec_GoodHeader.H (codeAt (bodyOf Try.f86) [1, 1, 1, 0, 1, 0, 1, 1, 1, 0, 0, 1, 0, 0]) 1 spec_GoodHeader.l3.hd spec_GoodHeader.l3.outs [(70, .rows false (.int .i64) t703), (71, .v (.int .i64 t713))] N (((), (t723, ())), ((p0_03, (p0_13, (p0_23, (p0_33, (p0_43, (p0_53, (p0_63, (p0_73, ())))))))), ()))
noncomputable def spec_GoodHeader (N : Nat) (G_0 : Int) (G_1 : Int) (G_2 : Int) (G_3 : ByteArray) (G_4 : ByteArray) (G_5 : ByteArray) (G_6 : ByteArray) (G_7 : (List Int)) : Option ((Bool × Unit) × Unit) :=
  ofFn Try.prog spec_GoodHeader.call spec_GoodHeader.qt spec_GoodHeader.H N Try.f86 [.agg [ck_i, ck_i, ck_i, ck_s, ck_s, ck_s, ck_s, .sh (.rows (.int .i64))]] [] [ak_b] [] [⟨[], [], [], []⟩] ((G_0, (G_1, (G_2, (G_3, (G_4, (G_5, (G_6, (G_7, ())))))))), ()) ()
noncomputable def spec_GoodHeader.S (N : Nat) : Say := ⟨false, 86, [.agg [ck_i, ck_i, ck_i, ck_s, ck_s, ck_s, ck_s, .sh (.rows (.int .i64))]], [], [ak_b], [], fun a s => spec_GoodHeader N a.1.1 a.1.2.1 a.1.2.2.1 a.1.2.2.2.1 a.1.2.2.2.2.1 a.1.2.2.2.2.2.1 a.1.2.2.2.2.2.2.1 a.1.2.2.2.2.2.2.2.1⟩
set_option maxRecDepth 100000 in
theorem spec_GoodHeader.l3.eq (N : Nat) (t703 : (List Int)) (t713 : Int) (t723 : Int) (p0_03 : Int) (p0_13 : Int) (p0_23 : Int) (p0_33 : ByteArray) (p0_43 : ByteArray) (p0_53 : ByteArray) (p0_63 : ByteArray) (p0_73 : (List Int)) : spec_GoodHeader.l3 (N + 1) t703 t713 t723 p0_03 p0_13 p0_23 p0_33 p0_43 p0_53 p0_63 p0_73 =
 sel (decide (t723 < t713))
  (
  chk ((decide (0 ≤ t723)) && (decide (t723 < (t703.length : Int)))) (
  andK (spec_l2Word N (t703.getD (Int.toNat t723) 0)) fun u30 =>
  sel (!u30.1.1)
   (
   some (.inl ((false, ()), ((p0_03, (p0_13, (p0_23, (p0_33, (p0_43, (p0_53, (p0_63, (p0_73, ())))))))), ()))))
   (
   spec_GoodHeader.l3 N t703 t713 (IntKind.i64.wrap (t723 + 1)) p0_03 p0_13 p0_23 p0_33 p0_43 p0_53 p0_63 p0_73)))
  (
  some (.inr ((((), ()), ((p0_03, (p0_13, (p0_23, (p0_33, (p0_43, (p0_53, (p0_63, (p0_73, ())))))))), ()))))) := by kernel_rfl
set_option maxRecDepth 100000 in
theorem spec_GoodHeader.l2.eq (N : Nat) (t702 : (List Int)) (t712 : Int) (t722 : Int) (p0_02 : Int) (p0_12 : Int) (p0_22 : Int) (p0_32 : ByteArray) (p0_42 : ByteArray) (p0_52 : ByteArray) (p0_62 : ByteArray) (p0_72 : (List Int)) : spec_GoodHeader.l2 (N + 1) t702 t712 t722 p0_02 p0_12 p0_22 p0_32 p0_42 p0_52 p0_62 p0_72 =
 sel (decide (t722 < t712))
  (
  chk ((decide (0 ≤ t722)) && (decide (t722 < (t702.length : Int)))) (
  andK (spec_l2Word N (t702.getD (Int.toNat t722) 0)) fun u22 =>
  sel (!u22.1.1)
   (
   some (.inl ((false, ()), ((p0_02, (p0_12, (p0_22, (p0_32, (p0_42, (p0_52, (p0_62, (p0_72, ())))))))), ()))))
   (
   spec_GoodHeader.l2 N t702 t712 (IntKind.i64.wrap (t722 + 1)) p0_02 p0_12 p0_22 p0_32 p0_42 p0_52 p0_62 p0_72)))
  (
  some (.inr ((((), ()), ((p0_02, (p0_12, (p0_22, (p0_32, (p0_42, (p0_52, (p0_62, (p0_72, ())))))))), ()))))) := by kernel_rfl
set_option maxRecDepth 100000 in
theorem spec_GoodHeader.l1.eq (N : Nat) (t701 : (List Int)) (t711 : Int) (t721 : Int) (p0_01 : Int) (p0_11 : Int) (p0_21 : Int) (p0_31 : ByteArray) (p0_41 : ByteArray) (p0_51 : ByteArray) (p0_61 : ByteArray) (p0_71 : (List Int)) : spec_GoodHeader.l1 (N + 1) t701 t711 t721 p0_01 p0_11 p0_21 p0_31 p0_41 p0_51 p0_61 p0_71 =
 sel (decide (t721 < t711))
  (
  chk ((decide (0 ≤ t721)) && (decide (t721 < (t701.length : Int)))) (
  andK (spec_l2Word N (t701.getD (Int.toNat t721) 0)) fun u14 =>
  sel (!u14.1.1)
   (
   some (.inl ((false, ()), ((p0_01, (p0_11, (p0_21, (p0_31, (p0_41, (p0_51, (p0_61, (p0_71, ())))))))), ()))))
   (
   spec_GoodHeader.l1 N t701 t711 (IntKind.i64.wrap (t721 + 1)) p0_01 p0_11 p0_21 p0_31 p0_41 p0_51 p0_61 p0_71)))
  (
  some (.inr ((((), ()), ((p0_01, (p0_11, (p0_21, (p0_31, (p0_41, (p0_51, (p0_61, (p0_71, ())))))))), ()))))) := by kernel_rfl
set_option maxRecDepth 100000 in
theorem spec_GoodHeader.l0.eq (N : Nat) (t70 : (List Int)) (t71 : Int) (t72 : Int) (p0_0 : Int) (p0_1 : Int) (p0_2 : Int) (p0_3 : ByteArray) (p0_4 : ByteArray) (p0_5 : ByteArray) (p0_6 : ByteArray) (p0_7 : (List Int)) : spec_GoodHeader.l0 (N + 1) t70 t71 t72 p0_0 p0_1 p0_2 p0_3 p0_4 p0_5 p0_6 p0_7 =
 sel (decide (t72 < t71))
  (
  chk ((decide (0 ≤ t72)) && (decide (t72 < (t70.length : Int)))) (
  andK (spec_l2Word N (t70.getD (Int.toNat t72) 0)) fun u6 =>
  sel (!u6.1.1)
   (
   some (.inl ((false, ()), ((p0_0, (p0_1, (p0_2, (p0_3, (p0_4, (p0_5, (p0_6, (p0_7, ())))))))), ()))))
   (
   spec_GoodHeader.l0 N t70 t71 (IntKind.i64.wrap (t72 + 1)) p0_0 p0_1 p0_2 p0_3 p0_4 p0_5 p0_6 p0_7)))
  (
  some (.inr ((((), ()), ((p0_0, (p0_1, (p0_2, (p0_3, (p0_4, (p0_5, (p0_6, (p0_7, ())))))))), ()))))) := by kernel_rfl
set_option maxRecDepth 100000 in
theorem spec_GoodHeader.eq (N : Nat) (G_0 : Int) (G_1 : Int) (G_2 : Int) (G_3 : ByteArray) (G_4 : ByteArray) (G_5 : ByteArray) (G_6 : ByteArray) (G_7 : (List Int)) : spec_GoodHeader N G_0 G_1 G_2 G_3 G_4 G_5 G_6 G_7 =
 andK (α := ((Unit × (Bool × Unit)) × ((Int × (Int × (Int × (ByteArray × (ByteArray × (ByteArray × (ByteArray × ((List Int) × Unit)))))))) × Unit))) (
  sel (decide (20 < (G_3.size : Int)))
   (
   some ((((), (true, ())), ((G_0, (G_1, (G_2, (G_3, (G_4, (G_5, (G_6, (G_7, ())))))))), ()))))
   (
   sel (decide (20 < (G_4.size : Int)))
    (
    some ((((), (true, ())), ((G_0, (G_1, (G_2, (G_3, (G_4, (G_5, (G_6, (G_7, ())))))))), ()))))
    (
    andK (spec_l1In N G_1 0 15) fun u1 =>
    sel (!u1.1.1)
     (
     some ((((), (true, ())), ((G_0, (G_1, (G_2, (G_3, (G_4, (G_5, (G_6, (G_7, ())))))))), ()))))
     (
     sel (decide (200 < (G_5.size : Int)))
      (
      some ((((), (true, ())), ((G_0, (G_1, (G_2, (G_3, (G_4, (G_5, (G_6, (G_7, ())))))))), ()))))
      (
      some ((((), ((decide (1200 < (G_6.size : Int))), ())), ((G_0, (G_1, (G_2, (G_3, (G_4, (G_5, (G_6, (G_7, ())))))))), ())))))))) fun j2 =>
 sel j2.1.2.1
  (
  some ((false, ()), ()))
  (
  andK (α := ((Unit × (Bool × Unit)) × ((Int × (Int × (Int × (ByteArray × (ByteArray × (ByteArray × (ByteArray × ((List Int) × Unit)))))))) × Unit))) (
   sel (!(decide (j2.2.1.1 = 0)))
    (
    sel (!(decide (j2.2.1.2.2.2.2.2.1 = (⟨#[]⟩ : ByteArray))))
     (
     some ((((), (true, ())), ((j2.2.1.1, (j2.2.1.2.1, (j2.2.1.2.2.1, (j2.2.1.2.2.2.1, (j2.2.1.2.2.2.2.1, (j2.2.1.2.2.2.2.2.1, (j2.2.1.2.2.2.2.2.2.1, (j2.2.1.2.2.2.2.2.2.2.1, ())))))))), ()))))
     (
     sel (!(decide (j2.2.1.1 = 4)))
      (
      some ((((), ((decide (0 < (j2.2.1.2.2.2.2.2.2.2.1.length : Int))), ())), ((j2.2.1.1, (j2.2.1.2.1, (j2.2.1.2.2.1, (j2.2.1.2.2.2.1, (j2.2.1.2.2.2.2.1, (j2.2.1.2.2.2.2.2.1, (j2.2.1.2.2.2.2.2.2.1, (j2.2.1.2.2.2.2.2.2.2.1, ())))))))), ()))))
      (
      some ((((), (false, ())), ((j2.2.1.1, (j2.2.1.2.1, (j2.2.1.2.2.1, (j2.2.1.2.2.2.1, (j2.2.1.2.2.2.2.1, (j2.2.1.2.2.2.2.2.1, (j2.2.1.2.2.2.2.2.2.1, (j2.2.1.2.2.2.2.2.2.2.1, ())))))))), ()))))))
    (
    sel (!(decide (j2.2.1.1 = 4)))
     (
     some ((((), ((decide (0 < (j2.2.1.2.2.2.2.2.2.2.1.length : Int))), ())), ((j2.2.1.1, (j2.2.1.2.1, (j2.2.1.2.2.1, (j2.2.1.2.2.2.1, (j2.2.1.2.2.2.2.1, (j2.2.1.2.2.2.2.2.1, (j2.2.1.2.2.2.2.2.2.1, (j2.2.1.2.2.2.2.2.2.2.1, ())))))))), ()))))
     (
     some ((((), (false, ())), ((j2.2.1.1, (j2.2.1.2.1, (j2.2.1.2.2.1, (j2.2.1.2.2.2.1, (j2.2.1.2.2.2.2.1, (j2.2.1.2.2.2.2.2.1, (j2.2.1.2.2.2.2.2.2.1, (j2.2.1.2.2.2.2.2.2.2.1, ())))))))), ())))))) fun j3 =>
  sel j3.1.2.1
   (
   some ((false, ()), ()))
   (
   andK (α := (((Bool × Unit) × ((Int × (Int × (Int × (ByteArray × (ByteArray × (ByteArray × (ByteArray × ((List Int) × Unit)))))))) × Unit)) ⊕ ((Unit × Unit) × ((Int × (Int × (Int × (ByteArray × (ByteArray × (ByteArray × (ByteArray × ((List Int) × Unit)))))))) × Unit)))) (
    sel (decide (j3.2.1.1 = 0))
     (
     sel (decide (j3.2.1.1 = 0))
      (
      andK (α := ((Bool × Unit) × ((Int × (Int × (Int × (ByteArray × (ByteArray × (ByteArray × (ByteArray × ((List Int) × Unit)))))))) × Unit))) (
       andK (spec_l1In N j3.2.1.2.2.1 1 4294967295) fun u4 =>
       sel u4.1.1
        (
        some ((((!(decide (j3.2.1.2.2.2.2.2.2.1 = (⟨#[]⟩ : ByteArray)))), ()), ((j3.2.1.1, (j3.2.1.2.1, (j3.2.1.2.2.1, (j3.2.1.2.2.2.1, (j3.2.1.2.2.2.2.1, (j3.2.1.2.2.2.2.2.1, (j3.2.1.2.2.2.2.2.2.1, (j3.2.1.2.2.2.2.2.2.2.1, ())))))))), ()))))
        (
        some (((false, ()), ((j3.2.1.1, (j3.2.1.2.1, (j3.2.1.2.2.1, (j3.2.1.2.2.2.1, (j3.2.1.2.2.2.2.1, (j3.2.1.2.2.2.2.2.1, (j3.2.1.2.2.2.2.2.2.1, (j3.2.1.2.2.2.2.2.2.2.1, ())))))))), ()))))) fun j5 =>
      some (.inl ((j5.1.1, ()), ((j5.2.1.1, (j5.2.1.2.1, (j5.2.1.2.2.1, (j5.2.1.2.2.2.1, (j5.2.1.2.2.2.2.1, (j5.2.1.2.2.2.2.2.1, (j5.2.1.2.2.2.2.2.2.1, (j5.2.1.2.2.2.2.2.2.2.1, ())))))))), ()))))
      (
      sel (decide (j3.2.1.1 = 4))
       (
       andK (spec_GoodHeader.l0 N j3.2.1.2.2.2.2.2.2.2.1 (j3.2.1.2.2.2.2.2.2.2.1.length : Int) 0 j3.2.1.1 j3.2.1.2.1 j3.2.1.2.2.1 j3.2.1.2.2.2.1 j3.2.1.2.2.2.2.1 j3.2.1.2.2.2.2.2.1 j3.2.1.2.2.2.2.2.2.1 j3.2.1.2.2.2.2.2.2.2.1) fun l7 =>
       orK l7 (fun x8 =>
        some (.inl ((x8.1.1, ()), ((x8.2.1.1, (x8.2.1.2.1, (x8.2.1.2.2.1, (x8.2.1.2.2.2.1, (x8.2.1.2.2.2.2.1, (x8.2.1.2.2.2.2.2.1, (x8.2.1.2.2.2.2.2.2.1, (x8.2.1.2.2.2.2.2.2.2.1, ())))))))), ()))))
        (fun x9 =>
        andK (α := ((Bool × Unit) × ((Int × (Int × (Int × (ByteArray × (ByteArray × (ByteArray × (ByteArray × ((List Int) × Unit)))))))) × Unit))) (
         sel (decide (x9.2.1.2.2.1 = 0))
          (
          sel (decide (x9.2.1.2.2.2.2.2.2.1 = (⟨#[]⟩ : ByteArray)))
           (
           andK (spec_l1In N (x9.2.1.2.2.2.2.2.2.2.1.length : Int) 1 20) fun u10 =>
           some (((u10.1.1, ()), ((x9.2.1.1, (x9.2.1.2.1, (x9.2.1.2.2.1, (x9.2.1.2.2.2.1, (x9.2.1.2.2.2.2.1, (x9.2.1.2.2.2.2.2.1, (x9.2.1.2.2.2.2.2.2.1, (x9.2.1.2.2.2.2.2.2.2.1, ())))))))), ()))))
           (
           some (((false, ()), ((x9.2.1.1, (x9.2.1.2.1, (x9.2.1.2.2.1, (x9.2.1.2.2.2.1, (x9.2.1.2.2.2.2.1, (x9.2.1.2.2.2.2.2.1, (x9.2.1.2.2.2.2.2.2.1, (x9.2.1.2.2.2.2.2.2.2.1, ())))))))), ())))))
          (
          some (((false, ()), ((x9.2.1.1, (x9.2.1.2.1, (x9.2.1.2.2.1, (x9.2.1.2.2.2.1, (x9.2.1.2.2.2.2.1, (x9.2.1.2.2.2.2.2.1, (x9.2.1.2.2.2.2.2.2.1, (x9.2.1.2.2.2.2.2.2.2.1, ())))))))), ()))))) fun j11 =>
        some (.inl ((j11.1.1, ()), ((j11.2.1.1, (j11.2.1.2.1, (j11.2.1.2.2.1, (j11.2.1.2.2.2.1, (j11.2.1.2.2.2.2.1, (j11.2.1.2.2.2.2.2.1, (j11.2.1.2.2.2.2.2.2.1, (j11.2.1.2.2.2.2.2.2.2.1, ())))))))), ())))))
       (
       some (.inr ((((), ()), ((j3.2.1.1, (j3.2.1.2.1, (j3.2.1.2.2.1, (j3.2.1.2.2.2.1, (j3.2.1.2.2.2.2.1, (j3.2.1.2.2.2.2.2.1, (j3.2.1.2.2.2.2.2.2.1, (j3.2.1.2.2.2.2.2.2.2.1, ())))))))), ())))))))
     (
     sel (decide (j3.2.1.1 = 1))
      (
      sel (decide (j3.2.1.1 = 1))
       (
       andK (α := ((Bool × Unit) × ((Int × (Int × (Int × (ByteArray × (ByteArray × (ByteArray × (ByteArray × ((List Int) × Unit)))))))) × Unit))) (
        andK (spec_l1In N j3.2.1.2.2.1 1 4294967295) fun u12 =>
        sel u12.1.1
         (
         some ((((!(decide (j3.2.1.2.2.2.2.2.2.1 = (⟨#[]⟩ : ByteArray)))), ()), ((j3.2.1.1, (j3.2.1.2.1, (j3.2.1.2.2.1, (j3.2.1.2.2.2.1, (j3.2.1.2.2.2.2.1, (j3.2.1.2.2.2.2.2.1, (j3.2.1.2.2.2.2.2.2.1, (j3.2.1.2.2.2.2.2.2.2.1, ())))))))), ()))))
         (
         some (((false, ()), ((j3.2.1.1, (j3.2.1.2.1, (j3.2.1.2.2.1, (j3.2.1.2.2.2.1, (j3.2.1.2.2.2.2.1, (j3.2.1.2.2.2.2.2.1, (j3.2.1.2.2.2.2.2.2.1, (j3.2.1.2.2.2.2.2.2.2.1, ())))))))), ()))))) fun j13 =>
       some (.inl ((j13.1.1, ()), ((j13.2.1.1, (j13.2.1.2.1, (j13.2.1.2.2.1, (j13.2.1.2.2.2.1, (j13.2.1.2.2.2.2.1, (j13.2.1.2.2.2.2.2.1, (j13.2.1.2.2.2.2.2.2.1, (j13.2.1.2.2.2.2.2.2.2.1, ())))))))), ()))))
       (
       sel (decide (j3.2.1.1 = 4))
        (
        andK (spec_GoodHeader.l1 N j3.2.1.2.2.2.2.2.2.2.1 (j3.2.1.2.2.2.2.2.2.2.1.length : Int) 0 j3.2.1.1 j3.2.1.2.1 j3.2.1.2.2.1 j3.2.1.2.2.2.1 j3.2.1.2.2.2.2.1 j3.2.1.2.2.2.2.2.1 j3.2.1.2.2.2.2.2.2.1 j3.2.1.2.2.2.2.2.2.2.1) fun l15 =>
        orK l15 (fun x16 =>
         some (.inl ((x16.1.1, ()), ((x16.2.1.1, (x16.2.1.2.1, (x16.2.1.2.2.1, (x16.2.1.2.2.2.1, (x16.2.1.2.2.2.2.1, (x16.2.1.2.2.2.2.2.1, (x16.2.1.2.2.2.2.2.2.1, (x16.2.1.2.2.2.2.2.2.2.1, ())))))))), ()))))
         (fun x17 =>
         andK (α := ((Bool × Unit) × ((Int × (Int × (Int × (ByteArray × (ByteArray × (ByteArray × (ByteArray × ((List Int) × Unit)))))))) × Unit))) (
          sel (decide (x17.2.1.2.2.1 = 0))
           (
           sel (decide (x17.2.1.2.2.2.2.2.2.1 = (⟨#[]⟩ : ByteArray)))
            (
            andK (spec_l1In N (x17.2.1.2.2.2.2.2.2.2.1.length : Int) 1 20) fun u18 =>
            some (((u18.1.1, ()), ((x17.2.1.1, (x17.2.1.2.1, (x17.2.1.2.2.1, (x17.2.1.2.2.2.1, (x17.2.1.2.2.2.2.1, (x17.2.1.2.2.2.2.2.1, (x17.2.1.2.2.2.2.2.2.1, (x17.2.1.2.2.2.2.2.2.2.1, ())))))))), ()))))
            (
            some (((false, ()), ((x17.2.1.1, (x17.2.1.2.1, (x17.2.1.2.2.1, (x17.2.1.2.2.2.1, (x17.2.1.2.2.2.2.1, (x17.2.1.2.2.2.2.2.1, (x17.2.1.2.2.2.2.2.2.1, (x17.2.1.2.2.2.2.2.2.2.1, ())))))))), ())))))
           (
           some (((false, ()), ((x17.2.1.1, (x17.2.1.2.1, (x17.2.1.2.2.1, (x17.2.1.2.2.2.1, (x17.2.1.2.2.2.2.1, (x17.2.1.2.2.2.2.2.1, (x17.2.1.2.2.2.2.2.2.1, (x17.2.1.2.2.2.2.2.2.2.1, ())))))))), ()))))) fun j19 =>
         some (.inl ((j19.1.1, ()), ((j19.2.1.1, (j19.2.1.2.1, (j19.2.1.2.2.1, (j19.2.1.2.2.2.1, (j19.2.1.2.2.2.2.1, (j19.2.1.2.2.2.2.2.1, (j19.2.1.2.2.2.2.2.2.1, (j19.2.1.2.2.2.2.2.2.2.1, ())))))))), ())))))
        (
        some (.inr ((((), ()), ((j3.2.1.1, (j3.2.1.2.1, (j3.2.1.2.2.1, (j3.2.1.2.2.2.1, (j3.2.1.2.2.2.2.1, (j3.2.1.2.2.2.2.2.1, (j3.2.1.2.2.2.2.2.2.1, (j3.2.1.2.2.2.2.2.2.2.1, ())))))))), ())))))))
      (
      sel (decide (j3.2.1.1 = 2))
       (
       sel (decide (j3.2.1.1 = 2))
        (
        andK (α := ((Bool × Unit) × ((Int × (Int × (Int × (ByteArray × (ByteArray × (ByteArray × (ByteArray × ((List Int) × Unit)))))))) × Unit))) (
         andK (spec_l1In N j3.2.1.2.2.1 1 4294967295) fun u20 =>
         sel u20.1.1
          (
          some ((((!(decide (j3.2.1.2.2.2.2.2.2.1 = (⟨#[]⟩ : ByteArray)))), ()), ((j3.2.1.1, (j3.2.1.2.1, (j3.2.1.2.2.1, (j3.2.1.2.2.2.1, (j3.2.1.2.2.2.2.1, (j3.2.1.2.2.2.2.2.1, (j3.2.1.2.2.2.2.2.2.1, (j3.2.1.2.2.2.2.2.2.2.1, ())))))))), ()))))
          (
          some (((false, ()), ((j3.2.1.1, (j3.2.1.2.1, (j3.2.1.2.2.1, (j3.2.1.2.2.2.1, (j3.2.1.2.2.2.2.1, (j3.2.1.2.2.2.2.2.1, (j3.2.1.2.2.2.2.2.2.1, (j3.2.1.2.2.2.2.2.2.2.1, ())))))))), ()))))) fun j21 =>
        some (.inl ((j21.1.1, ()), ((j21.2.1.1, (j21.2.1.2.1, (j21.2.1.2.2.1, (j21.2.1.2.2.2.1, (j21.2.1.2.2.2.2.1, (j21.2.1.2.2.2.2.2.1, (j21.2.1.2.2.2.2.2.2.1, (j21.2.1.2.2.2.2.2.2.2.1, ())))))))), ()))))
        (
        sel (decide (j3.2.1.1 = 4))
         (
         andK (spec_GoodHeader.l2 N j3.2.1.2.2.2.2.2.2.2.1 (j3.2.1.2.2.2.2.2.2.2.1.length : Int) 0 j3.2.1.1 j3.2.1.2.1 j3.2.1.2.2.1 j3.2.1.2.2.2.1 j3.2.1.2.2.2.2.1 j3.2.1.2.2.2.2.2.1 j3.2.1.2.2.2.2.2.2.1 j3.2.1.2.2.2.2.2.2.2.1) fun l23 =>
         orK l23 (fun x24 =>
          some (.inl ((x24.1.1, ()), ((x24.2.1.1, (x24.2.1.2.1, (x24.2.1.2.2.1, (x24.2.1.2.2.2.1, (x24.2.1.2.2.2.2.1, (x24.2.1.2.2.2.2.2.1, (x24.2.1.2.2.2.2.2.2.1, (x24.2.1.2.2.2.2.2.2.2.1, ())))))))), ()))))
          (fun x25 =>
          andK (α := ((Bool × Unit) × ((Int × (Int × (Int × (ByteArray × (ByteArray × (ByteArray × (ByteArray × ((List Int) × Unit)))))))) × Unit))) (
           sel (decide (x25.2.1.2.2.1 = 0))
            (
            sel (decide (x25.2.1.2.2.2.2.2.2.1 = (⟨#[]⟩ : ByteArray)))
             (
             andK (spec_l1In N (x25.2.1.2.2.2.2.2.2.2.1.length : Int) 1 20) fun u26 =>
             some (((u26.1.1, ()), ((x25.2.1.1, (x25.2.1.2.1, (x25.2.1.2.2.1, (x25.2.1.2.2.2.1, (x25.2.1.2.2.2.2.1, (x25.2.1.2.2.2.2.2.1, (x25.2.1.2.2.2.2.2.2.1, (x25.2.1.2.2.2.2.2.2.2.1, ())))))))), ()))))
             (
             some (((false, ()), ((x25.2.1.1, (x25.2.1.2.1, (x25.2.1.2.2.1, (x25.2.1.2.2.2.1, (x25.2.1.2.2.2.2.1, (x25.2.1.2.2.2.2.2.1, (x25.2.1.2.2.2.2.2.2.1, (x25.2.1.2.2.2.2.2.2.2.1, ())))))))), ())))))
            (
            some (((false, ()), ((x25.2.1.1, (x25.2.1.2.1, (x25.2.1.2.2.1, (x25.2.1.2.2.2.1, (x25.2.1.2.2.2.2.1, (x25.2.1.2.2.2.2.2.1, (x25.2.1.2.2.2.2.2.2.1, (x25.2.1.2.2.2.2.2.2.2.1, ())))))))), ()))))) fun j27 =>
          some (.inl ((j27.1.1, ()), ((j27.2.1.1, (j27.2.1.2.1, (j27.2.1.2.2.1, (j27.2.1.2.2.2.1, (j27.2.1.2.2.2.2.1, (j27.2.1.2.2.2.2.2.1, (j27.2.1.2.2.2.2.2.2.1, (j27.2.1.2.2.2.2.2.2.2.1, ())))))))), ())))))
         (
         some (.inr ((((), ()), ((j3.2.1.1, (j3.2.1.2.1, (j3.2.1.2.2.1, (j3.2.1.2.2.2.1, (j3.2.1.2.2.2.2.1, (j3.2.1.2.2.2.2.2.1, (j3.2.1.2.2.2.2.2.2.1, (j3.2.1.2.2.2.2.2.2.2.1, ())))))))), ())))))))
       (
       sel (decide (j3.2.1.1 = 3))
        (
        andK (α := ((Bool × Unit) × ((Int × (Int × (Int × (ByteArray × (ByteArray × (ByteArray × (ByteArray × ((List Int) × Unit)))))))) × Unit))) (
         andK (spec_l1In N j3.2.1.2.2.1 1 4294967295) fun u28 =>
         sel u28.1.1
          (
          some ((((!(decide (j3.2.1.2.2.2.2.2.2.1 = (⟨#[]⟩ : ByteArray)))), ()), ((j3.2.1.1, (j3.2.1.2.1, (j3.2.1.2.2.1, (j3.2.1.2.2.2.1, (j3.2.1.2.2.2.2.1, (j3.2.1.2.2.2.2.2.1, (j3.2.1.2.2.2.2.2.2.1, (j3.2.1.2.2.2.2.2.2.2.1, ())))))))), ()))))
          (
          some (((false, ()), ((j3.2.1.1, (j3.2.1.2.1, (j3.2.1.2.2.1, (j3.2.1.2.2.2.1, (j3.2.1.2.2.2.2.1, (j3.2.1.2.2.2.2.2.1, (j3.2.1.2.2.2.2.2.2.1, (j3.2.1.2.2.2.2.2.2.2.1, ())))))))), ()))))) fun j29 =>
        some (.inl ((j29.1.1, ()), ((j29.2.1.1, (j29.2.1.2.1, (j29.2.1.2.2.1, (j29.2.1.2.2.2.1, (j29.2.1.2.2.2.2.1, (j29.2.1.2.2.2.2.2.1, (j29.2.1.2.2.2.2.2.2.1, (j29.2.1.2.2.2.2.2.2.2.1, ())))))))), ()))))
        (
        sel (decide (j3.2.1.1 = 4))
         (
         andK (spec_GoodHeader.l3 N j3.2.1.2.2.2.2.2.2.2.1 (j3.2.1.2.2.2.2.2.2.2.1.length : Int) 0 j3.2.1.1 j3.2.1.2.1 j3.2.1.2.2.1 j3.2.1.2.2.2.1 j3.2.1.2.2.2.2.1 j3.2.1.2.2.2.2.2.1 j3.2.1.2.2.2.2.2.2.1 j3.2.1.2.2.2.2.2.2.2.1) fun l31 =>
         orK l31 (fun x32 =>
          some (.inl ((x32.1.1, ()), ((x32.2.1.1, (x32.2.1.2.1, (x32.2.1.2.2.1, (x32.2.1.2.2.2.1, (x32.2.1.2.2.2.2.1, (x32.2.1.2.2.2.2.2.1, (x32.2.1.2.2.2.2.2.2.1, (x32.2.1.2.2.2.2.2.2.2.1, ())))))))), ()))))
          (fun x33 =>
          andK (α := ((Bool × Unit) × ((Int × (Int × (Int × (ByteArray × (ByteArray × (ByteArray × (ByteArray × ((List Int) × Unit)))))))) × Unit))) (
           sel (decide (x33.2.1.2.2.1 = 0))
            (
            sel (decide (x33.2.1.2.2.2.2.2.2.1 = (⟨#[]⟩ : ByteArray)))
             (
             andK (spec_l1In N (x33.2.1.2.2.2.2.2.2.2.1.length : Int) 1 20) fun u34 =>
             some (((u34.1.1, ()), ((x33.2.1.1, (x33.2.1.2.1, (x33.2.1.2.2.1, (x33.2.1.2.2.2.1, (x33.2.1.2.2.2.2.1, (x33.2.1.2.2.2.2.2.1, (x33.2.1.2.2.2.2.2.2.1, (x33.2.1.2.2.2.2.2.2.2.1, ())))))))), ()))))
             (
             some (((false, ()), ((x33.2.1.1, (x33.2.1.2.1, (x33.2.1.2.2.1, (x33.2.1.2.2.2.1, (x33.2.1.2.2.2.2.1, (x33.2.1.2.2.2.2.2.1, (x33.2.1.2.2.2.2.2.2.1, (x33.2.1.2.2.2.2.2.2.2.1, ())))))))), ())))))
            (
            some (((false, ()), ((x33.2.1.1, (x33.2.1.2.1, (x33.2.1.2.2.1, (x33.2.1.2.2.2.1, (x33.2.1.2.2.2.2.1, (x33.2.1.2.2.2.2.2.1, (x33.2.1.2.2.2.2.2.2.1, (x33.2.1.2.2.2.2.2.2.2.1, ())))))))), ()))))) fun j35 =>
          some (.inl ((j35.1.1, ()), ((j35.2.1.1, (j35.2.1.2.1, (j35.2.1.2.2.1, (j35.2.1.2.2.2.1, (j35.2.1.2.2.2.2.1, (j35.2.1.2.2.2.2.2.1, (j35.2.1.2.2.2.2.2.2.1, (j35.2.1.2.2.2.2.2.2.2.1, ())))))))), ())))))
         (
         some (.inr ((((), ()), ((j3.2.1.1, (j3.2.1.2.1, (j3.2.1.2.2.1, (j3.2.1.2.2.2.1, (j3.2.1.2.2.2.2.1, (j3.2.1.2.2.2.2.2.1, (j3.2.1.2.2.2.2.2.2.1, (j3.2.1.2.2.2.2.2.2.2.1, ())))))))), ())))))))))) fun j36 =>
   orK j36 (fun x37 =>
    some ((x37.1.1, ()), ()))
    (fun x38 =>
    sel (decide (x38.2.1.1 = 5))
     (
     sel (decide (x38.2.1.2.2.2.2.1 = (⟨#[]⟩ : ByteArray)))
      (
      some (((decide (x38.2.1.2.2.1 = 0)), ()), ()))
      (
      some ((false, ()), ())))
     (
     some ((false, ()), ()))))) := by kernel_rfl
set_option maxRecDepth 100000 in
theorem spec_GoodHeader.say (N : Nat) : SayOk Try.prog (spec_GoodHeader.S N) := sayOk_mk (N := N) (H := spec_GoodHeader.H) (preps := [⟨[], [], [], []⟩]) (l := spec_GoodHeader.says) (fn := Try.f86) (c := bodyOf Try.f86)
  (by kernel_rfl) (by kernel_rfl) (by kernel_rfl) (by kernel_rfl) (by kernel_rfl) (by kernel_rfl) (by kernel_rfl)
  (fun N => SayAll.cons (spec_l1In.say N) (SayAll.cons (spec_l2Word.say N) (SayAll.nil))) (fun a s => by kernel_rfl)

/-! ### loop.example/g00206/spec.l1Fixed: function 63 -/
noncomputable def spec_l1Fixed.H : Hints := hintsOf [(2000003, .loop ⟨.normal, [0], [5, 6], [.one (.own 0), ak_i], [.rows (.int .u8)], [⟨[(5, (.int .u8))], [], [], [0]⟩, ⟨[], [], [], [0]⟩]⟩ [⟨(.exit 0), [], [5], [.one (.own 0)], [.rows (.int .u8)], [⟨[], [], [], [0]⟩]⟩])]
noncomputable def spec_l1Fixed.says (N : Nat) : List Say := []
noncomputable def spec_l1Fixed.call (N : Nat) : CallK := callBy (spec_l1Fixed.says N)
noncomputable def spec_l1Fixed.qt (N : Nat) : FuncId → List PV → Sig → Cl := qtBy (spec_l1Fixed.says N)
noncomputable def spec_l1Fixed.l0.hd : Alt := ⟨.normal, [0], [5, 6], [.one (.own 0), ak_i], [.rows (.int .u8)], [⟨[(5, (.int .u8))], [], [], [0]⟩, ⟨[], [], [], [0]⟩]⟩
noncomputable def spec_l1Fixed.l0.outs : List Alt := [⟨(.exit 0), [], [5], [.one (.own 0)], [.rows (.int .u8)], [⟨[], [], [], [0]⟩]⟩]
noncomputable def spec_l1Fixed.l0 (N : Nat) (n1 : Int) (k : Int) (p0 : (List Int)) : Option ((Unit × Unit) × ((List Int) × Unit)) :=
  loopK Try.prog spec_l1Fixed.call spec_l1Fixed.qt spec_l1Fixed.H (codeAt (bodyOf Try.f63) [1, 1, 0, 1, 0, 0]) 0 spec_l1Fixed.l0.hd spec_l1Fixed.l0.outs [(0, .v (.int .i64 n1))] N (((), (k, ())), (p0, ()))
noncomputable def spec_l1Fixed (N : Nat) (n : Int) (many : Int) : Option ((ByteArray × Unit) × Unit) :=
  ofFn Try.prog spec_l1Fixed.call spec_l1Fixed.qt spec_l1Fixed.H N Try.f63 [ak_i, ak_i] [] [ak_s] [] [⟨[], [], [], []⟩] (n, (many, ())) ()
noncomputable def spec_l1Fixed.S (N : Nat) : Say := ⟨false, 63, [ak_i, ak_i], [], [ak_s], [], fun a s => spec_l1Fixed N a.1 a.2.1⟩
set_option maxRecDepth 100000 in
theorem spec_l1Fixed.l0.eq (N : Nat) (n1 : Int) (k : Int) (p0 : (List Int)) : spec_l1Fixed.l0 (N + 1) n1 k p0 =
 sel (decide (0 ≤ k))
  (
  chk (decide (0 ≤ (IntKind.u64.wrap (IntKind.i64.wrap (8 * k))))) (
  chk (decide (p0.length + 1 < most)) (
  spec_l1Fixed.l0 N n1 (IntKind.i64.wrap (k - 1)) (p0 ++ [(IntKind.u8.wrap (shrI .i64 n1 (IntKind.u64.wrap (IntKind.i64.wrap (8 * k)))))]))))
  (
  some ((((), ()), (p0, ())))) := by kernel_rfl
set_option maxRecDepth 100000 in
theorem spec_l1Fixed.eq (N : Nat) (n : Int) (many : Int) : spec_l1Fixed N n many =
 andK (spec_l1Fixed.l0 N n (IntKind.i64.wrap (many - 1)) []) fun l1 =>
 some (((strL l1.2.1), ()), ()) := by kernel_rfl
set_option maxRecDepth 100000 in
theorem spec_l1Fixed.say (N : Nat) : SayOk Try.prog (spec_l1Fixed.S N) := sayOk_mk (N := N) (H := spec_l1Fixed.H) (preps := [⟨[], [], [], []⟩]) (l := spec_l1Fixed.says) (fn := Try.f63) (c := bodyOf Try.f63)
  (by kernel_rfl) (by kernel_rfl) (by kernel_rfl) (by kernel_rfl) (by kernel_rfl) (by kernel_rfl) (by kernel_rfl)
  (fun N => SayAll.nil) (fun a s => by kernel_rfl)

/-! ### loop.example/g00206/spec.l2Id: function 133 -/
noncomputable def spec_l2Id.H : Hints := hintsOf []
noncomputable def spec_l2Id.says (N : Nat) : List Say := [spec_l1Fixed.S N]
noncomputable def spec_l2Id.call (N : Nat) : CallK := callBy (spec_l2Id.says N)
noncomputable def spec_l2Id.qt (N : Nat) : FuncId → List PV → Sig → Cl := qtBy (spec_l2Id.says N)
noncomputable def spec_l2Id (N : Nat) (s : ByteArray) : Option ((ByteArray × Unit) × Unit) :=
  ofFn Try.prog spec_l2Id.call spec_l2Id.qt spec_l2Id.H N Try.f133 [ak_s] [] [ak_s] [] [⟨[], [], [], []⟩] (s, ()) ()
noncomputable def spec_l2Id.S (N : Nat) : Say := ⟨false, 133, [ak_s], [], [ak_s], [], fun a s => spec_l2Id N a.1⟩
set_option maxRecDepth 100000 in
theorem spec_l2Id.eq (N : Nat) (s : ByteArray) : spec_l2Id N s =
 andK (spec_l1Fixed N (s.size : Int) 1) fun u1 =>
 chk (decide (u1.1.1.size + s.size ≤ 9223372036854775807)) (
 some (((u1.1.1 ++ s), ()), ())) := by kernel_rfl
set_option maxRecDepth 100000 in
theorem spec_l2Id.say (N : Nat) : SayOk Try.prog (spec_l2Id.S N) := sayOk_mk (N := N) (H := spec_l2Id.H) (preps := [⟨[], [], [], []⟩]) (l := spec_l2Id.says) (fn := Try.f133) (c := bodyOf Try.f133)
  (by kernel_rfl) (by kernel_rfl) (by kernel_rfl) (by kernel_rfl) (by kernel_rfl) (by kernel_rfl) (by kernel_rfl)
  (fun N => SayAll.cons (spec_l1Fixed.say N) (SayAll.nil)) (fun a s => by kernel_rfl)

/-! ### loop.example/g00206/spec.l1Size: function 164 -/
noncomputable def spec_l1Size.H : Hints := hintsOf []
noncomputable def spec_l1Size.says (N : Nat) : List Say := []
noncomputable def spec_l1Size.call (N : Nat) : CallK := callBy (spec_l1Size.says N)
noncomputable def spec_l1Size.qt (N : Nat) : FuncId → List PV → Sig → Cl := qtBy (spec_l1Size.says N)
noncomputable def spec_l1Size (N : Nat) (n : Int) : Option ((Int × Unit) × Unit) :=
  ofFn Try.prog spec_l1Size.call spec_l1Size.qt spec_l1Size.H N Try.f164 [ak_i] [] [ak_i] [] [⟨[], [], [], []⟩] (n, ()) ()
noncomputable def spec_l1Size.S (N : Nat) : Say := ⟨false, 164, [ak_i], [], [ak_i], [], fun a s => spec_l1Size N a.1⟩
set_option maxRecDepth 100000 in
theorem spec_l1Size.eq (N : Nat) (n : Int) : spec_l1Size N n =
 sel (decide (n < 64))
  (
  some ((1, ()), ()))
  (
  sel (decide (n < 16384))
   (
   some ((2, ()), ()))
   (
   sel (decide (n < 1073741824))
    (
    some ((4, ()), ()))
    (
    some ((8, ()), ())))) := by kernel_rfl
set_option maxRecDepth 100000 in
theorem spec_l1Size.say (N : Nat) : SayOk Try.prog (spec_l1Size.S N) := sayOk_mk (N := N) (H := spec_l1Size.H) (preps := [⟨[], [], [], []⟩]) (l := spec_l1Size.says) (fn := Try.f164) (c := bodyOf Try.f164)
  (by kernel_rfl) (by kernel_rfl) (by kernel_rfl) (by kernel_rfl) (by kernel_rfl) (by kernel_rfl) (by kernel_rfl)
  (fun N => SayAll.nil) (fun a s => by kernel_rfl)

/-! ### loop.example/g00206/spec.l1Var: function 134 -/
noncomputable def spec_l1Var.H : Hints := hintsOf []
noncomputable def spec_l1Var.says (N : Nat) : List Say := [spec_l1Size.S N, spec_l1Fixed.S N]
noncomputable def spec_l1Var.call (N : Nat) : CallK := callBy (spec_l1Var.says N)
noncomputable def spec_l1Var.qt (N : Nat) : FuncId → List PV → Sig → Cl := qtBy (spec_l1Var.says N)
noncomputable def spec_l1Var (N : Nat) (n : Int) : Option ((ByteArray × Unit) × Unit) :=
  ofFn Try.prog spec_l1Var.call spec_l1Var.qt spec_l1Var.H N Try.f134 [ak_i] [] [ak_s] [] [⟨[], [], [], []⟩] (n, ()) ()
noncomputable def spec_l1Var.S (N : Nat) : Say := ⟨false, 134, [ak_i], [], [ak_s], [], fun a s => spec_l1Var N a.1⟩
set_option maxRecDepth 100000 in
theorem spec_l1Var.eq (N : Nat) (n : Int) : spec_l1Var N n =
 andK (spec_l1Size N n) fun u1 =>
 sel (decide (u1.1.1 = 1))
  (
  andK (spec_l1Fixed N n 1) fun u2 =>
  some ((u2.1.1, ()), ()))
  (
  sel (decide (u1.1.1 = 2))
   (
   andK (spec_l1Fixed N (Go.bits .or .i64 n 16384) 2) fun u3 =>
   some ((u3.1.1, ()), ()))
   (
   sel (decide (u1.1.1 = 4))
    (
    andK (spec_l1Fixed N (Go.bits .or .i64 n 2147483648) 4) fun u4 =>
    some ((u4.1.1, ()), ()))
    (
    andK (spec_l1Fixed N (Go.bits .or .i64 n (-4611686018427387904)) 8) fun u5 =>
    some ((u5.1.1, ()), ())))) := by kernel_rfl
set_option maxRecDepth 100000 in
theorem spec_l1Var.say (N : Nat) : SayOk Try.prog (spec_l1Var.S N) := sayOk_mk (N := N) (H := spec_l1Var.H) (preps := [⟨[], [], [], []⟩]) (l := spec_l1Var.says) (fn := Try.f134) (c := bodyOf Try.f134)
  (by kernel_rfl) (by kernel_rfl) (by kernel_rfl) (by kernel_rfl) (by kernel_rfl) (by kernel_rfl) (by kernel_rfl)
  (fun N => SayAll.cons (spec_l1Size.say N) (SayAll.cons (spec_l1Fixed.say N) (SayAll.nil))) (fun a s => by kernel_rfl)

/-! ### loop.example/g00206/spec.l2Bytes: function 87 -/
noncomputable def spec_l2Bytes.H : Hints := hintsOf [(2000007, .loop ⟨.normal, [38, 39], [3, 40], [ak_s, ak_i], [.cells [ck_i, ck_i, ck_i, ck_s, ck_s, ck_s, ck_s, .sh (.rows (.int .i64))]], [⟨[], [], [], []⟩]⟩ [⟨(.exit 1), [], [3], [ak_s], [.cells [ck_i, ck_i, ck_i, ck_s, ck_s, ck_s, ck_s, .sh (.rows (.int .i64))]], [⟨[], [], [], []⟩]⟩]),
  (15, .join [⟨.normal, [], [1, 6], [.one (.ptr 0 0), ak_s], [.cells [ck_i, ck_i, ck_i, ck_s, ck_s, ck_s, ck_s, .sh (.rows (.int .i64))]], [⟨[], [], [], []⟩]⟩])]
noncomputable def spec_l2Bytes.says (N : Nat) : List Say := [spec_l1Fixed.S N, spec_l2Id.S N, spec_l1Var.S N]
noncomputable def spec_l2Bytes.call (N : Nat) : CallK := callBy (spec_l2Bytes.says N)
noncomputable def spec_l2Bytes.qt (N : Nat) : FuncId → List PV → Sig → Cl := qtBy (spec_l2Bytes.says N)
noncomputable def spec_l2Bytes.l0.hd : Alt := ⟨.normal, [38, 39], [3, 40], [ak_s, ak_i], [.cells [ck_i, ck_i, ck_i, ck_s, ck_s, ck_s, ck_s, .sh (.rows (.int .i64))]], [⟨[], [], [], []⟩]⟩
noncomputable def spec_l2Bytes.l0.outs : List Alt := [⟨(.exit 1), [], [3], [ak_s], [.cells [ck_i, ck_i, ck_i, ck_s, ck_s, ck_s, ck_s, .sh (.rows (.int .i64))]], [⟨[], [], [], []⟩]⟩]
noncomputable def spec_l2Bytes.l0 (N : Nat) (t38 : (List Int)) (t39 : Int) (C : ByteArray) (t40 : Int) (p0_0 : Int) (p0_1 : Int) (p0_2 : Int) (p0_3 : ByteArray) (p0_4 : ByteArray) (p0_5 : ByteArray) (p0_6 : ByteArray) (p0_7 : (List Int)) : Option ((ByteArray × Unit) × ((Int × (Int × (Int × (ByteArray × (ByteArray × (ByteArray × (ByteArray × ((List Int) × Unit)))))))) × Unit)) :=
  loopK Try.prog spec_l2Bytes.call spec_l2Bytes.qt spec_l2Bytes.H (codeAt (bodyOf Try.f87) [1, 0, 1, 0, 1, 1, 1, 0, 1, 0, 1, 0, 0]) 1 spec_l2Bytes.l0.hd spec_l2Bytes.l0.outs [(38, .rows false (.int .i64) t38), (39, .v (.int .i64 t39))] N ((C, (t40, ())), ((p0_0, (p0_1, (p0_2, (p0_3, (p0_4, (p0_5, (p0_6, (p0_7, ())))))))), ()))
noncomputable def spec_l2Bytes (N : Nat) (G_0 : Int) (G_1 : Int) (G_2 : Int) (G_3 : ByteArray) (G_4 : ByteArray) (G_5 : ByteArray) (G_6 : ByteArray) (G_7 : (List Int)) : Option ((ByteArray × Unit) × Unit) :=
  ofFn Try.prog spec_l2Bytes.call spec_l2Bytes.qt spec_l2Bytes.H N Try.f87 [.agg [ck_i, ck_i, ck_i, ck_s, ck_s, ck_s, ck_s, .sh (.rows (.int .i64))]] [] [ak_s] [] [⟨[], [], [], []⟩] ((G_0, (G_1, (G_2, (G_3, (G_4, (G_5, (G_6, (G_7, ())))))))), ()) ()
noncomputable def spec_l2Bytes.S (N : Nat) : Say := ⟨false, 87, [.agg [ck_i, ck_i, ck_i, ck_s, ck_s, ck_s, ck_s, .sh (.rows (.int .i64))]], [], [ak_s], [], fun a s => spec_l2Bytes N a.1.1 a.1.2.1 a.1.2.2.1 a.1.2.2.2.1 a.1.2.2.2.2.1 a.1.2.2.2.2.2.1 a.1.2.2.2.2.2.2.1 a.1.2.2.2.2.2.2.2.1⟩
set_option maxRecDepth 100000 in
theorem spec_l2Bytes.l0.eq (N : Nat) (t38 : (List Int)) (t39 : Int) (C : ByteArray) (t40 : Int) (p0_0 : Int) (p0_1 : Int) (p0_2 : Int) (p0_3 : ByteArray) (p0_4 : ByteArray) (p0_5 : ByteArray) (p0_6 : ByteArray) (p0_7 : (List Int)) : spec_l2Bytes.l0 (N + 1) t38 t39 C t40 p0_0 p0_1 p0_2 p0_3 p0_4 p0_5 p0_6 p0_7 =
 sel (decide (t40 < t39))
  (
  chk ((decide (0 ≤ t40)) && (decide (t40 < (t38.length : Int)))) (
  andK (spec_l1Fixed N (t38.getD (Int.toNat t40) 0) 4) fun u6 =>
  chk (decide (C.size + u6.1.1.size ≤ 9223372036854775807)) (
  spec_l2Bytes.l0 N t38 t39 (C ++ u6.1.1) (IntKind.i64.wrap (t40 + 1)) p0_0 p0_1 p0_2 p0_3 p0_4 p0_5 p0_6 p0_7)))
  (
  some (((C, ()), ((p0_0, (p0_1, (p0_2, (p0_3, (p0_4, (p0_5, (p0_6, (p0_7, ())))))))), ())))) := by kernel_rfl
set_option maxRecDepth 100000 in
theorem spec_l2Bytes.eq (N : Nat) (G_0 : Int) (G_1 : Int) (G_2 : Int) (G_3 : ByteArray) (G_4 : ByteArray) (G_5 : ByteArray) (G_6 : ByteArray) (G_7 : (List Int)) : spec_l2Bytes N G_0 G_1 G_2 G_3 G_4 G_5 G_6 G_7 =
 sel (decide (G_0 = 5))
  (
  andK (spec_l1Fixed N (Go.bits .or .i64 64 G_1) 1) fun u1 =>
  chk (decide (u1.1.1.size + G_3.size ≤ 9223372036854775807)) (
  chk (decide ((u1.1.1 ++ G_3).size + G_6.size ≤ 9223372036854775807)) (
  some ((((u1.1.1 ++ G_3) ++ G_6), ()), ()))))
  (
  sel (decide (G_0 = 4))
   (
   andK (spec_l1Fixed N (Go.bits .or .i64 192 G_1) 1) fun u2 =>
   andK (spec_l1Fixed N 0 4) fun u3 =>
   chk (decide (u2.1.1.size + u3.1.1.size ≤ 9223372036854775807)) (
   andK (spec_l2Id N G_3) fun u4 =>
   chk (decide ((u2.1.1 ++ u3.1.1).size + u4.1.1.size ≤ 9223372036854775807)) (
   andK (spec_l2Id N G_4) fun u5 =>
   chk (decide (((u2.1.1 ++ u3.1.1) ++ u4.1.1).size + u5.1.1.size ≤ 9223372036854775807)) (
   andK (spec_l2Bytes.l0 N G_7 (G_7.length : Int) (((u2.1.1 ++ u3.1.1) ++ u4.1.1) ++ u5.1.1) 0 G_0 G_1 G_2 G_3 G_4 G_5 G_6 G_7) fun l7 =>
   some ((l7.1.1, ()), ())))))
   (
   andK (spec_l1Fixed N (Go.bits .or .i64 (Go.bits .or .i64 192 (shlI .i64 G_0 4)) G_1) 1) fun u8 =>
   andK (spec_l1Fixed N G_2 4) fun u9 =>
   chk (decide (u8.1.1.size + u9.1.1.size ≤ 9223372036854775807)) (
   andK (spec_l2Id N G_3) fun u10 =>
   chk (decide ((u8.1.1 ++ u9.1.1).size + u10.1.1.size ≤ 9223372036854775807)) (
   andK (spec_l2Id N G_4) fun u11 =>
   chk (decide (((u8.1.1 ++ u9.1.1) ++ u10.1.1).size + u11.1.1.size ≤ 9223372036854775807)) (
   andK (α := ((Unit × (ByteArray × Unit)) × ((Int × (Int × (Int × (ByteArray × (ByteArray × (ByteArray × (ByteArray × ((List Int) × Unit)))))))) × Unit))) (
    sel (decide (G_0 = 0))
     (
     andK (spec_l1Var N (G_5.size : Int)) fun u12 =>
     chk (decide (u12.1.1.size + G_5.size ≤ 9223372036854775807)) (
     chk (decide ((((u8.1.1 ++ u9.1.1) ++ u10.1.1) ++ u11.1.1).size + (u12.1.1 ++ G_5).size ≤ 9223372036854775807)) (
     some ((((), (((((u8.1.1 ++ u9.1.1) ++ u10.1.1) ++ u11.1.1) ++ (u12.1.1 ++ G_5)), ())), ((G_0, (G_1, (G_2, (G_3, (G_4, (G_5, (G_6, (G_7, ())))))))), ()))))))
     (
     some ((((), ((((u8.1.1 ++ u9.1.1) ++ u10.1.1) ++ u11.1.1), ())), ((G_0, (G_1, (G_2, (G_3, (G_4, (G_5, (G_6, (G_7, ())))))))), ()))))) fun j13 =>
   sel (!(decide (j13.2.1.1 = 3)))
    (
    andK (spec_l1Fixed N (Go.bits .or .i64 (j13.2.1.2.2.2.2.2.2.1.size : Int) 16384) 2) fun u14 =>
    chk (decide (j13.1.2.1.size + u14.1.1.size ≤ 9223372036854775807)) (
    chk (decide ((j13.1.2.1 ++ u14.1.1).size + j13.2.1.2.2.2.2.2.2.1.size ≤ 9223372036854775807)) (
    some ((((j13.1.2.1 ++ u14.1.1) ++ j13.2.1.2.2.2.2.2.2.1), ()), ()))))
    (
    chk (decide (j13.1.2.1.size + j13.2.1.2.2.2.2.2.2.1.size ≤ 9223372036854775807)) (
    some (((j13.1.2.1 ++ j13.2.1.2.2.2.2.2.2.1), ()), ())))))))) := by kernel_rfl
set_option maxRecDepth 100000 in
theorem spec_l2Bytes.say (N : Nat) : SayOk Try.prog (spec_l2Bytes.S N) := sayOk_mk (N := N) (H := spec_l2Bytes.H) (preps := [⟨[], [], [], []⟩]) (l := spec_l2Bytes.says) (fn := Try.f87) (c := bodyOf Try.f87)
  (by kernel_rfl) (by kernel_rfl) (by kernel_rfl) (by kernel_rfl) (by kernel_rfl) (by kernel_rfl) (by kernel_rfl)
  (fun N => SayAll.cons (spec_l1Fixed.say N) (SayAll.cons (spec_l2Id.say N) (SayAll.cons (spec_l1Var.say N) (SayAll.nil)))) (fun a s => by kernel_rfl)

/-! ### loop.example/g00206/spec.HeaderBytes: function 32 -/
noncomputable def spec_HeaderBytes.H : Hints := hintsOf []
noncomputable def spec_HeaderBytes.says (N : Nat) : List Say := [spec_GoodHeader.S N, spec_l2Bytes.S N]
noncomputable def spec_HeaderBytes.call (N : Nat) : CallK := callBy (spec_HeaderBytes.says N)
noncomputable def spec_HeaderBytes.qt (N : Nat) : FuncId → List PV → Sig → Cl := qtBy (spec_HeaderBytes.says N)
noncomputable def spec_HeaderBytes (N : Nat) (h_0 : Int) (h_1 : Int) (h_2 : Int) (h_3 : ByteArray) (h_4 : ByteArray) (h_5 : ByteArray) (h_6 : ByteArray) (h_7 : (List Int)) : Option ((ByteArray × (Bool × Unit)) × Unit) :=
  ofFn Try.prog spec_HeaderBytes.call spec_HeaderBytes.qt spec_HeaderBytes.H N Try.f32 [.agg [ck_i, ck_i, ck_i, ck_s, ck_s, ck_s, ck_s, .sh (.rows (.int .i64))]] [] [ak_s, ak_b] [] [⟨[], [], [], []⟩] ((h_0, (h_1, (h_2, (h_3, (h_4, (h_5, (h_6, (h_7, ())))))))), ()) ()
noncomputable def spec_HeaderBytes.S (N : Nat) : Say := ⟨false, 32, [.agg [ck_i, ck_i, ck_i, ck_s, ck_s, ck_s, ck_s, .sh (.rows (.int .i64))]], [], [ak_s, ak_b], [], fun a s => spec_HeaderBytes N a.1.1 a.1.2.1 a.1.2.2.1 a.1.2.2.2.1 a.1.2.2.2.2.1 a.1.2.2.2.2.2.1 a.1.2.2.2.2.2.2.1 a.1.2.2.2.2.2.2.2.1⟩
set_option maxRecDepth 100000 in
theorem spec_HeaderBytes.eq (N : Nat) (h_0 : Int) (h_1 : Int) (h_2 : Int) (h_3 : ByteArray) (h_4 : ByteArray) (h_5 : ByteArray) (h_6 : ByteArray) (h_7 : (List Int)) : spec_HeaderBytes N h_0 h_1 h_2 h_3 h_4 h_5 h_6 h_7 =
 andK (spec_GoodHeader N h_0 h_1 h_2 h_3 h_4 h_5 h_6 h_7) fun u1 =>
 sel (!u1.1.1)
  (
  some (((⟨#[]⟩ : ByteArray), (false, ())), ()))
  (
  andK (spec_l2Bytes N h_0 h_1 h_2 h_3 h_4 h_5 h_6 h_7) fun u2 =>
  some ((u2.1.1, (true, ())), ())) := by kernel_rfl
set_option maxRecDepth 100000 in
theorem spec_HeaderBytes.say (N : Nat) : SayOk Try.prog (spec_HeaderBytes.S N) := sayOk_mk (N := N) (H := spec_HeaderBytes.H) (preps := [⟨[], [], [], []⟩]) (l := spec_HeaderBytes.says) (fn := Try.f32) (c := bodyOf Try.f32)
  (by kernel_rfl) (by kernel_rfl) (by kernel_rfl) (by kernel_rfl) (by kernel_rfl) (by kernel_rfl) (by kernel_rfl)
  (fun N => SayAll.cons (spec_GoodHeader.say N) (SayAll.cons (spec_l2Bytes.say N) (SayAll.nil))) (fun a s => by kernel_rfl)
noncomputable def spec_HeaderBytes.SB (N : Nat) : Say := spec_HeaderBytes.S N |>.lent
theorem spec_HeaderBytes.sayB (N : Nat) : SayOk Try.prog (spec_HeaderBytes.SB N) := (spec_HeaderBytes.say N).lent

/-! ### (*loop.example/g00206/impl.cursor).take: function 90 -/
noncomputable def impl_cursor_take.H : Hints := hintsOf [(5000001, .join [⟨.normal, [1], [0, 18], [.one (.ptr 0 0), ak_b], [.cells [ck_s, ck_b]], [⟨[], [], [], []⟩]⟩])]
noncomputable def impl_cursor_take.says (N : Nat) : List Say := []
noncomputable def impl_cursor_take.call (N : Nat) : CallK := callBy (impl_cursor_take.says N)
noncomputable def impl_cursor_take.qt (N : Nat) : FuncId → List PV → Sig → Cl := qtBy (impl_cursor_take.says N)
noncomputable def impl_cursor_take (N : Nat) (n : Int) (p0_0 : ByteArray) (p0_1 : Bool) : Option ((ByteArray × Unit) × ((ByteArray × (Bool × Unit)) × Unit)) :=
  ofFn Try.prog impl_cursor_take.call impl_cursor_take.qt impl_cursor_take.H N Try.f90 [.one (.ptr 0 0), ak_i] [.cells [ck_s, ck_b]] [ak_s] [.cells [ck_s, ck_b]] [⟨[], [], [], []⟩] ((), (n, ())) ((p0_0, (p0_1, ())), ())
noncomputable def impl_cursor_take.S (N : Nat) : Say := ⟨false, 90, [.one (.ptr 0 0), ak_i], [.cells [ck_s, ck_b]], [ak_s], [.cells [ck_s, ck_b]], fun a s => impl_cursor_take N a.2.1 s.1.1 s.1.2.1⟩
set_option maxRecDepth 100000 in
theorem impl_cursor_take.eq (N : Nat) (n : Int) (p0_0 : ByteArray) (p0_1 : Bool) : impl_cursor_take N n p0_0 p0_1 =
 andK (α := ((Unit × (Bool × Unit)) × ((ByteArray × (Bool × Unit)) × Unit))) (
  sel p0_1
   (
   some ((((), (true, ())), ((p0_0, (p0_1, ())), ()))))
   (
   some ((((), ((decide ((p0_0.size : Int) < n)), ())), ((p0_0, (p0_1, ())), ()))))) fun j1 =>
 sel j1.1.2.1
  (
  some (((⟨#[]⟩ : ByteArray), ()), ((j1.2.1.1, (true, ())), ())))
  (
  chk ((decide (0 ≤ n)) && (decide (n ≤ (j1.2.1.1.size : Int)))) (
  chk ((decide (0 ≤ n)) && ((decide (n ≤ (j1.2.1.1.size : Int))) && (decide ((j1.2.1.1.size : Int) ≤ (j1.2.1.1.size : Int))))) (
  some (((j1.2.1.1.extract 0 (Int.toNat n)), ()), (((j1.2.1.1.extract (Int.toNat n) (Int.toNat (j1.2.1.1.size : Int))), (j1.2.1.2.1, ())), ()))))) := by kernel_rfl
set_option maxRecDepth 100000 in
theorem impl_cursor_take.say (N : Nat) : SayOk Try.prog (impl_cursor_take.S N) := sayOk_mk (N := N) (H := impl_cursor_take.H) (preps := [⟨[], [], [], []⟩]) (l := impl_cursor_take.says) (fn := Try.f90) (c := bodyOf Try.f90)
  (by kernel_rfl) (by kernel_rfl) (by kernel_rfl) (by kernel_rfl) (by kernel_rfl) (by kernel_rfl) (by kernel_rfl)
  (fun N => SayAll.nil) (fun a s => by kernel_rfl)

/-! ### loop.example/g00206/impl.numberOf: function 107 -/
noncomputable def impl_numberOf.H : Hints := hintsOf [(2000003, .loop ⟨.normal, [0, 6], [3, 7], [.one (.sh (.int .u64)), ak_i], [], [⟨[], [], [], []⟩]⟩ [⟨(.exit 0), [], [3], [.one (.sh (.int .u64))], [], [⟨[], [], [], []⟩]⟩])]
noncomputable def impl_numberOf.says (N : Nat) : List Say := []
noncomputable def impl_numberOf.call (N : Nat) : CallK := callBy (impl_numberOf.says N)
noncomputable def impl_numberOf.qt (N : Nat) : FuncId → List PV → Sig → Cl := qtBy (impl_numberOf.says N)
noncomputable def impl_numberOf.l0.hd : Alt := ⟨.normal, [0, 6], [3, 7], [.one (.sh (.int .u64)), ak_i], [], [⟨[], [], [], []⟩]⟩
noncomputable def impl_numberOf.l0.outs : List Alt := [⟨(.exit 0), [], [3], [.one (.sh (.int .u64))], [], [⟨[], [], [], []⟩]⟩]
noncomputable def impl_numberOf.l0 (N : Nat) (s1 : ByteArray) (t6 : Int) (n : Int) (t7 : Int) : Option ((Int × Unit) × Unit) :=
  loopK Try.prog impl_numberOf.call impl_numberOf.qt impl_numberOf.H (codeAt (bodyOf Try.f107) [1, 1, 0, 1, 0, 0]) 0 impl_numberOf.l0.hd impl_numberOf.l0.outs [(0, .v (.string s1)), (6, .v (.int .i64 t6))] N ((n, (t7, ())), ())
noncomputable def impl_numberOf (N : Nat) (s : ByteArray) : Option ((Int × Unit) × Unit) :=
  ofFn Try.prog impl_numberOf.call impl_numberOf.qt impl_numberOf.H N Try.f107 [ak_s] [] [.one (.sh (.int .u64))] [] [⟨[], [], [], []⟩] (s, ()) ()
noncomputable def impl_numberOf.S (N : Nat) : Say := ⟨false, 107, [ak_s], [], [.one (.sh (.int .u64))], [], fun a s => impl_numberOf N a.1⟩
set_option maxRecDepth 100000 in
theorem impl_numberOf.l0.eq (N : Nat) (s1 : ByteArray) (t6 : Int) (n : Int) (t7 : Int) : impl_numberOf.l0 (N + 1) s1 t6 n t7 =
 sel (decide (t7 < t6))
  (
  chk ((decide (0 ≤ t7)) && (decide (t7 < (s1.size : Int)))) (
  impl_numberOf.l0 N s1 t6 (Go.bits .or .u64 (shlI .u64 n 8) (IntKind.u64.wrap ((bytesL s1).getD (Int.toNat t7) 0))) (IntKind.i64.wrap (t7 + 1))))
  (
  some (((n, ()), ()))) := by kernel_rfl
set_option maxRecDepth 100000 in
theorem impl_numberOf.eq (N : Nat) (s : ByteArray) : impl_numberOf N s =
 andK (impl_numberOf.l0 N s (s.size : Int) 0 0) fun l1 =>
 some ((l1.1.1, ()), ()) := by kernel_rfl
set_option maxRecDepth 100000 in
theorem impl_numberOf.say (N : Nat) : SayOk Try.prog (impl_numberOf.S N) := sayOk_mk (N := N) (H := impl_numberOf.H) (preps := [⟨[], [], [], []⟩]) (l := impl_numberOf.says) (fn := Try.f107) (c := bodyOf Try.f107)
  (by kernel_rfl) (by kernel_rfl) (by kernel_rfl) (by kernel_rfl) (by kernel_rfl) (by kernel_rfl) (by kernel_rfl)
  (fun N => SayAll.nil) (fun a s => by kernel_rfl)

/-! ### (*loop.example/g00206/impl.cursor).byte: function 88 -/
noncomputable def impl_cursor_byte.H : Hints := hintsOf []
noncomputable def impl_cursor_byte.says (N : Nat) : List Say := [impl_cursor_take.S N, impl_numberOf.S N]
noncomputable def impl_cursor_byte.call (N : Nat) : CallK := callBy (impl_cursor_byte.says N)
noncomputable def impl_cursor_byte.qt (N : Nat) : FuncId → List PV → Sig → Cl := qtBy (impl_cursor_byte.says N)
noncomputable def impl_cursor_byte (N : Nat) (p0_0 : ByteArray) (p0_1 : Bool) : Option ((Int × Unit) × ((ByteArray × (Bool × Unit)) × Unit)) :=
  ofFn Try.prog impl_cursor_byte.call impl_cursor_byte.qt impl_cursor_byte.H N Try.f88 [.one (.ptr 0 0)] [.cells [ck_s, ck_b]] [ak_i] [.cells [ck_s, ck_b]] [⟨[], [], [], []⟩] ((), ()) ((p0_0, (p0_1, ())), ())
noncomputable def impl_cursor_byte.S (N : Nat) : Say := ⟨false, 88, [.one (.ptr 0 0)], [.cells [ck_s, ck_b]], [ak_i], [.cells [ck_s, ck_b]], fun a s => impl_cursor_byte N s.1.1 s.1.2.1⟩
set_option maxRecDepth 100000 in
theorem impl_cursor_byte.eq (N : Nat) (p0_0 : ByteArray) (p0_1 : Bool) : impl_cursor_byte N p0_0 p0_1 =
 andK (impl_cursor_take N 1 p0_0 p0_1) fun u1 =>
 andK (impl_numberOf N u1.1.1) fun u2 =>
 some (((IntKind.i64.wrap u2.1.1), ()), ((u1.2.1.1, (u1.2.1.2.1, ())), ())) := by kernel_rfl
set_option maxRecDepth 100000 in
theorem impl_cursor_byte.say (N : Nat) : SayOk Try.prog (impl_cursor_byte.S N) := sayOk_mk (N := N) (H := impl_cursor_byte.H) (preps := [⟨[], [], [], []⟩]) (l := impl_cursor_byte.says) (fn := Try.f88) (c := bodyOf Try.f88)
  (by kernel_rfl) (by kernel_rfl) (by kernel_rfl) (by kernel_rfl) (by kernel_rfl) (by kernel_rfl) (by kernel_rfl)
  (fun N => SayAll.cons (impl_cursor_take.say N) (SayAll.cons (impl_numberOf.say N) (SayAll.nil))) (fun a s => by kernel_rfl)

/-! ### (*loop.example/g00206/impl.cursor).rest: function 135 -/
noncomputable def impl_cursor_rest.H : Hints := hintsOf []
noncomputable def impl_cursor_rest.says (N : Nat) : List Say := [impl_cursor_take.S N]
noncomputable def impl_cursor_rest.call (N : Nat) : CallK := callBy (impl_cursor_rest.says N)
noncomputable def impl_cursor_rest.qt (N : Nat) : FuncId → List PV → Sig → Cl := qtBy (impl_cursor_rest.says N)
noncomputable def impl_cursor_rest (N : Nat) (p0_0 : ByteArray) (p0_1 : Bool) : Option ((ByteArray × Unit) × ((ByteArray × (Bool × Unit)) × Unit)) :=
  ofFn Try.prog impl_cursor_rest.call impl_cursor_rest.qt impl_cursor_rest.H N Try.f135 [.one (.ptr 0 0)] [.cells [ck_s, ck_b]] [ak_s] [.cells [ck_s, ck_b]] [⟨[], [], [], []⟩] ((), ()) ((p0_0, (p0_1, ())), ())
noncomputable def impl_cursor_rest.S (N : Nat) : Say := ⟨false, 135, [.one (.ptr 0 0)], [.cells [ck_s, ck_b]], [ak_s], [.cells [ck_s, ck_b]], fun a s => impl_cursor_rest N s.1.1 s.1.2.1⟩
set_option maxRecDepth 100000 in
theorem impl_cursor_rest.eq (N : Nat) (p0_0 : ByteArray) (p0_1 : Bool) : impl_cursor_rest N p0_0 p0_1 =
 andK (impl_cursor_take N (p0_0.size : Int) p0_0 p0_1) fun u1 =>
 some ((u1.1.1, ()), ((u1.2.1.1, (u1.2.1.2.1, ())), ())) := by kernel_rfl
set_option maxRecDepth 100000 in
theorem impl_cursor_rest.say (N : Nat) : SayOk Try.prog (impl_cursor_rest.S N) := sayOk_mk (N := N) (H := impl_cursor_rest.H) (preps := [⟨[], [], [], []⟩]) (l := impl_cursor_rest.says) (fn := Try.f135) (c := bodyOf Try.f135)
  (by kernel_rfl) (by kernel_rfl) (by kernel_rfl) (by kernel_rfl) (by kernel_rfl) (by kernel_rfl) (by kernel_rfl)
  (fun N => SayAll.cons (impl_cursor_take.say N) (SayAll.nil)) (fun a s => by kernel_rfl)

/-! ### loop.example/g00206/impl.TakeVarint: function 141 -/
noncomputable def impl_TakeVarint.H : Hints := hintsOf []
noncomputable def impl_TakeVarint.says (N : Nat) : List Say := [impl_numberOf.S N]
noncomputable def impl_TakeVarint.call (N : Nat) : CallK := callBy (impl_TakeVarint.says N)
noncomputable def impl_TakeVarint.qt (N : Nat) : FuncId → List PV → Sig → Cl := qtBy (impl_TakeVarint.says N)
noncomputable def impl_TakeVarint (N : Nat) (s : ByteArray) : Option ((Int × (Int × Unit)) × Unit) :=
  ofFn Try.prog impl_TakeVarint.call impl_TakeVarint.qt impl_TakeVarint.H N Try.f141 [ak_s] [] [ak_i, ak_i] [] [⟨[], [], [], []⟩] (s, ()) ()
noncomputable def impl_TakeVarint.S (N : Nat) : Say := ⟨false, 141, [ak_s], [], [ak_i, ak_i], [], fun a s => impl_TakeVarint N a.1⟩
set_option maxRecDepth 100000 in
theorem impl_TakeVarint.eq (N : Nat) (s : ByteArray) : impl_TakeVarint N s =
 sel (decide (s = (⟨#[]⟩ : ByteArray)))
  (
  some ((0, (0, ())), ()))
  (
  chk (decide (0 < (s.size : Int))) (
  chk (decide (0 ≤ (shrI .u8 ((bytesL s).getD 0 0) 6))) (
  sel (decide ((s.size : Int) < (shlI .i64 1 (shrI .u8 ((bytesL s).getD 0 0) 6))))
   (
   some ((0, (0, ())), ()))
   (
   chk ((decide (0 ≤ (shlI .i64 1 (shrI .u8 ((bytesL s).getD 0 0) 6)))) && (decide ((shlI .i64 1 (shrI .u8 ((bytesL s).getD 0 0) 6)) ≤ (s.size : Int)))) (
   andK (impl_numberOf N (s.extract 0 (Int.toNat (shlI .i64 1 (shrI .u8 ((bytesL s).getD 0 0) 6))))) fun u1 =>
   chk (decide (0 ≤ (IntKind.i64.wrap ((IntKind.i64.wrap (8 * (shlI .i64 1 (shrI .u8 ((bytesL s).getD 0 0) 6)))) - 2)))) (
   some (((IntKind.i64.wrap (Go.bits .and .u64 u1.1.1 (IntKind.u64.wrap ((shlI .u64 1 (IntKind.i64.wrap ((IntKind.i64.wrap (8 * (shlI .i64 1 (shrI .u8 ((bytesL s).getD 0 0) 6)))) - 2))) - 1)))), ((shlI .i64 1 (shrI .u8 ((bytesL s).getD 0 0) 6)), ())), ()))))))) := by kernel_rfl
set_option maxRecDepth 100000 in
theorem impl_TakeVarint.say (N : Nat) : SayOk Try.prog (impl_TakeVarint.S N) := sayOk_mk (N := N) (H := impl_TakeVarint.H) (preps := [⟨[], [], [], []⟩]) (l := impl_TakeVarint.says) (fn := Try.f141) (c := bodyOf Try.f141)
  (by kernel_rfl) (by kernel_rfl) (by kernel_rfl) (by kernel_rfl) (by kernel_rfl) (by kernel_rfl) (by kernel_rfl)
  (fun N => SayAll.cons (impl_numberOf.say N) (SayAll.nil)) (fun a s => by kernel_rfl)

/-! ### (*loop.example/g00206/impl.cursor).number: function 97 -/
noncomputable def impl_cursor_number.H : Hints := hintsOf [(4, .join [⟨.normal, [3, 4], [0], [.one (.ptr 0 0)], [.cells [ck_s, ck_b]], [⟨[], [], [], []⟩]⟩])]
noncomputable def impl_cursor_number.says (N : Nat) : List Say := [impl_TakeVarint.S N]
noncomputable def impl_cursor_number.call (N : Nat) : CallK := callBy (impl_cursor_number.says N)
noncomputable def impl_cursor_number.qt (N : Nat) : FuncId → List PV → Sig → Cl := qtBy (impl_cursor_number.says N)
noncomputable def impl_cursor_number (N : Nat) (p0_0 : ByteArray) (p0_1 : Bool) : Option ((Int × Unit) × ((ByteArray × (Bool × Unit)) × Unit)) :=
  ofFn Try.prog impl_cursor_number.call impl_cursor_number.qt impl_cursor_number.H N Try.f97 [.one (.ptr 0 0)] [.cells [ck_s, ck_b]] [ak_i] [.cells [ck_s, ck_b]] [⟨[], [], [], []⟩] ((), ()) ((p0_0, (p0_1, ())), ())
noncomputable def impl_cursor_number.S (N : Nat) : Say := ⟨false, 97, [.one (.ptr 0 0)], [.cells [ck_s, ck_b]], [ak_i], [.cells [ck_s, ck_b]], fun a s => impl_cursor_number N s.1.1 s.1.2.1⟩
set_option maxRecDepth 100000 in
theorem impl_cursor_number.eq (N : Nat) (p0_0 : ByteArray) (p0_1 : Bool) : impl_cursor_number N p0_0 p0_1 =
 andK (impl_TakeVarint N p0_0) fun u1 =>
 andK (α := ((Unit × Unit) × ((ByteArray × (Bool × Unit)) × Unit))) (
  sel (decide (u1.1.2.1 = 0))
   (
   some ((((), ()), ((p0_0, (true, ())), ()))))
   (
   some ((((), ()), ((p0_0, (p0_1, ())), ()))))) fun j2 =>
 chk ((decide (0 ≤ u1.1.2.1)) && ((decide (u1.1.2.1 ≤ (j2.2.1.1.size : Int))) && (decide ((j2.2.1.1.size : Int) ≤ (j2.2.1.1.size : Int))))) (
 some ((u1.1.1, ()), (((j2.2.1.1.extract (Int.toNat u1.1.2.1) (Int.toNat (j2.2.1.1.size : Int))), (j2.2.1.2.1, ())), ()))) := by kernel_rfl
set_option maxRecDepth 100000 in
theorem impl_cursor_number.say (N : Nat) : SayOk Try.prog (impl_cursor_number.S N) := sayOk_mk (N := N) (H := impl_cursor_number.H) (preps := [⟨[], [], [], []⟩]) (l := impl_cursor_number.says) (fn := Try.f97) (c := bodyOf Try.f97)
  (by kernel_rfl) (by kernel_rfl) (by kernel_rfl) (by kernel_rfl) (by kernel_rfl) (by kernel_rfl) (by kernel_rfl)
  (fun N => SayAll.cons (impl_TakeVarint.say N) (SayAll.nil)) (fun a s => by kernel_rfl)

/-! ### (*loop.example/g00206/impl.cursor).counted: function 136 -/
noncomputable def impl_cursor_counted.H : Hints := hintsOf []
noncomputable def impl_cursor_counted.says (N : Nat) : List Say := [impl_cursor_number.S N, impl_cursor_take.S N]
noncomputable def impl_cursor_counted.call (N : Nat) : CallK := callBy (impl_cursor_counted.says N)
noncomputable def impl_cursor_counted.qt (N : Nat) : FuncId → List PV → Sig → Cl := qtBy (impl_cursor_counted.says N)
noncomputable def impl_cursor_counted (N : Nat) (p0_0 : ByteArray) (p0_1 : Bool) : Option ((ByteArray × Unit) × ((ByteArray × (Bool × Unit)) × Unit)) :=
  ofFn Try.prog impl_cursor_counted.call impl_cursor_counted.qt impl_cursor_counted.H N Try.f136 [.one (.ptr 0 0)] [.cells [ck_s, ck_b]] [ak_s] [.cells [ck_s, ck_b]] [⟨[], [], [], []⟩] ((), ()) ((p0_0, (p0_1, ())), ())
noncomputable def impl_cursor_counted.S (N : Nat) : Say := ⟨false, 136, [.one (.ptr 0 0)], [.cells [ck_s, ck_b]], [ak_s], [.cells [ck_s, ck_b]], fun a s => impl_cursor_counted N s.1.1 s.1.2.1⟩
set_option maxRecDepth 100000 in
theorem impl_cursor_counted.eq (N : Nat) (p0_0 : ByteArray) (p0_1 : Bool) : impl_cursor_counted N p0_0 p0_1 =
 andK (impl_cursor_number N p0_0 p0_1) fun u1 =>
 andK (impl_cursor_take N u1.1.1 u1.2.1.1 u1.2.1.2.1) fun u2 =>
 some ((u2.1.1, ()), ((u2.2.1.1, (u2.2.1.2.1, ())), ())) := by kernel_rfl
set_option maxRecDepth 100000 in
theorem impl_cursor_counted.say (N : Nat) : SayOk Try.prog (impl_cursor_counted.S N) := sayOk_mk (N := N) (H := impl_cursor_counted.H) (preps := [⟨[], [], [], []⟩]) (l := impl_cursor_counted.says) (fn := Try.f136) (c := bodyOf Try.f136)
  (by kernel_rfl) (by kernel_rfl) (by kernel_rfl) (by kernel_rfl) (by kernel_rfl) (by kernel_rfl) (by kernel_rfl)
  (fun N => SayAll.cons (impl_cursor_number.say N) (SayAll.cons (impl_cursor_take.say N) (SayAll.nil))) (fun a s => by kernel_rfl)

/-! ### (*loop.example/g00206/impl.cursor).header: function 89 -/
noncomputable def impl_cursor_header.H : Hints := hintsOf [(5000010, .join [⟨.normal, [], [0, 6, 7, 57], [.one (.ptr 0 0), .one (.ptr 1 0), .one (.ptr 2 0), ak_b], [.cells [ck_s, ck_b], .cells [ck_i, ck_i, ck_i, ck_s, ck_s, ck_s, ck_s, .nil], .cells [ck_i, ck_i, ck_i, ck_s, ck_s, ck_s, ck_s, .own 3], .rows (.int .i64)], [⟨[], [], [], []⟩]⟩]),
  (2000010, .loop ⟨.normal, [], [0, 6, 7], [.one (.ptr 0 0), .one (.ptr 1 0), .one (.ptr 2 0)], [.cells [ck_s, ck_b], .cells [ck_i, ck_i, ck_i, ck_s, ck_s, ck_s, ck_s, .nil], .cells [ck_i, ck_i, ck_i, ck_s, ck_s, ck_s, ck_s, .own 3], .rows (.int .i64)], [⟨[], [(2, (7, (.int .i64)))], [], [3]⟩, ⟨[], [], [], [3]⟩]⟩ [⟨(.exit 0), [], [6, 7], [.one (.ptr 1 0), .one (.ptr 2 0)], [.cells [ck_s, ck_b], .cells [ck_i, ck_i, ck_i, ck_s, ck_s, ck_s, ck_s, .nil], .cells [ck_i, ck_i, ck_i, ck_s, ck_s, ck_s, ck_s, .own 3], .rows (.int .i64)], [⟨[], [], [], [3]⟩]⟩]),
  (15, .join [⟨.normal, [], [0, 6, 7], [.one (.ptr 0 0), .one (.ptr 1 0), .one (.ptr 2 0)], [.cells [ck_s, ck_b], .cells [ck_i, ck_i, ck_i, ck_s, ck_s, ck_s, ck_s, .nil], .cells [ck_i, ck_i, ck_i, ck_s, ck_s, ck_s, ck_s, .nil]], [⟨[], [], [], []⟩]⟩])]
noncomputable def impl_cursor_header.says (N : Nat) : List Say := [impl_cursor_take.S N, impl_cursor_rest.S N, impl_numberOf.S N, impl_cursor_byte.S N, impl_cursor_counted.S N]
noncomputable def impl_cursor_header.call (N : Nat) : CallK := callBy (impl_cursor_header.says N)
noncomputable def impl_cursor_header.qt (N : Nat) : FuncId → List PV → Sig → Cl := qtBy (impl_cursor_header.says N)
noncomputable def impl_cursor_header.l0.hd : Alt := ⟨.normal, [], [0, 6, 7], [.one (.ptr 0 0), .one (.ptr 1 0), .one (.ptr 2 0)], [.cells [ck_s, ck_b], .cells [ck_i, ck_i, ck_i, ck_s, ck_s, ck_s, ck_s, .nil], .cells [ck_i, ck_i, ck_i, ck_s, ck_s, ck_s, ck_s, .own 3], .rows (.int .i64)], [⟨[], [(2, (7, (.int .i64)))], [], [3]⟩, ⟨[], [], [], [3]⟩]⟩
noncomputable def impl_cursor_header.l0.outs : List Alt := [⟨(.exit 0), [], [6, 7], [.one (.ptr 1 0), .one (.ptr 2 0)], [.cells [ck_s, ck_b], .cells [ck_i, ck_i, ck_i, ck_s, ck_s, ck_s, ck_s, .nil], .cells [ck_i, ck_i, ck_i, ck_s, ck_s, ck_s, ck_s, .own 3], .rows (.int .i64)], [⟨[], [], [], [3]⟩]⟩]
noncomputable def impl_cursor_header.l0 (N : Nat) (p0_01 : ByteArray) (p0_11 : Bool) (p1_0 : Int) (p1_1 : Int) (p1_2 : Int) (p1_3 : ByteArray) (p1_4 : ByteArray) (p1_5 : ByteArray) (p1_6 : ByteArray) (p2_0 : Int) (p2_1 : Int) (p2_2 : Int) (p2_3 : ByteArray) (p2_4 : ByteArray) (p2_5 : ByteArray) (p2_6 : ByteArray) (p3 : (List Int)) : Option ((Unit × (Unit × Unit)) × ((ByteArray × (Bool × Unit)) × ((Int × (Int × (Int × (ByteArray × (ByteArray × (ByteArray × (ByteArray × (Unit × Unit)))))))) × ((Int × (Int × (Int × (ByteArray × (ByteArray × (ByteArray × (ByteArray × (Unit × Unit)))))))) × ((List Int) × Unit))))) :=
  loopK Try.prog impl_cursor_header.call impl_cursor_header.qt impl_cursor_header.H (codeAt (bodyOf Try.f89) [1, 1, 1, 1, 1, 1, 0, 1, 0, 1, 0, 0, 0]) 3 impl_cursor_header.l0.hd impl_cursor_header.l0.outs [] N (((), ((), ((), ()))), ((p0_01, (p0_11, ())), ((p1_0, (p1_1, (p1_2, (p1_3, (p1_4, (p1_5, (p1_6, ((), ())))))))), ((p2_0, (p2_1, (p2_2, (p2_3, (p2_4, (p2_5, (p2_6, ((), ())))))))), (p3, ())))))
noncomputable def impl_cursor_header (N : Nat) (o : Int) (t : Int) (p0_0 : ByteArray) (p0_1 : Bool) : Option (((Int × (Int × (Int × (ByteArray × (ByteArray × (ByteArray × (ByteArray × ((List Int) × Unit)))))))) × Unit) × ((ByteArray × (Bool × Unit)) × Unit)) :=
  ofFn Try.prog impl_cursor_header.call impl_cursor_header.qt impl_cursor_header.H N Try.f89 [.one (.ptr 0 0), ak_i, ak_i] [.cells [ck_s, ck_b]] [.agg [ck_i, ck_i, ck_i, ck_s, ck_s, ck_s, ck_s, .sh (.rows (.int .i64))]] [.cells [ck_s, ck_b]] [⟨[], [], [], []⟩, ⟨[], [], [3], []⟩] ((), (o, (t, ()))) ((p0_0, (p0_1, ())), ())
noncomputable def impl_cursor_header.S (N : Nat) : Say := ⟨false, 89, [.one (.ptr 0 0), ak_i, ak_i], [.cells [ck_s, ck_b]], [.agg [ck_i, ck_i, ck_i, ck_s, ck_s, ck_s, ck_s, .sh (.rows (.int .i64))]], [.cells [ck_s, ck_b]], fun a s => impl_cursor_header N a.2.1 a.2.2.1 s.1.1 s.1.2.1⟩
set_option maxRecDepth 100000 in
theorem impl_cursor_header.l0.eq (N : Nat) (p0_01 : ByteArray) (p0_11 : Bool) (p1_0 : Int) (p1_1 : Int) (p1_2 : Int) (p1_3 : ByteArray) (p1_4 : ByteArray) (p1_5 : ByteArray) (p1_6 : ByteArray) (p2_0 : Int) (p2_1 : Int) (p2_2 : Int) (p2_3 : ByteArray) (p2_4 : ByteArray) (p2_5 : ByteArray) (p2_6 : ByteArray) (p3 : (List Int)) : impl_cursor_header.l0 (N + 1) p0_01 p0_11 p1_0 p1_1 p1_2 p1_3 p1_4 p1_5 p1_6 p2_0 p2_1 p2_2 p2_3 p2_4 p2_5 p2_6 p3 =
 andK (α := ((Unit × (Unit × (Unit × (Bool × Unit)))) × ((ByteArray × (Bool × Unit)) × ((Int × (Int × (Int × (ByteArray × (ByteArray × (ByteArray × (ByteArray × (Unit × Unit)))))))) × ((Int × (Int × (Int × (ByteArray × (ByteArray × (ByteArray × (ByteArray × (Unit × Unit)))))))) × ((List Int) × Unit)))))) (
  sel (!(decide (p0_01 = (⟨#[]⟩ : ByteArray))))
   (
   some ((((), ((), ((), ((!p0_11), ())))), ((p0_01, (p0_11, ())), ((p1_0, (p1_1, (p1_2, (p1_3, (p1_4, (p1_5, (p1_6, ((), ())))))))), ((p2_0, (p2_1, (p2_2, (p2_3, (p2_4, (p2_5, (p2_6, ((), ())))))))), (p3, ())))))))
   (
   some ((((), ((), ((), (false, ())))), ((p0_01, (p0_11, ())), ((p1_0, (p1_1, (p1_2, (p1_3, (p1_4, (p1_5, (p1_6, ((), ())))))))), ((p2_0, (p2_1, (p2_2, (p2_3, (p2_4, (p2_5, (p2_6, ((), ())))))))), (p3, ())))))))) fun j9 =>
 sel j9.1.2.2.2.1
  (
  andK (impl_cursor_take N 4 j9.2.1.1 j9.2.1.2.1) fun u10 =>
  andK (impl_numberOf N u10.1.1) fun u11 =>
  chk (decide (j9.2.2.2.2.1.length + 1 < most)) (
  impl_cursor_header.l0 N u10.2.1.1 u10.2.1.2.1 j9.2.2.1.1 j9.2.2.1.2.1 j9.2.2.1.2.2.1 j9.2.2.1.2.2.2.1 j9.2.2.1.2.2.2.2.1 j9.2.2.1.2.2.2.2.2.1 j9.2.2.1.2.2.2.2.2.2.1 j9.2.2.2.1.1 j9.2.2.2.1.2.1 j9.2.2.2.1.2.2.1 j9.2.2.2.1.2.2.2.1 j9.2.2.2.1.2.2.2.2.1 j9.2.2.2.1.2.2.2.2.2.1 j9.2.2.2.1.2.2.2.2.2.2.1 (j9.2.2.2.2.1 ++ [(IntKind.i64.wrap u11.1.1)])))
  (
  some ((((), ((), ())), ((j9.2.1.1, (j9.2.1.2.1, ())), ((j9.2.2.1.1, (j9.2.2.1.2.1, (j9.2.2.1.2.2.1, (j9.2.2.1.2.2.2.1, (j9.2.2.1.2.2.2.2.1, (j9.2.2.1.2.2.2.2.2.1, (j9.2.2.1.2.2.2.2.2.2.1, ((), ())))))))), ((j9.2.2.2.1.1, (j9.2.2.2.1.2.1, (j9.2.2.2.1.2.2.1, (j9.2.2.2.1.2.2.2.1, (j9.2.2.2.1.2.2.2.2.1, (j9.2.2.2.1.2.2.2.2.2.1, (j9.2.2.2.1.2.2.2.2.2.2.1, ((), ())))))))), (j9.2.2.2.2.1, ()))))))) := by kernel_rfl
set_option maxRecDepth 100000 in
theorem impl_cursor_header.eq (N : Nat) (o : Int) (t : Int) (p0_0 : ByteArray) (p0_1 : Bool) : impl_cursor_header N o t p0_0 p0_1 =
 sel (decide ((Go.bits .and .i64 o 128) = 0))
  (
  andK (impl_cursor_take N t p0_0 p0_1) fun u1 =>
  andK (impl_cursor_rest N u1.2.1.1 u1.2.1.2.1) fun u2 =>
  some (((5, ((Go.bits .and .i64 o 15), (0, (u1.1.1, ((⟨#[]⟩ : ByteArray), ((⟨#[]⟩ : ByteArray), (u2.1.1, ([], ())))))))), ()), ((u2.2.1.1, (u2.2.1.2.1, ())), ())))
  (
  andK (impl_cursor_take N 4 p0_0 p0_1) fun u3 =>
  andK (impl_numberOf N u3.1.1) fun u4 =>
  andK (impl_cursor_byte N u3.2.1.1 u3.2.1.2.1) fun u5 =>
  andK (impl_cursor_take N u5.1.1 u5.2.1.1 u5.2.1.2.1) fun u6 =>
  andK (impl_cursor_byte N u6.2.1.1 u6.2.1.2.1) fun u7 =>
  andK (impl_cursor_take N u7.1.1 u7.2.1.1 u7.2.1.2.1) fun u8 =>
  sel (decide ((IntKind.i64.wrap u4.1.1) = 0))
   (
   andK (impl_cursor_header.l0 N u8.2.1.1 u8.2.1.2.1 0 0 0 (⟨#[]⟩ : ByteArray) (⟨#[]⟩ : ByteArray) (⟨#[]⟩ : ByteArray) (⟨#[]⟩ : ByteArray) 4 (Go.bits .and .i64 o 15) (IntKind.i64.wrap u4.1.1) u6.1.1 u8.1.1 (⟨#[]⟩ : ByteArray) (⟨#[]⟩ : ByteArray) []) fun l12 =>
   some (((l12.2.2.2.1.1, (l12.2.2.2.1.2.1, (l12.2.2.2.1.2.2.1, (l12.2.2.2.1.2.2.2.1, (l12.2.2.2.1.2.2.2.2.1, (l12.2.2.2.1.2.2.2.2.2.1, (l12.2.2.2.1.2.2.2.2.2.2.1, (l12.2.2.2.2.1, ())))))))), ()), ((l12.2.1.1, (l12.2.1.2.1, ())), ())))
   (
   andK (α := ((Unit × (Unit × (Unit × Unit))) × ((ByteArray × (Bool × Unit)) × ((Int × (Int × (Int × (ByteArray × (ByteArray × (ByteArray × (ByteArray × (Unit × Unit)))))))) × ((Int × (Int × (Int × (ByteArray × (ByteArray × (ByteArray × (ByteArray × (Unit × Unit)))))))) × Unit))))) (
    sel (decide ((Int.tmod (IntKind.i64.wrap (Int.tdiv o 16)) 4) = 0))
     (
     andK (impl_cursor_counted N u8.2.1.1 u8.2.1.2.1) fun u13 =>
     some ((((), ((), ((), ()))), ((u13.2.1.1, (u13.2.1.2.1, ())), ((0, (0, (0, ((⟨#[]⟩ : ByteArray), ((⟨#[]⟩ : ByteArray), ((⟨#[]⟩ : ByteArray), ((⟨#[]⟩ : ByteArray), ((), ())))))))), (((Int.tmod (IntKind.i64.wrap (Int.tdiv o 16)) 4), ((Go.bits .and .i64 o 15), ((IntKind.i64.wrap u4.1.1), (u6.1.1, (u8.1.1, (u13.1.1, ((⟨#[]⟩ : ByteArray), ((), ())))))))), ()))))))
     (
     some ((((), ((), ((), ()))), ((u8.2.1.1, (u8.2.1.2.1, ())), ((0, (0, (0, ((⟨#[]⟩ : ByteArray), ((⟨#[]⟩ : ByteArray), ((⟨#[]⟩ : ByteArray), ((⟨#[]⟩ : ByteArray), ((), ())))))))), (((Int.tmod (IntKind.i64.wrap (Int.tdiv o 16)) 4), ((Go.bits .and .i64 o 15), ((IntKind.i64.wrap u4.1.1), (u6.1.1, (u8.1.1, ((⟨#[]⟩ : ByteArray), ((⟨#[]⟩ : ByteArray), ((), ())))))))), ()))))))) fun j14 =>
   sel (decide (j14.2.2.2.1.1 = 3))
    (
    andK (impl_cursor_rest N j14.2.1.1 j14.2.1.2.1) fun u15 =>
    some (((j14.2.2.2.1.1, (j14.2.2.2.1.2.1, (j14.2.2.2.1.2.2.1, (j14.2.2.2.1.2.2.2.1, (j14.2.2.2.1.2.2.2.2.1, (j14.2.2.2.1.2.2.2.2.2.1, (u15.1.1, ([], ())))))))), ()), ((u15.2.1.1, (u15.2.1.2.1, ())), ())))
    (
    andK (impl_cursor_counted N j14.2.1.1 j14.2.1.2.1) fun u16 =>
    some (((j14.2.2.2.1.1, (j14.2.2.2.1.2.1, (j14.2.2.2.1.2.2.1, (j14.2.2.2.1.2.2.2.1, (j14.2.2.2.1.2.2.2.2.1, (j14.2.2.2.1.2.2.2.2.2.1, (u16.1.1, ([], ())))))))), ()), ((u16.2.1.1, (u16.2.1.2.1, ())), ()))))) := by kernel_rfl
set_option maxRecDepth 100000 in
theorem impl_cursor_header.say (N : Nat) : SayOk Try.prog (impl_cursor_header.S N) := sayOk_mk (N := N) (H := impl_cursor_header.H) (preps := [⟨[], [], [], []⟩, ⟨[], [], [3], []⟩]) (l := impl_cursor_header.says) (fn := Try.f89) (c := bodyOf Try.f89)
  (by kernel_rfl) (by kernel_rfl) (by kernel_rfl) (by kernel_rfl) (by kernel_rfl) (by kernel_rfl) (by kernel_rfl)
  (fun N => SayAll.cons (impl_cursor_take.say N) (SayAll.cons (impl_cursor_rest.say N) (SayAll.cons (impl_numberOf.say N) (SayAll.cons (impl_cursor_byte.say N) (SayAll.cons (impl_cursor_counted.say N) (SayAll.nil)))))) (fun a s => by kernel_rfl)

/-! ### loop.example/g00206/impl.shortOk: function 55 -/
noncomputable def impl_shortOk.H : Hints := hintsOf []
noncomputable def impl_shortOk.says (N : Nat) : List Say := [impl_in.S N]
noncomputable def impl_shortOk.call (N : Nat) : CallK := callBy (impl_shortOk.says N)
noncomputable def impl_shortOk.qt (N : Nat) : FuncId → List PV → Sig → Cl := qtBy (impl_shortOk.says N)
noncomputable def impl_shortOk (N : Nat) (short : Int) : Option ((Bool × Unit) × Unit) :=
  ofFn Try.prog impl_shortOk.call impl_shortOk.qt impl_shortOk.H N Try.f55 [ak_i] [] [ak_b] [] [⟨[], [], [], []⟩] (short, ()) ()
noncomputable def impl_shortOk.S (N : Nat) : Say := ⟨false, 55, [ak_i], [], [ak_b], [], fun a s => impl_shortOk N a.1⟩
set_option maxRecDepth 100000 in
theorem impl_shortOk.eq (N : Nat) (short : Int) : impl_shortOk N short =
 andK (impl_in N short 0 20) fun u1 =>
 some ((u1.1.1, ()), ()) := by kernel_rfl
set_option maxRecDepth 100000 in
theorem impl_shortOk.say (N : Nat) : SayOk Try.prog (impl_shortOk.S N) := sayOk_mk (N := N) (H := impl_shortOk.H) (preps := [⟨[], [], [], []⟩]) (l := impl_shortOk.says) (fn := Try.f55) (c := bodyOf Try.f55)
  (by kernel_rfl) (by kernel_rfl) (by kernel_rfl) (by kernel_rfl) (by kernel_rfl) (by kernel_rfl) (by kernel_rfl)
  (fun N => SayAll.cons (impl_in.say N) (SayAll.nil)) (fun a s => by kernel_rfl)

/-! ### loop.example/g00206/impl.ReadHeader: function 33 -/
noncomputable def impl_ReadHeader.H : Hints := hintsOf [(5000008, .join [⟨.normal, [0, 1], [4, 7, 9, 10], [.one (.ptr 0 0), .one (.ptr 1 0), .one (.ptr 2 0), ak_b], [.cells [ck_i, ck_i, ck_i, ck_s, ck_s, ck_s, ck_s, .nil], .cells [ck_s, ck_b], .cells [ck_i, ck_i, ck_i, ck_s, ck_s, ck_s, ck_s, .sh (.rows (.int .i64))]], [⟨[], [], [], []⟩]⟩]),
  (5000011, .join [⟨.normal, [0], [4, 7, 9, 52], [.one (.ptr 0 0), .one (.ptr 1 0), .one (.ptr 2 0), ak_b], [.cells [ck_i, ck_i, ck_i, ck_s, ck_s, ck_s, ck_s, .nil], .cells [ck_s, ck_b], .cells [ck_i, ck_i, ck_i, ck_s, ck_s, ck_s, ck_s, .sh (.rows (.int .i64))]], [⟨[], [], [], []⟩]⟩])]
noncomputable def impl_ReadHeader.says (N : Nat) : List Say := [impl_cursor_byte.S N, impl_cursor_header.S N, impl_shortOk.S N, impl_GoodHeader.S N]
noncomputable def impl_ReadHeader.call (N : Nat) : CallK := callBy (impl_ReadHeader.says N)
noncomputable def impl_ReadHeader.qt (N : Nat) : FuncId → List PV → Sig → Cl := qtBy (impl_ReadHeader.says N)
noncomputable def impl_ReadHeader (N : Nat) (G : ByteArray) (o : Int) : Option (((Int × (Int × (Int × (ByteArray × (ByteArray × (ByteArray × (ByteArray × ((List Int) × Unit)))))))) × (Int × (Int × Unit))) × Unit) :=
  ofFn Try.prog impl_ReadHeader.call impl_ReadHeader.qt impl_ReadHeader.H N Try.f33 [ak_s, ak_i] [] [.agg [ck_i, ck_i, ck_i, ck_s, ck_s, ck_s, ck_s, .sh (.rows (.int .i64))], ak_i, ak_i] [] [⟨[], [], [], []⟩] (G, (o, ())) ()
noncomputable def impl_ReadHeader.S (N : Nat) : Say := ⟨false, 33, [ak_s, ak_i], [], [.agg [ck_i, ck_i, ck_i, ck_s, ck_s, ck_s, ck_s, .sh (.rows (.int .i64))], ak_i, ak_i], [], fun a s => impl_ReadHeader N a.1 a.2.1⟩
set_option maxRecDepth 100000 in
theorem impl_ReadHeader.eq (N : Nat) (G : ByteArray) (o : Int) : impl_ReadHeader N G o =
 andK (impl_cursor_byte N G false) fun u1 =>
 sel u1.2.1.2.1
  (
  some (((0, (0, (0, ((⟨#[]⟩ : ByteArray), ((⟨#[]⟩ : ByteArray), ((⟨#[]⟩ : ByteArray), ((⟨#[]⟩ : ByteArray), ([], ())))))))), (0, (1, ()))), ()))
  (
  sel (decide ((Go.bits .and .i64 u1.1.1 64) = 0))
   (
   some (((0, (0, (0, ((⟨#[]⟩ : ByteArray), ((⟨#[]⟩ : ByteArray), ((⟨#[]⟩ : ByteArray), ((⟨#[]⟩ : ByteArray), ([], ())))))))), (0, (2, ()))), ()))
   (
   andK (impl_cursor_header N u1.1.1 (mmI true o 0) u1.2.1.1 u1.2.1.2.1) fun u2 =>
   andK (α := ((Unit × (Unit × (Unit × (Bool × Unit)))) × ((Int × (Int × (Int × (ByteArray × (ByteArray × (ByteArray × (ByteArray × (Unit × Unit)))))))) × ((ByteArray × (Bool × Unit)) × ((Int × (Int × (Int × (ByteArray × (ByteArray × (ByteArray × (ByteArray × ((List Int) × Unit)))))))) × Unit))))) (
    sel (decide (u2.1.1.1 = 5))
     (
     some ((((), ((), ((), ((!(decide ((Int.tmod (IntKind.i64.wrap (Int.tdiv u1.1.1 16)) 4) = 0))), ())))), ((0, (0, (0, ((⟨#[]⟩ : ByteArray), ((⟨#[]⟩ : ByteArray), ((⟨#[]⟩ : ByteArray), ((⟨#[]⟩ : ByteArray), ((), ())))))))), ((u2.2.1.1, (u2.2.1.2.1, ())), ((u2.1.1.1, (u2.1.1.2.1, (u2.1.1.2.2.1, (u2.1.1.2.2.2.1, (u2.1.1.2.2.2.2.1, (u2.1.1.2.2.2.2.2.1, (u2.1.1.2.2.2.2.2.2.1, (u2.1.1.2.2.2.2.2.2.2.1, ())))))))), ()))))))
     (
     sel (decide (u2.1.1.1 = 4))
      (
      some ((((), ((), ((), ((!(decide ((Int.tmod (IntKind.i64.wrap (Int.tdiv u1.1.1 16)) 4) = 0))), ())))), ((0, (0, (0, ((⟨#[]⟩ : ByteArray), ((⟨#[]⟩ : ByteArray), ((⟨#[]⟩ : ByteArray), ((⟨#[]⟩ : ByteArray), ((), ())))))))), ((u2.2.1.1, (u2.2.1.2.1, ())), ((u2.1.1.1, (u2.1.1.2.1, (u2.1.1.2.2.1, (u2.1.1.2.2.2.1, (u2.1.1.2.2.2.2.1, (u2.1.1.2.2.2.2.2.1, (u2.1.1.2.2.2.2.2.2.1, (u2.1.1.2.2.2.2.2.2.2.1, ())))))))), ()))))))
      (
      some ((((), ((), ((), (false, ())))), ((0, (0, (0, ((⟨#[]⟩ : ByteArray), ((⟨#[]⟩ : ByteArray), ((⟨#[]⟩ : ByteArray), ((⟨#[]⟩ : ByteArray), ((), ())))))))), ((u2.2.1.1, (u2.2.1.2.1, ())), ((u2.1.1.1, (u2.1.1.2.1, (u2.1.1.2.2.1, (u2.1.1.2.2.2.1, (u2.1.1.2.2.2.2.1, (u2.1.1.2.2.2.2.2.1, (u2.1.1.2.2.2.2.2.2.1, (u2.1.1.2.2.2.2.2.2.2.1, ())))))))), ())))))))) fun j3 =>
   sel j3.2.2.1.2.1
    (
    some (((0, (0, (0, ((⟨#[]⟩ : ByteArray), ((⟨#[]⟩ : ByteArray), ((⟨#[]⟩ : ByteArray), ((⟨#[]⟩ : ByteArray), ([], ())))))))), (0, (1, ()))), ()))
    (
    andK (α := ((Unit × (Unit × (Unit × (Bool × Unit)))) × ((Int × (Int × (Int × (ByteArray × (ByteArray × (ByteArray × (ByteArray × (Unit × Unit)))))))) × ((ByteArray × (Bool × Unit)) × ((Int × (Int × (Int × (ByteArray × (ByteArray × (ByteArray × (ByteArray × ((List Int) × Unit)))))))) × Unit))))) (
     sel j3.1.2.2.2.1
      (
      some ((((), ((), ((), (true, ())))), ((j3.2.1.1, (j3.2.1.2.1, (j3.2.1.2.2.1, (j3.2.1.2.2.2.1, (j3.2.1.2.2.2.2.1, (j3.2.1.2.2.2.2.2.1, (j3.2.1.2.2.2.2.2.2.1, ((), ())))))))), ((j3.2.2.1.1, (j3.2.2.1.2.1, ())), ((j3.2.2.2.1.1, (j3.2.2.2.1.2.1, (j3.2.2.2.1.2.2.1, (j3.2.2.2.1.2.2.2.1, (j3.2.2.2.1.2.2.2.2.1, (j3.2.2.2.1.2.2.2.2.2.1, (j3.2.2.2.1.2.2.2.2.2.2.1, (j3.2.2.2.1.2.2.2.2.2.2.2.1, ())))))))), ()))))))
      (
      andK (impl_shortOk N o) fun u4 =>
      sel (!u4.1.1)
       (
       some ((((), ((), ((), (true, ())))), ((j3.2.1.1, (j3.2.1.2.1, (j3.2.1.2.2.1, (j3.2.1.2.2.2.1, (j3.2.1.2.2.2.2.1, (j3.2.1.2.2.2.2.2.1, (j3.2.1.2.2.2.2.2.2.1, ((), ())))))))), ((j3.2.2.1.1, (j3.2.2.1.2.1, ())), ((j3.2.2.2.1.1, (j3.2.2.2.1.2.1, (j3.2.2.2.1.2.2.1, (j3.2.2.2.1.2.2.2.1, (j3.2.2.2.1.2.2.2.2.1, (j3.2.2.2.1.2.2.2.2.2.1, (j3.2.2.2.1.2.2.2.2.2.2.1, (j3.2.2.2.1.2.2.2.2.2.2.2.1, ())))))))), ()))))))
       (
       andK (impl_GoodHeader N j3.2.2.2.1.1 j3.2.2.2.1.2.1 j3.2.2.2.1.2.2.1 j3.2.2.2.1.2.2.2.1 j3.2.2.2.1.2.2.2.2.1 j3.2.2.2.1.2.2.2.2.2.1 j3.2.2.2.1.2.2.2.2.2.2.1 j3.2.2.2.1.2.2.2.2.2.2.2.1) fun u5 =>
       some ((((), ((), ((), ((!u5.1.1), ())))), ((j3.2.1.1, (j3.2.1.2.1, (j3.2.1.2.2.1, (j3.2.1.2.2.2.1, (j3.2.1.2.2.2.2.1, (j3.2.1.2.2.2.2.2.1, (j3.2.1.2.2.2.2.2.2.1, ((), ())))))))), ((j3.2.2.1.1, (j3.2.2.1.2.1, ())), ((j3.2.2.2.1.1, (j3.2.2.2.1.2.1, (j3.2.2.2.1.2.2.1, (j3.2.2.2.1.2.2.2.1, (j3.2.2.2.1.2.2.2.2.1, (j3.2.2.2.1.2.2.2.2.2.1, (j3.2.2.2.1.2.2.2.2.2.2.1, (j3.2.2.2.1.2.2.2.2.2.2.2.1, ())))))))), ())))))))) fun j6 =>
    sel j6.1.2.2.2.1
     (
     some (((0, (0, (0, ((⟨#[]⟩ : ByteArray), ((⟨#[]⟩ : ByteArray), ((⟨#[]⟩ : ByteArray), ((⟨#[]⟩ : ByteArray), ([], ())))))))), (0, (3, ()))), ()))
     (
     some (((j6.2.2.2.1.1, (j6.2.2.2.1.2.1, (j6.2.2.2.1.2.2.1, (j6.2.2.2.1.2.2.2.1, (j6.2.2.2.1.2.2.2.2.1, (j6.2.2.2.1.2.2.2.2.2.1, (j6.2.2.2.1.2.2.2.2.2.2.1, (j6.2.2.2.1.2.2.2.2.2.2.2.1, ())))))))), ((IntKind.i64.wrap ((G.size : Int) - (j6.2.2.1.1.size : Int))), (0, ()))), ()))))) := by kernel_rfl
set_option maxRecDepth 100000 in
theorem impl_ReadHeader.say (N : Nat) : SayOk Try.prog (impl_ReadHeader.S N) := sayOk_mk (N := N) (H := impl_ReadHeader.H) (preps := [⟨[], [], [], []⟩]) (l := impl_ReadHeader.says) (fn := Try.f33) (c := bodyOf Try.f33)
  (by kernel_rfl) (by kernel_rfl) (by kernel_rfl) (by kernel_rfl) (by kernel_rfl) (by kernel_rfl) (by kernel_rfl)
  (fun N => SayAll.cons (impl_cursor_byte.say N) (SayAll.cons (impl_cursor_header.say N) (SayAll.cons (impl_shortOk.say N) (SayAll.cons (impl_GoodHeader.say N) (SayAll.nil))))) (fun a s => by kernel_rfl)

/-! ### loop.example/g00206/impl.DestOf: function 34 -/
noncomputable def impl_DestOf.H : Hints := hintsOf [(5000003, .join [⟨.normal, [1, 8], [7, 24], [.one (.ptr 0 0), ak_b], [.cells [ck_s, ck_b]], [⟨[], [], [], []⟩]⟩]),
  (9, .join [⟨.normal, [9], [1, 7], [ak_i, .one (.ptr 0 0)], [.cells [ck_s, ck_b]], [⟨[], [], [], []⟩]⟩])]
noncomputable def impl_DestOf.says (N : Nat) : List Say := [impl_cursor_byte.S N, impl_shortOk.S N, impl_cursor_take.S N]
noncomputable def impl_DestOf.call (N : Nat) : CallK := callBy (impl_DestOf.says N)
noncomputable def impl_DestOf.qt (N : Nat) : FuncId → List PV → Sig → Cl := qtBy (impl_DestOf.says N)
noncomputable def impl_DestOf (N : Nat) (s : ByteArray) (short : Int) : Option ((ByteArray × (Bool × (Bool × Unit))) × Unit) :=
  ofFn Try.prog impl_DestOf.call impl_DestOf.qt impl_DestOf.H N Try.f34 [ak_s, ak_i] [] [ak_s, ak_b, ak_b] [] [⟨[], [], [], []⟩] (s, (short, ())) ()
noncomputable def impl_DestOf.S (N : Nat) : Say := ⟨false, 34, [ak_s, ak_i], [], [ak_s, ak_b, ak_b], [], fun a s => impl_DestOf N a.1 a.2.1⟩
set_option maxRecDepth 100000 in
theorem impl_DestOf.eq (N : Nat) (s : ByteArray) (short : Int) : impl_DestOf N s short =
 andK (impl_cursor_byte N s false) fun u1 =>
 andK (α := ((Unit × (Bool × Unit)) × ((ByteArray × (Bool × Unit)) × Unit))) (
  andK (impl_shortOk N short) fun u2 =>
  sel (!u2.1.1)
   (
   some ((((), (true, ())), ((u1.2.1.1, (u1.2.1.2.1, ())), ()))))
   (
   some ((((), (u1.2.1.2.1, ())), ((u1.2.1.1, (u1.2.1.2.1, ())), ()))))) fun j3 =>
 sel j3.1.2.1
  (
  some (((⟨#[]⟩ : ByteArray), (false, (false, ()))), ()))
  (
  andK (α := ((Int × (Unit × Unit)) × ((ByteArray × (Bool × Unit)) × Unit))) (
   sel (!(decide ((Go.bits .and .i64 u1.1.1 128) = 0)))
    (
    andK (impl_cursor_take N 4 j3.2.1.1 j3.2.1.2.1) fun u4 =>
    andK (impl_cursor_byte N u4.2.1.1 u4.2.1.2.1) fun u5 =>
    some (((u5.1.1, ((), ())), ((u5.2.1.1, (u5.2.1.2.1, ())), ()))))
    (
    some (((short, ((), ())), ((j3.2.1.1, (j3.2.1.2.1, ())), ()))))) fun j6 =>
  andK (impl_cursor_take N j6.1.1 j6.2.1.1 j6.2.1.2.1) fun u7 =>
  sel u7.2.1.2.1
   (
   some (((⟨#[]⟩ : ByteArray), (false, (false, ()))), ()))
   (
   sel (decide (20 < (u7.1.1.size : Int)))
    (
    some (((⟨#[]⟩ : ByteArray), (false, (false, ()))), ()))
    (
    some ((u7.1.1, ((!(decide ((Go.bits .and .i64 u1.1.1 128) = 0))), (true, ()))), ())))) := by kernel_rfl
set_option maxRecDepth 100000 in
theorem impl_DestOf.say (N : Nat) : SayOk Try.prog (impl_DestOf.S N) := sayOk_mk (N := N) (H := impl_DestOf.H) (preps := [⟨[], [], [], []⟩]) (l := impl_DestOf.says) (fn := Try.f34) (c := bodyOf Try.f34)
  (by kernel_rfl) (by kernel_rfl) (by kernel_rfl) (by kernel_rfl) (by kernel_rfl) (by kernel_rfl) (by kernel_rfl)
  (fun N => SayAll.cons (impl_cursor_byte.say N) (SayAll.cons (impl_shortOk.say N) (SayAll.cons (impl_cursor_take.say N) (SayAll.nil)))) (fun a s => by kernel_rfl)

/-! ### loop.example/g00206/laws.sameInts: function 27 -/
noncomputable def laws_sameInts.H : Hints := hintsOf [(2000004, .loop ⟨.normal, [0, 1, 12], [13], [ak_i], [], [⟨[], [], [], []⟩]⟩ [⟨.ret, [], [4], [ak_b], [], [⟨[], [], [], []⟩]⟩, ⟨(.exit 0), [], [], [], [], [⟨[], [], [], []⟩]⟩])]
noncomputable def laws_sameInts.says (N : Nat) : List Say := []
noncomputable def laws_sameInts.call (N : Nat) : CallK := callBy (laws_sameInts.says N)
noncomputable def laws_sameInts.qt (N : Nat) : FuncId → List PV → Sig → Cl := qtBy (laws_sameInts.says N)
noncomputable def laws_sameInts.l0.hd : Alt := ⟨.normal, [0, 1, 12], [13], [ak_i], [], [⟨[], [], [], []⟩]⟩
noncomputable def laws_sameInts.l0.outs : List Alt := [⟨.ret, [], [4], [ak_b], [], [⟨[], [], [], []⟩]⟩, ⟨(.exit 0), [], [], [], [], [⟨[], [], [], []⟩]⟩]
noncomputable def laws_sameInts.l0 (N : Nat) (a1 : (List Int)) (b1 : (List Int)) (t12 : Int) (t13 : Int) : Option (((Bool × Unit) × Unit) ⊕ (Unit × Unit)) :=
  loopK Try.prog laws_sameInts.call laws_sameInts.qt laws_sameInts.H (codeAt (bodyOf Try.f27) [1, 1, 0, 1, 0, 0]) 0 laws_sameInts.l0.hd laws_sameInts.l0.outs [(0, .rows false (.int .i64) a1), (1, .rows false (.int .i64) b1), (12, .v (.int .i64 t12))] N ((t13, ()), ())
noncomputable def laws_sameInts (N : Nat) (a : (List Int)) (b : (List Int)) : Option ((Bool × Unit) × Unit) :=
  ofFn Try.prog laws_sameInts.call laws_sameInts.qt laws_sameInts.H N Try.f27 [.one (.sh (.rows (.int .i64))), .one (.sh (.rows (.int .i64)))] [] [ak_b] [] [⟨[], [], [], []⟩] (a, (b, ())) ()
noncomputable def laws_sameInts.S (N : Nat) : Say := ⟨false, 27, [.one (.sh (.rows (.int .i64))), .one (.sh (.rows (.int .i64)))], [], [ak_b], [], fun a s => laws_sameInts N a.1 a.2.1⟩
set_option maxRecDepth 100000 in
theorem laws_sameInts.l0.eq (N : Nat) (a1 : (List Int)) (b1 : (List Int)) (t12 : Int) (t13 : Int) : laws_sameInts.l0 (N + 1) a1 b1 t12 t13 =
 sel (decide (t13 < t12))
  (
  chk ((decide (0 ≤ t13)) && (decide (t13 < (a1.length : Int)))) (
  chk ((decide (0 ≤ t13)) && (decide (t13 < (b1.length : Int)))) (
  sel (!(decide ((a1.getD (Int.toNat t13) 0) = (b1.getD (Int.toNat t13) 0))))
   (
   some (.inl ((false, ()), ())))
   (
   laws_sameInts.l0 N a1 b1 t12 (IntKind.i64.wrap (t13 + 1))))))
  (
  some (.inr (((), ())))) := by kernel_rfl
set_option maxRecDepth 100000 in
theorem laws_sameInts.eq (N : Nat) (a : (List Int)) (b : (List Int)) : laws_sameInts N a b =
 sel (!(decide ((a.length : Int) = (b.length : Int))))
  (
  some ((false, ()), ()))
  (
  andK (laws_sameInts.l0 N a b (a.length : Int) 0) fun l1 =>
  orK l1 (fun x2 =>
   some ((x2.1.1, ()), ()))
   (fun x3 =>
   some ((true, ()), ()))) := by kernel_rfl
set_option maxRecDepth 100000 in
theorem laws_sameInts.say (N : Nat) : SayOk Try.prog (laws_sameInts.S N) := sayOk_mk (N := N) (H := laws_sameInts.H) (preps := [⟨[], [], [], []⟩]) (l := laws_sameInts.says) (fn := Try.f27) (c := bodyOf Try.f27)
  (by kernel_rfl) (by kernel_rfl) (by kernel_rfl) (by kernel_rfl) (by kernel_rfl) (by kernel_rfl) (by kernel_rfl)
  (fun N => SayAll.nil) (fun a s => by kernel_rfl)

/-! ### loop.example/g00206/laws.sameHeaders: function 35 -/
noncomputable def laws_sameHeaders.H : Hints := hintsOf []
noncomputable def laws_sameHeaders.says (N : Nat) : List Say := [laws_sameInts.S N]
noncomputable def laws_sameHeaders.call (N : Nat) : CallK := callBy (laws_sameHeaders.says N)
noncomputable def laws_sameHeaders.qt (N : Nat) : FuncId → List PV → Sig → Cl := qtBy (laws_sameHeaders.says N)
noncomputable def laws_sameHeaders (N : Nat) (a_0 : Int) (a_1 : Int) (a_2 : Int) (a_3 : ByteArray) (a_4 : ByteArray) (a_5 : ByteArray) (a_6 : ByteArray) (a_7 : (List Int)) (b_0 : Int) (b_1 : Int) (b_2 : Int) (b_3 : ByteArray) (b_4 : ByteArray) (b_5 : ByteArray) (b_6 : ByteArray) (b_7 : (List Int)) : Option ((Bool × Unit) × Unit) :=
  ofFn Try.prog laws_sameHeaders.call laws_sameHeaders.qt laws_sameHeaders.H N Try.f35 [.agg [ck_i, ck_i, ck_i, ck_s, ck_s, ck_s, ck_s, .sh (.rows (.int .i64))], .agg [ck_i, ck_i, ck_i, ck_s, ck_s, ck_s, ck_s, .sh (.rows (.int .i64))]] [] [ak_b] [] [⟨[], [], [], []⟩] ((a_0, (a_1, (a_2, (a_3, (a_4, (a_5, (a_6, (a_7, ())))))))), ((b_0, (b_1, (b_2, (b_3, (b_4, (b_5, (b_6, (b_7, ())))))))), ())) ()
noncomputable def laws_sameHeaders.S (N : Nat) : Say := ⟨false, 35, [.agg [ck_i, ck_i, ck_i, ck_s, ck_s, ck_s, ck_s, .sh (.rows (.int .i64))], .agg [ck_i, ck_i, ck_i, ck_s, ck_s, ck_s, ck_s, .sh (.rows (.int .i64))]], [], [ak_b], [], fun a s => laws_sameHeaders N a.1.1 a.1.2.1 a.1.2.2.1 a.1.2.2.2.1 a.1.2.2.2.2.1 a.1.2.2.2.2.2.1 a.1.2.2.2.2.2.2.1 a.1.2.2.2.2.2.2.2.1 a.2.1.1 a.2.1.2.1 a.2.1.2.2.1 a.2.1.2.2.2.1 a.2.1.2.2.2.2.1 a.2.1.2.2.2.2.2.1 a.2.1.2.2.2.2.2.2.1 a.2.1.2.2.2.2.2.2.2.1⟩
set_option maxRecDepth 100000 in
theorem laws_sameHeaders.eq (N : Nat) (a_0 : Int) (a_1 : Int) (a_2 : Int) (a_3 : ByteArray) (a_4 : ByteArray) (a_5 : ByteArray) (a_6 : ByteArray) (a_7 : (List Int)) (b_0 : Int) (b_1 : Int) (b_2 : Int) (b_3 : ByteArray) (b_4 : ByteArray) (b_5 : ByteArray) (b_6 : ByteArray) (b_7 : (List Int)) : laws_sameHeaders N a_0 a_1 a_2 a_3 a_4 a_5 a_6 a_7 b_0 b_1 b_2 b_3 b_4 b_5 b_6 b_7 =
 sel (decide (a_0 = b_0))
  (
  sel (decide (a_1 = b_1))
   (
   sel (decide (a_2 = b_2))
    (
    sel (decide (a_3 = b_3))
     (
     sel (decide (a_4 = b_4))
      (
      sel (decide (a_5 = b_5))
       (
       sel (decide (a_6 = b_6))
        (
        andK (laws_sameInts N a_7 b_7) fun u1 =>
        some ((u1.1.1, ()), ()))
        (
        some ((false, ()), ())))
       (
       some ((false, ()), ())))
      (
      some ((false, ()), ())))
     (
     some ((false, ()), ())))
    (
    some ((false, ()), ())))
   (
   some ((false, ()), ())))
  (
  some ((false, ()), ())) := by kernel_rfl
set_option maxRecDepth 100000 in
theorem laws_sameHeaders.say (N : Nat) : SayOk Try.prog (laws_sameHeaders.S N) := sayOk_mk (N := N) (H := laws_sameHeaders.H) (preps := [⟨[], [], [], []⟩]) (l := laws_sameHeaders.says) (fn := Try.f35) (c := bodyOf Try.f35)
  (by kernel_rfl) (by kernel_rfl) (by kernel_rfl) (by kernel_rfl) (by kernel_rfl) (by kernel_rfl) (by kernel_rfl)
  (fun N => SayAll.cons (laws_sameInts.say N) (SayAll.nil)) (fun a s => by kernel_rfl)
noncomputable def laws_sameHeaders.SB (N : Nat) : Say := laws_sameHeaders.S N |>.lent
theorem laws_sameHeaders.sayB (N : Nat) : SayOk Try.prog (laws_sameHeaders.SB N) := (laws_sameHeaders.say N).lent

/-! ### loop.example/g00206/laws.FnHeaders: function 7 -/
noncomputable def laws_FnHeaders.H : Hints := hintsOf [(5000006, .join [⟨.normal, [4, 5], [3, 36], [.one (.ptr 1 0), ak_b], [.rows (.int .i64), .cells [ck_i, ck_i, ck_i, ck_s, ck_s, ck_s, ck_s, .own 0]], [⟨[], [], [], []⟩]⟩])]
noncomputable def laws_FnHeaders.says (N : Nat) : List Say := [spec_DrawHeaderBytes.S N, impl_HeaderBytes.SB N, spec_HeaderBytes.SB N, impl_ReadHeader.S N, impl_DestOf.S N, laws_sameHeaders.SB N]
noncomputable def laws_FnHeaders.call (N : Nat) : CallK := callBy (laws_FnHeaders.says N)
noncomputable def laws_FnHeaders.qt (N : Nat) : FuncId → List PV → Sig → Cl := qtBy (laws_FnHeaders.says N)
noncomputable def laws_FnHeaders (N : Nat) (G : (List Int)) : Option ((Bool × Unit) × Unit) :=
  ofFn Try.prog laws_FnHeaders.call laws_FnHeaders.qt laws_FnHeaders.H N Try.f7 [.one (.sh (.rows (.int .u8)))] [] [ak_b] [] [⟨[], [], [], []⟩] (G, ()) ()
noncomputable def laws_FnHeaders.S (N : Nat) : Say := ⟨false, 7, [.one (.sh (.rows (.int .u8)))], [], [ak_b], [], fun a s => laws_FnHeaders N a.1⟩
set_option maxRecDepth 100000 in
theorem laws_FnHeaders.eq (N : Nat) (G : (List Int)) : laws_FnHeaders N G =
 sel (decide (1048576 < (G.length : Int)))
  (
  some ((true, ()), ()))
  (
  andK (spec_DrawHeaderBytes N G) fun u1 =>
  andK (impl_HeaderBytes N u1.1.1.1 u1.1.1.2.1 u1.1.1.2.2.1 u1.1.1.2.2.2.1 u1.1.1.2.2.2.2.1 u1.1.1.2.2.2.2.2.1 u1.1.1.2.2.2.2.2.2.1 u1.2.1) fun u2 =>
  andK (spec_HeaderBytes N u1.1.1.1 u1.1.1.2.1 u1.1.1.2.2.1 u1.1.1.2.2.2.1 u1.1.1.2.2.2.2.1 u1.1.1.2.2.2.2.2.1 u1.1.1.2.2.2.2.2.2.1 u1.2.1) fun u3 =>
  andK (α := ((Unit × (Bool × Unit)) × ((List Int) × ((Int × (Int × (Int × (ByteArray × (ByteArray × (ByteArray × (ByteArray × (Unit × Unit)))))))) × Unit)))) (
   sel (!(u2.1.2.1 == u3.1.2.1))
    (
    some ((((), (true, ())), (u1.2.1, ((u1.1.1.1, (u1.1.1.2.1, (u1.1.1.2.2.1, (u1.1.1.2.2.2.1, (u1.1.1.2.2.2.2.1, (u1.1.1.2.2.2.2.2.1, (u1.1.1.2.2.2.2.2.2.1, ((), ())))))))), ())))))
    (
    some ((((), ((!(decide (u2.1.1 = u3.1.1))), ())), (u1.2.1, ((u1.1.1.1, (u1.1.1.2.1, (u1.1.1.2.2.1, (u1.1.1.2.2.2.1, (u1.1.1.2.2.2.2.1, (u1.1.1.2.2.2.2.2.1, (u1.1.1.2.2.2.2.2.2.1, ((), ())))))))), ())))))) fun j4 =>
  sel j4.1.2.1
   (
   some ((false, ()), ()))
   (
   sel (!u2.1.2.1)
    (
    some (((decide (u2.1.1 = (⟨#[]⟩ : ByteArray))), ()), ()))
    (
    andK (impl_ReadHeader N u2.1.1 (j4.2.2.1.2.2.2.1.size : Int)) fun u5 =>
    andK (impl_DestOf N u2.1.1 (j4.2.2.1.2.2.2.1.size : Int)) fun u6 =>
    sel (decide (u5.1.2.2.1 = 0))
     (
     sel (decide (u5.1.2.1 = (u2.1.1.size : Int)))
      (
      andK (laws_sameHeaders N u5.1.1.1 u5.1.1.2.1 u5.1.1.2.2.1 u5.1.1.2.2.2.1 u5.1.1.2.2.2.2.1 u5.1.1.2.2.2.2.2.1 u5.1.1.2.2.2.2.2.2.1 u5.1.1.2.2.2.2.2.2.2.1 j4.2.2.1.1 j4.2.2.1.2.1 j4.2.2.1.2.2.1 j4.2.2.1.2.2.2.1 j4.2.2.1.2.2.2.2.1 j4.2.2.1.2.2.2.2.2.1 j4.2.2.1.2.2.2.2.2.2.1 j4.2.1) fun u7 =>
      sel u7.1.1
       (
       sel u6.1.2.2.1
        (
        sel (decide (u6.1.1 = j4.2.2.1.2.2.2.1))
         (
         some (((u6.1.2.1 == (!(decide (j4.2.2.1.1 = 5)))), ()), ()))
         (
         some ((false, ()), ())))
        (
        some ((false, ()), ())))
       (
       some ((false, ()), ())))
      (
      some ((false, ()), ())))
     (
     some ((false, ()), ()))))) := by kernel_rfl
set_option maxRecDepth 100000 in
theorem laws_FnHeaders.say (N : Nat) : SayOk Try.prog (laws_FnHeaders.S N) := sayOk_mk (N := N) (H := laws_FnHeaders.H) (preps := [⟨[], [], [], []⟩]) (l := laws_FnHeaders.says) (fn := Try.f7) (c := bodyOf Try.f7)
  (by kernel_rfl) (by kernel_rfl) (by kernel_rfl) (by kernel_rfl) (by kernel_rfl) (by kernel_rfl) (by kernel_rfl)
  (fun N => SayAll.cons (spec_DrawHeaderBytes.say N) (SayAll.cons (impl_HeaderBytes.sayB N) (SayAll.cons (spec_HeaderBytes.sayB N) (SayAll.cons (impl_ReadHeader.say N) (SayAll.cons (impl_DestOf.say N) (SayAll.cons (laws_sameHeaders.sayB N) (SayAll.nil))))))) (fun a s => by kernel_rfl)

end Go.Proofs.Ytcngjidojibleab.GFnHeaders
