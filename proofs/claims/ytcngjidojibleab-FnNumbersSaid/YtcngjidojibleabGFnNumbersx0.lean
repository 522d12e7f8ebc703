-- Written by a program of this session out of the translation; Lean checks it.
import Derived.Test.YtcngjidojibleabPmLaw
import Derived.Test.YtcngjidojibleabProg
set_option linter.unusedVariables false
namespace Go.Proofs.Ytcngjidojibleab.GFnNumbers
open Go Go.Proofs Go.Proofs.YtcngjidojibleabPM

/-! ### (*loop.example/g00206/spec.l1Cur).next: function 104 -/
noncomputable def spec_l1Cur_next.H : Hints := hintsOf [(4, .join [⟨.normal, [], [0, 3], [.one (.ptr 0 0), ak_i], [.cells [.sh (.rows (.int .u8)), ck_i, .sh (.int .u64)]], [⟨[], [], [], []⟩]⟩])]
noncomputable def spec_l1Cur_next.says (N : Nat) : List Say := []
noncomputable def spec_l1Cur_next.call (N : Nat) : CallK := callBy (spec_l1Cur_next.says N)
noncomputable def spec_l1Cur_next.qt (N : Nat) : FuncId → List PV → Sig → Cl := qtBy (spec_l1Cur_next.says N)
noncomputable def spec_l1Cur_next (N : Nat) (p0_0 : (List Int)) (p0_1 : Int) (p0_2 : Int) : Option ((Int × Unit) × (((List Int) × (Int × (Int × Unit))) × Unit)) :=
  ofFn Try.prog spec_l1Cur_next.call spec_l1Cur_next.qt spec_l1Cur_next.H N Try.f104 [.one (.ptr 0 0)] [.cells [.sh (.rows (.int .u8)), ck_i, .sh (.int .u64)]] [ak_i] [.cells [.sh (.rows (.int .u8)), ck_i, .sh (.int .u64)]] [⟨[], [], [], []⟩] ((), ()) ((p0_0, (p0_1, (p0_2, ()))), ())
noncomputable def spec_l1Cur_next.S (N : Nat) : Say := ⟨false, 104, [.one (.ptr 0 0)], [.cells [.sh (.rows (.int .u8)), ck_i, .sh (.int .u64)]], [ak_i], [.cells [.sh (.rows (.int .u8)), ck_i, .sh (.int .u64)]], fun a s => spec_l1Cur_next N s.1.1 s.1.2.1 s.1.2.2.1⟩
set_option maxRecDepth 100000 in
theorem spec_l1Cur_next.eq (N : Nat) (p0_0 : (List Int)) (p0_1 : Int) (p0_2 : Int) : spec_l1Cur_next N p0_0 p0_1 p0_2 =
 andK (α := ((Unit × (Int × Unit)) × (((List Int) × (Int × (Int × Unit))) × Unit))) (
  sel (decide (p0_1 < (p0_0.length : Int)))
   (
   chk ((decide (0 ≤ p0_1)) && (decide (p0_1 < (p0_0.length : Int)))) (
   some ((((), ((IntKind.i64.wrap (p0_0.getD (Int.toNat p0_1) 0)), ())), ((p0_0, (p0_1, (p0_2, ()))), ())))))
   (
   some ((((), (0, ())), ((p0_0, (p0_1, (p0_2, ()))), ()))))) fun j1 =>
 sel (decide ((IntKind.i64.wrap (j1.2.1.2.1 + 1)) ≤ (j1.2.1.1.length : Int)))
  (
  some ((j1.1.2.1, ()), ((j1.2.1.1, ((IntKind.i64.wrap (j1.2.1.2.1 + 1)), ((IntKind.u64.wrap ((IntKind.u64.wrap ((IntKind.u64.wrap (j1.2.1.2.2.1 * 6364136223846793005)) + (IntKind.u64.wrap j1.1.2.1))) + 1442695040888963407)), ()))), ())))
  (
  some (((IntKind.i64.wrap (Go.bits .and .u64 (shrI .u64 (IntKind.u64.wrap ((IntKind.u64.wrap ((IntKind.u64.wrap (j1.2.1.2.2.1 * 6364136223846793005)) + (IntKind.u64.wrap j1.1.2.1))) + 1442695040888963407)) 40) 255)), ()), ((j1.2.1.1, ((IntKind.i64.wrap (j1.2.1.2.1 + 1)), ((IntKind.u64.wrap ((IntKind.u64.wrap ((IntKind.u64.wrap (j1.2.1.2.2.1 * 6364136223846793005)) + (IntKind.u64.wrap j1.1.2.1))) + 1442695040888963407)), ()))), ()))) := by kernel_rfl
set_option maxRecDepth 100000 in
theorem spec_l1Cur_next.say (N : Nat) : SayOk Try.prog (spec_l1Cur_next.S N) := sayOk_mk (N := N) (H := spec_l1Cur_next.H) (preps := [⟨[], [], [], []⟩]) (l := spec_l1Cur_next.says) (fn := Try.f104) (c := bodyOf Try.f104)
  (by kernel_rfl) (by kernel_rfl) (by kernel_rfl) (by kernel_rfl) (by kernel_rfl) (by kernel_rfl) (by kernel_rfl)
  (fun N => SayAll.nil) (fun a s => by kernel_rfl)

/-! ### (*loop.example/g00206/spec.l1Cur).pick: function 47 -/
noncomputable def spec_l1Cur_pick.H : Hints := hintsOf []
noncomputable def spec_l1Cur_pick.says (N : Nat) : List Say := [spec_l1Cur_next.S N]
noncomputable def spec_l1Cur_pick.call (N : Nat) : CallK := callBy (spec_l1Cur_pick.says N)
noncomputable def spec_l1Cur_pick.qt (N : Nat) : FuncId → List PV → Sig → Cl := qtBy (spec_l1Cur_pick.says N)
noncomputable def spec_l1Cur_pick (N : Nat) (n : Int) (p0_0 : (List Int)) (p0_1 : Int) (p0_2 : Int) : Option ((Int × Unit) × (((List Int) × (Int × (Int × Unit))) × Unit)) :=
  ofFn Try.prog spec_l1Cur_pick.call spec_l1Cur_pick.qt spec_l1Cur_pick.H N Try.f47 [.one (.ptr 0 0), ak_i] [.cells [.sh (.rows (.int .u8)), ck_i, .sh (.int .u64)]] [ak_i] [.cells [.sh (.rows (.int .u8)), ck_i, .sh (.int .u64)]] [⟨[], [], [], []⟩] ((), (n, ())) ((p0_0, (p0_1, (p0_2, ()))), ())
noncomputable def spec_l1Cur_pick.S (N : Nat) : Say := ⟨false, 47, [.one (.ptr 0 0), ak_i], [.cells [.sh (.rows (.int .u8)), ck_i, .sh (.int .u64)]], [ak_i], [.cells [.sh (.rows (.int .u8)), ck_i, .sh (.int .u64)]], fun a s => spec_l1Cur_pick N a.2.1 s.1.1 s.1.2.1 s.1.2.2.1⟩
set_option maxRecDepth 100000 in
theorem spec_l1Cur_pick.eq (N : Nat) (n : Int) (p0_0 : (List Int)) (p0_1 : Int) (p0_2 : Int) : spec_l1Cur_pick N n p0_0 p0_1 p0_2 =
 sel (decide (n ≤ 1))
  (
  some ((0, ()), ((p0_0, (p0_1, (p0_2, ()))), ())))
  (
  andK (spec_l1Cur_next N p0_0 p0_1 p0_2) fun u1 =>
  sel (decide (200 < n))
   (
   andK (spec_l1Cur_next N u1.2.1.1 u1.2.1.2.1 u1.2.1.2.2.1) fun u2 =>
   chk (n != 0) (
   some (((Int.tmod (IntKind.i64.wrap ((IntKind.i64.wrap (u1.1.1 * 256)) + u2.1.1)) n), ()), ((u2.2.1.1, (u2.2.1.2.1, (u2.2.1.2.2.1, ()))), ()))))
   (
   chk (n != 0) (
   some (((Int.tmod u1.1.1 n), ()), ((u1.2.1.1, (u1.2.1.2.1, (u1.2.1.2.2.1, ()))), ()))))) := by kernel_rfl
set_option maxRecDepth 100000 in
theorem spec_l1Cur_pick.say (N : Nat) : SayOk Try.prog (spec_l1Cur_pick.S N) := sayOk_mk (N := N) (H := spec_l1Cur_pick.H) (preps := [⟨[], [], [], []⟩]) (l := spec_l1Cur_pick.says) (fn := Try.f47) (c := bodyOf Try.f47)
  (by kernel_rfl) (by kernel_rfl) (by kernel_rfl) (by kernel_rfl) (by kernel_rfl) (by kernel_rfl) (by kernel_rfl)
  (fun N => SayAll.cons (spec_l1Cur_next.say N) (SayAll.nil)) (fun a s => by kernel_rfl)

/-! ### (*loop.example/g00206/spec.l1Cur).among: function 58 -/
noncomputable def spec_l1Cur_among.H : Hints := hintsOf []
noncomputable def spec_l1Cur_among.says (N : Nat) : List Say := [spec_l1Cur_pick.S N]
noncomputable def spec_l1Cur_among.call (N : Nat) : CallK := callBy (spec_l1Cur_among.says N)
noncomputable def spec_l1Cur_among.qt (N : Nat) : FuncId → List PV → Sig → Cl := qtBy (spec_l1Cur_among.says N)
noncomputable def spec_l1Cur_among (N : Nat) (list : (List Int)) (p0_0 : (List Int)) (p0_1 : Int) (p0_2 : Int) : Option ((Int × Unit) × (((List Int) × (Int × (Int × Unit))) × Unit)) :=
  ofFn Try.prog spec_l1Cur_among.call spec_l1Cur_among.qt spec_l1Cur_among.H N Try.f58 [.one (.ptr 0 0), .one (.sh (.rows (.int .i64)))] [.cells [.sh (.rows (.int .u8)), ck_i, .sh (.int .u64)]] [ak_i] [.cells [.sh (.rows (.int .u8)), ck_i, .sh (.int .u64)]] [⟨[], [], [], []⟩] ((), (list, ())) ((p0_0, (p0_1, (p0_2, ()))), ())
noncomputable def spec_l1Cur_among.S (N : Nat) : Say := ⟨false, 58, [.one (.ptr 0 0), .one (.sh (.rows (.int .i64)))], [.cells [.sh (.rows (.int .u8)), ck_i, .sh (.int .u64)]], [ak_i], [.cells [.sh (.rows (.int .u8)), ck_i, .sh (.int .u64)]], fun a s => spec_l1Cur_among N a.2.1 s.1.1 s.1.2.1 s.1.2.2.1⟩
set_option maxRecDepth 100000 in
theorem spec_l1Cur_among.eq (N : Nat) (list : (List Int)) (p0_0 : (List Int)) (p0_1 : Int) (p0_2 : Int) : spec_l1Cur_among N list p0_0 p0_1 p0_2 =
 andK (spec_l1Cur_pick N (list.length : Int) p0_0 p0_1 p0_2) fun u1 =>
 chk ((decide (0 ≤ u1.1.1)) && (decide (u1.1.1 < (list.length : Int)))) (
 some (((list.getD (Int.toNat u1.1.1) 0), ()), ((u1.2.1.1, (u1.2.1.2.1, (u1.2.1.2.2.1, ()))), ()))) := by kernel_rfl
set_option maxRecDepth 100000 in
theorem spec_l1Cur_among.say (N : Nat) : SayOk Try.prog (spec_l1Cur_among.S N) := sayOk_mk (N := N) (H := spec_l1Cur_among.H) (preps := [⟨[], [], [], []⟩]) (l := spec_l1Cur_among.says) (fn := Try.f58) (c := bodyOf Try.f58)
  (by kernel_rfl) (by kernel_rfl) (by kernel_rfl) (by kernel_rfl) (by kernel_rfl) (by kernel_rfl) (by kernel_rfl)
  (fun N => SayAll.cons (spec_l1Cur_pick.say N) (SayAll.nil)) (fun a s => by kernel_rfl)

/-! ### (*loop.example/g00206/spec.l1Cur).one: function 45 -/
noncomputable def spec_l1Cur_one.H : Hints := hintsOf []
noncomputable def spec_l1Cur_one.says (N : Nat) : List Say := [spec_l1Cur_pick.S N]
noncomputable def spec_l1Cur_one.call (N : Nat) : CallK := callBy (spec_l1Cur_one.says N)
noncomputable def spec_l1Cur_one.qt (N : Nat) : FuncId → List PV → Sig → Cl := qtBy (spec_l1Cur_one.says N)
noncomputable def spec_l1Cur_one (N : Nat) (n : Int) (p0_0 : (List Int)) (p0_1 : Int) (p0_2 : Int) : Option ((Bool × Unit) × (((List Int) × (Int × (Int × Unit))) × Unit)) :=
  ofFn Try.prog spec_l1Cur_one.call spec_l1Cur_one.qt spec_l1Cur_one.H N Try.f45 [.one (.ptr 0 0), ak_i] [.cells [.sh (.rows (.int .u8)), ck_i, .sh (.int .u64)]] [ak_b] [.cells [.sh (.rows (.int .u8)), ck_i, .sh (.int .u64)]] [⟨[], [], [], []⟩] ((), (n, ())) ((p0_0, (p0_1, (p0_2, ()))), ())
noncomputable def spec_l1Cur_one.S (N : Nat) : Say := ⟨false, 45, [.one (.ptr 0 0), ak_i], [.cells [.sh (.rows (.int .u8)), ck_i, .sh (.int .u64)]], [ak_b], [.cells [.sh (.rows (.int .u8)), ck_i, .sh (.int .u64)]], fun a s => spec_l1Cur_one N a.2.1 s.1.1 s.1.2.1 s.1.2.2.1⟩
set_option maxRecDepth 100000 in
theorem spec_l1Cur_one.eq (N : Nat) (n : Int) (p0_0 : (List Int)) (p0_1 : Int) (p0_2 : Int) : spec_l1Cur_one N n p0_0 p0_1 p0_2 =
 andK (spec_l1Cur_pick N n p0_0 p0_1 p0_2) fun u1 =>
 some (((decide (u1.1.1 = 0)), ()), ((u1.2.1.1, (u1.2.1.2.1, (u1.2.1.2.2.1, ()))), ())) := by kernel_rfl
set_option maxRecDepth 100000 in
theorem spec_l1Cur_one.say (N : Nat) : SayOk Try.prog (spec_l1Cur_one.S N) := sayOk_mk (N := N) (H := spec_l1Cur_one.H) (preps := [⟨[], [], [], []⟩]) (l := spec_l1Cur_one.says) (fn := Try.f45) (c := bodyOf Try.f45)
  (by kernel_rfl) (by kernel_rfl) (by kernel_rfl) (by kernel_rfl) (by kernel_rfl) (by kernel_rfl) (by kernel_rfl)
  (fun N => SayAll.cons (spec_l1Cur_pick.say N) (SayAll.nil)) (fun a s => by kernel_rfl)

/-! ### (*loop.example/g00206/spec.l1Cur).sizedBytes: function 46 -/
noncomputable def spec_l1Cur_sizedBytes.H : Hints := hintsOf [(2000003, .loop ⟨.normal, [10], [0, 5, 11], [.one (.ptr 0 0), .one (.own 1), ak_i], [.cells [.sh (.rows (.int .u8)), ck_i, .sh (.int .u64)], .rows (.int .u8)], [⟨[], [], [], []⟩]⟩ [⟨(.exit 0), [], [5], [.one (.own 1)], [.cells [.sh (.rows (.int .u8)), ck_i, .sh (.int .u64)], .rows (.int .u8)], [⟨[], [], [], []⟩]⟩])]
noncomputable def spec_l1Cur_sizedBytes.says (N : Nat) : List Say := [spec_l1Cur_pick.S N]
noncomputable def spec_l1Cur_sizedBytes.call (N : Nat) : CallK := callBy (spec_l1Cur_sizedBytes.says N)
noncomputable def spec_l1Cur_sizedBytes.qt (N : Nat) : FuncId → List PV → Sig → Cl := qtBy (spec_l1Cur_sizedBytes.says N)
noncomputable def spec_l1Cur_sizedBytes.l0.hd : Alt := ⟨.normal, [10], [0, 5, 11], [.one (.ptr 0 0), .one (.own 1), ak_i], [.cells [.sh (.rows (.int .u8)), ck_i, .sh (.int .u64)], .rows (.int .u8)], [⟨[], [], [], []⟩]⟩
noncomputable def spec_l1Cur_sizedBytes.l0.outs : List Alt := [⟨(.exit 0), [], [5], [.one (.own 1)], [.cells [.sh (.rows (.int .u8)), ck_i, .sh (.int .u64)], .rows (.int .u8)], [⟨[], [], [], []⟩]⟩]
noncomputable def spec_l1Cur_sizedBytes.l0 (N : Nat) (t10 : Int) (t11 : Int) (p0_01 : (List Int)) (p0_11 : Int) (p0_21 : Int) (p1 : (List Int)) : Option ((Unit × Unit) × (((List Int) × (Int × (Int × Unit))) × ((List Int) × Unit))) :=
  loopK Try.prog spec_l1Cur_sizedBytes.call spec_l1Cur_sizedBytes.qt spec_l1Cur_sizedBytes.H (codeAt (bodyOf Try.f46) [1, 1, 0, 1, 0, 0]) 2 spec_l1Cur_sizedBytes.l0.hd spec_l1Cur_sizedBytes.l0.outs [(10, .v (.int .i64 t10))] N (((), ((), (t11, ()))), ((p0_01, (p0_11, (p0_21, ()))), (p1, ())))
noncomputable def spec_l1Cur_sizedBytes (N : Nat) (n : Int) (p0_0 : (List Int)) (p0_1 : Int) (p0_2 : Int) : Option ((Unit × Unit) × (((List Int) × (Int × (Int × Unit))) × ((List Int) × Unit))) :=
  ofFn Try.prog spec_l1Cur_sizedBytes.call spec_l1Cur_sizedBytes.qt spec_l1Cur_sizedBytes.H N Try.f46 [.one (.ptr 0 0), ak_i] [.cells [.sh (.rows (.int .u8)), ck_i, .sh (.int .u64)]] [.one (.own 1)] [.cells [.sh (.rows (.int .u8)), ck_i, .sh (.int .u64)], .rows (.int .u8)] [⟨[], [], [], [1]⟩] ((), (n, ())) ((p0_0, (p0_1, (p0_2, ()))), ())
noncomputable def spec_l1Cur_sizedBytes.S (N : Nat) : Say := ⟨false, 46, [.one (.ptr 0 0), ak_i], [.cells [.sh (.rows (.int .u8)), ck_i, .sh (.int .u64)]], [.one (.own 1)], [.cells [.sh (.rows (.int .u8)), ck_i, .sh (.int .u64)], .rows (.int .u8)], fun a s => spec_l1Cur_sizedBytes N a.2.1 s.1.1 s.1.2.1 s.1.2.2.1⟩
set_option maxRecDepth 100000 in
theorem spec_l1Cur_sizedBytes.l0.eq (N : Nat) (t10 : Int) (t11 : Int) (p0_01 : (List Int)) (p0_11 : Int) (p0_21 : Int) (p1 : (List Int)) : spec_l1Cur_sizedBytes.l0 (N + 1) t10 t11 p0_01 p0_11 p0_21 p1 =
 sel (decide (t11 < t10))
  (
  andK (spec_l1Cur_pick N 256 p0_01 p0_11 p0_21) fun u1 =>
  chk ((decide (0 ≤ t11)) && (decide (t11 < (p1.length : Int)))) (
  spec_l1Cur_sizedBytes.l0 N t10 (IntKind.i64.wrap (t11 + 1)) u1.2.1.1 u1.2.1.2.1 u1.2.1.2.2.1 (p1.set (Int.toNat t11) (IntKind.u8.wrap u1.1.1))))
  (
  some ((((), ()), ((p0_01, (p0_11, (p0_21, ()))), (p1, ()))))) := by kernel_rfl
set_option maxRecDepth 100000 in
theorem spec_l1Cur_sizedBytes.eq (N : Nat) (n : Int) (p0_0 : (List Int)) (p0_1 : Int) (p0_2 : Int) : spec_l1Cur_sizedBytes N n p0_0 p0_1 p0_2 =
 chk ((decide (0 ≤ n)) && ((smallI n) && (decide (n = n)))) (
 andK (spec_l1Cur_sizedBytes.l0 N ((List.replicate (Int.toNat n) (0 : Int)).length : Int) 0 p0_0 p0_1 p0_2 (List.replicate (Int.toNat n) (0 : Int))) fun l2 =>
 some (((), ()), ((l2.2.1.1, (l2.2.1.2.1, (l2.2.1.2.2.1, ()))), (l2.2.2.1, ())))) := by kernel_rfl
set_option maxRecDepth 100000 in
theorem spec_l1Cur_sizedBytes.say (N : Nat) : SayOk Try.prog (spec_l1Cur_sizedBytes.S N) := sayOk_mk (N := N) (H := spec_l1Cur_sizedBytes.H) (preps := [⟨[], [], [], [1]⟩]) (l := spec_l1Cur_sizedBytes.says) (fn := Try.f46) (c := bodyOf Try.f46)
  (by kernel_rfl) (by kernel_rfl) (by kernel_rfl) (by kernel_rfl) (by kernel_rfl) (by kernel_rfl) (by kernel_rfl)
  (fun N => SayAll.cons (spec_l1Cur_pick.say N) (SayAll.nil)) (fun a s => by kernel_rfl)

/-! ### (*loop.example/g00206/spec.l1Cur).id: function 114 -/
noncomputable def spec_l1Cur_id.H : Hints := hintsOf [(4, .join [⟨.normal, [], [0, 3], [.one (.ptr 0 0), ak_i], [.cells [.sh (.rows (.int .u8)), ck_i, .sh (.int .u64)]], [⟨[], [], [], []⟩]⟩])]
noncomputable def spec_l1Cur_id.says (N : Nat) : List Say := [spec_l1Cur_pick.S N, spec_l1Cur_one.S N, spec_l1Cur_among.S N, spec_l1Cur_sizedBytes.S N]
noncomputable def spec_l1Cur_id.call (N : Nat) : CallK := callBy (spec_l1Cur_id.says N)
noncomputable def spec_l1Cur_id.qt (N : Nat) : FuncId → List PV → Sig → Cl := qtBy (spec_l1Cur_id.says N)
noncomputable def spec_l1Cur_id (N : Nat) (p0_0 : (List Int)) (p0_1 : Int) (p0_2 : Int) : Option ((ByteArray × Unit) × (((List Int) × (Int × (Int × Unit))) × Unit)) :=
  ofFn Try.prog spec_l1Cur_id.call spec_l1Cur_id.qt spec_l1Cur_id.H N Try.f114 [.one (.ptr 0 0)] [.cells [.sh (.rows (.int .u8)), ck_i, .sh (.int .u64)]] [ak_s] [.cells [.sh (.rows (.int .u8)), ck_i, .sh (.int .u64)]] [⟨[], [], [], []⟩] ((), ()) ((p0_0, (p0_1, (p0_2, ()))), ())
noncomputable def spec_l1Cur_id.S (N : Nat) : Say := ⟨false, 114, [.one (.ptr 0 0)], [.cells [.sh (.rows (.int .u8)), ck_i, .sh (.int .u64)]], [ak_s], [.cells [.sh (.rows (.int .u8)), ck_i, .sh (.int .u64)]], fun a s => spec_l1Cur_id N s.1.1 s.1.2.1 s.1.2.2.1⟩
set_option maxRecDepth 100000 in
theorem spec_l1Cur_id.eq (N : Nat) (p0_0 : (List Int)) (p0_1 : Int) (p0_2 : Int) : spec_l1Cur_id N p0_0 p0_1 p0_2 =
 andK (spec_l1Cur_pick N 10 p0_0 p0_1 p0_2) fun u1 =>
 andK (α := ((Unit × (Int × Unit)) × (((List Int) × (Int × (Int × Unit))) × Unit))) (
  andK (spec_l1Cur_one N 12 u1.2.1.1 u1.2.1.2.1 u1.2.1.2.2.1) fun u2 =>
  sel u2.1.1
   (
   andK (spec_l1Cur_among N [20, 21, 0] u2.2.1.1 u2.2.1.2.1 u2.2.1.2.2.1) fun u3 =>
   some ((((), (u3.1.1, ())), ((u3.2.1.1, (u3.2.1.2.1, (u3.2.1.2.2.1, ()))), ()))))
   (
   some ((((), (u1.1.1, ())), ((u2.2.1.1, (u2.2.1.2.1, (u2.2.1.2.2.1, ()))), ()))))) fun j4 =>
 andK (spec_l1Cur_sizedBytes N j4.1.2.1 j4.2.1.1 j4.2.1.2.1 j4.2.1.2.2.1) fun u5 =>
 some (((strL u5.2.2.1), ()), ((u5.2.1.1, (u5.2.1.2.1, (u5.2.1.2.2.1, ()))), ())) := by kernel_rfl
set_option maxRecDepth 100000 in
theorem spec_l1Cur_id.say (N : Nat) : SayOk Try.prog (spec_l1Cur_id.S N) := sayOk_mk (N := N) (H := spec_l1Cur_id.H) (preps := [⟨[], [], [], []⟩]) (l := spec_l1Cur_id.says) (fn := Try.f114) (c := bodyOf Try.f114)
  (by kernel_rfl) (by kernel_rfl) (by kernel_rfl) (by kernel_rfl) (by kernel_rfl) (by kernel_rfl) (by kernel_rfl)
  (fun N => SayAll.cons (spec_l1Cur_pick.say N) (SayAll.cons (spec_l1Cur_one.say N) (SayAll.cons (spec_l1Cur_among.say N) (SayAll.cons (spec_l1Cur_sizedBytes.say N) (SayAll.nil))))) (fun a s => by kernel_rfl)

/-! ### (*loop.example/g00206/spec.l1Cur).wide: function 64 -/
noncomputable def spec_l1Cur_wide.H : Hints := hintsOf [(2000003, .loop ⟨.normal, [], [0, 3, 4], [.one (.ptr 0 0), ak_i, ak_i], [.cells [.sh (.rows (.int .u8)), ck_i, .sh (.int .u64)]], [⟨[], [], [], []⟩]⟩ [⟨(.exit 0), [], [3], [ak_i], [.cells [.sh (.rows (.int .u8)), ck_i, .sh (.int .u64)]], [⟨[], [], [], []⟩]⟩])]
noncomputable def spec_l1Cur_wide.says (N : Nat) : List Say := [spec_l1Cur_next.S N]
noncomputable def spec_l1Cur_wide.call (N : Nat) : CallK := callBy (spec_l1Cur_wide.says N)
noncomputable def spec_l1Cur_wide.qt (N : Nat) : FuncId → List PV → Sig → Cl := qtBy (spec_l1Cur_wide.says N)
noncomputable def spec_l1Cur_wide.l0.hd : Alt := ⟨.normal, [], [0, 3, 4], [.one (.ptr 0 0), ak_i, ak_i], [.cells [.sh (.rows (.int .u8)), ck_i, .sh (.int .u64)]], [⟨[], [], [], []⟩]⟩
noncomputable def spec_l1Cur_wide.l0.outs : List Alt := [⟨(.exit 0), [], [3], [ak_i], [.cells [.sh (.rows (.int .u8)), ck_i, .sh (.int .u64)]], [⟨[], [], [], []⟩]⟩]
noncomputable def spec_l1Cur_wide.l0 (N : Nat) (n : Int) (i : Int) (p0_01 : (List Int)) (p0_11 : Int) (p0_21 : Int) : Option ((Int × Unit) × (((List Int) × (Int × (Int × Unit))) × Unit)) :=
  loopK Try.prog spec_l1Cur_wide.call spec_l1Cur_wide.qt spec_l1Cur_wide.H (codeAt (bodyOf Try.f64) [1, 1, 0, 1, 0, 0]) 1 spec_l1Cur_wide.l0.hd spec_l1Cur_wide.l0.outs [] N (((), (n, (i, ()))), ((p0_01, (p0_11, (p0_21, ()))), ()))
noncomputable def spec_l1Cur_wide (N : Nat) (p0_0 : (List Int)) (p0_1 : Int) (p0_2 : Int) : Option ((Int × Unit) × (((List Int) × (Int × (Int × Unit))) × Unit)) :=
  ofFn Try.prog spec_l1Cur_wide.call spec_l1Cur_wide.qt spec_l1Cur_wide.H N Try.f64 [.one (.ptr 0 0)] [.cells [.sh (.rows (.int .u8)), ck_i, .sh (.int .u64)]] [ak_i] [.cells [.sh (.rows (.int .u8)), ck_i, .sh (.int .u64)]] [⟨[], [], [], []⟩] ((), ()) ((p0_0, (p0_1, (p0_2, ()))), ())
noncomputable def spec_l1Cur_wide.S (N : Nat) : Say := ⟨false, 64, [.one (.ptr 0 0)], [.cells [.sh (.rows (.int .u8)), ck_i, .sh (.int .u64)]], [ak_i], [.cells [.sh (.rows (.int .u8)), ck_i, .sh (.int .u64)]], fun a s => spec_l1Cur_wide N s.1.1 s.1.2.1 s.1.2.2.1⟩
set_option maxRecDepth 100000 in
theorem spec_l1Cur_wide.l0.eq (N : Nat) (n : Int) (i : Int) (p0_01 : (List Int)) (p0_11 : Int) (p0_21 : Int) : spec_l1Cur_wide.l0 (N + 1) n i p0_01 p0_11 p0_21 =
 sel (decide (i < 8))
  (
  andK (spec_l1Cur_next N p0_01 p0_11 p0_21) fun u1 =>
  spec_l1Cur_wide.l0 N (Go.bits .or .i64 (shlI .i64 n 8) u1.1.1) (IntKind.i64.wrap (i + 1)) u1.2.1.1 u1.2.1.2.1 u1.2.1.2.2.1)
  (
  some (((n, ()), ((p0_01, (p0_11, (p0_21, ()))), ())))) := by kernel_rfl
set_option maxRecDepth 100000 in
theorem spec_l1Cur_wide.eq (N : Nat) (p0_0 : (List Int)) (p0_1 : Int) (p0_2 : Int) : spec_l1Cur_wide N p0_0 p0_1 p0_2 =
 andK (spec_l1Cur_wide.l0 N 0 0 p0_0 p0_1 p0_2) fun l2 =>
 some ((l2.1.1, ()), ((l2.2.1.1, (l2.2.1.2.1, (l2.2.1.2.2.1, ()))), ())) := by kernel_rfl
set_option maxRecDepth 100000 in
theorem spec_l1Cur_wide.say (N : Nat) : SayOk Try.prog (spec_l1Cur_wide.S N) := sayOk_mk (N := N) (H := spec_l1Cur_wide.H) (preps := [⟨[], [], [], []⟩]) (l := spec_l1Cur_wide.says) (fn := Try.f64) (c := bodyOf Try.f64)
  (by kernel_rfl) (by kernel_rfl) (by kernel_rfl) (by kernel_rfl) (by kernel_rfl) (by kernel_rfl) (by kernel_rfl)
  (fun N => SayAll.cons (spec_l1Cur_next.say N) (SayAll.nil)) (fun a s => by kernel_rfl)

/-! ### (*loop.example/g00206/spec.l1Cur).num: function 65 -/
noncomputable def spec_l1Cur_num.H : Hints := hintsOf []
noncomputable def spec_l1Cur_num.says (N : Nat) : List Say := [spec_l1Cur_pick.S N, spec_l1Cur_among.S N, spec_l1Cur_wide.S N]
noncomputable def spec_l1Cur_num.call (N : Nat) : CallK := callBy (spec_l1Cur_num.says N)
noncomputable def spec_l1Cur_num.qt (N : Nat) : FuncId → List PV → Sig → Cl := qtBy (spec_l1Cur_num.says N)
noncomputable def spec_l1Cur_num (N : Nat) (p0_0 : (List Int)) (p0_1 : Int) (p0_2 : Int) : Option ((Int × Unit) × (((List Int) × (Int × (Int × Unit))) × Unit)) :=
  ofFn Try.prog spec_l1Cur_num.call spec_l1Cur_num.qt spec_l1Cur_num.H N Try.f65 [.one (.ptr 0 0)] [.cells [.sh (.rows (.int .u8)), ck_i, .sh (.int .u64)]] [ak_i] [.cells [.sh (.rows (.int .u8)), ck_i, .sh (.int .u64)]] [⟨[], [], [], []⟩] ((), ()) ((p0_0, (p0_1, (p0_2, ()))), ())
noncomputable def spec_l1Cur_num.S (N : Nat) : Say := ⟨false, 65, [.one (.ptr 0 0)], [.cells [.sh (.rows (.int .u8)), ck_i, .sh (.int .u64)]], [ak_i], [.cells [.sh (.rows (.int .u8)), ck_i, .sh (.int .u64)]], fun a s => spec_l1Cur_num N s.1.1 s.1.2.1 s.1.2.2.1⟩
set_option maxRecDepth 100000 in
theorem spec_l1Cur_num.eq (N : Nat) (p0_0 : (List Int)) (p0_1 : Int) (p0_2 : Int) : spec_l1Cur_num N p0_0 p0_1 p0_2 =
 andK (spec_l1Cur_pick N 8 p0_0 p0_1 p0_2) fun u1 =>
 sel (decide (u1.1.1 = 0))
  (
  andK (spec_l1Cur_among N [0, 63, 64, 16383, 16384, 1073741823, 1073741824, 4611686018427387903, 4611686018427387902] u1.2.1.1 u1.2.1.2.1 u1.2.1.2.2.1) fun u2 =>
  some ((u2.1.1, ()), ((u2.2.1.1, (u2.2.1.2.1, (u2.2.1.2.2.1, ()))), ())))
  (
  sel (decide (u1.1.1 = 1))
   (
   andK (spec_l1Cur_wide N u1.2.1.1 u1.2.1.2.1 u1.2.1.2.2.1) fun u3 =>
   some (((Go.bits .and .i64 u3.1.1 4611686018427387903), ()), ((u3.2.1.1, (u3.2.1.2.1, (u3.2.1.2.2.1, ()))), ())))
   (
   andK (spec_l1Cur_pick N 300 u1.2.1.1 u1.2.1.2.1 u1.2.1.2.2.1) fun u4 =>
   some ((u4.1.1, ()), ((u4.2.1.1, (u4.2.1.2.1, (u4.2.1.2.2.1, ()))), ())))) := by kernel_rfl
set_option maxRecDepth 100000 in
theorem spec_l1Cur_num.say (N : Nat) : SayOk Try.prog (spec_l1Cur_num.S N) := sayOk_mk (N := N) (H := spec_l1Cur_num.H) (preps := [⟨[], [], [], []⟩]) (l := spec_l1Cur_num.says) (fn := Try.f65) (c := bodyOf Try.f65)
  (by kernel_rfl) (by kernel_rfl) (by kernel_rfl) (by kernel_rfl) (by kernel_rfl) (by kernel_rfl) (by kernel_rfl)
  (fun N => SayAll.cons (spec_l1Cur_pick.say N) (SayAll.cons (spec_l1Cur_among.say N) (SayAll.cons (spec_l1Cur_wide.say N) (SayAll.nil)))) (fun a s => by kernel_rfl)

/-! ### loop.example/g00206/spec.l1Shape: function 174 -/
noncomputable def spec_l1Shape.H : Hints := hintsOf []
noncomputable def spec_l1Shape.says (N : Nat) : List Say := []
noncomputable def spec_l1Shape.call (N : Nat) : CallK := callBy (spec_l1Shape.says N)
noncomputable def spec_l1Shape.qt (N : Nat) : FuncId → List PV → Sig → Cl := qtBy (spec_l1Shape.says N)
noncomputable def spec_l1Shape (N : Nat) (kind : Int) : Option ((Int × (Int × (Int × Unit))) × Unit) :=
  ofFn Try.prog spec_l1Shape.call spec_l1Shape.qt spec_l1Shape.H N Try.f174 [ak_i] [] [ak_i, ak_i, ak_i] [] [⟨[], [], [], []⟩] (kind, ()) ()
noncomputable def spec_l1Shape.S (N : Nat) : Say := ⟨false, 174, [ak_i], [], [ak_i, ak_i, ak_i], [], fun a s => spec_l1Shape N a.1⟩
set_option maxRecDepth 100000 in
theorem spec_l1Shape.eq (N : Nat) (kind : Int) : spec_l1Shape N kind =
 sel (decide (kind = 0))
  (
  sel (decide (kind = 0))
   (
   some ((0, (0, (0, ()))), ()))
   (
   sel (decide (kind = 16))
    (
    sel (decide (kind = 16))
     (
     some ((1, (0, (0, ()))), ()))
     (
     sel (decide (kind = 17))
      (
      sel (decide (kind = 17))
       (
       some ((2, (0, (0, ()))), ()))
       (
       sel (decide (kind = 4))
        (
        some ((3, (0, (0, ()))), ()))
        (
        sel (decide (kind = 28))
         (
         sel (decide (kind = 28))
          (
          some ((2, (0, (200, ()))), ()))
          (
          sel (decide (kind = 6))
           (
           some ((1, (0, (200, ()))), ()))
           (
           sel (decide (kind = 7))
            (
            some ((0, (1, (200, ()))), ()))
            (
            sel (decide (kind = 24))
             (
             some ((3, (1, (20, ()))), ()))
             (
             sel (decide (kind = 26))
              (
              sel (decide (kind = 26))
               (
               some ((0, (8, (8, ()))), ()))
               (
               sel (decide (kind = 48))
                (
                some ((0, (0, (200, ()))), ()))
                (
                some (((-1), (0, (0, ()))), ()))))
              (
              sel (decide (kind = 27))
               (
               some ((0, (8, (8, ()))), ()))
               (
               sel (decide (kind = 48))
                (
                some ((0, (0, (200, ()))), ()))
                (
                some (((-1), (0, (0, ()))), ())))))))))
         (
         sel (decide (kind = 8))
          (
          some ((2, (0, (200, ()))), ()))
          (
          sel (decide (kind = 6))
           (
           some ((1, (0, (200, ()))), ()))
           (
           sel (decide (kind = 7))
            (
            some ((0, (1, (200, ()))), ()))
            (
            sel (decide (kind = 24))
             (
             some ((3, (1, (20, ()))), ()))
             (
             sel (decide (kind = 26))
              (
              sel (decide (kind = 26))
               (
               some ((0, (8, (8, ()))), ()))
               (
               sel (decide (kind = 48))
                (
                some ((0, (0, (200, ()))), ()))
                (
                some (((-1), (0, (0, ()))), ()))))
              (
              sel (decide (kind = 27))
               (
               some ((0, (8, (8, ()))), ()))
               (
               sel (decide (kind = 48))
                (
                some ((0, (0, (200, ()))), ()))
                (
                some (((-1), (0, (0, ()))), ()))))))))))))
      (
      sel (decide (kind = 5))
       (
       some ((2, (0, (0, ()))), ()))
       (
       sel (decide (kind = 4))
        (
        some ((3, (0, (0, ()))), ()))
        (
        sel (decide (kind = 28))
         (
         sel (decide (kind = 28))
          (
          some ((2, (0, (200, ()))), ()))
          (
          sel (decide (kind = 6))
           (
           some ((1, (0, (200, ()))), ()))
           (
           sel (decide (kind = 7))
            (
            some ((0, (1, (200, ()))), ()))
            (
            sel (decide (kind = 24))
             (
             some ((3, (1, (20, ()))), ()))
             (
             sel (decide (kind = 26))
              (
              sel (decide (kind = 26))
               (
               some ((0, (8, (8, ()))), ()))
               (
               sel (decide (kind = 48))
                (
                some ((0, (0, (200, ()))), ()))
                (
                some (((-1), (0, (0, ()))), ()))))
              (
              sel (decide (kind = 27))
               (
               some ((0, (8, (8, ()))), ()))
               (
               sel (decide (kind = 48))
                (
                some ((0, (0, (200, ()))), ()))
                (
                some (((-1), (0, (0, ()))), ())))))))))
         (
         sel (decide (kind = 8))
          (
          some ((2, (0, (200, ()))), ()))
          (
          sel (decide (kind = 6))
           (
           some ((1, (0, (200, ()))), ()))
           (
           sel (decide (kind = 7))
            (
            some ((0, (1, (200, ()))), ()))
            (
            sel (decide (kind = 24))
             (
             some ((3, (1, (20, ()))), ()))
             (
             sel (decide (kind = 26))
              (
              sel (decide (kind = 26))
               (
               some ((0, (8, (8, ()))), ()))
               (
               sel (decide (kind = 48))
                (
                some ((0, (0, (200, ()))), ()))
                (
                some (((-1), (0, (0, ()))), ()))))
              (
              sel (decide (kind = 27))
               (
               some ((0, (8, (8, ()))), ()))
               (
               sel (decide (kind = 48))
                (
                some ((0, (0, (200, ()))), ()))
                (
                some (((-1), (0, (0, ()))), ()))))))))))))))
    (
    sel (decide (kind = 2))
     (
     some ((1, (0, (0, ()))), ()))
     (
     sel (decide (kind = 17))
      (
      sel (decide (kind = 17))
       (
       some ((2, (0, (0, ()))), ()))
       (
       sel (decide (kind = 4))
        (
        some ((3, (0, (0, ()))), ()))
        (
        sel (decide (kind = 28))
         (
         sel (decide (kind = 28))
          (
          some ((2, (0, (200, ()))), ()))
          (
          sel (decide (kind = 6))
           (
           some ((1, (0, (200, ()))), ()))
           (
           sel (decide (kind = 7))
            (
            some ((0, (1, (200, ()))), ()))
            (
            sel (decide (kind = 24))
             (
             some ((3, (1, (20, ()))), ()))
             (
             sel (decide (kind = 26))
              (
              sel (decide (kind = 26))
               (
               some ((0, (8, (8, ()))), ()))
               (
               sel (decide (kind = 48))
                (
                some ((0, (0, (200, ()))), ()))
                (
                some (((-1), (0, (0, ()))), ()))))
              (
              sel (decide (kind = 27))
               (
               some ((0, (8, (8, ()))), ()))
               (
               sel (decide (kind = 48))
                (
                some ((0, (0, (200, ()))), ()))
                (
                some (((-1), (0, (0, ()))), ())))))))))
         (
         sel (decide (kind = 8))
          (
          some ((2, (0, (200, ()))), ()))
          (
          sel (decide (kind = 6))
           (
           some ((1, (0, (200, ()))), ()))
           (
           sel (decide (kind = 7))
            (
            some ((0, (1, (200, ()))), ()))
            (
            sel (decide (kind = 24))
             (
             some ((3, (1, (20, ()))), ()))
             (
             sel (decide (kind = 26))
              (
              sel (decide (kind = 26))
               (
               some ((0, (8, (8, ()))), ()))
               (
               sel (decide (kind = 48))
                (
                some ((0, (0, (200, ()))), ()))
                (
                some (((-1), (0, (0, ()))), ()))))
              (
              sel (decide (kind = 27))
               (
               some ((0, (8, (8, ()))), ()))
               (
               sel (decide (kind = 48))
                (
                some ((0, (0, (200, ()))), ()))
                (
                some (((-1), (0, (0, ()))), ()))))))))))))
      (
      sel (decide (kind = 5))
       (
       some ((2, (0, (0, ()))), ()))
       (
       sel (decide (kind = 4))
        (
        some ((3, (0, (0, ()))), ()))
        (
        sel (decide (kind = 28))
         (
         sel (decide (kind = 28))
          (
          some ((2, (0, (200, ()))), ()))
          (
          sel (decide (kind = 6))
           (
           some ((1, (0, (200, ()))), ()))
           (
           sel (decide (kind = 7))
            (
            some ((0, (1, (200, ()))), ()))
            (
            sel (decide (kind = 24))
             (
             some ((3, (1, (20, ()))), ()))
             (
             sel (decide (kind = 26))
              (
              sel (decide (kind = 26))
               (
               some ((0, (8, (8, ()))), ()))
               (
               sel (decide (kind = 48))
                (
                some ((0, (0, (200, ()))), ()))
                (
                some (((-1), (0, (0, ()))), ()))))
              (
              sel (decide (kind = 27))
               (
               some ((0, (8, (8, ()))), ()))
               (
               sel (decide (kind = 48))
                (
                some ((0, (0, (200, ()))), ()))
                (
                some (((-1), (0, (0, ()))), ())))))))))
         (
         sel (decide (kind = 8))
          (
          some ((2, (0, (200, ()))), ()))
          (
          sel (decide (kind = 6))
           (
           some ((1, (0, (200, ()))), ()))
           (
           sel (decide (kind = 7))
            (
            some ((0, (1, (200, ()))), ()))
            (
            sel (decide (kind = 24))
             (
             some ((3, (1, (20, ()))), ()))
             (
             sel (decide (kind = 26))
              (
              sel (decide (kind = 26))
               (
               some ((0, (8, (8, ()))), ()))
               (
               sel (decide (kind = 48))
                (
                some ((0, (0, (200, ()))), ()))
                (
                some (((-1), (0, (0, ()))), ()))))
              (
              sel (decide (kind = 27))
               (
               some ((0, (8, (8, ()))), ()))
               (
               sel (decide (kind = 48))
                (
                some ((0, (0, (200, ()))), ()))
                (
                some (((-1), (0, (0, ()))), ()))))))))))))))))
  (
  sel (decide (kind = 1))
   (
   some ((0, (0, (0, ()))), ()))
   (
   sel (decide (kind = 16))
    (
    sel (decide (kind = 16))
     (
     some ((1, (0, (0, ()))), ()))
     (
     sel (decide (kind = 17))
      (
      sel (decide (kind = 17))
       (
       some ((2, (0, (0, ()))), ()))
       (
       sel (decide (kind = 4))
        (
        some ((3, (0, (0, ()))), ()))
        (
        sel (decide (kind = 28))
         (
         sel (decide (kind = 28))
          (
          some ((2, (0, (200, ()))), ()))
          (
          sel (decide (kind = 6))
           (
           some ((1, (0, (200, ()))), ()))
           (
           sel (decide (kind = 7))
            (
            some ((0, (1, (200, ()))), ()))
            (
            sel (decide (kind = 24))
             (
             some ((3, (1, (20, ()))), ()))
             (
             sel (decide (kind = 26))
              (
              sel (decide (kind = 26))
               (
               some ((0, (8, (8, ()))), ()))
               (
               sel (decide (kind = 48))
                (
                some ((0, (0, (200, ()))), ()))
                (
                some (((-1), (0, (0, ()))), ()))))
              (
              sel (decide (kind = 27))
               (
               some ((0, (8, (8, ()))), ()))
               (
               sel (decide (kind = 48))
                (
                some ((0, (0, (200, ()))), ()))
                (
                some (((-1), (0, (0, ()))), ())))))))))
         (
         sel (decide (kind = 8))
          (
          some ((2, (0, (200, ()))), ()))
          (
          sel (decide (kind = 6))
           (
           some ((1, (0, (200, ()))), ()))
           (
           sel (decide (kind = 7))
            (
            some ((0, (1, (200, ()))), ()))
            (
            sel (decide (kind = 24))
             (
             some ((3, (1, (20, ()))), ()))
             (
             sel (decide (kind = 26))
              (
              sel (decide (kind = 26))
               (
               some ((0, (8, (8, ()))), ()))
               (
               sel (decide (kind = 48))
                (
                some ((0, (0, (200, ()))), ()))
                (
                some (((-1), (0, (0, ()))), ()))))
              (
              sel (decide (kind = 27))
               (
               some ((0, (8, (8, ()))), ()))
               (
               sel (decide (kind = 48))
                (
                some ((0, (0, (200, ()))), ()))
                (
                some (((-1), (0, (0, ()))), ()))))))))))))
      (
      sel (decide (kind = 5))
       (
       some ((2, (0, (0, ()))), ()))
       (
       sel (decide (kind = 4))
        (
        some ((3, (0, (0, ()))), ()))
        (
        sel (decide (kind = 28))
         (
         sel (decide (kind = 28))
          (
          some ((2, (0, (200, ()))), ()))
          (
          sel (decide (kind = 6))
           (
           some ((1, (0, (200, ()))), ()))
           (
           sel (decide (kind = 7))
            (
            some ((0, (1, (200, ()))), ()))
            (
            sel (decide (kind = 24))
             (
             some ((3, (1, (20, ()))), ()))
             (
             sel (decide (kind = 26))
              (
              sel (decide (kind = 26))
               (
               some ((0, (8, (8, ()))), ()))
               (
               sel (decide (kind = 48))
                (
                some ((0, (0, (200, ()))), ()))
                (
                some (((-1), (0, (0, ()))), ()))))
              (
              sel (decide (kind = 27))
               (
               some ((0, (8, (8, ()))), ()))
               (
               sel (decide (kind = 48))
                (
                some ((0, (0, (200, ()))), ()))
                (
                some (((-1), (0, (0, ()))), ())))))))))
         (
         sel (decide (kind = 8))
          (
          some ((2, (0, (200, ()))), ()))
          (
          sel (decide (kind = 6))
           (
           some ((1, (0, (200, ()))), ()))
           (
           sel (decide (kind = 7))
            (
            some ((0, (1, (200, ()))), ()))
            (
            sel (decide (kind = 24))
             (
             some ((3, (1, (20, ()))), ()))
             (
             sel (decide (kind = 26))
              (
              sel (decide (kind = 26))
               (
               some ((0, (8, (8, ()))), ()))
               (
               sel (decide (kind = 48))
                (
                some ((0, (0, (200, ()))), ()))
                (
                some (((-1), (0, (0, ()))), ()))))
              (
              sel (decide (kind = 27))
               (
               some ((0, (8, (8, ()))), ()))
               (
               sel (decide (kind = 48))
                (
                some ((0, (0, (200, ()))), ()))
                (
                some (((-1), (0, (0, ()))), ()))))))))))))))
    (
    sel (decide (kind = 2))
     (
     some ((1, (0, (0, ()))), ()))
     (
     sel (decide (kind = 17))
      (
      sel (decide (kind = 17))
       (
       some ((2, (0, (0, ()))), ()))
       (
       sel (decide (kind = 4))
        (
        some ((3, (0, (0, ()))), ()))
        (
        sel (decide (kind = 28))
         (
         sel (decide (kind = 28))
          (
          some ((2, (0, (200, ()))), ()))
          (
          sel (decide (kind = 6))
           (
           some ((1, (0, (200, ()))), ()))
           (
           sel (decide (kind = 7))
            (
            some ((0, (1, (200, ()))), ()))
            (
            sel (decide (kind = 24))
             (
             some ((3, (1, (20, ()))), ()))
             (
             sel (decide (kind = 26))
              (
              sel (decide (kind = 26))
               (
               some ((0, (8, (8, ()))), ()))
               (
               sel (decide (kind = 48))
                (
                some ((0, (0, (200, ()))), ()))
                (
                some (((-1), (0, (0, ()))), ()))))
              (
              sel (decide (kind = 27))
               (
               some ((0, (8, (8, ()))), ()))
               (
               sel (decide (kind = 48))
                (
                some ((0, (0, (200, ()))), ()))
                (
                some (((-1), (0, (0, ()))), ())))))))))
         (
         sel (decide (kind = 8))
          (
          some ((2, (0, (200, ()))), ()))
          (
          sel (decide (kind = 6))
           (
           some ((1, (0, (200, ()))), ()))
           (
           sel (decide (kind = 7))
            (
            some ((0, (1, (200, ()))), ()))
            (
            sel (decide (kind = 24))
             (
             some ((3, (1, (20, ()))), ()))
             (
             sel (decide (kind = 26))
              (
              sel (decide (kind = 26))
               (
               some ((0, (8, (8, ()))), ()))
               (
               sel (decide (kind = 48))
                (
                some ((0, (0, (200, ()))), ()))
                (
                some (((-1), (0, (0, ()))), ()))))
              (
              sel (decide (kind = 27))
               (
               some ((0, (8, (8, ()))), ()))
               (
               sel (decide (kind = 48))
                (
                some ((0, (0, (200, ()))), ()))
                (
                some (((-1), (0, (0, ()))), ()))))))))))))
      (
      sel (decide (kind = 5))
       (
       some ((2, (0, (0, ()))), ()))
       (
       sel (decide (kind = 4))
        (
        some ((3, (0, (0, ()))), ()))
        (
        sel (decide (kind = 28))
         (
         sel (decide (kind = 28))
          (
          some ((2, (0, (200, ()))), ()))
          (
          sel (decide (kind = 6))
           (
           some ((1, (0, (200, ()))), ()))
           (
           sel (decide (kind = 7))
            (
            some ((0, (1, (200, ()))), ()))
            (
            sel (decide (kind = 24))
             (
             some ((3, (1, (20, ()))), ()))
             (
             sel (decide (kind = 26))
              (
              sel (decide (kind = 26))
               (
               some ((0, (8, (8, ()))), ()))
               (
               sel (decide (kind = 48))
                (
                some ((0, (0, (200, ()))), ()))
                (
                some (((-1), (0, (0, ()))), ()))))
              (
              sel (decide (kind = 27))
               (
               some ((0, (8, (8, ()))), ()))
               (
               sel (decide (kind = 48))
                (
                some ((0, (0, (200, ()))), ()))
                (
                some (((-1), (0, (0, ()))), ())))))))))
         (
         sel (decide (kind = 8))
          (
          some ((2, (0, (200, ()))), ()))
          (
          sel (decide (kind = 6))
           (
           some ((1, (0, (200, ()))), ()))
           (
           sel (decide (kind = 7))
            (
            some ((0, (1, (200, ()))), ()))
            (
            sel (decide (kind = 24))
             (
             some ((3, (1, (20, ()))), ()))
             (
             sel (decide (kind = 26))
              (
              sel (decide (kind = 26))
               (
               some ((0, (8, (8, ()))), ()))
               (
               sel (decide (kind = 48))
                (
                some ((0, (0, (200, ()))), ()))
                (
                some (((-1), (0, (0, ()))), ()))))
              (
              sel (decide (kind = 27))
               (
               some ((0, (8, (8, ()))), ()))
               (
               sel (decide (kind = 48))
                (
                some ((0, (0, (200, ()))), ()))
                (
                some (((-1), (0, (0, ()))), ())))))))))))))))) := by kernel_rfl
set_option maxRecDepth 100000 in
theorem spec_l1Shape.say (N : Nat) : SayOk Try.prog (spec_l1Shape.S N) := sayOk_mk (N := N) (H := spec_l1Shape.H) (preps := [⟨[], [], [], []⟩]) (l := spec_l1Shape.says) (fn := Try.f174) (c := bodyOf Try.f174)
  (by kernel_rfl) (by kernel_rfl) (by kernel_rfl) (by kernel_rfl) (by kernel_rfl) (by kernel_rfl) (by kernel_rfl)
  (fun N => SayAll.nil) (fun a s => by kernel_rfl)

/-! ### loop.example/g00206/spec.l1In: function 53 -/
noncomputable def spec_l1In.H : Hints := hintsOf []
noncomputable def spec_l1In.says (N : Nat) : List Say := []
noncomputable def spec_l1In.call (N : Nat) : CallK := callBy (spec_l1In.says N)
noncomputable def spec_l1In.qt (N : Nat) : FuncId → List PV → Sig → Cl := qtBy (spec_l1In.says N)
noncomputable def spec_l1In (N : Nat) (n : Int) (lo : Int) (hi : Int) : Option ((Bool × Unit) × Unit) :=
  ofFn Try.prog spec_l1In.call spec_l1In.qt spec_l1In.H N Try.f53 [ak_i, ak_i, ak_i] [] [ak_b] [] [⟨[], [], [], []⟩] (n, (lo, (hi, ()))) ()
noncomputable def spec_l1In.S (N : Nat) : Say := ⟨false, 53, [ak_i, ak_i, ak_i], [], [ak_b], [], fun a s => spec_l1In N a.1 a.2.1 a.2.2.1⟩
set_option maxRecDepth 100000 in
theorem spec_l1In.eq (N : Nat) (n : Int) (lo : Int) (hi : Int) : spec_l1In N n lo hi =
 sel (decide (lo ≤ n))
  (
  some (((decide (n ≤ hi)), ()), ()))
  (
  some ((false, ()), ())) := by kernel_rfl
set_option maxRecDepth 100000 in
theorem spec_l1In.say (N : Nat) : SayOk Try.prog (spec_l1In.S N) := sayOk_mk (N := N) (H := spec_l1In.H) (preps := [⟨[], [], [], []⟩]) (l := spec_l1In.says) (fn := Try.f53) (c := bodyOf Try.f53)
  (by kernel_rfl) (by kernel_rfl) (by kernel_rfl) (by kernel_rfl) (by kernel_rfl) (by kernel_rfl) (by kernel_rfl)
  (fun N => SayAll.nil) (fun a s => by kernel_rfl)

/-! ### loop.example/g00206/spec.l1Known: function 122 -/
noncomputable def spec_l1Known.H : Hints := hintsOf []
noncomputable def spec_l1Known.says (N : Nat) : List Say := [spec_l1In.S N]
noncomputable def spec_l1Known.call (N : Nat) : CallK := callBy (spec_l1Known.says N)
noncomputable def spec_l1Known.qt (N : Nat) : FuncId → List PV → Sig → Cl := qtBy (spec_l1Known.says N)
noncomputable def spec_l1Known (N : Nat) (n : Int) : Option ((Bool × Unit) × Unit) :=
  ofFn Try.prog spec_l1Known.call spec_l1Known.qt spec_l1Known.H N Try.f122 [ak_i] [] [ak_b] [] [⟨[], [], [], []⟩] (n, ()) ()
noncomputable def spec_l1Known.S (N : Nat) : Say := ⟨false, 122, [ak_i], [], [ak_b], [], fun a s => spec_l1Known N a.1⟩
set_option maxRecDepth 100000 in
theorem spec_l1Known.eq (N : Nat) (n : Int) : spec_l1Known N n =
 andK (spec_l1In N n 0 4611686018427387903) fun u1 =>
 some ((u1.1.1, ()), ()) := by kernel_rfl
set_option maxRecDepth 100000 in
theorem spec_l1Known.say (N : Nat) : SayOk Try.prog (spec_l1Known.S N) := sayOk_mk (N := N) (H := spec_l1Known.H) (preps := [⟨[], [], [], []⟩]) (l := spec_l1Known.says) (fn := Try.f122) (c := bodyOf Try.f122)
  (by kernel_rfl) (by kernel_rfl) (by kernel_rfl) (by kernel_rfl) (by kernel_rfl) (by kernel_rfl) (by kernel_rfl)
  (fun N => SayAll.cons (spec_l1In.say N) (SayAll.nil)) (fun a s => by kernel_rfl)

/-! ### loop.example/g00206/spec.l1Ranges: function 124 -/
noncomputable def spec_l1Ranges.H : Hints := hintsOf [(5000004, .join [⟨.normal, [0, 5, 6, 7], [39], [ak_b], [.cells [ck_i, ck_i]], [⟨[], [], [], []⟩]⟩]),
  (2000002, .loop ⟨.normal, [0, 5, 6], [7], [ak_i], [], [⟨[], [], [], []⟩]⟩ [⟨.ret, [], [2], [ak_b], [], [⟨[], [], [], []⟩]⟩, ⟨(.exit 0), [0], [], [], [], [⟨[], [], [], []⟩]⟩])]
noncomputable def spec_l1Ranges.says (N : Nat) : List Say := [spec_l1In.S N, spec_l1Known.S N]
noncomputable def spec_l1Ranges.call (N : Nat) : CallK := callBy (spec_l1Ranges.says N)
noncomputable def spec_l1Ranges.qt (N : Nat) : FuncId → List PV → Sig → Cl := qtBy (spec_l1Ranges.says N)
noncomputable def spec_l1Ranges.l0.hd : Alt := ⟨.normal, [0, 5, 6], [7], [ak_i], [], [⟨[], [], [], []⟩]⟩
noncomputable def spec_l1Ranges.l0.outs : List Alt := [⟨.ret, [], [2], [ak_b], [], [⟨[], [], [], []⟩]⟩, ⟨(.exit 0), [0], [], [], [], [⟨[], [], [], []⟩]⟩]
noncomputable def spec_l1Ranges.l0 (N : Nat) (l1 : (List (Int × Int))) (t5 : (List (Int × Int))) (t6 : Int) (t7 : Int) : Option (((Bool × Unit) × Unit) ⊕ (Unit × Unit)) :=
  loopK Try.prog spec_l1Ranges.call spec_l1Ranges.qt spec_l1Ranges.H (codeAt (bodyOf Try.f124) [1, 0, 1, 0, 0]) 0 spec_l1Ranges.l0.hd spec_l1Ranges.l0.outs [(0, .rows false (.pair (.int .i64) (.int .i64)) l1), (5, .rows false (.pair (.int .i64) (.int .i64)) t5), (6, .v (.int .i64 t6))] N ((t7, ()), ())
noncomputable def spec_l1Ranges (N : Nat) (l : (List (Int × Int))) : Option ((Bool × Unit) × Unit) :=
  ofFn Try.prog spec_l1Ranges.call spec_l1Ranges.qt spec_l1Ranges.H N Try.f124 [.one (.sh (.rows (.pair (.int .i64) (.int .i64))))] [] [ak_b] [] [⟨[], [], [], []⟩] (l, ()) ()
noncomputable def spec_l1Ranges.S (N : Nat) : Say := ⟨false, 124, [.one (.sh (.rows (.pair (.int .i64) (.int .i64))))], [], [ak_b], [], fun a s => spec_l1Ranges N a.1⟩
set_option maxRecDepth 100000 in
theorem spec_l1Ranges.l0.eq (N : Nat) (l1 : (List (Int × Int))) (t5 : (List (Int × Int))) (t6 : Int) (t7 : Int) : spec_l1Ranges.l0 (N + 1) l1 t5 t6 t7 =
 sel (decide (t7 < t6))
  (
  chk ((decide (0 ≤ t7)) && (decide (t7 < (t5.length : Int)))) (
  andK (α := ((Bool × Unit) × ((Int × (Int × Unit)) × Unit))) (
   andK (spec_l1In N (rdS (.pair (.int .i64) (.int .i64)) t5 (Int.toNat t7)).1 0 (rdS (.pair (.int .i64) (.int .i64)) t5 (Int.toNat t7)).2) fun u1 =>
   sel (!u1.1.1)
    (
    some (((true, ()), (((rdS (.pair (.int .i64) (.int .i64)) t5 (Int.toNat t7)).1, ((rdS (.pair (.int .i64) (.int .i64)) t5 (Int.toNat t7)).2, ())), ()))))
    (
    andK (spec_l1Known N (rdS (.pair (.int .i64) (.int .i64)) t5 (Int.toNat t7)).2) fun u2 =>
    sel (!u2.1.1)
     (
     some (((true, ()), (((rdS (.pair (.int .i64) (.int .i64)) t5 (Int.toNat t7)).1, ((rdS (.pair (.int .i64) (.int .i64)) t5 (Int.toNat t7)).2, ())), ()))))
     (
     sel (decide (0 < t7))
      (
      chk ((decide (0 ≤ (IntKind.i64.wrap (t7 - 1)))) && (decide ((IntKind.i64.wrap (t7 - 1)) < (l1.length : Int)))) (
      some ((((decide ((IntKind.i64.wrap ((rdS (.pair (.int .i64) (.int .i64)) l1 (Int.toNat (IntKind.i64.wrap (t7 - 1)))).1 - 2)) < (rdS (.pair (.int .i64) (.int .i64)) t5 (Int.toNat t7)).2)), ()), (((rdS (.pair (.int .i64) (.int .i64)) t5 (Int.toNat t7)).1, ((rdS (.pair (.int .i64) (.int .i64)) t5 (Int.toNat t7)).2, ())), ())))))
      (
      some (((false, ()), (((rdS (.pair (.int .i64) (.int .i64)) t5 (Int.toNat t7)).1, ((rdS (.pair (.int .i64) (.int .i64)) t5 (Int.toNat t7)).2, ())), ()))))))) fun j3 =>
  sel j3.1.1
   (
   some (.inl ((false, ()), ())))
   (
   spec_l1Ranges.l0 N l1 t5 t6 (IntKind.i64.wrap (t7 + 1)))))
  (
  some (.inr (((), ())))) := by kernel_rfl
set_option maxRecDepth 100000 in
theorem spec_l1Ranges.eq (N : Nat) (l : (List (Int × Int))) : spec_l1Ranges N l =
 andK (spec_l1Ranges.l0 N l l (l.length : Int) 0) fun l4 =>
 orK l4 (fun x5 =>
  some ((x5.1.1, ()), ()))
  (fun x6 =>
  andK (spec_l1In N (l.length : Int) 1 20) fun u7 =>
  some ((u7.1.1, ()), ())) := by kernel_rfl
set_option maxRecDepth 100000 in
theorem spec_l1Ranges.say (N : Nat) : SayOk Try.prog (spec_l1Ranges.S N) := sayOk_mk (N := N) (H := spec_l1Ranges.H) (preps := [⟨[], [], [], []⟩]) (l := spec_l1Ranges.says) (fn := Try.f124) (c := bodyOf Try.f124)
  (by kernel_rfl) (by kernel_rfl) (by kernel_rfl) (by kernel_rfl) (by kernel_rfl) (by kernel_rfl) (by kernel_rfl)
  (fun N => SayAll.cons (spec_l1In.say N) (SayAll.cons (spec_l1Known.say N) (SayAll.nil))) (fun a s => by kernel_rfl)

/-! ### loop.example/g00206/spec.GoodFrame: function 158 -/
noncomputable def spec_GoodFrame.H : Hints := hintsOf [(5000002, .join [⟨.normal, [3], [1, 50], [.one (.ptr 0 0), ak_b], [.cells [ck_i, ck_i, ck_i, ck_i, ck_b, ck_s, .sh (.rows (.pair (.int .i64) (.int .i64)))]], [⟨[], [], [], []⟩]⟩]),
  (5000004, .join [⟨.normal, [], [1, 75], [.one (.ptr 0 0), ak_b], [.cells [ck_i, ck_i, ck_i, ck_i, ck_b, ck_s, .sh (.rows (.pair (.int .i64) (.int .i64)))]], [⟨[], [], [], []⟩]⟩]),
  (5000006, .join [⟨.normal, [], [1, 94], [.one (.ptr 0 0), ak_b], [.cells [ck_i, ck_i, ck_i, ck_i, ck_b, ck_s, .sh (.rows (.pair (.int .i64) (.int .i64)))]], [⟨[], [], [], []⟩]⟩])]
noncomputable def spec_GoodFrame.says (N : Nat) : List Say := [spec_l1Shape.S N, spec_l1Known.S N, spec_l1In.S N, spec_l1Ranges.S N]
noncomputable def spec_GoodFrame.call (N : Nat) : CallK := callBy (spec_GoodFrame.says N)
noncomputable def spec_GoodFrame.qt (N : Nat) : FuncId → List PV → Sig → Cl := qtBy (spec_GoodFrame.says N)
noncomputable def spec_GoodFrame (N : Nat) (G_0 : Int) (G_1 : Int) (G_2 : Int) (G_3 : Int) (G_4 : Bool) (G_5 : ByteArray) (G_6 : (List (Int × Int))) : Option ((Bool × Unit) × Unit) :=
  ofFn Try.prog spec_GoodFrame.call spec_GoodFrame.qt spec_GoodFrame.H N Try.f158 [.agg [ck_i, ck_i, ck_i, ck_i, ck_b, ck_s, .sh (.rows (.pair (.int .i64) (.int .i64)))]] [] [ak_b] [] [⟨[], [], [], []⟩] ((G_0, (G_1, (G_2, (G_3, (G_4, (G_5, (G_6, ()))))))), ()) ()
noncomputable def spec_GoodFrame.S (N : Nat) : Say := ⟨false, 158, [.agg [ck_i, ck_i, ck_i, ck_i, ck_b, ck_s, .sh (.rows (.pair (.int .i64) (.int .i64)))]], [], [ak_b], [], fun a s => spec_GoodFrame N a.1.1 a.1.2.1 a.1.2.2.1 a.1.2.2.2.1 a.1.2.2.2.2.1 a.1.2.2.2.2.2.1 a.1.2.2.2.2.2.2.1⟩
set_option maxRecDepth 100000 in
theorem spec_GoodFrame.eq (N : Nat) (G_0 : Int) (G_1 : Int) (G_2 : Int) (G_3 : Int) (G_4 : Bool) (G_5 : ByteArray) (G_6 : (List (Int × Int))) : spec_GoodFrame N G_0 G_1 G_2 G_3 G_4 G_5 G_6 =
 andK (spec_l1Shape N G_0) fun u1 =>
 andK (α := ((Unit × (Bool × Unit)) × ((Int × (Int × (Int × (Int × (Bool × (ByteArray × ((List (Int × Int)) × Unit))))))) × Unit))) (
  sel (decide (u1.1.1 < 0))
   (
   some ((((), (true, ())), ((G_0, (G_1, (G_2, (G_3, (G_4, (G_5, (G_6, ()))))))), ()))))
   (
   andK (spec_l1Known N G_1) fun u2 =>
   sel (!u2.1.1)
    (
    some ((((), (true, ())), ((G_0, (G_1, (G_2, (G_3, (G_4, (G_5, (G_6, ()))))))), ()))))
    (
    andK (spec_l1Known N G_2) fun u3 =>
    sel (!u3.1.1)
     (
     some ((((), (true, ())), ((G_0, (G_1, (G_2, (G_3, (G_4, (G_5, (G_6, ()))))))), ()))))
     (
     andK (spec_l1Known N G_3) fun u4 =>
     sel (!u4.1.1)
      (
      some ((((), (true, ())), ((G_0, (G_1, (G_2, (G_3, (G_4, (G_5, (G_6, ()))))))), ()))))
      (
      andK (spec_l1In N (G_5.size : Int) u1.1.2.1 u1.1.2.2.1) fun u5 =>
      sel (!u5.1.1)
       (
       some ((((), (true, ())), ((G_0, (G_1, (G_2, (G_3, (G_4, (G_5, (G_6, ()))))))), ()))))
       (
       sel G_4
        (
        some ((((), ((!(decide (G_0 = 8))), ())), ((G_0, (G_1, (G_2, (G_3, (G_4, (G_5, (G_6, ()))))))), ()))))
        (
        some ((((), (false, ())), ((G_0, (G_1, (G_2, (G_3, (G_4, (G_5, (G_6, ()))))))), ())))))))))) fun j6 =>
 sel j6.1.2.1
  (
  some ((false, ()), ()))
  (
  andK (α := ((Unit × (Bool × Unit)) × ((Int × (Int × (Int × (Int × (Bool × (ByteArray × ((List (Int × Int)) × Unit))))))) × Unit))) (
   sel (decide (u1.1.1 < 3))
    (
    sel (!(decide (j6.2.1.2.2.2.1 = 0)))
     (
     some ((((), (true, ())), ((j6.2.1.1, (j6.2.1.2.1, (j6.2.1.2.2.1, (j6.2.1.2.2.2.1, (j6.2.1.2.2.2.2.1, (j6.2.1.2.2.2.2.2.1, (j6.2.1.2.2.2.2.2.2.1, ()))))))), ()))))
     (
     sel (decide (u1.1.1 < 2))
      (
      sel (!(decide (j6.2.1.2.2.1 = 0)))
       (
       some ((((), (true, ())), ((j6.2.1.1, (j6.2.1.2.1, (j6.2.1.2.2.1, (j6.2.1.2.2.2.1, (j6.2.1.2.2.2.2.1, (j6.2.1.2.2.2.2.2.1, (j6.2.1.2.2.2.2.2.2.1, ()))))))), ()))))
       (
       sel (decide (u1.1.1 < 1))
        (
        some ((((), ((!(decide (j6.2.1.2.1 = 0))), ())), ((j6.2.1.1, (j6.2.1.2.1, (j6.2.1.2.2.1, (j6.2.1.2.2.2.1, (j6.2.1.2.2.2.2.1, (j6.2.1.2.2.2.2.2.1, (j6.2.1.2.2.2.2.2.2.1, ()))))))), ()))))
        (
        some ((((), (false, ())), ((j6.2.1.1, (j6.2.1.2.1, (j6.2.1.2.2.1, (j6.2.1.2.2.2.1, (j6.2.1.2.2.2.2.1, (j6.2.1.2.2.2.2.2.1, (j6.2.1.2.2.2.2.2.2.1, ()))))))), ()))))))
      (
      sel (decide (u1.1.1 < 1))
       (
       some ((((), ((!(decide (j6.2.1.2.1 = 0))), ())), ((j6.2.1.1, (j6.2.1.2.1, (j6.2.1.2.2.1, (j6.2.1.2.2.2.1, (j6.2.1.2.2.2.2.1, (j6.2.1.2.2.2.2.2.1, (j6.2.1.2.2.2.2.2.2.1, ()))))))), ()))))
       (
       some ((((), (false, ())), ((j6.2.1.1, (j6.2.1.2.1, (j6.2.1.2.2.1, (j6.2.1.2.2.2.1, (j6.2.1.2.2.2.2.1, (j6.2.1.2.2.2.2.2.1, (j6.2.1.2.2.2.2.2.2.1, ()))))))), ())))))))
    (
    sel (decide (u1.1.1 < 2))
     (
     sel (!(decide (j6.2.1.2.2.1 = 0)))
      (
      some ((((), (true, ())), ((j6.2.1.1, (j6.2.1.2.1, (j6.2.1.2.2.1, (j6.2.1.2.2.2.1, (j6.2.1.2.2.2.2.1, (j6.2.1.2.2.2.2.2.1, (j6.2.1.2.2.2.2.2.2.1, ()))))))), ()))))
      (
      sel (decide (u1.1.1 < 1))
       (
       some ((((), ((!(decide (j6.2.1.2.1 = 0))), ())), ((j6.2.1.1, (j6.2.1.2.1, (j6.2.1.2.2.1, (j6.2.1.2.2.2.1, (j6.2.1.2.2.2.2.1, (j6.2.1.2.2.2.2.2.1, (j6.2.1.2.2.2.2.2.2.1, ()))))))), ()))))
       (
       some ((((), (false, ())), ((j6.2.1.1, (j6.2.1.2.1, (j6.2.1.2.2.1, (j6.2.1.2.2.2.1, (j6.2.1.2.2.2.2.1, (j6.2.1.2.2.2.2.2.1, (j6.2.1.2.2.2.2.2.2.1, ()))))))), ()))))))
     (
     sel (decide (u1.1.1 < 1))
      (
      some ((((), ((!(decide (j6.2.1.2.1 = 0))), ())), ((j6.2.1.1, (j6.2.1.2.1, (j6.2.1.2.2.1, (j6.2.1.2.2.2.1, (j6.2.1.2.2.2.2.1, (j6.2.1.2.2.2.2.2.1, (j6.2.1.2.2.2.2.2.2.1, ()))))))), ()))))
      (
      some ((((), (false, ())), ((j6.2.1.1, (j6.2.1.2.1, (j6.2.1.2.2.1, (j6.2.1.2.2.2.1, (j6.2.1.2.2.2.2.1, (j6.2.1.2.2.2.2.2.1, (j6.2.1.2.2.2.2.2.2.1, ()))))))), ()))))))) fun j7 =>
  sel j7.1.2.1
   (
   some ((false, ()), ()))
   (
   andK (α := ((Unit × (Bool × Unit)) × ((Int × (Int × (Int × (Int × (Bool × (ByteArray × ((List (Int × Int)) × Unit))))))) × Unit))) (
    sel (!((decide (j7.2.1.1 = 2)) == (decide (0 < (j7.2.1.2.2.2.2.2.2.1.length : Int)))))
     (
     some ((((), (true, ())), ((j7.2.1.1, (j7.2.1.2.1, (j7.2.1.2.2.1, (j7.2.1.2.2.2.1, (j7.2.1.2.2.2.2.1, (j7.2.1.2.2.2.2.2.1, (j7.2.1.2.2.2.2.2.2.1, ()))))))), ()))))
     (
     sel (decide (j7.2.1.1 = 2))
      (
      andK (spec_l1Ranges N j7.2.1.2.2.2.2.2.2.1) fun u8 =>
      some ((((), ((!u8.1.1), ())), ((j7.2.1.1, (j7.2.1.2.1, (j7.2.1.2.2.1, (j7.2.1.2.2.2.1, (j7.2.1.2.2.2.2.1, (j7.2.1.2.2.2.2.2.1, (j7.2.1.2.2.2.2.2.2.1, ()))))))), ()))))
      (
      some ((((), (false, ())), ((j7.2.1.1, (j7.2.1.2.1, (j7.2.1.2.2.1, (j7.2.1.2.2.2.1, (j7.2.1.2.2.2.2.1, (j7.2.1.2.2.2.2.2.1, (j7.2.1.2.2.2.2.2.2.1, ()))))))), ())))))) fun j9 =>
   sel j9.1.2.1
    (
    some ((false, ()), ()))
    (
    sel (decide (j9.2.1.1 = 6))
     (
     some (((decide (j9.2.1.2.1 ≤ (IntKind.i64.wrap (4611686018427387903 - (j9.2.1.2.2.2.2.2.1.size : Int))))), ()), ()))
     (
     sel (decide (j9.2.1.1 = 8))
      (
      some (((decide (j9.2.1.2.2.1 ≤ (IntKind.i64.wrap (4611686018427387903 - (j9.2.1.2.2.2.2.2.1.size : Int))))), ()), ()))
      (
      sel (decide (j9.2.1.1 = 24))
       (
       sel (decide (j9.2.1.2.2.1 ≤ j9.2.1.2.1))
        (
        some (((decide (j9.2.1.2.2.2.1 ≤ 255)), ()), ()))
        (
        some ((false, ()), ())))
       (
       some ((true, ()), ()))))))) := by kernel_rfl
set_option maxRecDepth 100000 in
theorem spec_GoodFrame.say (N : Nat) : SayOk Try.prog (spec_GoodFrame.S N) := sayOk_mk (N := N) (H := spec_GoodFrame.H) (preps := [⟨[], [], [], []⟩]) (l := spec_GoodFrame.says) (fn := Try.f158) (c := bodyOf Try.f158)
  (by kernel_rfl) (by kernel_rfl) (by kernel_rfl) (by kernel_rfl) (by kernel_rfl) (by kernel_rfl) (by kernel_rfl)
  (fun N => SayAll.cons (spec_l1Shape.say N) (SayAll.cons (spec_l1Known.say N) (SayAll.cons (spec_l1In.say N) (SayAll.cons (spec_l1Ranges.say N) (SayAll.nil))))) (fun a s => by kernel_rfl)

/-! ### loop.example/g00206/spec.l1Size: function 164 -/
noncomputable def spec_l1Size.H : Hints := hintsOf []
noncomputable def spec_l1Size.says (N : Nat) : List Say := []
noncomputable def spec_l1Size.call (N : Nat) : CallK := callBy (spec_l1Size.says N)
noncomputable def spec_l1Size.qt (N : Nat) : FuncId → List PV → Sig → Cl := qtBy (spec_l1Size.says N)
noncomputable def spec_l1Size (N : Nat) (n : Int) : Option ((Int × Unit) × Unit) :=
  ofFn Try.prog spec_l1Size.call spec_l1Size.qt spec_l1Size.H N Try.f164 [ak_i] [] [ak_i] [] [⟨[], [], [], []⟩] (n, ()) ()
noncomputable def spec_l1Size.S (N : Nat) : Say := ⟨false, 164, [ak_i], [], [ak_i], [], fun a s => spec_l1Size N a.1⟩
set_option maxRecDepth 100000 in
theorem spec_l1Size.eq (N : Nat) (n : Int) : spec_l1Size N n =
 sel (decide (n < 64))
  (
  some ((1, ()), ()))
  (
  sel (decide (n < 16384))
   (
   some ((2, ()), ()))
   (
   sel (decide (n < 1073741824))
    (
    some ((4, ()), ()))
    (
    some ((8, ()), ())))) := by kernel_rfl
set_option maxRecDepth 100000 in
theorem spec_l1Size.say (N : Nat) : SayOk Try.prog (spec_l1Size.S N) := sayOk_mk (N := N) (H := spec_l1Size.H) (preps := [⟨[], [], [], []⟩]) (l := spec_l1Size.says) (fn := Try.f164) (c := bodyOf Try.f164)
  (by kernel_rfl) (by kernel_rfl) (by kernel_rfl) (by kernel_rfl) (by kernel_rfl) (by kernel_rfl) (by kernel_rfl)
  (fun N => SayAll.nil) (fun a s => by kernel_rfl)

/-! ### loop.example/g00206/spec.l1Fixed: function 63 -/
noncomputable def spec_l1Fixed.H : Hints := hintsOf [(2000003, .loop ⟨.normal, [0], [5, 6], [.one (.own 0), ak_i], [.rows (.int .u8)], [⟨[(5, (.int .u8))], [], [], [0]⟩, ⟨[], [], [], [0]⟩]⟩ [⟨(.exit 0), [], [5], [.one (.own 0)], [.rows (.int .u8)], [⟨[], [], [], [0]⟩]⟩])]
noncomputable def spec_l1Fixed.says (N : Nat) : List Say := []
noncomputable def spec_l1Fixed.call (N : Nat) : CallK := callBy (spec_l1Fixed.says N)
noncomputable def spec_l1Fixed.qt (N : Nat) : FuncId → List PV → Sig → Cl := qtBy (spec_l1Fixed.says N)
noncomputable def spec_l1Fixed.l0.hd : Alt := ⟨.normal, [0], [5, 6], [.one (.own 0), ak_i], [.rows (.int .u8)], [⟨[(5, (.int .u8))], [], [], [0]⟩, ⟨[], [], [], [0]⟩]⟩
noncomputable def spec_l1Fixed.l0.outs : List Alt := [⟨(.exit 0), [], [5], [.one (.own 0)], [.rows (.int .u8)], [⟨[], [], [], [0]⟩]⟩]
noncomputable def spec_l1Fixed.l0 (N : Nat) (n1 : Int) (k : Int) (p0 : (List Int)) : Option ((Unit × Unit) × ((List Int) × Unit)) :=
  loopK Try.prog spec_l1Fixed.call spec_l1Fixed.qt spec_l1Fixed.H (codeAt (bodyOf Try.f63) [1, 1, 0, 1, 0, 0]) 0 spec_l1Fixed.l0.hd spec_l1Fixed.l0.outs [(0, .v (.int .i64 n1))] N (((), (k, ())), (p0, ()))
noncomputable def spec_l1Fixed (N : Nat) (n : Int) (many : Int) : Option ((ByteArray × Unit) × Unit) :=
  ofFn Try.prog spec_l1Fixed.call spec_l1Fixed.qt spec_l1Fixed.H N Try.f63 [ak_i, ak_i] [] [ak_s] [] [⟨[], [], [], []⟩] (n, (many, ())) ()
noncomputable def spec_l1Fixed.S (N : Nat) : Say := ⟨false, 63, [ak_i, ak_i], [], [ak_s], [], fun a s => spec_l1Fixed N a.1 a.2.1⟩
set_option maxRecDepth 100000 in
theorem spec_l1Fixed.l0.eq (N : Nat) (n1 : Int) (k : Int) (p0 : (List Int)) : spec_l1Fixed.l0 (N + 1) n1 k p0 =
 sel (decide (0 ≤ k))
  (
  chk (decide (0 ≤ (IntKind.u64.wrap (IntKind.i64.wrap (8 * k))))) (
  chk (decide (p0.length + 1 < most)) (
  spec_l1Fixed.l0 N n1 (IntKind.i64.wrap (k - 1)) (p0 ++ [(IntKind.u8.wrap (shrI .i64 n1 (IntKind.u64.wrap (IntKind.i64.wrap (8 * k)))))]))))
  (
  some ((((), ()), (p0, ())))) := by kernel_rfl
set_option maxRecDepth 100000 in
theorem spec_l1Fixed.eq (N : Nat) (n : Int) (many : Int) : spec_l1Fixed N n many =
 andK (spec_l1Fixed.l0 N n (IntKind.i64.wrap (many - 1)) []) fun l1 =>
 some (((strL l1.2.1), ()), ()) := by kernel_rfl
set_option maxRecDepth 100000 in
theorem spec_l1Fixed.say (N : Nat) : SayOk Try.prog (spec_l1Fixed.S N) := sayOk_mk (N := N) (H := spec_l1Fixed.H) (preps := [⟨[], [], [], []⟩]) (l := spec_l1Fixed.says) (fn := Try.f63) (c := bodyOf Try.f63)
  (by kernel_rfl) (by kernel_rfl) (by kernel_rfl) (by kernel_rfl) (by kernel_rfl) (by kernel_rfl) (by kernel_rfl)
  (fun N => SayAll.nil) (fun a s => by kernel_rfl)

/-! ### loop.example/g00206/spec.l1Var: function 134 -/
noncomputable def spec_l1Var.H : Hints := hintsOf []
noncomputable def spec_l1Var.says (N : Nat) : List Say := [spec_l1Size.S N, spec_l1Fixed.S N]
noncomputable def spec_l1Var.call (N : Nat) : CallK := callBy (spec_l1Var.says N)
noncomputable def spec_l1Var.qt (N : Nat) : FuncId → List PV → Sig → Cl := qtBy (spec_l1Var.says N)
noncomputable def spec_l1Var (N : Nat) (n : Int) : Option ((ByteArray × Unit) × Unit) :=
  ofFn Try.prog spec_l1Var.call spec_l1Var.qt spec_l1Var.H N Try.f134 [ak_i] [] [ak_s] [] [⟨[], [], [], []⟩] (n, ()) ()
noncomputable def spec_l1Var.S (N : Nat) : Say := ⟨false, 134, [ak_i], [], [ak_s], [], fun a s => spec_l1Var N a.1⟩
set_option maxRecDepth 100000 in
theorem spec_l1Var.eq (N : Nat) (n : Int) : spec_l1Var N n =
 andK (spec_l1Size N n) fun u1 =>
 sel (decide (u1.1.1 = 1))
  (
  andK (spec_l1Fixed N n 1) fun u2 =>
  some ((u2.1.1, ()), ()))
  (
  sel (decide (u1.1.1 = 2))
   (
   andK (spec_l1Fixed N (Go.bits .or .i64 n 16384) 2) fun u3 =>
   some ((u3.1.1, ()), ()))
   (
   sel (decide (u1.1.1 = 4))
    (
    andK (spec_l1Fixed N (Go.bits .or .i64 n 2147483648) 4) fun u4 =>
    some ((u4.1.1, ()), ()))
    (
    andK (spec_l1Fixed N (Go.bits .or .i64 n (-4611686018427387904)) 8) fun u5 =>
    some ((u5.1.1, ()), ())))) := by kernel_rfl
set_option maxRecDepth 100000 in
theorem spec_l1Var.say (N : Nat) : SayOk Try.prog (spec_l1Var.S N) := sayOk_mk (N := N) (H := spec_l1Var.H) (preps := [⟨[], [], [], []⟩]) (l := spec_l1Var.says) (fn := Try.f134) (c := bodyOf Try.f134)
  (by kernel_rfl) (by kernel_rfl) (by kernel_rfl) (by kernel_rfl) (by kernel_rfl) (by kernel_rfl) (by kernel_rfl)
  (fun N => SayAll.cons (spec_l1Size.say N) (SayAll.cons (spec_l1Fixed.say N) (SayAll.nil))) (fun a s => by kernel_rfl)

/-! ### loop.example/g00206/spec.l1Bytes: function 159 -/
noncomputable def spec_l1Bytes.H : Hints := hintsOf [(20, .join [⟨.normal, [102, 103, 104], [1, 3], [.one (.ptr 0 0), ak_s], [.cells [ck_i, ck_i, ck_i, ck_i, ck_b, ck_s, .sh (.rows (.pair (.int .i64) (.int .i64)))]], [⟨[], [], [], []⟩]⟩]),
  (2000016, .loop ⟨.normal, [102, 103], [1, 3, 104], [.one (.ptr 0 0), ak_s, ak_i], [.cells [ck_i, ck_i, ck_i, ck_i, ck_b, ck_s, .sh (.rows (.pair (.int .i64) (.int .i64)))]], [⟨[], [], [], []⟩]⟩ [⟨(.exit 1), [], [3], [ak_s], [.cells [ck_i, ck_i, ck_i, ck_i, ck_b, ck_s, .sh (.rows (.pair (.int .i64) (.int .i64)))]], [⟨[], [], [], []⟩]⟩]),
  (32, .join [⟨.normal, [4], [1, 7, 8], [.one (.ptr 0 0), ak_i, ak_s], [.cells [ck_i, ck_i, ck_i, ck_i, ck_b, ck_s, .sh (.rows (.pair (.int .i64) (.int .i64)))]], [⟨[], [], [], []⟩]⟩]),
  (34, .join [⟨.normal, [4, 8], [1, 7], [.one (.ptr 0 0), ak_i], [.cells [ck_i, ck_i, ck_i, ck_i, ck_b, ck_s, .sh (.rows (.pair (.int .i64) (.int .i64)))]], [⟨[], [], [], []⟩]⟩])]
noncomputable def spec_l1Bytes.says (N : Nat) : List Say := [spec_l1Var.S N, spec_l1Fixed.S N]
noncomputable def spec_l1Bytes.call (N : Nat) : CallK := callBy (spec_l1Bytes.says N)
noncomputable def spec_l1Bytes.qt (N : Nat) : FuncId → List PV → Sig → Cl := qtBy (spec_l1Bytes.says N)
noncomputable def spec_l1Bytes.l0.hd : Alt := ⟨.normal, [102, 103], [1, 3, 104], [.one (.ptr 0 0), ak_s, ak_i], [.cells [ck_i, ck_i, ck_i, ck_i, ck_b, ck_s, .sh (.rows (.pair (.int .i64) (.int .i64)))]], [⟨[], [], [], []⟩]⟩
noncomputable def spec_l1Bytes.l0.outs : List Alt := [⟨(.exit 1), [], [3], [ak_s], [.cells [ck_i, ck_i, ck_i, ck_i, ck_b, ck_s, .sh (.rows (.pair (.int .i64) (.int .i64)))]], [⟨[], [], [], []⟩]⟩]
noncomputable def spec_l1Bytes.l0 (N : Nat) (t102 : (List (Int × Int))) (t103 : Int) (C : ByteArray) (t104 : Int) (p0_0 : Int) (p0_1 : Int) (p0_2 : Int) (p0_3 : Int) (p0_4 : Bool) (p0_5 : ByteArray) (p0_6 : (List (Int × Int))) : Option ((ByteArray × Unit) × ((Int × (Int × (Int × (Int × (Bool × (ByteArray × ((List (Int × Int)) × Unit))))))) × Unit)) :=
  loopK Try.prog spec_l1Bytes.call spec_l1Bytes.qt spec_l1Bytes.H (codeAt (bodyOf Try.f159) [1, 1, 1, 0, 1, 0, 1, 1, 1, 1, 1, 1, 1, 1, 1, 0, 1, 0, 1, 0, 0]) 1 spec_l1Bytes.l0.hd spec_l1Bytes.l0.outs [(102, .rows false (.pair (.int .i64) (.int .i64)) t102), (103, .v (.int .i64 t103))] N (((), (C, (t104, ()))), ((p0_0, (p0_1, (p0_2, (p0_3, (p0_4, (p0_5, (p0_6, ()))))))), ()))
noncomputable def spec_l1Bytes.l1.hd : Alt := ⟨.normal, [102, 103], [1, 3, 104], [.one (.ptr 0 0), ak_s, ak_i], [.cells [ck_i, ck_i, ck_i, ck_i, ck_b, ck_s, .sh (.rows (.pair (.int .i64) (.int .i64)))]], [⟨[], [], [], []⟩]⟩
noncomputable def spec_l1Bytes.l1.outs : List Alt := [⟨(.exit 1), [], [3], [ak_s], [.cells [ck_i, ck_i, ck_i, ck_i, ck_b, ck_s, .sh (.rows (.pair (.int .i64) (.int .i64)))]], [⟨[], [], [], []⟩]⟩]
noncomputable def spec_l1Bytes.l1 (N : Nat) (t1021 : (List (Int × Int))) (t1031 : Int) (C1 : ByteArray) (t1041 : Int) (p0_01 : Int) (p0_11 : Int) (p0_21 : Int) (p0_31 : Int) (p0_41 : Bool) (p0_51 : ByteArray) (p0_61 : (List (Int × Int))) : Option ((ByteArray × Unit) × ((Int × (Int × (Int × (Int × (Bool × (ByteArray × ((List (Int × Int)) × Unit))))))) × Unit)) :=
  loopK Try.prog spec_l1Bytes.call spec_l1Bytes.qt spec_l1Bytes.H (codeAt (bodyOf Try.f159) [1, 1, 1, 0, 1, 0, 1, 1, 1, 1, 1, 1, 1, 1, 1, 0, 1, 0, 1, 0, 0]) 1 spec_l1Bytes.l1.hd spec_l1Bytes.l1.outs [(102, .rows false (.pair (.int .i64) (.int .i64)) t1021), (103, .v (.int .i64 t1031))] N (((), (C1, (t1041, ()))), ((p0_01, (p0_11, (p0_21, (p0_31, (p0_41, (p0_51, (p0_61, ()))))))), ()))
noncomputable def spec_l1Bytes (N : Nat) (G_0 : Int) (G_1 : Int) (G_2 : Int) (G_3 : Int) (G_4 : Bool) (G_5 : ByteArray) (G_6 : (List (Int × Int))) : Option ((ByteArray × Unit) × Unit) :=
  ofFn Try.prog spec_l1Bytes.call spec_l1Bytes.qt spec_l1Bytes.H N Try.f159 [.agg [ck_i, ck_i, ck_i, ck_i, ck_b, ck_s, .sh (.rows (.pair (.int .i64) (.int .i64)))]] [] [ak_s] [] [⟨[], [], [], []⟩] ((G_0, (G_1, (G_2, (G_3, (G_4, (G_5, (G_6, ()))))))), ()) ()
noncomputable def spec_l1Bytes.S (N : Nat) : Say := ⟨false, 159, [.agg [ck_i, ck_i, ck_i, ck_i, ck_b, ck_s, .sh (.rows (.pair (.int .i64) (.int .i64)))]], [], [ak_s], [], fun a s => spec_l1Bytes N a.1.1 a.1.2.1 a.1.2.2.1 a.1.2.2.2.1 a.1.2.2.2.2.1 a.1.2.2.2.2.2.1 a.1.2.2.2.2.2.2.1⟩
set_option maxRecDepth 100000 in
theorem spec_l1Bytes.l1.eq (N : Nat) (t1021 : (List (Int × Int))) (t1031 : Int) (C1 : ByteArray) (t1041 : Int) (p0_01 : Int) (p0_11 : Int) (p0_21 : Int) (p0_31 : Int) (p0_41 : Bool) (p0_51 : ByteArray) (p0_61 : (List (Int × Int))) : spec_l1Bytes.l1 (N + 1) t1021 t1031 C1 t1041 p0_01 p0_11 p0_21 p0_31 p0_41 p0_51 p0_61 =
 sel (decide (t1041 < t1031))
  (
  andK (α := ((Unit × (ByteArray × Unit)) × ((Int × (Int × (Int × (Int × (Bool × (ByteArray × ((List (Int × Int)) × Unit))))))) × Unit))) (
   chk ((decide (0 ≤ t1041)) && (decide (t1041 < (t1021.length : Int)))) (
   sel (decide (0 < t1041))
    (
    chk ((decide (0 ≤ (IntKind.i64.wrap (t1041 - 1)))) && (decide ((IntKind.i64.wrap (t1041 - 1)) < (p0_61.length : Int)))) (
    andK (spec_l1Var N (IntKind.i64.wrap ((IntKind.i64.wrap ((rdS (.pair (.int .i64) (.int .i64)) p0_61 (Int.toNat (IntKind.i64.wrap (t1041 - 1)))).1 - (rdS (.pair (.int .i64) (.int .i64)) t1021 (Int.toNat t1041)).2)) - 2))) fun u42 =>
    andK (spec_l1Var N (IntKind.i64.wrap ((rdS (.pair (.int .i64) (.int .i64)) t1021 (Int.toNat t1041)).2 - (rdS (.pair (.int .i64) (.int .i64)) t1021 (Int.toNat t1041)).1))) fun u43 =>
    chk (decide (u42.1.1.size + u43.1.1.size ≤ 9223372036854775807)) (
    chk (decide (C1.size + (u42.1.1 ++ u43.1.1).size ≤ 9223372036854775807)) (
    some ((((), ((C1 ++ (u42.1.1 ++ u43.1.1)), ())), ((p0_01, (p0_11, (p0_21, (p0_31, (p0_41, (p0_51, (p0_61, ()))))))), ())))))))
    (
    some ((((), (C1, ())), ((p0_01, (p0_11, (p0_21, (p0_31, (p0_41, (p0_51, (p0_61, ()))))))), ())))))) fun j44 =>
  spec_l1Bytes.l1 N t1021 t1031 j44.1.2.1 (IntKind.i64.wrap (t1041 + 1)) j44.2.1.1 j44.2.1.2.1 j44.2.1.2.2.1 j44.2.1.2.2.2.1 j44.2.1.2.2.2.2.1 j44.2.1.2.2.2.2.2.1 j44.2.1.2.2.2.2.2.2.1)
  (
  some (((C1, ()), ((p0_01, (p0_11, (p0_21, (p0_31, (p0_41, (p0_51, (p0_61, ()))))))), ())))) := by kernel_rfl
set_option maxRecDepth 100000 in
theorem spec_l1Bytes.l0.eq (N : Nat) (t102 : (List (Int × Int))) (t103 : Int) (C : ByteArray) (t104 : Int) (p0_0 : Int) (p0_1 : Int) (p0_2 : Int) (p0_3 : Int) (p0_4 : Bool) (p0_5 : ByteArray) (p0_6 : (List (Int × Int))) : spec_l1Bytes.l0 (N + 1) t102 t103 C t104 p0_0 p0_1 p0_2 p0_3 p0_4 p0_5 p0_6 =
 sel (decide (t104 < t103))
  (
  andK (α := ((Unit × (ByteArray × Unit)) × ((Int × (Int × (Int × (Int × (Bool × (ByteArray × ((List (Int × Int)) × Unit))))))) × Unit))) (
   chk ((decide (0 ≤ t104)) && (decide (t104 < (t102.length : Int)))) (
   sel (decide (0 < t104))
    (
    chk ((decide (0 ≤ (IntKind.i64.wrap (t104 - 1)))) && (decide ((IntKind.i64.wrap (t104 - 1)) < (p0_6.length : Int)))) (
    andK (spec_l1Var N (IntKind.i64.wrap ((IntKind.i64.wrap ((rdS (.pair (.int .i64) (.int .i64)) p0_6 (Int.toNat (IntKind.i64.wrap (t104 - 1)))).1 - (rdS (.pair (.int .i64) (.int .i64)) t102 (Int.toNat t104)).2)) - 2))) fun u15 =>
    andK (spec_l1Var N (IntKind.i64.wrap ((rdS (.pair (.int .i64) (.int .i64)) t102 (Int.toNat t104)).2 - (rdS (.pair (.int .i64) (.int .i64)) t102 (Int.toNat t104)).1))) fun u16 =>
    chk (decide (u15.1.1.size + u16.1.1.size ≤ 9223372036854775807)) (
    chk (decide (C.size + (u15.1.1 ++ u16.1.1).size ≤ 9223372036854775807)) (
    some ((((), ((C ++ (u15.1.1 ++ u16.1.1)), ())), ((p0_0, (p0_1, (p0_2, (p0_3, (p0_4, (p0_5, (p0_6, ()))))))), ())))))))
    (
    some ((((), (C, ())), ((p0_0, (p0_1, (p0_2, (p0_3, (p0_4, (p0_5, (p0_6, ()))))))), ())))))) fun j17 =>
  spec_l1Bytes.l0 N t102 t103 j17.1.2.1 (IntKind.i64.wrap (t104 + 1)) j17.2.1.1 j17.2.1.2.1 j17.2.1.2.2.1 j17.2.1.2.2.2.1 j17.2.1.2.2.2.2.1 j17.2.1.2.2.2.2.2.1 j17.2.1.2.2.2.2.2.2.1)
  (
  some (((C, ()), ((p0_0, (p0_1, (p0_2, (p0_3, (p0_4, (p0_5, (p0_6, ()))))))), ())))) := by kernel_rfl
set_option maxRecDepth 100000 in
theorem spec_l1Bytes.eq (N : Nat) (G_0 : Int) (G_1 : Int) (G_2 : Int) (G_3 : Int) (G_4 : Bool) (G_5 : ByteArray) (G_6 : (List (Int × Int))) : spec_l1Bytes N G_0 G_1 G_2 G_3 G_4 G_5 G_6 =
 andK (spec_l1Var N G_0) fun u1 =>
 andK (spec_l1Var N (G_5.size : Int)) fun u2 =>
 chk (decide (u2.1.1.size + G_5.size ≤ 9223372036854775807)) (
 sel (decide (G_0 = 16))
  (
  andK (spec_l1Var N G_1) fun u3 =>
  chk (decide (u1.1.1.size + u3.1.1.size ≤ 9223372036854775807)) (
  some (((u1.1.1 ++ u3.1.1), ()), ())))
  (
  sel (decide (G_0 = 17))
   (
   sel (decide (G_0 = 17))
    (
    andK (spec_l1Var N G_1) fun u4 =>
    chk (decide (u1.1.1.size + u4.1.1.size ≤ 9223372036854775807)) (
    andK (spec_l1Var N G_2) fun u5 =>
    chk (decide ((u1.1.1 ++ u4.1.1).size + u5.1.1.size ≤ 9223372036854775807)) (
    some ((((u1.1.1 ++ u4.1.1) ++ u5.1.1), ()), ()))))
    (
    sel (decide (G_0 = 4))
     (
     andK (spec_l1Var N G_1) fun u6 =>
     chk (decide (u1.1.1.size + u6.1.1.size ≤ 9223372036854775807)) (
     andK (spec_l1Var N G_2) fun u7 =>
     chk (decide ((u1.1.1 ++ u6.1.1).size + u7.1.1.size ≤ 9223372036854775807)) (
     andK (spec_l1Var N G_3) fun u8 =>
     chk (decide (((u1.1.1 ++ u6.1.1) ++ u7.1.1).size + u8.1.1.size ≤ 9223372036854775807)) (
     some (((((u1.1.1 ++ u6.1.1) ++ u7.1.1) ++ u8.1.1), ()), ())))))
     (
     sel (decide (G_0 = 28))
      (
      andK (spec_l1Var N G_1) fun u9 =>
      chk (decide (u1.1.1.size + u9.1.1.size ≤ 9223372036854775807)) (
      andK (spec_l1Var N G_2) fun u10 =>
      chk (decide ((u1.1.1 ++ u9.1.1).size + u10.1.1.size ≤ 9223372036854775807)) (
      chk (decide (((u1.1.1 ++ u9.1.1) ++ u10.1.1).size + (u2.1.1 ++ G_5).size ≤ 9223372036854775807)) (
      some (((((u1.1.1 ++ u9.1.1) ++ u10.1.1) ++ (u2.1.1 ++ G_5)), ()), ())))))
      (
      sel (decide (G_0 = 2))
       (
       chk (decide (0 < (G_6.length : Int))) (
       andK (spec_l1Var N (rdS (.pair (.int .i64) (.int .i64)) G_6 0).2) fun u11 =>
       andK (spec_l1Var N G_1) fun u12 =>
       chk (decide (u11.1.1.size + u12.1.1.size ≤ 9223372036854775807)) (
       andK (spec_l1Var N (IntKind.i64.wrap ((G_6.length : Int) - 1))) fun u13 =>
       chk (decide ((u11.1.1 ++ u12.1.1).size + u13.1.1.size ≤ 9223372036854775807)) (
       chk (decide (0 < (G_6.length : Int))) (
       chk (decide (0 < (G_6.length : Int))) (
       andK (spec_l1Var N (IntKind.i64.wrap ((rdS (.pair (.int .i64) (.int .i64)) G_6 0).2 - (rdS (.pair (.int .i64) (.int .i64)) G_6 0).1))) fun u14 =>
       chk (decide (((u11.1.1 ++ u12.1.1) ++ u13.1.1).size + u14.1.1.size ≤ 9223372036854775807)) (
       chk (decide (u1.1.1.size + (((u11.1.1 ++ u12.1.1) ++ u13.1.1) ++ u14.1.1).size ≤ 9223372036854775807)) (
       andK (spec_l1Bytes.l0 N G_6 (G_6.length : Int) (u1.1.1 ++ (((u11.1.1 ++ u12.1.1) ++ u13.1.1) ++ u14.1.1)) 0 G_0 G_1 G_2 G_3 G_4 G_5 G_6) fun l18 =>
       some ((l18.1.1, ()), ())))))))))
       (
       sel (decide (G_0 = 6))
        (
        andK (spec_l1Var N G_1) fun u19 =>
        chk (decide (u1.1.1.size + u19.1.1.size ≤ 9223372036854775807)) (
        chk (decide ((u1.1.1 ++ u19.1.1).size + (u2.1.1 ++ G_5).size ≤ 9223372036854775807)) (
        some ((((u1.1.1 ++ u19.1.1) ++ (u2.1.1 ++ G_5)), ()), ()))))
        (
        sel (decide (G_0 = 7))
         (
         chk (decide (u1.1.1.size + (u2.1.1 ++ G_5).size ≤ 9223372036854775807)) (
         some (((u1.1.1 ++ (u2.1.1 ++ G_5)), ()), ())))
         (
         sel (decide (G_0 = 8))
          (
          andK (α := ((Unit × (Int × (ByteArray × Unit))) × ((Int × (Int × (Int × (Int × (Bool × (ByteArray × ((List (Int × Int)) × Unit))))))) × Unit))) (
           sel (!(decide (G_2 = 0)))
            (
            andK (spec_l1Var N G_2) fun u20 =>
            some ((((), (14, (u20.1.1, ()))), ((G_0, (G_1, (G_2, (G_3, (G_4, (G_5, (G_6, ()))))))), ()))))
            (
            some ((((), (10, ((⟨#[]⟩ : ByteArray), ()))), ((G_0, (G_1, (G_2, (G_3, (G_4, (G_5, (G_6, ()))))))), ()))))) fun j21 =>
          andK (α := ((Unit × (Int × Unit)) × ((Int × (Int × (Int × (Int × (Bool × (ByteArray × ((List (Int × Int)) × Unit))))))) × Unit))) (
           sel j21.2.1.2.2.2.2.1
            (
            some ((((), ((Go.bits .or .i64 j21.1.2.1 1), ())), ((j21.2.1.1, (j21.2.1.2.1, (j21.2.1.2.2.1, (j21.2.1.2.2.2.1, (j21.2.1.2.2.2.2.1, (j21.2.1.2.2.2.2.2.1, (j21.2.1.2.2.2.2.2.2.1, ()))))))), ()))))
            (
            some ((((), (j21.1.2.1, ())), ((j21.2.1.1, (j21.2.1.2.1, (j21.2.1.2.2.1, (j21.2.1.2.2.2.1, (j21.2.1.2.2.2.2.1, (j21.2.1.2.2.2.2.2.1, (j21.2.1.2.2.2.2.2.2.1, ()))))))), ()))))) fun j22 =>
          andK (spec_l1Var N j22.1.2.1) fun u23 =>
          andK (spec_l1Var N j22.2.1.2.1) fun u24 =>
          chk (decide (u23.1.1.size + u24.1.1.size ≤ 9223372036854775807)) (
          chk (decide ((u23.1.1 ++ u24.1.1).size + j21.1.2.2.1.size ≤ 9223372036854775807)) (
          chk (decide (((u23.1.1 ++ u24.1.1) ++ j21.1.2.2.1).size + (u2.1.1 ++ G_5).size ≤ 9223372036854775807)) (
          some (((((u23.1.1 ++ u24.1.1) ++ j21.1.2.2.1) ++ (u2.1.1 ++ G_5)), ()), ())))))
          (
          sel (decide (G_0 = 24))
           (
           andK (spec_l1Var N G_1) fun u25 =>
           chk (decide (u1.1.1.size + u25.1.1.size ≤ 9223372036854775807)) (
           andK (spec_l1Var N G_2) fun u26 =>
           chk (decide ((u1.1.1 ++ u25.1.1).size + u26.1.1.size ≤ 9223372036854775807)) (
           andK (spec_l1Fixed N (G_5.size : Int) 1) fun u27 =>
           chk (decide (((u1.1.1 ++ u25.1.1) ++ u26.1.1).size + u27.1.1.size ≤ 9223372036854775807)) (
           chk (decide ((((u1.1.1 ++ u25.1.1) ++ u26.1.1) ++ u27.1.1).size + G_5.size ≤ 9223372036854775807)) (
           andK (spec_l1Fixed N G_3 1) fun u28 =>
           chk (decide (((((u1.1.1 ++ u25.1.1) ++ u26.1.1) ++ u27.1.1) ++ G_5).size + u28.1.1.size ≤ 9223372036854775807)) (
           some (((((((u1.1.1 ++ u25.1.1) ++ u26.1.1) ++ u27.1.1) ++ G_5) ++ u28.1.1), ()), ())))))))
           (
           sel (decide (G_0 = 26))
            (
            sel (decide (G_0 = 26))
             (
             chk (decide (u1.1.1.size + G_5.size ≤ 9223372036854775807)) (
             some (((u1.1.1 ++ G_5), ()), ())))
             (
             sel (decide (G_0 = 48))
              (
              andK (spec_l1Var N 49) fun u29 =>
              chk (decide (u29.1.1.size + (u2.1.1 ++ G_5).size ≤ 9223372036854775807)) (
              some (((u29.1.1 ++ (u2.1.1 ++ G_5)), ()), ())))
              (
              some ((u1.1.1, ()), ()))))
            (
            sel (decide (G_0 = 27))
             (
             chk (decide (u1.1.1.size + G_5.size ≤ 9223372036854775807)) (
             some (((u1.1.1 ++ G_5), ()), ())))
             (
             sel (decide (G_0 = 48))
              (
              andK (spec_l1Var N 49) fun u30 =>
              chk (decide (u30.1.1.size + (u2.1.1 ++ G_5).size ≤ 9223372036854775807)) (
              some (((u30.1.1 ++ (u2.1.1 ++ G_5)), ()), ())))
              (
              some ((u1.1.1, ()), ())))))))))))))
   (
   sel (decide (G_0 = 5))
    (
    andK (spec_l1Var N G_1) fun u31 =>
    chk (decide (u1.1.1.size + u31.1.1.size ≤ 9223372036854775807)) (
    andK (spec_l1Var N G_2) fun u32 =>
    chk (decide ((u1.1.1 ++ u31.1.1).size + u32.1.1.size ≤ 9223372036854775807)) (
    some ((((u1.1.1 ++ u31.1.1) ++ u32.1.1), ()), ()))))
    (
    sel (decide (G_0 = 4))
     (
     andK (spec_l1Var N G_1) fun u33 =>
     chk (decide (u1.1.1.size + u33.1.1.size ≤ 9223372036854775807)) (
     andK (spec_l1Var N G_2) fun u34 =>
     chk (decide ((u1.1.1 ++ u33.1.1).size + u34.1.1.size ≤ 9223372036854775807)) (
     andK (spec_l1Var N G_3) fun u35 =>
     chk (decide (((u1.1.1 ++ u33.1.1) ++ u34.1.1).size + u35.1.1.size ≤ 9223372036854775807)) (
     some (((((u1.1.1 ++ u33.1.1) ++ u34.1.1) ++ u35.1.1), ()), ())))))
     (
     sel (decide (G_0 = 28))
      (
      andK (spec_l1Var N G_1) fun u36 =>
      chk (decide (u1.1.1.size + u36.1.1.size ≤ 9223372036854775807)) (
      andK (spec_l1Var N G_2) fun u37 =>
      chk (decide ((u1.1.1 ++ u36.1.1).size + u37.1.1.size ≤ 9223372036854775807)) (
      chk (decide (((u1.1.1 ++ u36.1.1) ++ u37.1.1).size + (u2.1.1 ++ G_5).size ≤ 9223372036854775807)) (
      some (((((u1.1.1 ++ u36.1.1) ++ u37.1.1) ++ (u2.1.1 ++ G_5)), ()), ())))))
      (
      sel (decide (G_0 = 2))
       (
       chk (decide (0 < (G_6.length : Int))) (
       andK (spec_l1Var N (rdS (.pair (.int .i64) (.int .i64)) G_6 0).2) fun u38 =>
       andK (spec_l1Var N G_1) fun u39 =>
       chk (decide (u38.1.1.size + u39.1.1.size ≤ 9223372036854775807)) (
       andK (spec_l1Var N (IntKind.i64.wrap ((G_6.length : Int) - 1))) fun u40 =>
       chk (decide ((u38.1.1 ++ u39.1.1).size + u40.1.1.size ≤ 9223372036854775807)) (
       chk (decide (0 < (G_6.length : Int))) (
       chk (decide (0 < (G_6.length : Int))) (
       andK (spec_l1Var N (IntKind.i64.wrap ((rdS (.pair (.int .i64) (.int .i64)) G_6 0).2 - (rdS (.pair (.int .i64) (.int .i64)) G_6 0).1))) fun u41 =>
       chk (decide (((u38.1.1 ++ u39.1.1) ++ u40.1.1).size + u41.1.1.size ≤ 9223372036854775807)) (
       chk (decide (u1.1.1.size + (((u38.1.1 ++ u39.1.1) ++ u40.1.1) ++ u41.1.1).size ≤ 9223372036854775807)) (
       andK (spec_l1Bytes.l1 N G_6 (G_6.length : Int) (u1.1.1 ++ (((u38.1.1 ++ u39.1.1) ++ u40.1.1) ++ u41.1.1)) 0 G_0 G_1 G_2 G_3 G_4 G_5 G_6) fun l45 =>
       some ((l45.1.1, ()), ())))))))))
       (
       sel (decide (G_0 = 6))
        (
        andK (spec_l1Var N G_1) fun u46 =>
        chk (decide (u1.1.1.size + u46.1.1.size ≤ 9223372036854775807)) (
        chk (decide ((u1.1.1 ++ u46.1.1).size + (u2.1.1 ++ G_5).size ≤ 9223372036854775807)) (
        some ((((u1.1.1 ++ u46.1.1) ++ (u2.1.1 ++ G_5)), ()), ()))))
        (
        sel (decide (G_0 = 7))
         (
         chk (decide (u1.1.1.size + (u2.1.1 ++ G_5).size ≤ 9223372036854775807)) (
         some (((u1.1.1 ++ (u2.1.1 ++ G_5)), ()), ())))
         (
         sel (decide (G_0 = 8))
          (
          andK (α := ((Unit × (Int × (ByteArray × Unit))) × ((Int × (Int × (Int × (Int × (Bool × (ByteArray × ((List (Int × Int)) × Unit))))))) × Unit))) (
           sel (!(decide (G_2 = 0)))
            (
            andK (spec_l1Var N G_2) fun u47 =>
            some ((((), (14, (u47.1.1, ()))), ((G_0, (G_1, (G_2, (G_3, (G_4, (G_5, (G_6, ()))))))), ()))))
            (
            some ((((), (10, ((⟨#[]⟩ : ByteArray), ()))), ((G_0, (G_1, (G_2, (G_3, (G_4, (G_5, (G_6, ()))))))), ()))))) fun j48 =>
          andK (α := ((Unit × (Int × Unit)) × ((Int × (Int × (Int × (Int × (Bool × (ByteArray × ((List (Int × Int)) × Unit))))))) × Unit))) (
           sel j48.2.1.2.2.2.2.1
            (
            some ((((), ((Go.bits .or .i64 j48.1.2.1 1), ())), ((j48.2.1.1, (j48.2.1.2.1, (j48.2.1.2.2.1, (j48.2.1.2.2.2.1, (j48.2.1.2.2.2.2.1, (j48.2.1.2.2.2.2.2.1, (j48.2.1.2.2.2.2.2.2.1, ()))))))), ()))))
            (
            some ((((), (j48.1.2.1, ())), ((j48.2.1.1, (j48.2.1.2.1, (j48.2.1.2.2.1, (j48.2.1.2.2.2.1, (j48.2.1.2.2.2.2.1, (j48.2.1.2.2.2.2.2.1, (j48.2.1.2.2.2.2.2.2.1, ()))))))), ()))))) fun j49 =>
          andK (spec_l1Var N j49.1.2.1) fun u50 =>
          andK (spec_l1Var N j49.2.1.2.1) fun u51 =>
          chk (decide (u50.1.1.size + u51.1.1.size ≤ 9223372036854775807)) (
          chk (decide ((u50.1.1 ++ u51.1.1).size + j48.1.2.2.1.size ≤ 9223372036854775807)) (
          chk (decide (((u50.1.1 ++ u51.1.1) ++ j48.1.2.2.1).size + (u2.1.1 ++ G_5).size ≤ 9223372036854775807)) (
          some (((((u50.1.1 ++ u51.1.1) ++ j48.1.2.2.1) ++ (u2.1.1 ++ G_5)), ()), ())))))
          (
          sel (decide (G_0 = 24))
           (
           andK (spec_l1Var N G_1) fun u52 =>
           chk (decide (u1.1.1.size + u52.1.1.size ≤ 9223372036854775807)) (
           andK (spec_l1Var N G_2) fun u53 =>
           chk (decide ((u1.1.1 ++ u52.1.1).size + u53.1.1.size ≤ 9223372036854775807)) (
           andK (spec_l1Fixed N (G_5.size : Int) 1) fun u54 =>
           chk (decide (((u1.1.1 ++ u52.1.1) ++ u53.1.1).size + u54.1.1.size ≤ 9223372036854775807)) (
           chk (decide ((((u1.1.1 ++ u52.1.1) ++ u53.1.1) ++ u54.1.1).size + G_5.size ≤ 9223372036854775807)) (
           andK (spec_l1Fixed N G_3 1) fun u55 =>
           chk (decide (((((u1.1.1 ++ u52.1.1) ++ u53.1.1) ++ u54.1.1) ++ G_5).size + u55.1.1.size ≤ 9223372036854775807)) (
           some (((((((u1.1.1 ++ u52.1.1) ++ u53.1.1) ++ u54.1.1) ++ G_5) ++ u55.1.1), ()), ())))))))
           (
           sel (decide (G_0 = 26))
            (
            sel (decide (G_0 = 26))
             (
             chk (decide (u1.1.1.size + G_5.size ≤ 9223372036854775807)) (
             some (((u1.1.1 ++ G_5), ()), ())))
             (
             sel (decide (G_0 = 48))
              (
              andK (spec_l1Var N 49) fun u56 =>
              chk (decide (u56.1.1.size + (u2.1.1 ++ G_5).size ≤ 9223372036854775807)) (
              some (((u56.1.1 ++ (u2.1.1 ++ G_5)), ()), ())))
              (
              some ((u1.1.1, ()), ()))))
            (
            sel (decide (G_0 = 27))
             (
             chk (decide (u1.1.1.size + G_5.size ≤ 9223372036854775807)) (
             some (((u1.1.1 ++ G_5), ()), ())))
             (
             sel (decide (G_0 = 48))
              (
              andK (spec_l1Var N 49) fun u57 =>
              chk (decide (u57.1.1.size + (u2.1.1 ++ G_5).size ≤ 9223372036854775807)) (
              some (((u57.1.1 ++ (u2.1.1 ++ G_5)), ()), ())))
              (
              some ((u1.1.1, ()), ()))))))))))))))) := by kernel_rfl
set_option maxRecDepth 100000 in
theorem spec_l1Bytes.say (N : Nat) : SayOk Try.prog (spec_l1Bytes.S N) := sayOk_mk (N := N) (H := spec_l1Bytes.H) (preps := [⟨[], [], [], []⟩]) (l := spec_l1Bytes.says) (fn := Try.f159) (c := bodyOf Try.f159)
  (by kernel_rfl) (by kernel_rfl) (by kernel_rfl) (by kernel_rfl) (by kernel_rfl) (by kernel_rfl) (by kernel_rfl)
  (fun N => SayAll.cons (spec_l1Var.say N) (SayAll.cons (spec_l1Fixed.say N) (SayAll.nil))) (fun a s => by kernel_rfl)

/-! ### loop.example/g00206/spec.FramesBytes: function 115 -/
noncomputable def spec_FramesBytes.H : Hints := hintsOf [(2000005, .loop ⟨.normal, [10, 11], [4, 12], [ak_s, ak_i], [], [⟨[], [], [], []⟩]⟩ [⟨.ret, [], [2, 3], [ak_s, ak_b], [], [⟨[], [], [], []⟩]⟩, ⟨(.exit 0), [], [4], [ak_s], [], [⟨[], [], [], []⟩]⟩])]
noncomputable def spec_FramesBytes.says (N : Nat) : List Say := [spec_GoodFrame.S N, spec_l1Bytes.S N]
noncomputable def spec_FramesBytes.call (N : Nat) : CallK := callBy (spec_FramesBytes.says N)
noncomputable def spec_FramesBytes.qt (N : Nat) : FuncId → List PV → Sig → Cl := qtBy (spec_FramesBytes.says N)
noncomputable def spec_FramesBytes.l0.hd : Alt := ⟨.normal, [10, 11], [4, 12], [ak_s, ak_i], [], [⟨[], [], [], []⟩]⟩
noncomputable def spec_FramesBytes.l0.outs : List Alt := [⟨.ret, [], [2, 3], [ak_s, ak_b], [], [⟨[], [], [], []⟩]⟩, ⟨(.exit 0), [], [4], [ak_s], [], [⟨[], [], [], []⟩]⟩]
noncomputable def spec_FramesBytes.l0 (N : Nat) (t10 : (List (Int × (Int × (Int × (Int × (Bool × (ByteArray × (List (Int × Int)))))))))) (t11 : Int) (s : ByteArray) (t12 : Int) : Option (((ByteArray × (Bool × Unit)) × Unit) ⊕ ((ByteArray × Unit) × Unit)) :=
  loopK Try.prog spec_FramesBytes.call spec_FramesBytes.qt spec_FramesBytes.H (codeAt (bodyOf Try.f115) [1, 1, 1, 0, 1, 0, 0]) 0 spec_FramesBytes.l0.hd spec_FramesBytes.l0.outs [(10, .rows false (.pair (.int .i64) (.pair (.int .i64) (.pair (.int .i64) (.pair (.int .i64) (.pair .bool (.pair .str (.rows (.pair (.int .i64) (.int .i64))))))))) t10), (11, .v (.int .i64 t11))] N ((s, (t12, ())), ())
noncomputable def spec_FramesBytes (N : Nat) (l : (List (Int × (Int × (Int × (Int × (Bool × (ByteArray × (List (Int × Int)))))))))) : Option ((ByteArray × (Bool × Unit)) × Unit) :=
  ofFn Try.prog spec_FramesBytes.call spec_FramesBytes.qt spec_FramesBytes.H N Try.f115 [.one (.sh (.rows (.pair (.int .i64) (.pair (.int .i64) (.pair (.int .i64) (.pair (.int .i64) (.pair .bool (.pair .str (.rows (.pair (.int .i64) (.int .i64)))))))))))] [] [ak_s, ak_b] [] [⟨[], [], [], []⟩] (l, ()) ()
noncomputable def spec_FramesBytes.S (N : Nat) : Say := ⟨false, 115, [.one (.sh (.rows (.pair (.int .i64) (.pair (.int .i64) (.pair (.int .i64) (.pair (.int .i64) (.pair .bool (.pair .str (.rows (.pair (.int .i64) (.int .i64)))))))))))], [], [ak_s, ak_b], [], fun a s => spec_FramesBytes N a.1⟩
set_option maxRecDepth 100000 in
theorem spec_FramesBytes.l0.eq (N : Nat) (t10 : (List (Int × (Int × (Int × (Int × (Bool × (ByteArray × (List (Int × Int)))))))))) (t11 : Int) (s : ByteArray) (t12 : Int) : spec_FramesBytes.l0 (N + 1) t10 t11 s t12 =
 sel (decide (t12 < t11))
  (
  chk ((decide (0 ≤ t12)) && (decide (t12 < (t10.length : Int)))) (
  andK (spec_GoodFrame N (rdS (.pair (.int .i64) (.pair (.int .i64) (.pair (.int .i64) (.pair (.int .i64) (.pair .bool (.pair .str (.rows (.pair (.int .i64) (.int .i64))))))))) t10 (Int.toNat t12)).1 (rdS (.pair (.int .i64) (.pair (.int .i64) (.pair (.int .i64) (.pair (.int .i64) (.pair .bool (.pair .str (.rows (.pair (.int .i64) (.int .i64))))))))) t10 (Int.toNat t12)).2.1 (rdS (.pair (.int .i64) (.pair (.int .i64) (.pair (.int .i64) (.pair (.int .i64) (.pair .bool (.pair .str (.rows (.pair (.int .i64) (.int .i64))))))))) t10 (Int.toNat t12)).2.2.1 (rdS (.pair (.int .i64) (.pair (.int .i64) (.pair (.int .i64) (.pair (.int .i64) (.pair .bool (.pair .str (.rows (.pair (.int .i64) (.int .i64))))))))) t10 (Int.toNat t12)).2.2.2.1 (rdS (.pair (.int .i64) (.pair (.int .i64) (.pair (.int .i64) (.pair (.int .i64) (.pair .bool (.pair .str (.rows (.pair (.int .i64) (.int .i64))))))))) t10 (Int.toNat t12)).2.2.2.2.1 (rdS (.pair (.int .i64) (.pair (.int .i64) (.pair (.int .i64) (.pair (.int .i64) (.pair .bool (.pair .str (.rows (.pair (.int .i64) (.int .i64))))))))) t10 (Int.toNat t12)).2.2.2.2.2.1 (rdS (.pair (.int .i64) (.pair (.int .i64) (.pair (.int .i64) (.pair (.int .i64) (.pair .bool (.pair .str (.rows (.pair (.int .i64) (.int .i64))))))))) t10 (Int.toNat t12)).2.2.2.2.2.2) fun u1 =>
  sel (!u1.1.1)
   (
   some (.inl (((⟨#[]⟩ : ByteArray), (false, ())), ())))
   (
   andK (spec_l1Bytes N (rdS (.pair (.int .i64) (.pair (.int .i64) (.pair (.int .i64) (.pair (.int .i64) (.pair .bool (.pair .str (.rows (.pair (.int .i64) (.int .i64))))))))) t10 (Int.toNat t12)).1 (rdS (.pair (.int .i64) (.pair (.int .i64) (.pair (.int .i64) (.pair (.int .i64) (.pair .bool (.pair .str (.rows (.pair (.int .i64) (.int .i64))))))))) t10 (Int.toNat t12)).2.1 (rdS (.pair (.int .i64) (.pair (.int .i64) (.pair (.int .i64) (.pair (.int .i64) (.pair .bool (.pair .str (.rows (.pair (.int .i64) (.int .i64))))))))) t10 (Int.toNat t12)).2.2.1 (rdS (.pair (.int .i64) (.pair (.int .i64) (.pair (.int .i64) (.pair (.int .i64) (.pair .bool (.pair .str (.rows (.pair (.int .i64) (.int .i64))))))))) t10 (Int.toNat t12)).2.2.2.1 (rdS (.pair (.int .i64) (.pair (.int .i64) (.pair (.int .i64) (.pair (.int .i64) (.pair .bool (.pair .str (.rows (.pair (.int .i64) (.int .i64))))))))) t10 (Int.toNat t12)).2.2.2.2.1 (rdS (.pair (.int .i64) (.pair (.int .i64) (.pair (.int .i64) (.pair (.int .i64) (.pair .bool (.pair .str (.rows (.pair (.int .i64) (.int .i64))))))))) t10 (Int.toNat t12)).2.2.2.2.2.1 (rdS (.pair (.int .i64) (.pair (.int .i64) (.pair (.int .i64) (.pair (.int .i64) (.pair .bool (.pair .str (.rows (.pair (.int .i64) (.int .i64))))))))) t10 (Int.toNat t12)).2.2.2.2.2.2) fun u2 =>
   chk (decide (s.size + u2.1.1.size ≤ 9223372036854775807)) (
   spec_FramesBytes.l0 N t10 t11 (s ++ u2.1.1) (IntKind.i64.wrap (t12 + 1))))))
  (
  some (.inr (((s, ()), ())))) := by kernel_rfl
set_option maxRecDepth 100000 in
theorem spec_FramesBytes.eq (N : Nat) (l : (List (Int × (Int × (Int × (Int × (Bool × (ByteArray × (List (Int × Int)))))))))) : spec_FramesBytes N l =
 sel (decide (40 < (l.length : Int)))
  (
  some (((⟨#[]⟩ : ByteArray), (false, ())), ()))
  (
  andK (spec_FramesBytes.l0 N l (l.length : Int) (⟨#[]⟩ : ByteArray) 0) fun l3 =>
  orK l3 (fun x4 =>
   some ((x4.1.1, (x4.1.2.1, ())), ()))
   (fun x5 =>
   sel (decide (1500 < (x5.1.1.size : Int)))
    (
    some (((⟨#[]⟩ : ByteArray), (false, ())), ()))
    (
    some ((x5.1.1, (true, ())), ())))) := by kernel_rfl
set_option maxRecDepth 100000 in
theorem spec_FramesBytes.say (N : Nat) : SayOk Try.prog (spec_FramesBytes.S N) := sayOk_mk (N := N) (H := spec_FramesBytes.H) (preps := [⟨[], [], [], []⟩]) (l := spec_FramesBytes.says) (fn := Try.f115) (c := bodyOf Try.f115)
  (by kernel_rfl) (by kernel_rfl) (by kernel_rfl) (by kernel_rfl) (by kernel_rfl) (by kernel_rfl) (by kernel_rfl)
  (fun N => SayAll.cons (spec_GoodFrame.say N) (SayAll.cons (spec_l1Bytes.say N) (SayAll.nil))) (fun a s => by kernel_rfl)

/-! ### (*loop.example/g00206/spec.l1Cur).packet: function 57 -/
noncomputable def spec_l1Cur_packet.H : Hints := hintsOf [(7, .join [⟨.normal, [], [0, 2, 6], [.one (.ptr 0 0), .one (.ptr 1 0), .one (.ptr 2 0)], [.cells [.sh (.rows (.int .u8)), ck_i, .sh (.int .u64)], .cells [ck_i, ck_i, ck_i, ck_s, ck_s, ck_s, ck_s, .nil], .cells [ck_i, ck_i, ck_i, ck_s, ck_s, ck_s, ck_s, .nil]], [⟨[], [], [], []⟩]⟩]),
  (5000007, .join [⟨.normal, [], [0, 2, 6, 33], [.one (.ptr 0 0), .one (.ptr 1 0), .one (.ptr 2 0), ak_b], [.cells [.sh (.rows (.int .u8)), ck_i, .sh (.int .u64)], .cells [ck_i, ck_i, ck_i, ck_s, ck_s, ck_s, ck_s, .nil], .cells [ck_i, ck_i, ck_i, ck_s, ck_s, ck_s, ck_s, .nil]], [⟨[], [], [], []⟩]⟩]),
  (9, .join [⟨.normal, [], [0, 2, 6], [.one (.ptr 0 0), .one (.ptr 1 0), .one (.ptr 2 0)], [.cells [.sh (.rows (.int .u8)), ck_i, .sh (.int .u64)], .cells [ck_i, ck_i, ck_i, ck_s, ck_s, ck_s, ck_s, .nil], .cells [ck_i, ck_i, ck_i, ck_s, ck_s, ck_s, ck_s, .nil]], [⟨[], [], [], []⟩]⟩]),
  (12, .join [⟨.normal, [], [0, 2, 6, 7], [.one (.ptr 0 0), .one (.ptr 1 0), .one (.ptr 2 0), ak_i], [.cells [.sh (.rows (.int .u8)), ck_i, .sh (.int .u64)], .cells [ck_i, ck_i, ck_i, ck_s, ck_s, ck_s, ck_s, .nil], .cells [ck_i, ck_i, ck_i, ck_s, ck_s, ck_s, ck_s, .nil]], [⟨[], [], [], []⟩]⟩]),
  (5000013, .join [⟨.normal, [7, 8], [0, 2, 6, 51], [.one (.ptr 0 0), .one (.ptr 1 0), .one (.ptr 2 0), ak_b], [.cells [.sh (.rows (.int .u8)), ck_i, .sh (.int .u64)], .cells [ck_i, ck_i, ck_i, ck_s, ck_s, ck_s, ck_s, .nil], .cells [ck_i, ck_i, ck_i, ck_s, ck_s, ck_s, ck_s, .nil]], [⟨[], [], [], []⟩]⟩]),
  (15, .join [⟨.normal, [7], [0, 2, 6, 8], [.one (.ptr 0 0), .one (.ptr 1 0), .one (.ptr 2 0), ak_i], [.cells [.sh (.rows (.int .u8)), ck_i, .sh (.int .u64)], .cells [ck_i, ck_i, ck_i, ck_s, ck_s, ck_s, ck_s, .nil], .cells [ck_i, ck_i, ck_i, ck_s, ck_s, ck_s, ck_s, .nil]], [⟨[], [], [], []⟩]⟩]),
  (17, .join [⟨.normal, [7, 8], [0, 2, 6], [.one (.ptr 0 0), .one (.ptr 1 0), .one (.ptr 2 0)], [.cells [.sh (.rows (.int .u8)), ck_i, .sh (.int .u64)], .cells [ck_i, ck_i, ck_i, ck_s, ck_s, ck_s, ck_s, .nil], .cells [ck_i, ck_i, ck_i, ck_s, ck_s, ck_s, ck_s, .nil]], [⟨[], [], [], []⟩]⟩])]
noncomputable def spec_l1Cur_packet.says (N : Nat) : List Say := [spec_l1Cur_among.S N, spec_l1Cur_id.S N, spec_l1Cur_one.S N, spec_l1Cur_pick.S N, spec_l1Cur_num.S N, spec_FramesBytes.S N, spec_l1Cur_sizedBytes.S N]
noncomputable def spec_l1Cur_packet.call (N : Nat) : CallK := callBy (spec_l1Cur_packet.says N)
noncomputable def spec_l1Cur_packet.qt (N : Nat) : FuncId → List PV → Sig → Cl := qtBy (spec_l1Cur_packet.says N)
noncomputable def spec_l1Cur_packet (N : Nat) (p0_0 : (List Int)) (p0_1 : Int) (p0_2 : Int) : Option (((Int × (Int × (Int × (ByteArray × (ByteArray × (ByteArray × (ByteArray × (Unit × Unit)))))))) × (Int × (Int × (ByteArray × Unit)))) × (((List Int) × (Int × (Int × Unit))) × Unit)) :=
  ofFn Try.prog spec_l1Cur_packet.call spec_l1Cur_packet.qt spec_l1Cur_packet.H N Try.f57 [.one (.ptr 0 0)] [.cells [.sh (.rows (.int .u8)), ck_i, .sh (.int .u64)]] [.agg [ck_i, ck_i, ck_i, ck_s, ck_s, ck_s, ck_s, .nil], ak_i, ak_i, ak_s] [.cells [.sh (.rows (.int .u8)), ck_i, .sh (.int .u64)]] [⟨[], [], [], []⟩] ((), ()) ((p0_0, (p0_1, (p0_2, ()))), ())
noncomputable def spec_l1Cur_packet.S (N : Nat) : Say := ⟨false, 57, [.one (.ptr 0 0)], [.cells [.sh (.rows (.int .u8)), ck_i, .sh (.int .u64)]], [.agg [ck_i, ck_i, ck_i, ck_s, ck_s, ck_s, ck_s, .nil], ak_i, ak_i, ak_s], [.cells [.sh (.rows (.int .u8)), ck_i, .sh (.int .u64)]], fun a s => spec_l1Cur_packet N s.1.1 s.1.2.1 s.1.2.2.1⟩
set_option maxRecDepth 100000 in
theorem spec_l1Cur_packet.eq (N : Nat) (p0_0 : (List Int)) (p0_1 : Int) (p0_2 : Int) : spec_l1Cur_packet N p0_0 p0_1 p0_2 =
 andK (spec_l1Cur_among N [0, 0, 1, 2, 5, 5, 5, 3] p0_0 p0_1 p0_2) fun u1 =>
 andK (spec_l1Cur_id N u1.2.1.1 u1.2.1.2.1 u1.2.1.2.2.1) fun u2 =>
 andK (α := ((Unit × (Unit × (Unit × Unit))) × (((List Int) × (Int × (Int × Unit))) × ((Int × (Int × (Int × (ByteArray × (ByteArray × (ByteArray × (ByteArray × (Unit × Unit)))))))) × ((Int × (Int × (Int × (ByteArray × (ByteArray × (ByteArray × (ByteArray × (Unit × Unit)))))))) × Unit))))) (
  sel (!(decide (u1.1.1 = 5)))
   (
   andK (spec_l1Cur_id N u2.2.1.1 u2.2.1.2.1 u2.2.1.2.2.1) fun u3 =>
   some ((((), ((), ((), ()))), ((u3.2.1.1, (u3.2.1.2.1, (u3.2.1.2.2.1, ()))), ((0, (0, (0, ((⟨#[]⟩ : ByteArray), ((⟨#[]⟩ : ByteArray), ((⟨#[]⟩ : ByteArray), ((⟨#[]⟩ : ByteArray), ((), ())))))))), ((u1.1.1, (0, (1, (u2.1.1, (u3.1.1, ((⟨#[]⟩ : ByteArray), ((⟨#[]⟩ : ByteArray), ((), ())))))))), ()))))))
   (
   andK (spec_l1Cur_one N 2 u2.2.1.1 u2.2.1.2.1 u2.2.1.2.2.1) fun u4 =>
   sel u4.1.1
    (
    some ((((), ((), ((), ()))), ((u4.2.1.1, (u4.2.1.2.1, (u4.2.1.2.2.1, ()))), ((0, (0, (0, ((⟨#[]⟩ : ByteArray), ((⟨#[]⟩ : ByteArray), ((⟨#[]⟩ : ByteArray), ((⟨#[]⟩ : ByteArray), ((), ())))))))), ((u1.1.1, (4, (0, (u2.1.1, ((⟨#[]⟩ : ByteArray), ((⟨#[]⟩ : ByteArray), ((⟨#[]⟩ : ByteArray), ((), ())))))))), ()))))))
    (
    some ((((), ((), ((), ()))), ((u4.2.1.1, (u4.2.1.2.1, (u4.2.1.2.2.1, ()))), ((0, (0, (0, ((⟨#[]⟩ : ByteArray), ((⟨#[]⟩ : ByteArray), ((⟨#[]⟩ : ByteArray), ((⟨#[]⟩ : ByteArray), ((), ())))))))), ((u1.1.1, (0, (0, (u2.1.1, ((⟨#[]⟩ : ByteArray), ((⟨#[]⟩ : ByteArray), ((⟨#[]⟩ : ByteArray), ((), ())))))))), ())))))))) fun j5 =>
 andK (α := ((Unit × (Unit × (Unit × Unit))) × (((List Int) × (Int × (Int × Unit))) × ((Int × (Int × (Int × (ByteArray × (ByteArray × (ByteArray × (ByteArray × (Unit × Unit)))))))) × ((Int × (Int × (Int × (ByteArray × (ByteArray × (ByteArray × (ByteArray × (Unit × Unit)))))))) × Unit))))) (
  andK (α := ((Unit × (Unit × (Unit × (Bool × Unit)))) × (((List Int) × (Int × (Int × Unit))) × ((Int × (Int × (Int × (ByteArray × (ByteArray × (ByteArray × (ByteArray × (Unit × Unit)))))))) × ((Int × (Int × (Int × (ByteArray × (ByteArray × (ByteArray × (ByteArray × (Unit × Unit)))))))) × Unit))))) (
   sel (decide (j5.2.2.2.1.1 = 0))
    (
    andK (spec_l1Cur_one N 2 j5.2.1.1 j5.2.1.2.1 j5.2.1.2.2.1) fun u6 =>
    some ((((), ((), ((), (u6.1.1, ())))), ((u6.2.1.1, (u6.2.1.2.1, (u6.2.1.2.2.1, ()))), ((j5.2.2.1.1, (j5.2.2.1.2.1, (j5.2.2.1.2.2.1, (j5.2.2.1.2.2.2.1, (j5.2.2.1.2.2.2.2.1, (j5.2.2.1.2.2.2.2.2.1, (j5.2.2.1.2.2.2.2.2.2.1, ((), ())))))))), ((j5.2.2.2.1.1, (j5.2.2.2.1.2.1, (j5.2.2.2.1.2.2.1, (j5.2.2.2.1.2.2.2.1, (j5.2.2.2.1.2.2.2.2.1, (j5.2.2.2.1.2.2.2.2.2.1, (j5.2.2.2.1.2.2.2.2.2.2.1, ((), ())))))))), ()))))))
    (
    some ((((), ((), ((), (false, ())))), ((j5.2.1.1, (j5.2.1.2.1, (j5.2.1.2.2.1, ()))), ((j5.2.2.1.1, (j5.2.2.1.2.1, (j5.2.2.1.2.2.1, (j5.2.2.1.2.2.2.1, (j5.2.2.1.2.2.2.2.1, (j5.2.2.1.2.2.2.2.2.1, (j5.2.2.1.2.2.2.2.2.2.1, ((), ())))))))), ((j5.2.2.2.1.1, (j5.2.2.2.1.2.1, (j5.2.2.2.1.2.2.1, (j5.2.2.2.1.2.2.2.1, (j5.2.2.2.1.2.2.2.2.1, (j5.2.2.2.1.2.2.2.2.2.1, (j5.2.2.2.1.2.2.2.2.2.2.1, ((), ())))))))), ()))))))) fun j7 =>
  sel j7.1.2.2.2.1
   (
   some ((((), ((), ((), ()))), ((j7.2.1.1, (j7.2.1.2.1, (j7.2.1.2.2.1, ()))), ((j7.2.2.1.1, (j7.2.2.1.2.1, (j7.2.2.1.2.2.1, (j7.2.2.1.2.2.2.1, (j7.2.2.1.2.2.2.2.1, (j7.2.2.1.2.2.2.2.2.1, (j7.2.2.1.2.2.2.2.2.2.1, ((), ())))))))), ((j7.2.2.2.1.1, (j7.2.2.2.1.2.1, (j7.2.2.2.1.2.2.1, (j7.2.2.2.1.2.2.2.1, (j7.2.2.2.1.2.2.2.2.1, ((⟨#[116, 111, 107, 101, 110]⟩ : ByteArray), (j7.2.2.2.1.2.2.2.2.2.2.1, ((), ())))))))), ()))))))
   (
   some ((((), ((), ((), ()))), ((j7.2.1.1, (j7.2.1.2.1, (j7.2.1.2.2.1, ()))), ((j7.2.2.1.1, (j7.2.2.1.2.1, (j7.2.2.1.2.2.1, (j7.2.2.1.2.2.2.1, (j7.2.2.1.2.2.2.2.1, (j7.2.2.1.2.2.2.2.2.1, (j7.2.2.1.2.2.2.2.2.2.1, ((), ())))))))), ((j7.2.2.2.1.1, (j7.2.2.2.1.2.1, (j7.2.2.2.1.2.2.1, (j7.2.2.2.1.2.2.2.1, (j7.2.2.2.1.2.2.2.2.1, (j7.2.2.2.1.2.2.2.2.2.1, (j7.2.2.2.1.2.2.2.2.2.2.1, ((), ())))))))), ()))))))) fun j8 =>
 andK (spec_l1Cur_pick N 400 j8.2.1.1 j8.2.1.2.1 j8.2.1.2.2.1) fun u9 =>
 andK (α := ((Unit × (Unit × (Unit × (Int × Unit)))) × (((List Int) × (Int × (Int × Unit))) × ((Int × (Int × (Int × (ByteArray × (ByteArray × (ByteArray × (ByteArray × (Unit × Unit)))))))) × ((Int × (Int × (Int × (ByteArray × (ByteArray × (ByteArray × (ByteArray × (Unit × Unit)))))))) × Unit))))) (
  andK (spec_l1Cur_one N 4 u9.2.1.1 u9.2.1.2.1 u9.2.1.2.2.1) fun u10 =>
  sel u10.1.1
   (
   andK (spec_l1Cur_num N u10.2.1.1 u10.2.1.2.1 u10.2.1.2.2.1) fun u11 =>
   some ((((), ((), ((), (u11.1.1, ())))), ((u11.2.1.1, (u11.2.1.2.1, (u11.2.1.2.2.1, ()))), ((j8.2.2.1.1, (j8.2.2.1.2.1, (j8.2.2.1.2.2.1, (j8.2.2.1.2.2.2.1, (j8.2.2.1.2.2.2.2.1, (j8.2.2.1.2.2.2.2.2.1, (j8.2.2.1.2.2.2.2.2.2.1, ((), ())))))))), ((j8.2.2.2.1.1, (j8.2.2.2.1.2.1, (j8.2.2.2.1.2.2.1, (j8.2.2.2.1.2.2.2.1, (j8.2.2.2.1.2.2.2.2.1, (j8.2.2.2.1.2.2.2.2.2.1, (j8.2.2.2.1.2.2.2.2.2.2.1, ((), ())))))))), ()))))))
   (
   some ((((), ((), ((), (u9.1.1, ())))), ((u10.2.1.1, (u10.2.1.2.1, (u10.2.1.2.2.1, ()))), ((j8.2.2.1.1, (j8.2.2.1.2.1, (j8.2.2.1.2.2.1, (j8.2.2.1.2.2.2.1, (j8.2.2.1.2.2.2.2.1, (j8.2.2.1.2.2.2.2.2.1, (j8.2.2.1.2.2.2.2.2.2.1, ((), ())))))))), ((j8.2.2.2.1.1, (j8.2.2.2.1.2.1, (j8.2.2.2.1.2.2.1, (j8.2.2.2.1.2.2.2.1, (j8.2.2.2.1.2.2.2.2.1, (j8.2.2.2.1.2.2.2.2.2.1, (j8.2.2.2.1.2.2.2.2.2.2.1, ((), ())))))))), ()))))))) fun j12 =>
 andK (spec_l1Cur_pick N 300 j12.2.1.1 j12.2.1.2.1 j12.2.1.2.2.1) fun u13 =>
 andK (α := ((Unit × (Unit × (Unit × (Int × Unit)))) × (((List Int) × (Int × (Int × Unit))) × ((Int × (Int × (Int × (ByteArray × (ByteArray × (ByteArray × (ByteArray × (Unit × Unit)))))))) × ((Int × (Int × (Int × (ByteArray × (ByteArray × (ByteArray × (ByteArray × (Unit × Unit)))))))) × Unit))))) (
  andK (α := ((Unit × (Unit × (Unit × (Bool × Unit)))) × (((List Int) × (Int × (Int × Unit))) × ((Int × (Int × (Int × (ByteArray × (ByteArray × (ByteArray × (ByteArray × (Unit × Unit)))))))) × ((Int × (Int × (Int × (ByteArray × (ByteArray × (ByteArray × (ByteArray × (Unit × Unit)))))))) × Unit))))) (
   sel (decide ((IntKind.i64.wrap ((IntKind.i64.wrap (j12.1.2.2.2.1 - 1)) - u13.1.1)) < (-1)))
    (
    some ((((), ((), ((), (true, ())))), ((u13.2.1.1, (u13.2.1.2.1, (u13.2.1.2.2.1, ()))), ((j12.2.2.1.1, (j12.2.2.1.2.1, (j12.2.2.1.2.2.1, (j12.2.2.1.2.2.2.1, (j12.2.2.1.2.2.2.2.1, (j12.2.2.1.2.2.2.2.2.1, (j12.2.2.1.2.2.2.2.2.2.1, ((), ())))))))), ((j12.2.2.2.1.1, (j12.2.2.2.1.2.1, (j12.2.2.2.1.2.2.1, (j12.2.2.2.1.2.2.2.1, (j12.2.2.2.1.2.2.2.2.1, (j12.2.2.2.1.2.2.2.2.2.1, (j12.2.2.2.1.2.2.2.2.2.2.1, ((), ())))))))), ()))))))
    (
    andK (spec_l1Cur_one N 8 u13.2.1.1 u13.2.1.2.1 u13.2.1.2.2.1) fun u14 =>
    some ((((), ((), ((), (u14.1.1, ())))), ((u14.2.1.1, (u14.2.1.2.1, (u14.2.1.2.2.1, ()))), ((j12.2.2.1.1, (j12.2.2.1.2.1, (j12.2.2.1.2.2.1, (j12.2.2.1.2.2.2.1, (j12.2.2.1.2.2.2.2.1, (j12.2.2.1.2.2.2.2.2.1, (j12.2.2.1.2.2.2.2.2.2.1, ((), ())))))))), ((j12.2.2.2.1.1, (j12.2.2.2.1.2.1, (j12.2.2.2.1.2.2.1, (j12.2.2.2.1.2.2.2.1, (j12.2.2.2.1.2.2.2.2.1, (j12.2.2.2.1.2.2.2.2.2.1, (j12.2.2.2.1.2.2.2.2.2.2.1, ((), ())))))))), ()))))))) fun j15 =>
  sel j15.1.2.2.2.1
   (
   some ((((), ((), ((), ((-1), ())))), ((j15.2.1.1, (j15.2.1.2.1, (j15.2.1.2.2.1, ()))), ((j15.2.2.1.1, (j15.2.2.1.2.1, (j15.2.2.1.2.2.1, (j15.2.2.1.2.2.2.1, (j15.2.2.1.2.2.2.2.1, (j15.2.2.1.2.2.2.2.2.1, (j15.2.2.1.2.2.2.2.2.2.1, ((), ())))))))), ((j15.2.2.2.1.1, (j15.2.2.2.1.2.1, (j15.2.2.2.1.2.2.1, (j15.2.2.2.1.2.2.2.1, (j15.2.2.2.1.2.2.2.2.1, (j15.2.2.2.1.2.2.2.2.2.1, (j15.2.2.2.1.2.2.2.2.2.2.1, ((), ())))))))), ()))))))
   (
   some ((((), ((), ((), ((IntKind.i64.wrap ((IntKind.i64.wrap (j12.1.2.2.2.1 - 1)) - u13.1.1)), ())))), ((j15.2.1.1, (j15.2.1.2.1, (j15.2.1.2.2.1, ()))), ((j15.2.2.1.1, (j15.2.2.1.2.1, (j15.2.2.1.2.2.1, (j15.2.2.1.2.2.2.1, (j15.2.2.1.2.2.2.2.1, (j15.2.2.1.2.2.2.2.2.1, (j15.2.2.1.2.2.2.2.2.2.1, ((), ())))))))), ((j15.2.2.2.1.1, (j15.2.2.2.1.2.1, (j15.2.2.2.1.2.2.1, (j15.2.2.2.1.2.2.2.1, (j15.2.2.2.1.2.2.2.2.1, (j15.2.2.2.1.2.2.2.2.2.1, (j15.2.2.2.1.2.2.2.2.2.2.1, ((), ())))))))), ()))))))) fun j16 =>
 andK (α := ((Unit × (Unit × (Unit × Unit))) × (((List Int) × (Int × (Int × Unit))) × ((Int × (Int × (Int × (ByteArray × (ByteArray × (ByteArray × (ByteArray × (Unit × Unit)))))))) × ((Int × (Int × (Int × (ByteArray × (ByteArray × (ByteArray × (ByteArray × (Unit × Unit)))))))) × Unit))))) (
  andK (spec_l1Cur_one N 30 j16.2.1.1 j16.2.1.2.1 j16.2.1.2.2.1) fun u17 =>
  sel u17.1.1
   (
   andK (spec_l1Cur_pick N 16 u17.2.1.1 u17.2.1.2.1 u17.2.1.2.2.1) fun u18 =>
   some ((((), ((), ((), ()))), ((u18.2.1.1, (u18.2.1.2.1, (u18.2.1.2.2.1, ()))), ((j16.2.2.1.1, (j16.2.2.1.2.1, (j16.2.2.1.2.2.1, (j16.2.2.1.2.2.2.1, (j16.2.2.1.2.2.2.2.1, (j16.2.2.1.2.2.2.2.2.1, (j16.2.2.1.2.2.2.2.2.2.1, ((), ())))))))), ((j16.2.2.2.1.1, (u18.1.1, (j16.2.2.2.1.2.2.1, (j16.2.2.2.1.2.2.2.1, (j16.2.2.2.1.2.2.2.2.1, (j16.2.2.2.1.2.2.2.2.2.1, (j16.2.2.2.1.2.2.2.2.2.2.1, ((), ())))))))), ()))))))
   (
   some ((((), ((), ((), ()))), ((u17.2.1.1, (u17.2.1.2.1, (u17.2.1.2.2.1, ()))), ((j16.2.2.1.1, (j16.2.2.1.2.1, (j16.2.2.1.2.2.1, (j16.2.2.1.2.2.2.1, (j16.2.2.1.2.2.2.2.1, (j16.2.2.1.2.2.2.2.2.1, (j16.2.2.1.2.2.2.2.2.2.1, ((), ())))))))), ((j16.2.2.2.1.1, (j16.2.2.2.1.2.1, (j16.2.2.2.1.2.2.1, (j16.2.2.2.1.2.2.2.1, (j16.2.2.2.1.2.2.2.2.1, (j16.2.2.2.1.2.2.2.2.2.1, (j16.2.2.2.1.2.2.2.2.2.2.1, ((), ())))))))), ()))))))) fun j19 =>
 andK (spec_FramesBytes N [(1, (0, (0, (0, (false, ((⟨#[]⟩ : ByteArray), []))))))]) fun u20 =>
 andK (spec_l1Cur_one N 2 j19.2.1.1 j19.2.1.2.1 j19.2.1.2.2.1) fun u21 =>
 sel u21.1.1
  (
  andK (spec_l1Cur_pick N 40 u21.2.1.1 u21.2.1.2.1 u21.2.1.2.2.1) fun u22 =>
  andK (spec_l1Cur_sizedBytes N u22.1.1 u22.2.1.1 u22.2.1.2.1 u22.2.1.2.2.1) fun u23 =>
  some (((j19.2.2.2.1.1, (j19.2.2.2.1.2.1, (j19.2.2.2.1.2.2.1, (j19.2.2.2.1.2.2.2.1, (j19.2.2.2.1.2.2.2.2.1, (j19.2.2.2.1.2.2.2.2.2.1, (j19.2.2.2.1.2.2.2.2.2.2.1, ((), ())))))))), (j12.1.2.2.2.1, (j16.1.2.2.2.1, ((strL u23.2.2.1), ())))), ((u23.2.1.1, (u23.2.1.2.1, (u23.2.1.2.2.1, ()))), ())))
  (
  some (((j19.2.2.2.1.1, (j19.2.2.2.1.2.1, (j19.2.2.2.1.2.2.1, (j19.2.2.2.1.2.2.2.1, (j19.2.2.2.1.2.2.2.2.1, (j19.2.2.2.1.2.2.2.2.2.1, (j19.2.2.2.1.2.2.2.2.2.2.1, ((), ())))))))), (j12.1.2.2.2.1, (j16.1.2.2.2.1, (u20.1.1, ())))), ((u21.2.1.1, (u21.2.1.2.1, (u21.2.1.2.2.1, ()))), ()))) := by kernel_rfl
set_option maxRecDepth 100000 in
theorem spec_l1Cur_packet.say (N : Nat) : SayOk Try.prog (spec_l1Cur_packet.S N) := sayOk_mk (N := N) (H := spec_l1Cur_packet.H) (preps := [⟨[], [], [], []⟩]) (l := spec_l1Cur_packet.says) (fn := Try.f57) (c := bodyOf Try.f57)
  (by kernel_rfl) (by kernel_rfl) (by kernel_rfl) (by kernel_rfl) (by kernel_rfl) (by kernel_rfl) (by kernel_rfl)
  (fun N => SayAll.cons (spec_l1Cur_among.say N) (SayAll.cons (spec_l1Cur_id.say N) (SayAll.cons (spec_l1Cur_one.say N) (SayAll.cons (spec_l1Cur_pick.say N) (SayAll.cons (spec_l1Cur_num.say N) (SayAll.cons (spec_FramesBytes.say N) (SayAll.cons (spec_l1Cur_sizedBytes.say N) (SayAll.nil)))))))) (fun a s => by kernel_rfl)

/-! ### loop.example/g00206/spec.DrawNumberBytes: function 18 -/
noncomputable def spec_DrawNumberBytes.H : Hints := hintsOf []
noncomputable def spec_DrawNumberBytes.says (N : Nat) : List Say := [spec_l1Cur_packet.S N, spec_l1Cur_pick.S N, spec_l1Cur_among.S N]
noncomputable def spec_DrawNumberBytes.call (N : Nat) : CallK := callBy (spec_DrawNumberBytes.says N)
noncomputable def spec_DrawNumberBytes.qt (N : Nat) : FuncId → List PV → Sig → Cl := qtBy (spec_DrawNumberBytes.says N)
noncomputable def spec_DrawNumberBytes (N : Nat) (code : (List Int)) : Option ((Int × (Int × Unit)) × Unit) :=
  ofFn Try.prog spec_DrawNumberBytes.call spec_DrawNumberBytes.qt spec_DrawNumberBytes.H N Try.f18 [.one (.sh (.rows (.int .u8)))] [] [ak_i, ak_i] [] [⟨[], [], [], []⟩] (code, ()) ()
noncomputable def spec_DrawNumberBytes.S (N : Nat) : Say := ⟨false, 18, [.one (.sh (.rows (.int .u8)))], [], [ak_i, ak_i], [], fun a s => spec_DrawNumberBytes N a.1⟩
set_option maxRecDepth 100000 in
theorem spec_DrawNumberBytes.eq (N : Nat) (code : (List Int)) : spec_DrawNumberBytes N code =
 andK (spec_l1Cur_packet N code 0 0) fun u1 =>
 andK (spec_l1Cur_pick N 8 u1.2.1.1 u1.2.1.2.1 u1.2.1.2.2.1) fun u2 =>
 sel (decide (u2.1.1 = 0))
  (
  andK (spec_l1Cur_among N [127, 128, 32767, 32768, 8388607, 8388608, 2147483647, 2147483648, 0] u2.2.1.1 u2.2.1.2.1 u2.2.1.2.2.1) fun u3 =>
  some ((u1.1.2.1, ((IntKind.i64.wrap (u1.1.2.1 - u3.1.1)), ())), ()))
  (
  some ((u1.1.2.1, (u1.1.2.2.1, ())), ())) := by kernel_rfl
set_option maxRecDepth 100000 in
theorem spec_DrawNumberBytes.say (N : Nat) : SayOk Try.prog (spec_DrawNumberBytes.S N) := sayOk_mk (N := N) (H := spec_DrawNumberBytes.H) (preps := [⟨[], [], [], []⟩]) (l := spec_DrawNumberBytes.says) (fn := Try.f18) (c := bodyOf Try.f18)
  (by kernel_rfl) (by kernel_rfl) (by kernel_rfl) (by kernel_rfl) (by kernel_rfl) (by kernel_rfl) (by kernel_rfl)
  (fun N => SayAll.cons (spec_l1Cur_packet.say N) (SayAll.cons (spec_l1Cur_pick.say N) (SayAll.cons (spec_l1Cur_among.say N) (SayAll.nil)))) (fun a s => by kernel_rfl)

/-! ### loop.example/g00206/impl.in: function 59 -/
noncomputable def impl_in.H : Hints := hintsOf []
noncomputable def impl_in.says (N : Nat) : List Say := []
noncomputable def impl_in.call (N : Nat) : CallK := callBy (impl_in.says N)
noncomputable def impl_in.qt (N : Nat) : FuncId → List PV → Sig → Cl := qtBy (impl_in.says N)
noncomputable def impl_in (N : Nat) (n : Int) (low : Int) (high : Int) : Option ((Bool × Unit) × Unit) :=
  ofFn Try.prog impl_in.call impl_in.qt impl_in.H N Try.f59 [ak_i, ak_i, ak_i] [] [ak_b] [] [⟨[], [], [], []⟩] (n, (low, (high, ()))) ()
noncomputable def impl_in.S (N : Nat) : Say := ⟨false, 59, [ak_i, ak_i, ak_i], [], [ak_b], [], fun a s => impl_in N a.1 a.2.1 a.2.2.1⟩
set_option maxRecDepth 100000 in
theorem impl_in.eq (N : Nat) (n : Int) (low : Int) (high : Int) : impl_in N n low high =
 sel (decide (low ≤ n))
  (
  some (((decide (n ≤ high)), ()), ()))
  (
  some ((false, ()), ())) := by kernel_rfl
set_option maxRecDepth 100000 in
theorem impl_in.say (N : Nat) : SayOk Try.prog (impl_in.S N) := sayOk_mk (N := N) (H := impl_in.H) (preps := [⟨[], [], [], []⟩]) (l := impl_in.says) (fn := Try.f59) (c := bodyOf Try.f59)
  (by kernel_rfl) (by kernel_rfl) (by kernel_rfl) (by kernel_rfl) (by kernel_rfl) (by kernel_rfl) (by kernel_rfl)
  (fun N => SayAll.nil) (fun a s => by kernel_rfl)

/-! ### loop.example/g00206/impl.bigEndian: function 60 -/
noncomputable def impl_bigEndian.H : Hints := hintsOf [(2000003, .loop ⟨.normal, [], [0, 5, 6], [.one (.sh (.int .u64)), .one (.own 0), ak_i], [.rows (.int .u8)], [⟨[], [], [], []⟩]⟩ [⟨(.exit 0), [], [5], [.one (.own 0)], [.rows (.int .u8)], [⟨[], [], [], []⟩]⟩])]
noncomputable def impl_bigEndian.says (N : Nat) : List Say := []
noncomputable def impl_bigEndian.call (N : Nat) : CallK := callBy (impl_bigEndian.says N)
noncomputable def impl_bigEndian.qt (N : Nat) : FuncId → List PV → Sig → Cl := qtBy (impl_bigEndian.says N)
noncomputable def impl_bigEndian.l0.hd : Alt := ⟨.normal, [], [0, 5, 6], [.one (.sh (.int .u64)), .one (.own 0), ak_i], [.rows (.int .u8)], [⟨[], [], [], []⟩]⟩
noncomputable def impl_bigEndian.l0.outs : List Alt := [⟨(.exit 0), [], [5], [.one (.own 0)], [.rows (.int .u8)], [⟨[], [], [], []⟩]⟩]
noncomputable def impl_bigEndian.l0 (N : Nat) (n1 : Int) (i : Int) (p0 : (List Int)) : Option ((Unit × Unit) × ((List Int) × Unit)) :=
  loopK Try.prog impl_bigEndian.call impl_bigEndian.qt impl_bigEndian.H (codeAt (bodyOf Try.f60) [1, 1, 0, 1, 0, 0]) 1 impl_bigEndian.l0.hd impl_bigEndian.l0.outs [] N ((n1, ((), (i, ()))), (p0, ()))
noncomputable def impl_bigEndian (N : Nat) (n : Int) (many : Int) : Option ((ByteArray × Unit) × Unit) :=
  ofFn Try.prog impl_bigEndian.call impl_bigEndian.qt impl_bigEndian.H N Try.f60 [.one (.sh (.int .u64)), ak_i] [] [ak_s] [] [⟨[], [], [], []⟩] (n, (many, ())) ()
noncomputable def impl_bigEndian.S (N : Nat) : Say := ⟨false, 60, [.one (.sh (.int .u64)), ak_i], [], [ak_s], [], fun a s => impl_bigEndian N a.1 a.2.1⟩
set_option maxRecDepth 100000 in
theorem impl_bigEndian.l0.eq (N : Nat) (n1 : Int) (i : Int) (p0 : (List Int)) : impl_bigEndian.l0 (N + 1) n1 i p0 =
 sel (decide (0 ≤ i))
  (
  chk ((decide (0 ≤ i)) && (decide (i < (p0.length : Int)))) (
  impl_bigEndian.l0 N (shrI .u64 n1 8) (IntKind.i64.wrap (i - 1)) (p0.set (Int.toNat i) (IntKind.u8.wrap n1))))
  (
  some ((((), ()), (p0, ())))) := by kernel_rfl
set_option maxRecDepth 100000 in
theorem impl_bigEndian.eq (N : Nat) (n : Int) (many : Int) : impl_bigEndian N n many =
 chk ((decide (0 ≤ many)) && ((smallI many) && (decide (many = many)))) (
 andK (impl_bigEndian.l0 N n (IntKind.i64.wrap (many - 1)) (List.replicate (Int.toNat many) (0 : Int))) fun l1 =>
 some (((strL l1.2.1), ()), ())) := by kernel_rfl
set_option maxRecDepth 100000 in
theorem impl_bigEndian.say (N : Nat) : SayOk Try.prog (impl_bigEndian.S N) := sayOk_mk (N := N) (H := impl_bigEndian.H) (preps := [⟨[], [], [], []⟩]) (l := impl_bigEndian.says) (fn := Try.f60) (c := bodyOf Try.f60)
  (by kernel_rfl) (by kernel_rfl) (by kernel_rfl) (by kernel_rfl) (by kernel_rfl) (by kernel_rfl) (by kernel_rfl)
  (fun N => SayAll.nil) (fun a s => by kernel_rfl)

/-! ### loop.example/g00206/impl.NumberBytes: function 19 -/
noncomputable def impl_NumberBytes.H : Hints := hintsOf [(5000001, .join [⟨.normal, [0, 1], [17], [ak_b], [], [⟨[], [], [], []⟩]⟩]),
  (2000005, .loop ⟨.normal, [0, 6], [7], [ak_i], [], [⟨[], [], [], []⟩]⟩ [⟨.ret, [], [4, 5], [ak_s, ak_b], [], [⟨[], [], [], []⟩]⟩, ⟨(.exit 0), [], [], [], [], [⟨[], [], [], []⟩]⟩])]
noncomputable def impl_NumberBytes.says (N : Nat) : List Say := [impl_in.S N, impl_bigEndian.S N]
noncomputable def impl_NumberBytes.call (N : Nat) : CallK := callBy (impl_NumberBytes.says N)
noncomputable def impl_NumberBytes.qt (N : Nat) : FuncId → List PV → Sig → Cl := qtBy (impl_NumberBytes.says N)
noncomputable def impl_NumberBytes.l0.hd : Alt := ⟨.normal, [0, 6], [7], [ak_i], [], [⟨[], [], [], []⟩]⟩
noncomputable def impl_NumberBytes.l0.outs : List Alt := [⟨.ret, [], [4, 5], [ak_s, ak_b], [], [⟨[], [], [], []⟩]⟩, ⟨(.exit 0), [], [], [], [], [⟨[], [], [], []⟩]⟩]
noncomputable def impl_NumberBytes.l0 (N : Nat) (n1 : Int) (d : Int) (k : Int) : Option (((ByteArray × (Bool × Unit)) × Unit) ⊕ (Unit × Unit)) :=
  loopK Try.prog impl_NumberBytes.call impl_NumberBytes.qt impl_NumberBytes.H (codeAt (bodyOf Try.f19) [1, 1, 1, 0, 1, 0, 0]) 0 impl_NumberBytes.l0.hd impl_NumberBytes.l0.outs [(0, .v (.int .i64 n1)), (6, .v (.int .i64 d))] N ((k, ()), ())
noncomputable def impl_NumberBytes (N : Nat) (n : Int) (acked : Int) : Option ((ByteArray × (Bool × Unit)) × Unit) :=
  ofFn Try.prog impl_NumberBytes.call impl_NumberBytes.qt impl_NumberBytes.H N Try.f19 [ak_i, ak_i] [] [ak_s, ak_b] [] [⟨[], [], [], []⟩] (n, (acked, ())) ()
noncomputable def impl_NumberBytes.S (N : Nat) : Say := ⟨false, 19, [ak_i, ak_i], [], [ak_s, ak_b], [], fun a s => impl_NumberBytes N a.1 a.2.1⟩
set_option maxRecDepth 100000 in
theorem impl_NumberBytes.l0.eq (N : Nat) (n1 : Int) (d : Int) (k : Int) : impl_NumberBytes.l0 (N + 1) n1 d k =
 sel (decide (k ≤ 4))
  (
  chk (decide (0 ≤ (IntKind.i64.wrap ((IntKind.i64.wrap (8 * k)) - 1)))) (
  sel (decide (d ≤ (IntKind.i64.wrap ((shlI .i64 1 (IntKind.i64.wrap ((IntKind.i64.wrap (8 * k)) - 1))) - 1))))
   (
   andK (impl_bigEndian N (IntKind.u64.wrap n1) k) fun u4 =>
   some (.inl ((u4.1.1, (true, ())), ())))
   (
   impl_NumberBytes.l0 N n1 d (IntKind.i64.wrap (k + 1)))))
  (
  some (.inr (((), ())))) := by kernel_rfl
set_option maxRecDepth 100000 in
theorem impl_NumberBytes.eq (N : Nat) (n : Int) (acked : Int) : impl_NumberBytes N n acked =
 andK (α := ((Bool × Unit) × Unit)) (
  andK (impl_in N n 0 4611686018427387903) fun u1 =>
  sel (!u1.1.1)
   (
   some (((true, ()), ())))
   (
   andK (impl_in N acked (-1) (IntKind.i64.wrap (n - 1))) fun u2 =>
   some ((((!u2.1.1), ()), ())))) fun j3 =>
 sel j3.1.1
  (
  some (((⟨#[]⟩ : ByteArray), (false, ())), ()))
  (
  andK (impl_NumberBytes.l0 N n (IntKind.i64.wrap (n - acked)) 1) fun l5 =>
  orK l5 (fun x6 =>
   some ((x6.1.1, (x6.1.2.1, ())), ()))
   (fun x7 =>
   some (((⟨#[]⟩ : ByteArray), (false, ())), ()))) := by kernel_rfl
set_option maxRecDepth 100000 in
theorem impl_NumberBytes.say (N : Nat) : SayOk Try.prog (impl_NumberBytes.S N) := sayOk_mk (N := N) (H := impl_NumberBytes.H) (preps := [⟨[], [], [], []⟩]) (l := impl_NumberBytes.says) (fn := Try.f19) (c := bodyOf Try.f19)
  (by kernel_rfl) (by kernel_rfl) (by kernel_rfl) (by kernel_rfl) (by kernel_rfl) (by kernel_rfl) (by kernel_rfl)
  (fun N => SayAll.cons (impl_in.say N) (SayAll.cons (impl_bigEndian.say N) (SayAll.nil))) (fun a s => by kernel_rfl)

/-! ### loop.example/g00206/spec.l6Said: function 61 -/
noncomputable def spec_l6Said.H : Hints := hintsOf []
noncomputable def spec_l6Said.says (N : Nat) : List Say := [spec_l1In.S N]
noncomputable def spec_l6Said.call (N : Nat) : CallK := callBy (spec_l6Said.says N)
noncomputable def spec_l6Said.qt (N : Nat) : FuncId → List PV → Sig → Cl := qtBy (spec_l6Said.says N)
noncomputable def spec_l6Said (N : Nat) (n : Int) (acked : Int) : Option ((Bool × Unit) × Unit) :=
  ofFn Try.prog spec_l6Said.call spec_l6Said.qt spec_l6Said.H N Try.f61 [ak_i, ak_i] [] [ak_b] [] [⟨[], [], [], []⟩] (n, (acked, ())) ()
noncomputable def spec_l6Said.S (N : Nat) : Say := ⟨false, 61, [ak_i, ak_i], [], [ak_b], [], fun a s => spec_l6Said N a.1 a.2.1⟩
set_option maxRecDepth 100000 in
theorem spec_l6Said.eq (N : Nat) (n : Int) (acked : Int) : spec_l6Said N n acked =
 andK (spec_l1In N n 0 4611686018427387903) fun u1 =>
 sel u1.1.1
  (
  andK (spec_l1In N acked (-1) (IntKind.i64.wrap (n - 1))) fun u2 =>
  some ((u2.1.1, ()), ()))
  (
  some ((false, ()), ())) := by kernel_rfl
set_option maxRecDepth 100000 in
theorem spec_l6Said.say (N : Nat) : SayOk Try.prog (spec_l6Said.S N) := sayOk_mk (N := N) (H := spec_l6Said.H) (preps := [⟨[], [], [], []⟩]) (l := spec_l6Said.says) (fn := Try.f61) (c := bodyOf Try.f61)
  (by kernel_rfl) (by kernel_rfl) (by kernel_rfl) (by kernel_rfl) (by kernel_rfl) (by kernel_rfl) (by kernel_rfl)
  (fun N => SayAll.cons (spec_l1In.say N) (SayAll.nil)) (fun a s => by kernel_rfl)

/-! ### loop.example/g00206/spec.l6Size: function 62 -/
noncomputable def spec_l6Size.H : Hints := hintsOf [(2000002, .loop ⟨.normal, [0, 1], [5], [ak_i], [], [⟨[], [], [], []⟩]⟩ [⟨.ret, [], [4], [ak_i], [], [⟨[], [], [], []⟩]⟩, ⟨(.exit 0), [], [], [], [], [⟨[], [], [], []⟩]⟩])]
noncomputable def spec_l6Size.says (N : Nat) : List Say := []
noncomputable def spec_l6Size.call (N : Nat) : CallK := callBy (spec_l6Size.says N)
noncomputable def spec_l6Size.qt (N : Nat) : FuncId → List PV → Sig → Cl := qtBy (spec_l6Size.says N)
noncomputable def spec_l6Size.l0.hd : Alt := ⟨.normal, [0, 1], [5], [ak_i], [], [⟨[], [], [], []⟩]⟩
noncomputable def spec_l6Size.l0.outs : List Alt := [⟨.ret, [], [4], [ak_i], [], [⟨[], [], [], []⟩]⟩, ⟨(.exit 0), [], [], [], [], [⟨[], [], [], []⟩]⟩]
noncomputable def spec_l6Size.l0 (N : Nat) (n1 : Int) (acked1 : Int) (k : Int) : Option (((Int × Unit) × Unit) ⊕ (Unit × Unit)) :=
  loopK Try.prog spec_l6Size.call spec_l6Size.qt spec_l6Size.H (codeAt (bodyOf Try.f62) [1, 0, 1, 0, 0]) 0 spec_l6Size.l0.hd spec_l6Size.l0.outs [(0, .v (.int .i64 n1)), (1, .v (.int .i64 acked1))] N ((k, ()), ())
noncomputable def spec_l6Size (N : Nat) (n : Int) (acked : Int) : Option ((Int × Unit) × Unit) :=
  ofFn Try.prog spec_l6Size.call spec_l6Size.qt spec_l6Size.H N Try.f62 [ak_i, ak_i] [] [ak_i] [] [⟨[], [], [], []⟩] (n, (acked, ())) ()
noncomputable def spec_l6Size.S (N : Nat) : Say := ⟨false, 62, [ak_i, ak_i], [], [ak_i], [], fun a s => spec_l6Size N a.1 a.2.1⟩
set_option maxRecDepth 100000 in
theorem spec_l6Size.l0.eq (N : Nat) (n1 : Int) (acked1 : Int) (k : Int) : spec_l6Size.l0 (N + 1) n1 acked1 k =
 sel (decide (k < 5))
  (
  chk (decide (0 ≤ (IntKind.u64.wrap (IntKind.i64.wrap ((IntKind.i64.wrap (8 * k)) - 1))))) (
  sel (decide ((IntKind.i64.wrap (n1 - acked1)) ≤ (IntKind.i64.wrap ((shlI .i64 1 (IntKind.u64.wrap (IntKind.i64.wrap ((IntKind.i64.wrap (8 * k)) - 1)))) - 1))))
   (
   some (.inl ((k, ()), ())))
   (
   spec_l6Size.l0 N n1 acked1 (IntKind.i64.wrap (k + 1)))))
  (
  some (.inr (((), ())))) := by kernel_rfl
set_option maxRecDepth 100000 in
theorem spec_l6Size.eq (N : Nat) (n : Int) (acked : Int) : spec_l6Size N n acked =
 andK (spec_l6Size.l0 N n acked 1) fun l1 =>
 orK l1 (fun x2 =>
  some ((x2.1.1, ()), ()))
  (fun x3 =>
  some ((0, ()), ())) := by kernel_rfl
set_option maxRecDepth 100000 in
theorem spec_l6Size.say (N : Nat) : SayOk Try.prog (spec_l6Size.S N) := sayOk_mk (N := N) (H := spec_l6Size.H) (preps := [⟨[], [], [], []⟩]) (l := spec_l6Size.says) (fn := Try.f62) (c := bodyOf Try.f62)
  (by kernel_rfl) (by kernel_rfl) (by kernel_rfl) (by kernel_rfl) (by kernel_rfl) (by kernel_rfl) (by kernel_rfl)
  (fun N => SayAll.nil) (fun a s => by kernel_rfl)

/-! ### loop.example/g00206/spec.NumberBytes: function 20 -/
noncomputable def spec_NumberBytes.H : Hints := hintsOf [(5000001, .join [⟨.normal, [0, 1], [15], [ak_b], [], [⟨[], [], [], []⟩]⟩])]
noncomputable def spec_NumberBytes.says (N : Nat) : List Say := [spec_l6Said.S N, spec_l6Size.S N, spec_l1Fixed.S N]
noncomputable def spec_NumberBytes.call (N : Nat) : CallK := callBy (spec_NumberBytes.says N)
noncomputable def spec_NumberBytes.qt (N : Nat) : FuncId → List PV → Sig → Cl := qtBy (spec_NumberBytes.says N)
noncomputable def spec_NumberBytes (N : Nat) (n : Int) (acked : Int) : Option ((ByteArray × (Bool × Unit)) × Unit) :=
  ofFn Try.prog spec_NumberBytes.call spec_NumberBytes.qt spec_NumberBytes.H N Try.f20 [ak_i, ak_i] [] [ak_s, ak_b] [] [⟨[], [], [], []⟩] (n, (acked, ())) ()
noncomputable def spec_NumberBytes.S (N : Nat) : Say := ⟨false, 20, [ak_i, ak_i], [], [ak_s, ak_b], [], fun a s => spec_NumberBytes N a.1 a.2.1⟩
set_option maxRecDepth 100000 in
theorem spec_NumberBytes.eq (N : Nat) (n : Int) (acked : Int) : spec_NumberBytes N n acked =
 andK (α := ((Bool × Unit) × Unit)) (
  andK (spec_l6Said N n acked) fun u1 =>
  sel (!u1.1.1)
   (
   some (((true, ()), ())))
   (
   andK (spec_l6Size N n acked) fun u2 =>
   some ((((decide (u2.1.1 = 0)), ()), ())))) fun j3 =>
 sel j3.1.1
  (
  some (((⟨#[]⟩ : ByteArray), (false, ())), ()))
  (
  andK (spec_l6Size N n acked) fun u4 =>
  andK (spec_l1Fixed N n u4.1.1) fun u5 =>
  some ((u5.1.1, (true, ())), ())) := by kernel_rfl
set_option maxRecDepth 100000 in
theorem spec_NumberBytes.say (N : Nat) : SayOk Try.prog (spec_NumberBytes.S N) := sayOk_mk (N := N) (H := spec_NumberBytes.H) (preps := [⟨[], [], [], []⟩]) (l := spec_NumberBytes.says) (fn := Try.f20) (c := bodyOf Try.f20)
  (by kernel_rfl) (by kernel_rfl) (by kernel_rfl) (by kernel_rfl) (by kernel_rfl) (by kernel_rfl) (by kernel_rfl)
  (fun N => SayAll.cons (spec_l6Said.say N) (SayAll.cons (spec_l6Size.say N) (SayAll.cons (spec_l1Fixed.say N) (SayAll.nil)))) (fun a s => by kernel_rfl)

/-! ### loop.example/g00206/laws.numberOf: function 12 -/
noncomputable def laws_numberOf.H : Hints := hintsOf [(2000003, .loop ⟨.normal, [6, 7], [3, 8], [ak_i, ak_i], [], [⟨[], [], [], []⟩]⟩ [⟨(.exit 0), [], [3], [ak_i], [], [⟨[], [], [], []⟩]⟩])]
noncomputable def laws_numberOf.says (N : Nat) : List Say := []
noncomputable def laws_numberOf.call (N : Nat) : CallK := callBy (laws_numberOf.says N)
noncomputable def laws_numberOf.qt (N : Nat) : FuncId → List PV → Sig → Cl := qtBy (laws_numberOf.says N)
noncomputable def laws_numberOf.l0.hd : Alt := ⟨.normal, [6, 7], [3, 8], [ak_i, ak_i], [], [⟨[], [], [], []⟩]⟩
noncomputable def laws_numberOf.l0.outs : List Alt := [⟨(.exit 0), [], [3], [ak_i], [], [⟨[], [], [], []⟩]⟩]
noncomputable def laws_numberOf.l0 (N : Nat) (t6 : (List Int)) (t7 : Int) (n : Int) (t8 : Int) : Option ((Int × Unit) × Unit) :=
  loopK Try.prog laws_numberOf.call laws_numberOf.qt laws_numberOf.H (codeAt (bodyOf Try.f12) [1, 1, 0, 1, 0, 0]) 0 laws_numberOf.l0.hd laws_numberOf.l0.outs [(6, .rows false (.int .u8) t6), (7, .v (.int .i64 t7))] N ((n, (t8, ())), ())
noncomputable def laws_numberOf (N : Nat) (b : (List Int)) : Option ((Int × Unit) × Unit) :=
  ofFn Try.prog laws_numberOf.call laws_numberOf.qt laws_numberOf.H N Try.f12 [.one (.sh (.rows (.int .u8)))] [] [ak_i] [] [⟨[], [], [], []⟩] (b, ()) ()
noncomputable def laws_numberOf.S (N : Nat) : Say := ⟨false, 12, [.one (.sh (.rows (.int .u8)))], [], [ak_i], [], fun a s => laws_numberOf N a.1⟩
set_option maxRecDepth 100000 in
theorem laws_numberOf.l0.eq (N : Nat) (t6 : (List Int)) (t7 : Int) (n : Int) (t8 : Int) : laws_numberOf.l0 (N + 1) t6 t7 n t8 =
 sel (decide (t8 < t7))
  (
  chk ((decide (0 ≤ t8)) && (decide (t8 < (t6.length : Int)))) (
  laws_numberOf.l0 N t6 t7 (Int.tmod (IntKind.i64.wrap ((IntKind.i64.wrap (31 * n)) + (IntKind.i64.wrap (t6.getD (Int.toNat t8) 0)))) 1000003) (IntKind.i64.wrap (t8 + 1))))
  (
  some (((n, ()), ()))) := by kernel_rfl
set_option maxRecDepth 100000 in
theorem laws_numberOf.eq (N : Nat) (b : (List Int)) : laws_numberOf N b =
 andK (laws_numberOf.l0 N b (b.length : Int) 0 0) fun l1 =>
 some ((l1.1.1, ()), ()) := by kernel_rfl
set_option maxRecDepth 100000 in
theorem laws_numberOf.say (N : Nat) : SayOk Try.prog (laws_numberOf.S N) := sayOk_mk (N := N) (H := laws_numberOf.H) (preps := [⟨[], [], [], []⟩]) (l := laws_numberOf.says) (fn := Try.f12) (c := bodyOf Try.f12)
  (by kernel_rfl) (by kernel_rfl) (by kernel_rfl) (by kernel_rfl) (by kernel_rfl) (by kernel_rfl) (by kernel_rfl)
  (fun N => SayAll.nil) (fun a s => by kernel_rfl)

/-! ### loop.example/g00206/impl.NumberOf: function 21 -/
noncomputable def impl_NumberOf.H : Hints := hintsOf [(5000001, .join [⟨.normal, [0, 1, 2], [27], [ak_b], [], [⟨[], [], [], []⟩]⟩]),
  (5000005, .join [⟨.normal, [8, 9, 10], [40], [ak_b], [], [⟨[], [], [], []⟩]⟩])]
noncomputable def impl_NumberOf.says (N : Nat) : List Say := [impl_in.S N]
noncomputable def impl_NumberOf.call (N : Nat) : CallK := callBy (impl_NumberOf.says N)
noncomputable def impl_NumberOf.qt (N : Nat) : FuncId → List PV → Sig → Cl := qtBy (impl_NumberOf.says N)
noncomputable def impl_NumberOf (N : Nat) (G : Int) (o : Int) (t : Int) : Option ((Int × (Bool × Unit)) × Unit) :=
  ofFn Try.prog impl_NumberOf.call impl_NumberOf.qt impl_NumberOf.H N Try.f21 [ak_i, ak_i, ak_i] [] [ak_i, ak_b] [] [⟨[], [], [], []⟩] (G, (o, (t, ()))) ()
noncomputable def impl_NumberOf.S (N : Nat) : Say := ⟨false, 21, [ak_i, ak_i, ak_i], [], [ak_i, ak_b], [], fun a s => impl_NumberOf N a.1 a.2.1 a.2.2.1⟩
set_option maxRecDepth 100000 in
theorem impl_NumberOf.eq (N : Nat) (G : Int) (o : Int) (t : Int) : impl_NumberOf N G o t =
 andK (α := ((Bool × Unit) × Unit)) (
  andK (impl_in N G (-1) 4611686018427387902) fun u1 =>
  sel (!u1.1.1)
   (
   some (((true, ()), ())))
   (
   andK (impl_in N t 1 4) fun u2 =>
   sel (!u2.1.1)
    (
    some (((true, ()), ())))
    (
    chk (decide (0 ≤ (IntKind.i64.wrap (8 * t)))) (
    andK (impl_in N o 0 (IntKind.i64.wrap ((shlI .i64 1 (IntKind.i64.wrap (8 * t))) - 1))) fun u3 =>
    some ((((!u3.1.1), ()), ())))))) fun j4 =>
 sel j4.1.1
  (
  some ((0, (false, ())), ()))
  (
  chk (decide (0 ≤ (IntKind.i64.wrap (8 * t)))) (
  chk ((shlI .i64 1 (IntKind.i64.wrap (8 * t))) != 0) (
  andK (α := ((Bool × Unit) × Unit)) (
   sel (decide ((IntKind.i64.wrap ((IntKind.i64.wrap ((IntKind.i64.wrap (G + 1)) - (Int.tmod (IntKind.i64.wrap (G + 1)) (shlI .i64 1 (IntKind.i64.wrap (8 * t)))))) + o)) ≤ (IntKind.i64.wrap ((IntKind.i64.wrap (G + 1)) - (IntKind.i64.wrap (Int.tdiv (shlI .i64 1 (IntKind.i64.wrap (8 * t))) 2))))))
    (
    some ((((decide ((IntKind.i64.wrap ((IntKind.i64.wrap ((IntKind.i64.wrap (G + 1)) - (Int.tmod (IntKind.i64.wrap (G + 1)) (shlI .i64 1 (IntKind.i64.wrap (8 * t)))))) + o)) < (IntKind.i64.wrap (4611686018427387904 - (shlI .i64 1 (IntKind.i64.wrap (8 * t))))))), ()), ())))
    (
    some (((false, ()), ())))) fun j5 =>
  sel j5.1.1
   (
   some (((IntKind.i64.wrap ((IntKind.i64.wrap ((IntKind.i64.wrap ((IntKind.i64.wrap (G + 1)) - (Int.tmod (IntKind.i64.wrap (G + 1)) (shlI .i64 1 (IntKind.i64.wrap (8 * t)))))) + o)) + (shlI .i64 1 (IntKind.i64.wrap (8 * t))))), (true, ())), ()))
   (
   sel (decide ((IntKind.i64.wrap ((IntKind.i64.wrap (G + 1)) + (IntKind.i64.wrap (Int.tdiv (shlI .i64 1 (IntKind.i64.wrap (8 * t))) 2)))) < (IntKind.i64.wrap ((IntKind.i64.wrap ((IntKind.i64.wrap (G + 1)) - (Int.tmod (IntKind.i64.wrap (G + 1)) (shlI .i64 1 (IntKind.i64.wrap (8 * t)))))) + o))))
    (
    sel (decide ((shlI .i64 1 (IntKind.i64.wrap (8 * t))) ≤ (IntKind.i64.wrap ((IntKind.i64.wrap ((IntKind.i64.wrap (G + 1)) - (Int.tmod (IntKind.i64.wrap (G + 1)) (shlI .i64 1 (IntKind.i64.wrap (8 * t)))))) + o))))
     (
     some (((IntKind.i64.wrap ((IntKind.i64.wrap ((IntKind.i64.wrap ((IntKind.i64.wrap (G + 1)) - (Int.tmod (IntKind.i64.wrap (G + 1)) (shlI .i64 1 (IntKind.i64.wrap (8 * t)))))) + o)) - (shlI .i64 1 (IntKind.i64.wrap (8 * t))))), (true, ())), ()))
     (
     some (((IntKind.i64.wrap ((IntKind.i64.wrap ((IntKind.i64.wrap (G + 1)) - (Int.tmod (IntKind.i64.wrap (G + 1)) (shlI .i64 1 (IntKind.i64.wrap (8 * t)))))) + o)), (true, ())), ())))
    (
    some (((IntKind.i64.wrap ((IntKind.i64.wrap ((IntKind.i64.wrap (G + 1)) - (Int.tmod (IntKind.i64.wrap (G + 1)) (shlI .i64 1 (IntKind.i64.wrap (8 * t)))))) + o)), (true, ())), ())))))) := by kernel_rfl
set_option maxRecDepth 100000 in
theorem impl_NumberOf.say (N : Nat) : SayOk Try.prog (impl_NumberOf.S N) := sayOk_mk (N := N) (H := impl_NumberOf.H) (preps := [⟨[], [], [], []⟩]) (l := impl_NumberOf.says) (fn := Try.f21) (c := bodyOf Try.f21)
  (by kernel_rfl) (by kernel_rfl) (by kernel_rfl) (by kernel_rfl) (by kernel_rfl) (by kernel_rfl) (by kernel_rfl)
  (fun N => SayAll.cons (impl_in.say N) (SayAll.nil)) (fun a s => by kernel_rfl)

/-! ### loop.example/g00206/spec.DrawNumberOf: function 22 -/
noncomputable def spec_DrawNumberOf.H : Hints := hintsOf [(7, .join [⟨.normal, [7, 8], [5, 6], [.one (.ptr 0 0), ak_i], [.cells [.sh (.rows (.int .u8)), ck_i, .sh (.int .u64)]], [⟨[], [], [], []⟩]⟩])]
noncomputable def spec_DrawNumberOf.says (N : Nat) : List Say := [spec_l1Cur_pick.S N, spec_l1Cur_wide.S N, spec_l1Cur_num.S N, spec_l1Cur_one.S N, spec_l1Cur_among.S N]
noncomputable def spec_DrawNumberOf.call (N : Nat) : CallK := callBy (spec_DrawNumberOf.says N)
noncomputable def spec_DrawNumberOf.qt (N : Nat) : FuncId → List PV → Sig → Cl := qtBy (spec_DrawNumberOf.says N)
noncomputable def spec_DrawNumberOf (N : Nat) (code : (List Int)) : Option ((Int × (Int × (Int × Unit))) × Unit) :=
  ofFn Try.prog spec_DrawNumberOf.call spec_DrawNumberOf.qt spec_DrawNumberOf.H N Try.f22 [.one (.sh (.rows (.int .u8)))] [] [ak_i, ak_i, ak_i] [] [⟨[], [], [], []⟩] (code, ()) ()
noncomputable def spec_DrawNumberOf.S (N : Nat) : Say := ⟨false, 22, [.one (.sh (.rows (.int .u8)))], [], [ak_i, ak_i, ak_i], [], fun a s => spec_DrawNumberOf N a.1⟩
set_option maxRecDepth 100000 in
theorem spec_DrawNumberOf.eq (N : Nat) (code : (List Int)) : spec_DrawNumberOf N code =
 andK (spec_l1Cur_pick N 4 code 0 0) fun u1 =>
 andK (spec_l1Cur_wide N u1.2.1.1 u1.2.1.2.1 u1.2.1.2.2.1) fun u2 =>
 chk (decide (0 ≤ (IntKind.u64.wrap (IntKind.i64.wrap (8 * (IntKind.i64.wrap (1 + u1.1.1))))))) (
 andK (spec_l1Cur_num N u2.2.1.1 u2.2.1.2.1 u2.2.1.2.2.1) fun u3 =>
 andK (α := ((Unit × (Int × Unit)) × (((List Int) × (Int × (Int × Unit))) × Unit))) (
  andK (spec_l1Cur_one N 20 u3.2.1.1 u3.2.1.2.1 u3.2.1.2.2.1) fun u4 =>
  sel u4.1.1
   (
   andK (spec_l1Cur_among N [0, 5] u4.2.1.1 u4.2.1.2.1 u4.2.1.2.2.1) fun u5 =>
   some ((((), (u5.1.1, ())), ((u5.2.1.1, (u5.2.1.2.1, (u5.2.1.2.2.1, ()))), ()))))
   (
   some ((((), ((IntKind.i64.wrap (1 + u1.1.1)), ())), ((u4.2.1.1, (u4.2.1.2.1, (u4.2.1.2.2.1, ()))), ()))))) fun j6 =>
 andK (spec_l1Cur_one N 8 j6.2.1.1 j6.2.1.2.1 j6.2.1.2.2.1) fun u7 =>
 sel u7.1.1
  (
  andK (spec_l1Cur_pick N 300 u7.2.1.1 u7.2.1.2.1 u7.2.1.2.2.1) fun u8 =>
  some (((IntKind.i64.wrap (4611686018427387902 - u8.1.1)), ((Go.bits .and .i64 u2.1.1 (IntKind.i64.wrap ((shlI .i64 1 (IntKind.u64.wrap (IntKind.i64.wrap (8 * (IntKind.i64.wrap (1 + u1.1.1)))))) - 1))), (j6.1.2.1, ()))), ()))
  (
  some (((IntKind.i64.wrap (u3.1.1 - 1)), ((Go.bits .and .i64 u2.1.1 (IntKind.i64.wrap ((shlI .i64 1 (IntKind.u64.wrap (IntKind.i64.wrap (8 * (IntKind.i64.wrap (1 + u1.1.1)))))) - 1))), (j6.1.2.1, ()))), ()))) := by kernel_rfl
set_option maxRecDepth 100000 in
theorem spec_DrawNumberOf.say (N : Nat) : SayOk Try.prog (spec_DrawNumberOf.S N) := sayOk_mk (N := N) (H := spec_DrawNumberOf.H) (preps := [⟨[], [], [], []⟩]) (l := spec_DrawNumberOf.says) (fn := Try.f22) (c := bodyOf Try.f22)
  (by kernel_rfl) (by kernel_rfl) (by kernel_rfl) (by kernel_rfl) (by kernel_rfl) (by kernel_rfl) (by kernel_rfl)
  (fun N => SayAll.cons (spec_l1Cur_pick.say N) (SayAll.cons (spec_l1Cur_wide.say N) (SayAll.cons (spec_l1Cur_num.say N) (SayAll.cons (spec_l1Cur_one.say N) (SayAll.cons (spec_l1Cur_among.say N) (SayAll.nil)))))) (fun a s => by kernel_rfl)

/-! ### loop.example/g00206/spec.l6Number: function 66 -/
noncomputable def spec_l6Number.H : Hints := hintsOf [(5000004, .join [⟨.normal, [7, 8, 9], [33], [ak_b], [], [⟨[], [], [], []⟩]⟩])]
noncomputable def spec_l6Number.says (N : Nat) : List Say := []
noncomputable def spec_l6Number.call (N : Nat) : CallK := callBy (spec_l6Number.says N)
noncomputable def spec_l6Number.qt (N : Nat) : FuncId → List PV → Sig → Cl := qtBy (spec_l6Number.says N)
noncomputable def spec_l6Number (N : Nat) (largest : Int) (low : Int) (size : Int) : Option ((Int × Unit) × Unit) :=
  ofFn Try.prog spec_l6Number.call spec_l6Number.qt spec_l6Number.H N Try.f66 [ak_i, ak_i, ak_i] [] [ak_i] [] [⟨[], [], [], []⟩] (largest, (low, (size, ()))) ()
noncomputable def spec_l6Number.S (N : Nat) : Say := ⟨false, 66, [ak_i, ak_i, ak_i], [], [ak_i], [], fun a s => spec_l6Number N a.1 a.2.1 a.2.2.1⟩
set_option maxRecDepth 100000 in
theorem spec_l6Number.eq (N : Nat) (largest : Int) (low : Int) (size : Int) : spec_l6Number N largest low size =
 chk (decide (0 ≤ (IntKind.u64.wrap (IntKind.i64.wrap (8 * size))))) (
 andK (α := ((Bool × Unit) × Unit)) (
  sel (decide ((Go.bits .or .i64 (Go.bits .andNot .i64 (IntKind.i64.wrap (largest + 1)) (IntKind.i64.wrap ((shlI .i64 1 (IntKind.u64.wrap (IntKind.i64.wrap (8 * size)))) - 1))) low) ≤ (IntKind.i64.wrap ((IntKind.i64.wrap (largest + 1)) - (IntKind.i64.wrap (Int.tdiv (shlI .i64 1 (IntKind.u64.wrap (IntKind.i64.wrap (8 * size)))) 2))))))
   (
   some ((((decide ((Go.bits .or .i64 (Go.bits .andNot .i64 (IntKind.i64.wrap (largest + 1)) (IntKind.i64.wrap ((shlI .i64 1 (IntKind.u64.wrap (IntKind.i64.wrap (8 * size)))) - 1))) low) < (IntKind.i64.wrap (4611686018427387904 - (shlI .i64 1 (IntKind.u64.wrap (IntKind.i64.wrap (8 * size)))))))), ()), ())))
   (
   some (((false, ()), ())))) fun j1 =>
 sel j1.1.1
  (
  some (((IntKind.i64.wrap ((Go.bits .or .i64 (Go.bits .andNot .i64 (IntKind.i64.wrap (largest + 1)) (IntKind.i64.wrap ((shlI .i64 1 (IntKind.u64.wrap (IntKind.i64.wrap (8 * size)))) - 1))) low) + (shlI .i64 1 (IntKind.u64.wrap (IntKind.i64.wrap (8 * size)))))), ()), ()))
  (
  sel (decide ((IntKind.i64.wrap ((IntKind.i64.wrap (largest + 1)) + (IntKind.i64.wrap (Int.tdiv (shlI .i64 1 (IntKind.u64.wrap (IntKind.i64.wrap (8 * size)))) 2)))) < (Go.bits .or .i64 (Go.bits .andNot .i64 (IntKind.i64.wrap (largest + 1)) (IntKind.i64.wrap ((shlI .i64 1 (IntKind.u64.wrap (IntKind.i64.wrap (8 * size)))) - 1))) low)))
   (
   sel (decide ((shlI .i64 1 (IntKind.u64.wrap (IntKind.i64.wrap (8 * size)))) ≤ (Go.bits .or .i64 (Go.bits .andNot .i64 (IntKind.i64.wrap (largest + 1)) (IntKind.i64.wrap ((shlI .i64 1 (IntKind.u64.wrap (IntKind.i64.wrap (8 * size)))) - 1))) low)))
    (
    some (((IntKind.i64.wrap ((Go.bits .or .i64 (Go.bits .andNot .i64 (IntKind.i64.wrap (largest + 1)) (IntKind.i64.wrap ((shlI .i64 1 (IntKind.u64.wrap (IntKind.i64.wrap (8 * size)))) - 1))) low) - (shlI .i64 1 (IntKind.u64.wrap (IntKind.i64.wrap (8 * size)))))), ()), ()))
    (
    some (((Go.bits .or .i64 (Go.bits .andNot .i64 (IntKind.i64.wrap (largest + 1)) (IntKind.i64.wrap ((shlI .i64 1 (IntKind.u64.wrap (IntKind.i64.wrap (8 * size)))) - 1))) low), ()), ())))
   (
   some (((Go.bits .or .i64 (Go.bits .andNot .i64 (IntKind.i64.wrap (largest + 1)) (IntKind.i64.wrap ((shlI .i64 1 (IntKind.u64.wrap (IntKind.i64.wrap (8 * size)))) - 1))) low), ()), ())))) := by kernel_rfl
set_option maxRecDepth 100000 in
theorem spec_l6Number.say (N : Nat) : SayOk Try.prog (spec_l6Number.S N) := sayOk_mk (N := N) (H := spec_l6Number.H) (preps := [⟨[], [], [], []⟩]) (l := spec_l6Number.says) (fn := Try.f66) (c := bodyOf Try.f66)
  (by kernel_rfl) (by kernel_rfl) (by kernel_rfl) (by kernel_rfl) (by kernel_rfl) (by kernel_rfl) (by kernel_rfl)
  (fun N => SayAll.nil) (fun a s => by kernel_rfl)

/-! ### loop.example/g00206/spec.NumberOf: function 23 -/
noncomputable def spec_NumberOf.H : Hints := hintsOf [(5000001, .join [⟨.normal, [0, 1, 2], [25], [ak_b], [], [⟨[], [], [], []⟩]⟩])]
noncomputable def spec_NumberOf.says (N : Nat) : List Say := [spec_l1In.S N, spec_l6Number.S N]
noncomputable def spec_NumberOf.call (N : Nat) : CallK := callBy (spec_NumberOf.says N)
noncomputable def spec_NumberOf.qt (N : Nat) : FuncId → List PV → Sig → Cl := qtBy (spec_NumberOf.says N)
noncomputable def spec_NumberOf (N : Nat) (largest : Int) (low : Int) (size : Int) : Option ((Int × (Bool × Unit)) × Unit) :=
  ofFn Try.prog spec_NumberOf.call spec_NumberOf.qt spec_NumberOf.H N Try.f23 [ak_i, ak_i, ak_i] [] [ak_i, ak_b] [] [⟨[], [], [], []⟩] (largest, (low, (size, ()))) ()
noncomputable def spec_NumberOf.S (N : Nat) : Say := ⟨false, 23, [ak_i, ak_i, ak_i], [], [ak_i, ak_b], [], fun a s => spec_NumberOf N a.1 a.2.1 a.2.2.1⟩
set_option maxRecDepth 100000 in
theorem spec_NumberOf.eq (N : Nat) (largest : Int) (low : Int) (size : Int) : spec_NumberOf N largest low size =
 andK (α := ((Bool × Unit) × Unit)) (
  andK (spec_l1In N largest (-1) 4611686018427387902) fun u1 =>
  sel (!u1.1.1)
   (
   some (((true, ()), ())))
   (
   andK (spec_l1In N size 1 4) fun u2 =>
   sel (!u2.1.1)
    (
    some (((true, ()), ())))
    (
    chk (decide (0 ≤ (IntKind.u64.wrap (IntKind.i64.wrap (8 * size))))) (
    andK (spec_l1In N low 0 (IntKind.i64.wrap ((shlI .i64 1 (IntKind.u64.wrap (IntKind.i64.wrap (8 * size)))) - 1))) fun u3 =>
    some ((((!u3.1.1), ()), ())))))) fun j4 =>
 sel j4.1.1
  (
  some ((0, (false, ())), ()))
  (
  andK (spec_l6Number N largest low size) fun u5 =>
  some ((u5.1.1, (true, ())), ())) := by kernel_rfl
set_option maxRecDepth 100000 in
theorem spec_NumberOf.say (N : Nat) : SayOk Try.prog (spec_NumberOf.S N) := sayOk_mk (N := N) (H := spec_NumberOf.H) (preps := [⟨[], [], [], []⟩]) (l := spec_NumberOf.says) (fn := Try.f23) (c := bodyOf Try.f23)
  (by kernel_rfl) (by kernel_rfl) (by kernel_rfl) (by kernel_rfl) (by kernel_rfl) (by kernel_rfl) (by kernel_rfl)
  (fun N => SayAll.cons (spec_l1In.say N) (SayAll.cons (spec_l6Number.say N) (SayAll.nil))) (fun a s => by kernel_rfl)

/-! ### loop.example/g00206/laws.FnNumbers: function 5 -/
noncomputable def laws_FnNumbers.H : Hints := hintsOf [(5000006, .join [⟨.normal, [1, 5, 6, 7, 8], [53], [ak_b], [], [⟨[], [], [], []⟩]⟩]),
  (2000011, .loop ⟨.normal, [1, 5, 6, 7], [11, 12], [ak_i, ak_i], [], [⟨[], [], [], []⟩]⟩ [⟨(.exit 0), [1, 5, 6, 7], [11], [ak_i], [], [⟨[], [], [], []⟩]⟩]),
  (5000016, .join [⟨.normal, [1], [90], [ak_b], [], [⟨[], [], [], []⟩]⟩]),
  (18, .join [⟨.ret, [], [4], [ak_b], [], [⟨[], [], [], []⟩]⟩, ⟨.normal, [1], [], [], [], [⟨[], [], [], []⟩]⟩])]
noncomputable def laws_FnNumbers.says (N : Nat) : List Say := [spec_DrawNumberBytes.S N, impl_NumberBytes.S N, spec_NumberBytes.S N, laws_numberOf.S N, impl_NumberOf.S N, spec_DrawNumberOf.S N, spec_NumberOf.S N]
noncomputable def laws_FnNumbers.call (N : Nat) : CallK := callBy (laws_FnNumbers.says N)
noncomputable def laws_FnNumbers.qt (N : Nat) : FuncId → List PV → Sig → Cl := qtBy (laws_FnNumbers.says N)
noncomputable def laws_FnNumbers.l0.hd : Alt := ⟨.normal, [1, 5, 6, 7], [11, 12], [ak_i, ak_i], [], [⟨[], [], [], []⟩]⟩
noncomputable def laws_FnNumbers.l0.outs : List Alt := [⟨(.exit 0), [1, 5, 6, 7], [11], [ak_i], [], [⟨[], [], [], []⟩]⟩]
noncomputable def laws_FnNumbers.l0 (N : Nat) (o1 : (List Int)) (d : Int) (e : Int) (t : ByteArray) (r : Int) (r1 : Int) : Option ((Int × Unit) × Unit) :=
  loopK Try.prog laws_FnNumbers.call laws_FnNumbers.qt laws_FnNumbers.H (codeAt (bodyOf Try.f5) [1, 1, 1, 1, 1, 1, 0, 1, 0, 1, 0, 1, 0, 0]) 0 laws_FnNumbers.l0.hd laws_FnNumbers.l0.outs [(1, .rows false (.int .u8) o1), (5, .v (.int .i64 d)), (6, .v (.int .i64 e)), (7, .v (.string t))] N ((r, (r1, ())), ())
noncomputable def laws_FnNumbers (N : Nat) (G : (List Int)) (o : (List Int)) : Option ((Bool × Unit) × Unit) :=
  ofFn Try.prog laws_FnNumbers.call laws_FnNumbers.qt laws_FnNumbers.H N Try.f5 [.one (.sh (.rows (.int .u8))), .one (.sh (.rows (.int .u8)))] [] [ak_b] [] [⟨[], [], [], []⟩] (G, (o, ())) ()
noncomputable def laws_FnNumbers.S (N : Nat) : Say := ⟨false, 5, [.one (.sh (.rows (.int .u8))), .one (.sh (.rows (.int .u8)))], [], [ak_b], [], fun a s => laws_FnNumbers N a.1 a.2.1⟩
set_option maxRecDepth 100000 in
theorem laws_FnNumbers.l0.eq (N : Nat) (o1 : (List Int)) (d : Int) (e : Int) (t : ByteArray) (r : Int) (r1 : Int) : laws_FnNumbers.l0 (N + 1) o1 d e t r r1 =
 sel (decide (r1 < (t.size : Int)))
  (
  chk ((decide (0 ≤ r1)) && (decide (r1 < (t.size : Int)))) (
  laws_FnNumbers.l0 N o1 d e t (Go.bits .or .i64 (shlI .i64 r 8) (IntKind.i64.wrap ((bytesL t).getD (Int.toNat r1) 0))) (IntKind.i64.wrap (r1 + 1))))
  (
  some (((r, ()), ()))) := by kernel_rfl
set_option maxRecDepth 100000 in
theorem laws_FnNumbers.eq (N : Nat) (G : (List Int)) (o : (List Int)) : laws_FnNumbers N G o =
 sel (decide (1048576 < (IntKind.i64.wrap ((G.length : Int) + (o.length : Int)))))
  (
  some ((true, ()), ()))
  (
  andK (spec_DrawNumberBytes N G) fun u1 =>
  andK (impl_NumberBytes N u1.1.1 u1.1.2.1) fun u2 =>
  andK (spec_NumberBytes N u1.1.1 u1.1.2.1) fun u3 =>
  andK (α := ((Bool × Unit) × Unit)) (
   sel (!(u2.1.2.1 == u3.1.2.1))
    (
    some (((true, ()), ())))
    (
    some ((((!(decide (u2.1.1 = u3.1.1))), ()), ())))) fun j4 =>
  sel j4.1.1
   (
   some ((false, ()), ()))
   (
   andK (α := (((Bool × Unit) × Unit) ⊕ (Unit × Unit))) (
    sel u2.1.2.1
     (
     andK (laws_FnNumbers.l0 N o u1.1.1 u1.1.2.1 u2.1.1 0 0) fun l5 =>
     andK (laws_numberOf N o) fun u6 =>
     chk ((IntKind.i64.wrap (u1.1.1 - u1.1.2.1)) != 0) (
     andK (impl_NumberOf N (IntKind.i64.wrap (u1.1.2.1 + (Int.tmod u6.1.1 (IntKind.i64.wrap (u1.1.1 - u1.1.2.1))))) l5.1.1 (u2.1.1.size : Int)) fun u7 =>
     andK (α := ((Bool × Unit) × Unit)) (
      sel (!u7.1.2.1)
       (
       some (((true, ()), ())))
       (
       some ((((!(decide (u7.1.1 = u1.1.1))), ()), ())))) fun j8 =>
     sel j8.1.1
      (
      some (.inl ((false, ()), ())))
      (
      some (.inr (((), ()))))))
     (
     some (.inr (((), ()))))) fun j9 =>
   orK j9 (fun x10 =>
    some ((x10.1.1, ()), ()))
    (fun x11 =>
    andK (spec_DrawNumberOf N o) fun u12 =>
    andK (impl_NumberOf N u12.1.1 u12.1.2.1 u12.1.2.2.1) fun u13 =>
    andK (spec_NumberOf N u12.1.1 u12.1.2.1 u12.1.2.2.1) fun u14 =>
    sel (u13.1.2.1 == u14.1.2.1)
     (
     some (((decide (u13.1.1 = u14.1.1)), ()), ()))
     (
     some ((false, ()), ()))))) := by kernel_rfl
set_option maxRecDepth 100000 in
theorem laws_FnNumbers.say (N : Nat) : SayOk Try.prog (laws_FnNumbers.S N) := sayOk_mk (N := N) (H := laws_FnNumbers.H) (preps := [⟨[], [], [], []⟩]) (l := laws_FnNumbers.says) (fn := Try.f5) (c := bodyOf Try.f5)
  (by kernel_rfl) (by kernel_rfl) (by kernel_rfl) (by kernel_rfl) (by kernel_rfl) (by kernel_rfl) (by kernel_rfl)
  (fun N => SayAll.cons (spec_DrawNumberBytes.say N) (SayAll.cons (impl_NumberBytes.say N) (SayAll.cons (spec_NumberBytes.say N) (SayAll.cons (laws_numberOf.say N) (SayAll.cons (impl_NumberOf.say N) (SayAll.cons (spec_DrawNumberOf.say N) (SayAll.cons (spec_NumberOf.say N) (SayAll.nil)))))))) (fun a s => by kernel_rfl)

end Go.Proofs.Ytcngjidojibleab.GFnNumbers
