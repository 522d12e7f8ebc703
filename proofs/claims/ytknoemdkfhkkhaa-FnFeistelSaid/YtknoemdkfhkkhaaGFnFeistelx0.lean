-- Written by a program of this session out of the translation; Lean checks it.
import Derived.Test.YtknoemdkfhkkhaaPmLaw
import Derived.Test.YtknoemdkfhkkhaaProg
import Derived.Test.YtknoemdkfhkkhaaShelf
set_option linter.unusedVariables false
namespace Go.Proofs.Ytknoemdkfhkkhaa.GFnFeistel
open Go Go.Proofs Go.Proofs.YtknoemdkfhkkhaaPM

/-! ### (*loop.example/g00206/spec.l1Cur).next: function 69 -/
noncomputable def spec_l1Cur_next.H : Hints := hintsOf [(4, .join [⟨.normal, [], [0, 3], [.one (.ptr 0 0), ak_i], [.cells [.sh (.rows (.int .u8)), ck_i, .sh (.int .u64)]], [⟨[], [], [], []⟩]⟩])]
noncomputable def spec_l1Cur_next.says (N : Nat) : List Say := []
noncomputable def spec_l1Cur_next.call (N : Nat) : CallK := callBy (spec_l1Cur_next.says N)
noncomputable def spec_l1Cur_next.qt (N : Nat) : FuncId → List PV → Sig → Cl := qtBy (spec_l1Cur_next.says N)
noncomputable def spec_l1Cur_next (N : Nat) (p0_0 : (List Int)) (p0_1 : Int) (p0_2 : Int) : Option ((Int × Unit) × (((List Int) × (Int × (Int × Unit))) × Unit)) :=
  ofFn Try.prog spec_l1Cur_next.call spec_l1Cur_next.qt spec_l1Cur_next.H N Try.f69 [.one (.ptr 0 0)] [.cells [.sh (.rows (.int .u8)), ck_i, .sh (.int .u64)]] [ak_i] [.cells [.sh (.rows (.int .u8)), ck_i, .sh (.int .u64)]] [⟨[], [], [], []⟩] ((), ()) ((p0_0, (p0_1, (p0_2, ()))), ())
noncomputable def spec_l1Cur_next.S (N : Nat) : Say := ⟨false, 69, [.one (.ptr 0 0)], [.cells [.sh (.rows (.int .u8)), ck_i, .sh (.int .u64)]], [ak_i], [.cells [.sh (.rows (.int .u8)), ck_i, .sh (.int .u64)]], fun a s => spec_l1Cur_next N s.1.1 s.1.2.1 s.1.2.2.1⟩
set_option maxRecDepth 100000 in
theorem spec_l1Cur_next.eq (N : Nat) (p0_0 : (List Int)) (p0_1 : Int) (p0_2 : Int) : spec_l1Cur_next N p0_0 p0_1 p0_2 =
 andK (α := ((Unit × (Int × Unit)) × (((List Int) × (Int × (Int × Unit))) × Unit))) (
  sel (decide (p0_1 < (p0_0.length : Int)))
   (
   chk ((decide (0 ≤ p0_1)) && (decide (p0_1 < (p0_0.length : Int)))) (
   some ((((), ((IntKind.i64.wrap (p0_0.getD (Int.toNat p0_1) 0)), ())), ((p0_0, (p0_1, (p0_2, ()))), ())))))
   (
   some ((((), (0, ())), ((p0_0, (p0_1, (p0_2, ()))), ()))))) fun j1 =>
 sel (decide ((IntKind.i64.wrap (j1.2.1.2.1 + 1)) ≤ (j1.2.1.1.length : Int)))
  (
  some ((j1.1.2.1, ()), ((j1.2.1.1, ((IntKind.i64.wrap (j1.2.1.2.1 + 1)), ((IntKind.u64.wrap ((IntKind.u64.wrap ((IntKind.u64.wrap (j1.2.1.2.2.1 * 6364136223846793005)) + (IntKind.u64.wrap j1.1.2.1))) + 1442695040888963407)), ()))), ())))
  (
  some (((IntKind.i64.wrap (Go.bits .and .u64 (shrI .u64 (IntKind.u64.wrap ((IntKind.u64.wrap ((IntKind.u64.wrap (j1.2.1.2.2.1 * 6364136223846793005)) + (IntKind.u64.wrap j1.1.2.1))) + 1442695040888963407)) 40) 255)), ()), ((j1.2.1.1, ((IntKind.i64.wrap (j1.2.1.2.1 + 1)), ((IntKind.u64.wrap ((IntKind.u64.wrap ((IntKind.u64.wrap (j1.2.1.2.2.1 * 6364136223846793005)) + (IntKind.u64.wrap j1.1.2.1))) + 1442695040888963407)), ()))), ()))) := by kernel_rfl
set_option maxRecDepth 100000 in
theorem spec_l1Cur_next.say (N : Nat) : SayOk Try.prog (spec_l1Cur_next.S N) := sayOk_mk (N := N) (H := spec_l1Cur_next.H) (preps := [⟨[], [], [], []⟩]) (l := spec_l1Cur_next.says) (fn := Try.f69) (c := bodyOf Try.f69)
  (by kernel_rfl) (by kernel_rfl) (by kernel_rfl) (by kernel_rfl) (by kernel_rfl) (by kernel_rfl) (by kernel_rfl)
  (fun N => SayAll.nil) (fun a s => by kernel_rfl)

/-! ### (*loop.example/g00206/spec.l1Cur).pick: function 33 -/
noncomputable def spec_l1Cur_pick.H : Hints := hintsOf []
noncomputable def spec_l1Cur_pick.says (N : Nat) : List Say := [spec_l1Cur_next.S N]
noncomputable def spec_l1Cur_pick.call (N : Nat) : CallK := callBy (spec_l1Cur_pick.says N)
noncomputable def spec_l1Cur_pick.qt (N : Nat) : FuncId → List PV → Sig → Cl := qtBy (spec_l1Cur_pick.says N)
noncomputable def spec_l1Cur_pick (N : Nat) (n : Int) (p0_0 : (List Int)) (p0_1 : Int) (p0_2 : Int) : Option ((Int × Unit) × (((List Int) × (Int × (Int × Unit))) × Unit)) :=
  ofFn Try.prog spec_l1Cur_pick.call spec_l1Cur_pick.qt spec_l1Cur_pick.H N Try.f33 [.one (.ptr 0 0), ak_i] [.cells [.sh (.rows (.int .u8)), ck_i, .sh (.int .u64)]] [ak_i] [.cells [.sh (.rows (.int .u8)), ck_i, .sh (.int .u64)]] [⟨[], [], [], []⟩] ((), (n, ())) ((p0_0, (p0_1, (p0_2, ()))), ())
noncomputable def spec_l1Cur_pick.S (N : Nat) : Say := ⟨false, 33, [.one (.ptr 0 0), ak_i], [.cells [.sh (.rows (.int .u8)), ck_i, .sh (.int .u64)]], [ak_i], [.cells [.sh (.rows (.int .u8)), ck_i, .sh (.int .u64)]], fun a s => spec_l1Cur_pick N a.2.1 s.1.1 s.1.2.1 s.1.2.2.1⟩
set_option maxRecDepth 100000 in
theorem spec_l1Cur_pick.eq (N : Nat) (n : Int) (p0_0 : (List Int)) (p0_1 : Int) (p0_2 : Int) : spec_l1Cur_pick N n p0_0 p0_1 p0_2 =
 sel (decide (n ≤ 1))
  (
  some ((0, ()), ((p0_0, (p0_1, (p0_2, ()))), ())))
  (
  andK (spec_l1Cur_next N p0_0 p0_1 p0_2) fun u1 =>
  sel (decide (200 < n))
   (
   andK (spec_l1Cur_next N u1.2.1.1 u1.2.1.2.1 u1.2.1.2.2.1) fun u2 =>
   chk (n != 0) (
   some (((Int.tmod (IntKind.i64.wrap ((IntKind.i64.wrap (u1.1.1 * 256)) + u2.1.1)) n), ()), ((u2.2.1.1, (u2.2.1.2.1, (u2.2.1.2.2.1, ()))), ()))))
   (
   chk (n != 0) (
   some (((Int.tmod u1.1.1 n), ()), ((u1.2.1.1, (u1.2.1.2.1, (u1.2.1.2.2.1, ()))), ()))))) := by kernel_rfl
set_option maxRecDepth 100000 in
theorem spec_l1Cur_pick.say (N : Nat) : SayOk Try.prog (spec_l1Cur_pick.S N) := sayOk_mk (N := N) (H := spec_l1Cur_pick.H) (preps := [⟨[], [], [], []⟩]) (l := spec_l1Cur_pick.says) (fn := Try.f33) (c := bodyOf Try.f33)
  (by kernel_rfl) (by kernel_rfl) (by kernel_rfl) (by kernel_rfl) (by kernel_rfl) (by kernel_rfl) (by kernel_rfl)
  (fun N => SayAll.cons (spec_l1Cur_next.say N) (SayAll.nil)) (fun a s => by kernel_rfl)

/-! ### (*loop.example/g00206/spec.l1Cur).one: function 34 -/
noncomputable def spec_l1Cur_one.H : Hints := hintsOf []
noncomputable def spec_l1Cur_one.says (N : Nat) : List Say := [spec_l1Cur_pick.S N]
noncomputable def spec_l1Cur_one.call (N : Nat) : CallK := callBy (spec_l1Cur_one.says N)
noncomputable def spec_l1Cur_one.qt (N : Nat) : FuncId → List PV → Sig → Cl := qtBy (spec_l1Cur_one.says N)
noncomputable def spec_l1Cur_one (N : Nat) (n : Int) (p0_0 : (List Int)) (p0_1 : Int) (p0_2 : Int) : Option ((Bool × Unit) × (((List Int) × (Int × (Int × Unit))) × Unit)) :=
  ofFn Try.prog spec_l1Cur_one.call spec_l1Cur_one.qt spec_l1Cur_one.H N Try.f34 [.one (.ptr 0 0), ak_i] [.cells [.sh (.rows (.int .u8)), ck_i, .sh (.int .u64)]] [ak_b] [.cells [.sh (.rows (.int .u8)), ck_i, .sh (.int .u64)]] [⟨[], [], [], []⟩] ((), (n, ())) ((p0_0, (p0_1, (p0_2, ()))), ())
noncomputable def spec_l1Cur_one.S (N : Nat) : Say := ⟨false, 34, [.one (.ptr 0 0), ak_i], [.cells [.sh (.rows (.int .u8)), ck_i, .sh (.int .u64)]], [ak_b], [.cells [.sh (.rows (.int .u8)), ck_i, .sh (.int .u64)]], fun a s => spec_l1Cur_one N a.2.1 s.1.1 s.1.2.1 s.1.2.2.1⟩
set_option maxRecDepth 100000 in
theorem spec_l1Cur_one.eq (N : Nat) (n : Int) (p0_0 : (List Int)) (p0_1 : Int) (p0_2 : Int) : spec_l1Cur_one N n p0_0 p0_1 p0_2 =
 andK (spec_l1Cur_pick N n p0_0 p0_1 p0_2) fun u1 =>
 some (((decide (u1.1.1 = 0)), ()), ((u1.2.1.1, (u1.2.1.2.1, (u1.2.1.2.2.1, ()))), ())) := by kernel_rfl
set_option maxRecDepth 100000 in
theorem spec_l1Cur_one.say (N : Nat) : SayOk Try.prog (spec_l1Cur_one.S N) := sayOk_mk (N := N) (H := spec_l1Cur_one.H) (preps := [⟨[], [], [], []⟩]) (l := spec_l1Cur_one.says) (fn := Try.f34) (c := bodyOf Try.f34)
  (by kernel_rfl) (by kernel_rfl) (by kernel_rfl) (by kernel_rfl) (by kernel_rfl) (by kernel_rfl) (by kernel_rfl)
  (fun N => SayAll.cons (spec_l1Cur_pick.say N) (SayAll.nil)) (fun a s => by kernel_rfl)

/-! ### (*loop.example/g00206/spec.l1Cur).among: function 35 -/
noncomputable def spec_l1Cur_among.H : Hints := hintsOf []
noncomputable def spec_l1Cur_among.says (N : Nat) : List Say := [spec_l1Cur_pick.S N]
noncomputable def spec_l1Cur_among.call (N : Nat) : CallK := callBy (spec_l1Cur_among.says N)
noncomputable def spec_l1Cur_among.qt (N : Nat) : FuncId → List PV → Sig → Cl := qtBy (spec_l1Cur_among.says N)
noncomputable def spec_l1Cur_among (N : Nat) (list : (List Int)) (p0_0 : (List Int)) (p0_1 : Int) (p0_2 : Int) : Option ((Int × Unit) × (((List Int) × (Int × (Int × Unit))) × Unit)) :=
  ofFn Try.prog spec_l1Cur_among.call spec_l1Cur_among.qt spec_l1Cur_among.H N Try.f35 [.one (.ptr 0 0), .one (.sh (.rows (.int .i64)))] [.cells [.sh (.rows (.int .u8)), ck_i, .sh (.int .u64)]] [ak_i] [.cells [.sh (.rows (.int .u8)), ck_i, .sh (.int .u64)]] [⟨[], [], [], []⟩] ((), (list, ())) ((p0_0, (p0_1, (p0_2, ()))), ())
noncomputable def spec_l1Cur_among.S (N : Nat) : Say := ⟨false, 35, [.one (.ptr 0 0), .one (.sh (.rows (.int .i64)))], [.cells [.sh (.rows (.int .u8)), ck_i, .sh (.int .u64)]], [ak_i], [.cells [.sh (.rows (.int .u8)), ck_i, .sh (.int .u64)]], fun a s => spec_l1Cur_among N a.2.1 s.1.1 s.1.2.1 s.1.2.2.1⟩
set_option maxRecDepth 100000 in
theorem spec_l1Cur_among.eq (N : Nat) (list : (List Int)) (p0_0 : (List Int)) (p0_1 : Int) (p0_2 : Int) : spec_l1Cur_among N list p0_0 p0_1 p0_2 =
 andK (spec_l1Cur_pick N (list.length : Int) p0_0 p0_1 p0_2) fun u1 =>
 chk ((decide (0 ≤ u1.1.1)) && (decide (u1.1.1 < (list.length : Int)))) (
 some (((list.getD (Int.toNat u1.1.1) 0), ()), ((u1.2.1.1, (u1.2.1.2.1, (u1.2.1.2.2.1, ()))), ()))) := by kernel_rfl
set_option maxRecDepth 100000 in
theorem spec_l1Cur_among.say (N : Nat) : SayOk Try.prog (spec_l1Cur_among.S N) := sayOk_mk (N := N) (H := spec_l1Cur_among.H) (preps := [⟨[], [], [], []⟩]) (l := spec_l1Cur_among.says) (fn := Try.f35) (c := bodyOf Try.f35)
  (by kernel_rfl) (by kernel_rfl) (by kernel_rfl) (by kernel_rfl) (by kernel_rfl) (by kernel_rfl) (by kernel_rfl)
  (fun N => SayAll.cons (spec_l1Cur_pick.say N) (SayAll.nil)) (fun a s => by kernel_rfl)

/-! ### (*loop.example/g00206/spec.l1Cur).sizedBytes: function 37 -/
noncomputable def spec_l1Cur_sizedBytes.H : Hints := hintsOf [(2000003, .loop ⟨.normal, [10], [0, 5, 11], [.one (.ptr 0 0), .one (.own 1), ak_i], [.cells [.sh (.rows (.int .u8)), ck_i, .sh (.int .u64)], .rows (.int .u8)], [⟨[], [], [], []⟩]⟩ [⟨(.exit 0), [], [5], [.one (.own 1)], [.cells [.sh (.rows (.int .u8)), ck_i, .sh (.int .u64)], .rows (.int .u8)], [⟨[], [], [], []⟩]⟩])]
noncomputable def spec_l1Cur_sizedBytes.says (N : Nat) : List Say := [spec_l1Cur_pick.S N]
noncomputable def spec_l1Cur_sizedBytes.call (N : Nat) : CallK := callBy (spec_l1Cur_sizedBytes.says N)
noncomputable def spec_l1Cur_sizedBytes.qt (N : Nat) : FuncId → List PV → Sig → Cl := qtBy (spec_l1Cur_sizedBytes.says N)
noncomputable def spec_l1Cur_sizedBytes.l0.hd : Alt := ⟨.normal, [10], [0, 5, 11], [.one (.ptr 0 0), .one (.own 1), ak_i], [.cells [.sh (.rows (.int .u8)), ck_i, .sh (.int .u64)], .rows (.int .u8)], [⟨[], [], [], []⟩]⟩
noncomputable def spec_l1Cur_sizedBytes.l0.outs : List Alt := [⟨(.exit 0), [], [5], [.one (.own 1)], [.cells [.sh (.rows (.int .u8)), ck_i, .sh (.int .u64)], .rows (.int .u8)], [⟨[], [], [], []⟩]⟩]
noncomputable def spec_l1Cur_sizedBytes.l0 (N : Nat) (t10 : Int) (t11 : Int) (p0_01 : (List Int)) (p0_11 : Int) (p0_21 : Int) (p1 : (List Int)) : Option ((Unit × Unit) × (((List Int) × (Int × (Int × Unit))) × ((List Int) × Unit))) :=
  loopK Try.prog spec_l1Cur_sizedBytes.call spec_l1Cur_sizedBytes.qt spec_l1Cur_sizedBytes.H (codeAt (bodyOf Try.f37) [1, 1, 0, 1, 0, 0]) 2 spec_l1Cur_sizedBytes.l0.hd spec_l1Cur_sizedBytes.l0.outs [(10, .v (.int .i64 t10))] N (((), ((), (t11, ()))), ((p0_01, (p0_11, (p0_21, ()))), (p1, ())))
noncomputable def spec_l1Cur_sizedBytes (N : Nat) (n : Int) (p0_0 : (List Int)) (p0_1 : Int) (p0_2 : Int) : Option ((Unit × Unit) × (((List Int) × (Int × (Int × Unit))) × ((List Int) × Unit))) :=
  ofFn Try.prog spec_l1Cur_sizedBytes.call spec_l1Cur_sizedBytes.qt spec_l1Cur_sizedBytes.H N Try.f37 [.one (.ptr 0 0), ak_i] [.cells [.sh (.rows (.int .u8)), ck_i, .sh (.int .u64)]] [.one (.own 1)] [.cells [.sh (.rows (.int .u8)), ck_i, .sh (.int .u64)], .rows (.int .u8)] [⟨[], [], [], [1]⟩] ((), (n, ())) ((p0_0, (p0_1, (p0_2, ()))), ())
noncomputable def spec_l1Cur_sizedBytes.S (N : Nat) : Say := ⟨false, 37, [.one (.ptr 0 0), ak_i], [.cells [.sh (.rows (.int .u8)), ck_i, .sh (.int .u64)]], [.one (.own 1)], [.cells [.sh (.rows (.int .u8)), ck_i, .sh (.int .u64)], .rows (.int .u8)], fun a s => spec_l1Cur_sizedBytes N a.2.1 s.1.1 s.1.2.1 s.1.2.2.1⟩
set_option maxRecDepth 100000 in
theorem spec_l1Cur_sizedBytes.l0.eq (N : Nat) (t10 : Int) (t11 : Int) (p0_01 : (List Int)) (p0_11 : Int) (p0_21 : Int) (p1 : (List Int)) : spec_l1Cur_sizedBytes.l0 (N + 1) t10 t11 p0_01 p0_11 p0_21 p1 =
 sel (decide (t11 < t10))
  (
  andK (spec_l1Cur_pick N 256 p0_01 p0_11 p0_21) fun u1 =>
  chk ((decide (0 ≤ t11)) && (decide (t11 < (p1.length : Int)))) (
  spec_l1Cur_sizedBytes.l0 N t10 (IntKind.i64.wrap (t11 + 1)) u1.2.1.1 u1.2.1.2.1 u1.2.1.2.2.1 (p1.set (Int.toNat t11) (IntKind.u8.wrap u1.1.1))))
  (
  some ((((), ()), ((p0_01, (p0_11, (p0_21, ()))), (p1, ()))))) := by kernel_rfl
set_option maxRecDepth 100000 in
theorem spec_l1Cur_sizedBytes.eq (N : Nat) (n : Int) (p0_0 : (List Int)) (p0_1 : Int) (p0_2 : Int) : spec_l1Cur_sizedBytes N n p0_0 p0_1 p0_2 =
 chk ((decide (0 ≤ n)) && ((smallI n) && (decide (n = n)))) (
 andK (spec_l1Cur_sizedBytes.l0 N ((List.replicate (Int.toNat n) (0 : Int)).length : Int) 0 p0_0 p0_1 p0_2 (List.replicate (Int.toNat n) (0 : Int))) fun l2 =>
 some (((), ()), ((l2.2.1.1, (l2.2.1.2.1, (l2.2.1.2.2.1, ()))), (l2.2.2.1, ())))) := by kernel_rfl
set_option maxRecDepth 100000 in
theorem spec_l1Cur_sizedBytes.say (N : Nat) : SayOk Try.prog (spec_l1Cur_sizedBytes.S N) := sayOk_mk (N := N) (H := spec_l1Cur_sizedBytes.H) (preps := [⟨[], [], [], [1]⟩]) (l := spec_l1Cur_sizedBytes.says) (fn := Try.f37) (c := bodyOf Try.f37)
  (by kernel_rfl) (by kernel_rfl) (by kernel_rfl) (by kernel_rfl) (by kernel_rfl) (by kernel_rfl) (by kernel_rfl)
  (fun N => SayAll.cons (spec_l1Cur_pick.say N) (SayAll.nil)) (fun a s => by kernel_rfl)

/-! ### (*loop.example/g00206/spec.l1Cur).block: function 36 -/
noncomputable def spec_l1Cur_block.H : Hints := hintsOf []
noncomputable def spec_l1Cur_block.says (N : Nat) : List Say := [spec_l1Cur_one.S N, spec_l1Cur_among.S N, spec_l1Cur_sizedBytes.S N]
noncomputable def spec_l1Cur_block.call (N : Nat) : CallK := callBy (spec_l1Cur_block.says N)
noncomputable def spec_l1Cur_block.qt (N : Nat) : FuncId → List PV → Sig → Cl := qtBy (spec_l1Cur_block.says N)
noncomputable def spec_l1Cur_block (N : Nat) (p0_0 : (List Int)) (p0_1 : Int) (p0_2 : Int) : Option ((ByteArray × Unit) × (((List Int) × (Int × (Int × Unit))) × Unit)) :=
  ofFn Try.prog spec_l1Cur_block.call spec_l1Cur_block.qt spec_l1Cur_block.H N Try.f36 [.one (.ptr 0 0)] [.cells [.sh (.rows (.int .u8)), ck_i, .sh (.int .u64)]] [ak_s] [.cells [.sh (.rows (.int .u8)), ck_i, .sh (.int .u64)]] [⟨[], [], [], []⟩] ((), ()) ((p0_0, (p0_1, (p0_2, ()))), ())
noncomputable def spec_l1Cur_block.S (N : Nat) : Say := ⟨false, 36, [.one (.ptr 0 0)], [.cells [.sh (.rows (.int .u8)), ck_i, .sh (.int .u64)]], [ak_s], [.cells [.sh (.rows (.int .u8)), ck_i, .sh (.int .u64)]], fun a s => spec_l1Cur_block N s.1.1 s.1.2.1 s.1.2.2.1⟩
set_option maxRecDepth 100000 in
theorem spec_l1Cur_block.eq (N : Nat) (p0_0 : (List Int)) (p0_1 : Int) (p0_2 : Int) : spec_l1Cur_block N p0_0 p0_1 p0_2 =
 andK (spec_l1Cur_one N 30 p0_0 p0_1 p0_2) fun u1 =>
 sel u1.1.1
  (
  andK (spec_l1Cur_among N [0, 15, 17] u1.2.1.1 u1.2.1.2.1 u1.2.1.2.2.1) fun u2 =>
  andK (spec_l1Cur_sizedBytes N u2.1.1 u2.2.1.1 u2.2.1.2.1 u2.2.1.2.2.1) fun u3 =>
  some (((strL u3.2.2.1), ()), ((u3.2.1.1, (u3.2.1.2.1, (u3.2.1.2.2.1, ()))), ())))
  (
  andK (spec_l1Cur_one N 8 u1.2.1.1 u1.2.1.2.1 u1.2.1.2.2.1) fun u4 =>
  sel u4.1.1
   (
   some (((strL (List.replicate 16 (0 : Int))), ()), ((u4.2.1.1, (u4.2.1.2.1, (u4.2.1.2.2.1, ()))), ())))
   (
   andK (spec_l1Cur_sizedBytes N 16 u4.2.1.1 u4.2.1.2.1 u4.2.1.2.2.1) fun u5 =>
   some (((strL u5.2.2.1), ()), ((u5.2.1.1, (u5.2.1.2.1, (u5.2.1.2.2.1, ()))), ())))) := by kernel_rfl
set_option maxRecDepth 100000 in
theorem spec_l1Cur_block.say (N : Nat) : SayOk Try.prog (spec_l1Cur_block.S N) := sayOk_mk (N := N) (H := spec_l1Cur_block.H) (preps := [⟨[], [], [], []⟩]) (l := spec_l1Cur_block.says) (fn := Try.f36) (c := bodyOf Try.f36)
  (by kernel_rfl) (by kernel_rfl) (by kernel_rfl) (by kernel_rfl) (by kernel_rfl) (by kernel_rfl) (by kernel_rfl)
  (fun N => SayAll.cons (spec_l1Cur_one.say N) (SayAll.cons (spec_l1Cur_among.say N) (SayAll.cons (spec_l1Cur_sizedBytes.say N) (SayAll.nil)))) (fun a s => by kernel_rfl)

/-! ### loop.example/g00206/spec.DrawFourPasses: function 9 -/
noncomputable def spec_DrawFourPasses.H : Hints := hintsOf [(5, .join [⟨.normal, [], [4, 5], [.one (.ptr 0 0), ak_i], [.cells [.sh (.rows (.int .u8)), ck_i, .sh (.int .u64)]], [⟨[], [], [], []⟩]⟩])]
noncomputable def spec_DrawFourPasses.says (N : Nat) : List Say := [spec_l1Cur_pick.S N, spec_l1Cur_one.S N, spec_l1Cur_among.S N, spec_l1Cur_block.S N, spec_l1Cur_sizedBytes.S N]
noncomputable def spec_DrawFourPasses.call (N : Nat) : CallK := callBy (spec_DrawFourPasses.says N)
noncomputable def spec_DrawFourPasses.qt (N : Nat) : FuncId → List PV → Sig → Cl := qtBy (spec_DrawFourPasses.says N)
noncomputable def spec_DrawFourPasses (N : Nat) (code : (List Int)) : Option ((ByteArray × (ByteArray × Unit)) × Unit) :=
  ofFn Try.prog spec_DrawFourPasses.call spec_DrawFourPasses.qt spec_DrawFourPasses.H N Try.f9 [.one (.sh (.rows (.int .u8)))] [] [ak_s, ak_s] [] [⟨[], [], [], []⟩] (code, ()) ()
noncomputable def spec_DrawFourPasses.S (N : Nat) : Say := ⟨false, 9, [.one (.sh (.rows (.int .u8)))], [], [ak_s, ak_s], [], fun a s => spec_DrawFourPasses N a.1⟩
set_option maxRecDepth 100000 in
theorem spec_DrawFourPasses.eq (N : Nat) (code : (List Int)) : spec_DrawFourPasses N code =
 andK (spec_l1Cur_pick N 15 code 0 0) fun u1 =>
 andK (α := ((Unit × (Int × Unit)) × (((List Int) × (Int × (Int × Unit))) × Unit))) (
  andK (spec_l1Cur_one N 12 u1.2.1.1 u1.2.1.2.1 u1.2.1.2.2.1) fun u2 =>
  sel u2.1.1
   (
   andK (spec_l1Cur_among N [0, 4, 20] u2.2.1.1 u2.2.1.2.1 u2.2.1.2.2.1) fun u3 =>
   some ((((), (u3.1.1, ())), ((u3.2.1.1, (u3.2.1.2.1, (u3.2.1.2.2.1, ()))), ()))))
   (
   some ((((), ((IntKind.i64.wrap (5 + u1.1.1)), ())), ((u2.2.1.1, (u2.2.1.2.1, (u2.2.1.2.2.1, ()))), ()))))) fun j4 =>
 andK (spec_l1Cur_block N j4.2.1.1 j4.2.1.2.1 j4.2.1.2.2.1) fun u5 =>
 andK (spec_l1Cur_sizedBytes N j4.1.2.1 u5.2.1.1 u5.2.1.2.1 u5.2.1.2.2.1) fun u6 =>
 some ((u5.1.1, ((strL u6.2.2.1), ())), ()) := by kernel_rfl
set_option maxRecDepth 100000 in
theorem spec_DrawFourPasses.say (N : Nat) : SayOk Try.prog (spec_DrawFourPasses.S N) := sayOk_mk (N := N) (H := spec_DrawFourPasses.H) (preps := [⟨[], [], [], []⟩]) (l := spec_DrawFourPasses.says) (fn := Try.f9) (c := bodyOf Try.f9)
  (by kernel_rfl) (by kernel_rfl) (by kernel_rfl) (by kernel_rfl) (by kernel_rfl) (by kernel_rfl) (by kernel_rfl)
  (fun N => SayAll.cons (spec_l1Cur_pick.say N) (SayAll.cons (spec_l1Cur_one.say N) (SayAll.cons (spec_l1Cur_among.say N) (SayAll.cons (spec_l1Cur_block.say N) (SayAll.cons (spec_l1Cur_sizedBytes.say N) (SayAll.nil)))))) (fun a s => by kernel_rfl)

/-! ### loop.example/g00206/impl.isKey: function 70 -/
noncomputable def impl_isKey.H : Hints := hintsOf []
noncomputable def impl_isKey.says (N : Nat) : List Say := []
noncomputable def impl_isKey.call (N : Nat) : CallK := callBy (impl_isKey.says N)
noncomputable def impl_isKey.qt (N : Nat) : FuncId → List PV → Sig → Cl := qtBy (impl_isKey.says N)
noncomputable def impl_isKey (N : Nat) (key : ByteArray) : Option ((Bool × Unit) × Unit) :=
  ofFn Try.prog impl_isKey.call impl_isKey.qt impl_isKey.H N Try.f70 [ak_s] [] [ak_b] [] [⟨[], [], [], []⟩] (key, ()) ()
noncomputable def impl_isKey.S (N : Nat) : Say := ⟨false, 70, [ak_s], [], [ak_b], [], fun a s => impl_isKey N a.1⟩
set_option maxRecDepth 100000 in
theorem impl_isKey.eq (N : Nat) (key : ByteArray) : impl_isKey N key =
 some (((decide ((key.size : Int) = 16)), ()), ()) := by kernel_rfl
set_option maxRecDepth 100000 in
theorem impl_isKey.say (N : Nat) : SayOk Try.prog (impl_isKey.S N) := sayOk_mk (N := N) (H := impl_isKey.H) (preps := [⟨[], [], [], []⟩]) (l := impl_isKey.says) (fn := Try.f70) (c := bodyOf Try.f70)
  (by kernel_rfl) (by kernel_rfl) (by kernel_rfl) (by kernel_rfl) (by kernel_rfl) (by kernel_rfl) (by kernel_rfl)
  (fun N => SayAll.nil) (fun a s => by kernel_rfl)

/-! ### loop.example/g00206/impl.in: function 58 -/
noncomputable def impl_in.H : Hints := hintsOf []
noncomputable def impl_in.says (N : Nat) : List Say := []
noncomputable def impl_in.call (N : Nat) : CallK := callBy (impl_in.says N)
noncomputable def impl_in.qt (N : Nat) : FuncId → List PV → Sig → Cl := qtBy (impl_in.says N)
noncomputable def impl_in (N : Nat) (n : Int) (low : Int) (high : Int) : Option ((Bool × Unit) × Unit) :=
  ofFn Try.prog impl_in.call impl_in.qt impl_in.H N Try.f58 [ak_i, ak_i, ak_i] [] [ak_b] [] [⟨[], [], [], []⟩] (n, (low, (high, ()))) ()
noncomputable def impl_in.S (N : Nat) : Say := ⟨false, 58, [ak_i, ak_i, ak_i], [], [ak_b], [], fun a s => impl_in N a.1 a.2.1 a.2.2.1⟩
set_option maxRecDepth 100000 in
theorem impl_in.eq (N : Nat) (n : Int) (low : Int) (high : Int) : impl_in N n low high =
 sel (decide (low ≤ n))
  (
  some (((decide (n ≤ high)), ()), ()))
  (
  some ((false, ()), ())) := by kernel_rfl
set_option maxRecDepth 100000 in
theorem impl_in.say (N : Nat) : SayOk Try.prog (impl_in.S N) := sayOk_mk (N := N) (H := impl_in.H) (preps := [⟨[], [], [], []⟩]) (l := impl_in.says) (fn := Try.f58) (c := bodyOf Try.f58)
  (by kernel_rfl) (by kernel_rfl) (by kernel_rfl) (by kernel_rfl) (by kernel_rfl) (by kernel_rfl) (by kernel_rfl)
  (fun N => SayAll.nil) (fun a s => by kernel_rfl)

/-! ### loop.example/g00206/impl.fourOk: function 38 -/
noncomputable def impl_fourOk.H : Hints := hintsOf []
noncomputable def impl_fourOk.says (N : Nat) : List Say := [impl_isKey.S N, impl_in.S N]
noncomputable def impl_fourOk.call (N : Nat) : CallK := callBy (impl_fourOk.says N)
noncomputable def impl_fourOk.qt (N : Nat) : FuncId → List PV → Sig → Cl := qtBy (impl_fourOk.says N)
noncomputable def impl_fourOk (N : Nat) (key : ByteArray) (s : ByteArray) : Option ((Bool × Unit) × Unit) :=
  ofFn Try.prog impl_fourOk.call impl_fourOk.qt impl_fourOk.H N Try.f38 [ak_s, ak_s] [] [ak_b] [] [⟨[], [], [], []⟩] (key, (s, ())) ()
noncomputable def impl_fourOk.S (N : Nat) : Say := ⟨false, 38, [ak_s, ak_s], [], [ak_b], [], fun a s => impl_fourOk N a.1 a.2.1⟩
set_option maxRecDepth 100000 in
theorem impl_fourOk.eq (N : Nat) (key : ByteArray) (s : ByteArray) : impl_fourOk N key s =
 andK (impl_isKey N key) fun u1 =>
 sel u1.1.1
  (
  andK (impl_in N (s.size : Int) 5 19) fun u2 =>
  some ((u2.1.1, ()), ()))
  (
  some ((false, ()), ())) := by kernel_rfl
set_option maxRecDepth 100000 in
theorem impl_fourOk.say (N : Nat) : SayOk Try.prog (impl_fourOk.S N) := sayOk_mk (N := N) (H := impl_fourOk.H) (preps := [⟨[], [], [], []⟩]) (l := impl_fourOk.says) (fn := Try.f38) (c := bodyOf Try.f38)
  (by kernel_rfl) (by kernel_rfl) (by kernel_rfl) (by kernel_rfl) (by kernel_rfl) (by kernel_rfl) (by kernel_rfl)
  (fun N => SayAll.cons (impl_isKey.say N) (SayAll.cons (impl_in.say N) (SayAll.nil))) (fun a s => by kernel_rfl)

/-! ### loop.example/g00206/impl.mulGf: function 97 -/
noncomputable def impl_mulGf.H : Hints := hintsOf [(5, .join [⟨.normal, [0, 1], [5], [.one (.sh (.int .u8))], [], [⟨[], [], [], []⟩]⟩]),
  (9, .join [⟨.normal, [1, 5], [0], [.one (.sh (.int .u8))], [], [⟨[], [], [], []⟩]⟩]),
  (2000002, .loop ⟨.normal, [], [0, 1, 5], [.one (.sh (.int .u8)), .one (.sh (.int .u8)), .one (.sh (.int .u8))], [], [⟨[], [], [], []⟩]⟩ [⟨(.exit 0), [], [5], [.one (.sh (.int .u8))], [], [⟨[], [], [], []⟩]⟩])]
noncomputable def impl_mulGf.says (N : Nat) : List Say := []
noncomputable def impl_mulGf.call (N : Nat) : CallK := callBy (impl_mulGf.says N)
noncomputable def impl_mulGf.qt (N : Nat) : FuncId → List PV → Sig → Cl := qtBy (impl_mulGf.says N)
noncomputable def impl_mulGf.l0.hd : Alt := ⟨.normal, [], [0, 1, 5], [.one (.sh (.int .u8)), .one (.sh (.int .u8)), .one (.sh (.int .u8))], [], [⟨[], [], [], []⟩]⟩
noncomputable def impl_mulGf.l0.outs : List Alt := [⟨(.exit 0), [], [5], [.one (.sh (.int .u8))], [], [⟨[], [], [], []⟩]⟩]
noncomputable def impl_mulGf.l0 (N : Nat) (a1 : Int) (b1 : Int) (out : Int) : Option ((Int × Unit) × Unit) :=
  loopK Try.prog impl_mulGf.call impl_mulGf.qt impl_mulGf.H (codeAt (bodyOf Try.f97) [1, 1, 0, 0, 0]) 0 impl_mulGf.l0.hd impl_mulGf.l0.outs [] N ((a1, (b1, (out, ()))), ())
noncomputable def impl_mulGf (N : Nat) (a : Int) (b : Int) : Option ((Int × Unit) × Unit) :=
  ofFn Try.prog impl_mulGf.call impl_mulGf.qt impl_mulGf.H N Try.f97 [.one (.sh (.int .u8)), .one (.sh (.int .u8))] [] [.one (.sh (.int .u8))] [] [⟨[], [], [], []⟩] (a, (b, ())) ()
noncomputable def impl_mulGf.S (N : Nat) : Say := ⟨false, 97, [.one (.sh (.int .u8)), .one (.sh (.int .u8))], [], [.one (.sh (.int .u8))], [], fun a s => impl_mulGf N a.1 a.2.1⟩
set_option maxRecDepth 100000 in
theorem impl_mulGf.l0.eq (N : Nat) (a1 : Int) (b1 : Int) (out : Int) : impl_mulGf.l0 (N + 1) a1 b1 out =
 sel (!(decide (b1 = 0)))
  (
  andK (α := ((Int × Unit) × Unit)) (
   sel (decide ((Go.bits .and .u8 b1 1) = 1))
    (
    some ((((Go.bits .xor .u8 out a1), ()), ())))
    (
    some (((out, ()), ())))) fun j1 =>
  andK (α := ((Int × Unit) × Unit)) (
   sel (!(decide ((Go.bits .and .u8 a1 128) = 0)))
    (
    some ((((Go.bits .xor .u8 (shlI .u8 a1 1) 27), ()), ())))
    (
    some ((((shlI .u8 a1 1), ()), ())))) fun j2 =>
  impl_mulGf.l0 N j2.1.1 (shrI .u8 b1 1) j1.1.1)
  (
  some (((out, ()), ()))) := by kernel_rfl
set_option maxRecDepth 100000 in
theorem impl_mulGf.eq (N : Nat) (a : Int) (b : Int) : impl_mulGf N a b =
 andK (impl_mulGf.l0 N a b 0) fun l3 =>
 some ((l3.1.1, ()), ()) := by kernel_rfl
set_option maxRecDepth 100000 in
theorem impl_mulGf.say (N : Nat) : SayOk Try.prog (impl_mulGf.S N) := sayOk_mk (N := N) (H := impl_mulGf.H) (preps := [⟨[], [], [], []⟩]) (l := impl_mulGf.says) (fn := Try.f97) (c := bodyOf Try.f97)
  (by kernel_rfl) (by kernel_rfl) (by kernel_rfl) (by kernel_rfl) (by kernel_rfl) (by kernel_rfl) (by kernel_rfl)
  (fun N => SayAll.nil) (fun a s => by kernel_rfl)

/-! ### loop.example/g00206/impl.inverseGf: function 139 -/
noncomputable def impl_inverseGf.H : Hints := hintsOf [(2000003, .loop ⟨.normal, [0], [3, 4], [.one (.sh (.int .u8)), ak_i], [], [⟨[], [], [], []⟩]⟩ [⟨(.exit 0), [], [3], [.one (.sh (.int .u8))], [], [⟨[], [], [], []⟩]⟩])]
noncomputable def impl_inverseGf.says (N : Nat) : List Say := [impl_mulGf.S N]
noncomputable def impl_inverseGf.call (N : Nat) : CallK := callBy (impl_inverseGf.says N)
noncomputable def impl_inverseGf.qt (N : Nat) : FuncId → List PV → Sig → Cl := qtBy (impl_inverseGf.says N)
noncomputable def impl_inverseGf.l0.hd : Alt := ⟨.normal, [0], [3, 4], [.one (.sh (.int .u8)), ak_i], [], [⟨[], [], [], []⟩]⟩
noncomputable def impl_inverseGf.l0.outs : List Alt := [⟨(.exit 0), [], [3], [.one (.sh (.int .u8))], [], [⟨[], [], [], []⟩]⟩]
noncomputable def impl_inverseGf.l0 (N : Nat) (a1 : Int) (out : Int) (t4 : Int) : Option ((Int × Unit) × Unit) :=
  loopK Try.prog impl_inverseGf.call impl_inverseGf.qt impl_inverseGf.H (codeAt (bodyOf Try.f139) [1, 1, 0, 1, 0, 0]) 0 impl_inverseGf.l0.hd impl_inverseGf.l0.outs [(0, .v (.int .u8 a1))] N ((out, (t4, ())), ())
noncomputable def impl_inverseGf (N : Nat) (a : Int) : Option ((Int × Unit) × Unit) :=
  ofFn Try.prog impl_inverseGf.call impl_inverseGf.qt impl_inverseGf.H N Try.f139 [.one (.sh (.int .u8))] [] [.one (.sh (.int .u8))] [] [⟨[], [], [], []⟩] (a, ()) ()
noncomputable def impl_inverseGf.S (N : Nat) : Say := ⟨false, 139, [.one (.sh (.int .u8))], [], [.one (.sh (.int .u8))], [], fun a s => impl_inverseGf N a.1⟩
set_option maxRecDepth 100000 in
theorem impl_inverseGf.l0.eq (N : Nat) (a1 : Int) (out : Int) (t4 : Int) : impl_inverseGf.l0 (N + 1) a1 out t4 =
 sel (decide (t4 < 254))
  (
  andK (impl_mulGf N out a1) fun u1 =>
  impl_inverseGf.l0 N a1 u1.1.1 (IntKind.i64.wrap (t4 + 1)))
  (
  some (((out, ()), ()))) := by kernel_rfl
set_option maxRecDepth 100000 in
theorem impl_inverseGf.eq (N : Nat) (a : Int) : impl_inverseGf N a =
 andK (impl_inverseGf.l0 N a 1 0) fun l2 =>
 some ((l2.1.1, ()), ()) := by kernel_rfl
set_option maxRecDepth 100000 in
theorem impl_inverseGf.say (N : Nat) : SayOk Try.prog (impl_inverseGf.S N) := sayOk_mk (N := N) (H := impl_inverseGf.H) (preps := [⟨[], [], [], []⟩]) (l := impl_inverseGf.says) (fn := Try.f139) (c := bodyOf Try.f139)
  (by kernel_rfl) (by kernel_rfl) (by kernel_rfl) (by kernel_rfl) (by kernel_rfl) (by kernel_rfl) (by kernel_rfl)
  (fun N => SayAll.cons (impl_mulGf.say N) (SayAll.nil)) (fun a s => by kernel_rfl)

/-! ### math/bits.RotateLeft8: function 140 -/
noncomputable def math_bits_RotateLeft8.H : Hints := hintsOf []
noncomputable def math_bits_RotateLeft8.says (N : Nat) : List Say := []
noncomputable def math_bits_RotateLeft8.call (N : Nat) : CallK := callBy (math_bits_RotateLeft8.says N)
noncomputable def math_bits_RotateLeft8.qt (N : Nat) : FuncId → List PV → Sig → Cl := qtBy (math_bits_RotateLeft8.says N)
noncomputable def math_bits_RotateLeft8 (N : Nat) (x : Int) (k : Int) : Option ((Int × Unit) × Unit) :=
  ofFn Try.prog math_bits_RotateLeft8.call math_bits_RotateLeft8.qt math_bits_RotateLeft8.H N Try.f140 [.one (.sh (.int .u8)), ak_i] [] [.one (.sh (.int .u8))] [] [⟨[], [], [], []⟩] (x, (k, ())) ()
noncomputable def math_bits_RotateLeft8.S (N : Nat) : Say := ⟨false, 140, [.one (.sh (.int .u8)), ak_i], [], [.one (.sh (.int .u8))], [], fun a s => math_bits_RotateLeft8 N a.1 a.2.1⟩
set_option maxRecDepth 100000 in
theorem math_bits_RotateLeft8.eq (N : Nat) (x : Int) (k : Int) : math_bits_RotateLeft8 N x k =
 chk (decide (0 ≤ (Go.bits .and .u64 (IntKind.u64.wrap k) 7))) (
 chk (decide (0 ≤ (IntKind.u64.wrap (8 - (Go.bits .and .u64 (IntKind.u64.wrap k) 7))))) (
 some (((Go.bits .or .u8 (shlI .u8 x (Go.bits .and .u64 (IntKind.u64.wrap k) 7)) (shrI .u8 x (IntKind.u64.wrap (8 - (Go.bits .and .u64 (IntKind.u64.wrap k) 7))))), ()), ()))) := by kernel_rfl
set_option maxRecDepth 100000 in
theorem math_bits_RotateLeft8.say (N : Nat) : SayOk Try.prog (math_bits_RotateLeft8.S N) := sayOk_mk (N := N) (H := math_bits_RotateLeft8.H) (preps := [⟨[], [], [], []⟩]) (l := math_bits_RotateLeft8.says) (fn := Try.f140) (c := bodyOf Try.f140)
  (by kernel_rfl) (by kernel_rfl) (by kernel_rfl) (by kernel_rfl) (by kernel_rfl) (by kernel_rfl) (by kernel_rfl)
  (fun N => SayAll.nil) (fun a s => by kernel_rfl)

/-! ### loop.example/g00206/impl.subByte: function 127 -/
noncomputable def impl_subByte.H : Hints := hintsOf [(2000004, .loop ⟨.normal, [3], [4, 5], [.one (.sh (.int .u8)), ak_i], [], [⟨[], [], [], []⟩]⟩ [⟨(.exit 0), [], [4], [.one (.sh (.int .u8))], [], [⟨[], [], [], []⟩]⟩])]
noncomputable def impl_subByte.says (N : Nat) : List Say := [impl_inverseGf.S N, math_bits_RotateLeft8.S N]
noncomputable def impl_subByte.call (N : Nat) : CallK := callBy (impl_subByte.says N)
noncomputable def impl_subByte.qt (N : Nat) : FuncId → List PV → Sig → Cl := qtBy (impl_subByte.says N)
noncomputable def impl_subByte.l0.hd : Alt := ⟨.normal, [3], [4, 5], [.one (.sh (.int .u8)), ak_i], [], [⟨[], [], [], []⟩]⟩
noncomputable def impl_subByte.l0.outs : List Alt := [⟨(.exit 0), [], [4], [.one (.sh (.int .u8))], [], [⟨[], [], [], []⟩]⟩]
noncomputable def impl_subByte.l0 (N : Nat) (c : Int) (out : Int) (i : Int) : Option ((Int × Unit) × Unit) :=
  loopK Try.prog impl_subByte.call impl_subByte.qt impl_subByte.H (codeAt (bodyOf Try.f127) [1, 1, 1, 0, 1, 0, 0]) 0 impl_subByte.l0.hd impl_subByte.l0.outs [(3, .v (.int .u8 c))] N ((out, (i, ())), ())
noncomputable def impl_subByte (N : Nat) (b : Int) : Option ((Int × Unit) × Unit) :=
  ofFn Try.prog impl_subByte.call impl_subByte.qt impl_subByte.H N Try.f127 [.one (.sh (.int .u8))] [] [.one (.sh (.int .u8))] [] [⟨[], [], [], []⟩] (b, ()) ()
noncomputable def impl_subByte.S (N : Nat) : Say := ⟨false, 127, [.one (.sh (.int .u8))], [], [.one (.sh (.int .u8))], [], fun a s => impl_subByte N a.1⟩
set_option maxRecDepth 100000 in
theorem impl_subByte.l0.eq (N : Nat) (c : Int) (out : Int) (i : Int) : impl_subByte.l0 (N + 1) c out i =
 sel (decide (i < 5))
  (
  andK (math_bits_RotateLeft8 N c i) fun u2 =>
  impl_subByte.l0 N c (Go.bits .xor .u8 out u2.1.1) (IntKind.i64.wrap (i + 1)))
  (
  some (((out, ()), ()))) := by kernel_rfl
set_option maxRecDepth 100000 in
theorem impl_subByte.eq (N : Nat) (b : Int) : impl_subByte N b =
 andK (impl_inverseGf N b) fun u1 =>
 andK (impl_subByte.l0 N u1.1.1 (Go.bits .xor .u8 u1.1.1 99) 1) fun l3 =>
 some ((l3.1.1, ()), ()) := by kernel_rfl
set_option maxRecDepth 100000 in
theorem impl_subByte.say (N : Nat) : SayOk Try.prog (impl_subByte.S N) := sayOk_mk (N := N) (H := impl_subByte.H) (preps := [⟨[], [], [], []⟩]) (l := impl_subByte.says) (fn := Try.f127) (c := bodyOf Try.f127)
  (by kernel_rfl) (by kernel_rfl) (by kernel_rfl) (by kernel_rfl) (by kernel_rfl) (by kernel_rfl) (by kernel_rfl)
  (fun N => SayAll.cons (impl_inverseGf.say N) (SayAll.cons (math_bits_RotateLeft8.say N) (SayAll.nil))) (fun a s => by kernel_rfl)

/-! ### loop.example/g00206/impl.newBox: function 96 -/
noncomputable def impl_newBox.H : Hints := hintsOf [(2000003, .loop ⟨.normal, [], [1, 6], [.one (.apl 0 0 512), ak_i], [.rows (.int .u8)], [⟨[], [], [], []⟩]⟩ [⟨(.exit 0), [], [1], [.one (.apl 0 0 512)], [.rows (.int .u8)], [⟨[], [], [], []⟩]⟩])]
noncomputable def impl_newBox.says (N : Nat) : List Say := [impl_subByte.S N]
noncomputable def impl_newBox.call (N : Nat) : CallK := callBy (impl_newBox.says N)
noncomputable def impl_newBox.qt (N : Nat) : FuncId → List PV → Sig → Cl := qtBy (impl_newBox.says N)
noncomputable def impl_newBox.l0.hd : Alt := ⟨.normal, [], [1, 6], [.one (.apl 0 0 512), ak_i], [.rows (.int .u8)], [⟨[], [], [], []⟩]⟩
noncomputable def impl_newBox.l0.outs : List Alt := [⟨(.exit 0), [], [1], [.one (.apl 0 0 512)], [.rows (.int .u8)], [⟨[], [], [], []⟩]⟩]
noncomputable def impl_newBox.l0 (N : Nat) (t6 : Int) (p0 : (List Int)) : Option ((Unit × Unit) × ((List Int) × Unit)) :=
  loopK Try.prog impl_newBox.call impl_newBox.qt impl_newBox.H (codeAt (bodyOf Try.f96) [1, 1, 0, 1, 0, 0]) 1 impl_newBox.l0.hd impl_newBox.l0.outs [] N (((), (t6, ())), (p0, ()))
noncomputable def impl_newBox (N : Nat) : Option ((Unit × Unit) × ((List Int) × Unit)) :=
  ofFn Try.prog impl_newBox.call impl_newBox.qt impl_newBox.H N Try.f96 [] [] [.one (.apl 0 0 512)] [.rows (.int .u8)] [⟨[], [], [], [0]⟩] () ()
noncomputable def impl_newBox.S (N : Nat) : Say := ⟨false, 96, [], [], [.one (.apl 0 0 512)], [.rows (.int .u8)], fun a s => impl_newBox N⟩
set_option maxRecDepth 100000 in
theorem impl_newBox.l0.eq (N : Nat) (t6 : Int) (p0 : (List Int)) : impl_newBox.l0 (N + 1) t6 p0 =
 sel (decide (t6 < 256))
  (
  andK (impl_subByte N (IntKind.u8.wrap t6)) fun u1 =>
  chk ((decide (0 ≤ t6)) && (decide (t6 < 256))) (
  chk ((decide (0 ≤ u1.1.1)) && (decide (u1.1.1 < 256))) (
  impl_newBox.l0 N (IntKind.i64.wrap (t6 + 1)) ((p0.set (0 + (Int.toNat t6)) u1.1.1).set (256 + (Int.toNat u1.1.1)) (IntKind.u8.wrap t6)))))
  (
  some ((((), ()), (p0, ())))) := by kernel_rfl
set_option maxRecDepth 100000 in
theorem impl_newBox.eq (N : Nat) : impl_newBox N =
 andK (impl_newBox.l0 N 0 (List.replicate 512 (0 : Int))) fun l2 =>
 some (((), ()), (l2.2.1, ())) := by kernel_rfl
set_option maxRecDepth 100000 in
theorem impl_newBox.say (N : Nat) : SayOk Try.prog (impl_newBox.S N) := sayOk_mk (N := N) (H := impl_newBox.H) (preps := [⟨[], [], [], [0]⟩]) (l := impl_newBox.says) (fn := Try.f96) (c := bodyOf Try.f96)
  (by kernel_rfl) (by kernel_rfl) (by kernel_rfl) (by kernel_rfl) (by kernel_rfl) (by kernel_rfl) (by kernel_rfl)
  (fun N => SayAll.cons (impl_subByte.say N) (SayAll.nil)) (fun a s => by kernel_rfl)

/-! ### loop.example/g00206/impl.cipherOf: function 60 -/
noncomputable def impl_cipherOf.H : Hints := hintsOf [(10, .join [⟨.normal, [5], [3, 4, 6], [.one (.ptr 2 0), .one (.sh (.int .u8)), .one (.apl 3 0 4)], [.rows (.int .u8), .rows (.int .u8), .cells [.apl 0 0 512, .own 1], .rows (.int .u8)], [⟨[], [], [], []⟩]⟩]),
  (2000011, .loop ⟨.normal, [4, 5, 76], [3, 77], [.one (.ptr 2 0), ak_i], [.rows (.int .u8), .rows (.int .u8), .cells [.apl 0 0 512, .own 1], .rows (.int .u8)], [⟨[], [], [], []⟩]⟩ [⟨(.exit 2), [4, 5], [3], [.one (.ptr 2 0)], [.rows (.int .u8), .rows (.int .u8), .cells [.apl 0 0 512, .own 1], .rows (.int .u8)], [⟨[], [], [], []⟩]⟩]),
  (2000004, .loop ⟨.normal, [], [3, 4, 5], [.one (.ptr 2 0), .one (.sh (.int .u8)), ak_i], [.rows (.int .u8), .rows (.int .u8), .cells [.apl 0 0 512, .own 1]], [⟨[], [], [], []⟩]⟩ [⟨(.exit 0), [], [3], [.one (.ptr 2 0)], [.rows (.int .u8), .rows (.int .u8), .cells [.apl 0 0 512, .own 1]], [⟨[], [], [], []⟩]⟩])]
noncomputable def impl_cipherOf.says (N : Nat) : List Say := [impl_newBox.S N, impl_mulGf.S N]
noncomputable def impl_cipherOf.call (N : Nat) : CallK := callBy (impl_cipherOf.says N)
noncomputable def impl_cipherOf.qt (N : Nat) : FuncId → List PV → Sig → Cl := qtBy (impl_cipherOf.says N)
noncomputable def impl_cipherOf.l0.hd : Alt := ⟨.normal, [], [3, 4, 5], [.one (.ptr 2 0), .one (.sh (.int .u8)), ak_i], [.rows (.int .u8), .rows (.int .u8), .cells [.apl 0 0 512, .own 1]], [⟨[], [], [], []⟩]⟩
noncomputable def impl_cipherOf.l0.outs : List Alt := [⟨(.exit 0), [], [3], [.one (.ptr 2 0)], [.rows (.int .u8), .rows (.int .u8), .cells [.apl 0 0 512, .own 1]], [⟨[], [], [], []⟩]⟩]
noncomputable def impl_cipherOf.l0 (N : Nat) (o : Int) (d : Int) (p0 : (List Int)) (p1 : (List Int)) : Option ((Unit × Unit) × ((List Int) × ((List Int) × ((Unit × (Unit × Unit)) × Unit)))) :=
  loopK Try.prog impl_cipherOf.call impl_cipherOf.qt impl_cipherOf.H (codeAt (bodyOf Try.f60) [1, 1, 1, 0, 1, 0, 0]) 3 impl_cipherOf.l0.hd impl_cipherOf.l0.outs [] N (((), (o, (d, ()))), (p0, (p1, (((), ((), ())), ()))))
noncomputable def impl_cipherOf.l1.hd : Alt := ⟨.normal, [4, 5, 76], [3, 77], [.one (.ptr 2 0), ak_i], [.rows (.int .u8), .rows (.int .u8), .cells [.apl 0 0 512, .own 1], .rows (.int .u8)], [⟨[], [], [], []⟩]⟩
noncomputable def impl_cipherOf.l1.outs : List Alt := [⟨(.exit 2), [4, 5], [3], [.one (.ptr 2 0)], [.rows (.int .u8), .rows (.int .u8), .cells [.apl 0 0 512, .own 1], .rows (.int .u8)], [⟨[], [], [], []⟩]⟩]
noncomputable def impl_cipherOf.l1 (N : Nat) (o1 : Int) (d1 : Int) (t76 : (List Int)) (t77 : Int) (p01 : (List Int)) (p11 : (List Int)) (p3 : (List Int)) : Option ((Unit × Unit) × ((List Int) × ((List Int) × ((Unit × (Unit × Unit)) × ((List Int) × Unit))))) :=
  loopK Try.prog impl_cipherOf.call impl_cipherOf.qt impl_cipherOf.H (codeAt (bodyOf Try.f60) [1, 1, 1, 0, 1, 0, 0, 1, 0, 0, 1, 1, 1, 0, 0]) 4 impl_cipherOf.l1.hd impl_cipherOf.l1.outs [(4, .v (.int .u8 o1)), (5, .v (.int .i64 d1)), (76, .arr .u8 t76)] N (((), (t77, ())), (p01, (p11, (((), ((), ())), (p3, ())))))
noncomputable def impl_cipherOf (N : Nat) (G : ByteArray) : Option ((Unit × Unit) × ((Unit × (Unit × Unit)) × ((List Int) × ((List Int) × Unit)))) :=
  ofFn Try.prog impl_cipherOf.call impl_cipherOf.qt impl_cipherOf.H N Try.f60 [ak_s] [] [.one (.ptr 0 0)] [.cells [.apl 1 0 512, .own 2], .rows (.int .u8), .rows (.int .u8)] [⟨[], [], [], [2, 0, 1]⟩] (G, ()) ()
noncomputable def impl_cipherOf.S (N : Nat) : Say := ⟨false, 60, [ak_s], [], [.one (.ptr 0 0)], [.cells [.apl 1 0 512, .own 2], .rows (.int .u8), .rows (.int .u8)], fun a s => impl_cipherOf N a.1⟩
set_option maxRecDepth 100000 in
theorem impl_cipherOf.l1.eq (N : Nat) (o1 : Int) (d1 : Int) (t76 : (List Int)) (t77 : Int) (p01 : (List Int)) (p11 : (List Int)) (p3 : (List Int)) : impl_cipherOf.l1 (N + 1) o1 d1 t76 t77 p01 p11 p3 =
 sel (decide (t77 < 4))
  (
  chk ((decide (0 ≤ t77)) && ((decide (t77 < 4)) && (decide (t77 < (t76.length : Int))))) (
  chk ((decide (0 ≤ (IntKind.i64.wrap ((IntKind.i64.wrap ((IntKind.i64.wrap (4 * d1)) - 16)) + t77)))) && (decide ((IntKind.i64.wrap ((IntKind.i64.wrap ((IntKind.i64.wrap (4 * d1)) - 16)) + t77)) < (p11.length : Int)))) (
  chk (decide (p11.length + 1 < most)) (
  impl_cipherOf.l1 N o1 d1 t76 (IntKind.i64.wrap (t77 + 1)) p01 (p11 ++ [(Go.bits .xor .u8 (p11.getD (Int.toNat (IntKind.i64.wrap ((IntKind.i64.wrap ((IntKind.i64.wrap (4 * d1)) - 16)) + t77))) 0) (t76.getD (Int.toNat t77) 0))]) p3))))
  (
  some ((((), ()), (p01, (p11, (((), ((), ())), (p3, ()))))))) := by kernel_rfl
set_option maxRecDepth 100000 in
theorem impl_cipherOf.l0.eq (N : Nat) (o : Int) (d : Int) (p0 : (List Int)) (p1 : (List Int)) : impl_cipherOf.l0 (N + 1) o d p0 p1 =
 sel (decide (d < 44))
  (
  chk ((decide (0 ≤ (IntKind.i64.wrap ((IntKind.i64.wrap (4 * d)) - 4)))) && ((decide ((IntKind.i64.wrap ((IntKind.i64.wrap (4 * d)) - 4)) ≤ (p1.length : Int))) && (decide ((p1.length : Int) ≤ (p1.length : Int))))) (
  chk (decide (4 ≤ ((Int.toNat (p1.length : Int)) - (Int.toNat (IntKind.i64.wrap ((IntKind.i64.wrap (4 * d)) - 4)))))) (
  chk ((decide ((List.replicate 4 (0 : Int)).length = 4)) && (decide (((p1.drop (Int.toNat (IntKind.i64.wrap ((IntKind.i64.wrap (4 * d)) - 4)))).take 4).length = 4))) (
  andK (α := ((Unit × (Int × (Unit × Unit))) × ((List Int) × ((List Int) × ((Unit × (Unit × Unit)) × ((List Int) × Unit)))))) (
   sel (decide ((Int.tmod d 4) = 0))
    (
    chk ((decide (0 ≤ (((p1.drop (Int.toNat (IntKind.i64.wrap ((IntKind.i64.wrap (4 * d)) - 4)))).take 4).getD 1 0))) && (decide ((((p1.drop (Int.toNat (IntKind.i64.wrap ((IntKind.i64.wrap (4 * d)) - 4)))).take 4).getD 1 0) < 256))) (
    chk ((decide (0 ≤ (((p1.drop (Int.toNat (IntKind.i64.wrap ((IntKind.i64.wrap (4 * d)) - 4)))).take 4).getD 2 0))) && (decide ((((p1.drop (Int.toNat (IntKind.i64.wrap ((IntKind.i64.wrap (4 * d)) - 4)))).take 4).getD 2 0) < 256))) (
    chk ((decide (0 ≤ (((p1.drop (Int.toNat (IntKind.i64.wrap ((IntKind.i64.wrap (4 * d)) - 4)))).take 4).getD 3 0))) && (decide ((((p1.drop (Int.toNat (IntKind.i64.wrap ((IntKind.i64.wrap (4 * d)) - 4)))).take 4).getD 3 0) < 256))) (
    chk ((decide (0 ≤ (((p1.drop (Int.toNat (IntKind.i64.wrap ((IntKind.i64.wrap (4 * d)) - 4)))).take 4).getD 0 0))) && (decide ((((p1.drop (Int.toNat (IntKind.i64.wrap ((IntKind.i64.wrap (4 * d)) - 4)))).take 4).getD 0 0) < 256))) (
    chk ((decide (((p1.drop (Int.toNat (IntKind.i64.wrap ((IntKind.i64.wrap (4 * d)) - 4)))).take 4).length = 4)) && true) (
    andK (impl_mulGf N o 2) fun u2 =>
    some ((((), (u2.1.1, ((), ()))), (p0, (p1, (((), ((), ())), ([(Go.bits .xor .u8 (p0.getD (0 + (Int.toNat (((p1.drop (Int.toNat (IntKind.i64.wrap ((IntKind.i64.wrap (4 * d)) - 4)))).take 4).getD 1 0))) 0) o), (p0.getD (0 + (Int.toNat (((p1.drop (Int.toNat (IntKind.i64.wrap ((IntKind.i64.wrap (4 * d)) - 4)))).take 4).getD 2 0))) 0), (p0.getD (0 + (Int.toNat (((p1.drop (Int.toNat (IntKind.i64.wrap ((IntKind.i64.wrap (4 * d)) - 4)))).take 4).getD 3 0))) 0), (p0.getD (0 + (Int.toNat (((p1.drop (Int.toNat (IntKind.i64.wrap ((IntKind.i64.wrap (4 * d)) - 4)))).take 4).getD 0 0))) 0)], ()))))))))))))
    (
    some ((((), (o, ((), ()))), (p0, (p1, (((), ((), ())), (((p1.drop (Int.toNat (IntKind.i64.wrap ((IntKind.i64.wrap (4 * d)) - 4)))).take 4), ())))))))) fun j3 =>
  andK (impl_cipherOf.l1 N j3.1.2.1 d ((j3.2.2.2.2.1.drop 0).take 4) 0 j3.2.1 j3.2.2.1 j3.2.2.2.2.1) fun l4 =>
  impl_cipherOf.l0 N j3.1.2.1 (IntKind.i64.wrap (d + 1)) l4.2.1 l4.2.2.1))))
  (
  some ((((), ()), (p0, (p1, (((), ((), ())), ())))))) := by kernel_rfl
set_option maxRecDepth 100000 in
theorem impl_cipherOf.eq (N : Nat) (G : ByteArray) : impl_cipherOf N G =
 andK (impl_newBox N) fun u1 =>
 andK (impl_cipherOf.l0 N 1 4 u1.2.1 (bytesL G)) fun l5 =>
 some (((), ()), (((), ((), ())), (l5.2.1, (l5.2.2.1, ())))) := by kernel_rfl
set_option maxRecDepth 100000 in
theorem impl_cipherOf.say (N : Nat) : SayOk Try.prog (impl_cipherOf.S N) := sayOk_mk (N := N) (H := impl_cipherOf.H) (preps := [⟨[], [], [], [2, 0, 1]⟩]) (l := impl_cipherOf.says) (fn := Try.f60) (c := bodyOf Try.f60)
  (by kernel_rfl) (by kernel_rfl) (by kernel_rfl) (by kernel_rfl) (by kernel_rfl) (by kernel_rfl) (by kernel_rfl)
  (fun N => SayAll.cons (impl_newBox.say N) (SayAll.cons (impl_mulGf.say N) (SayAll.nil))) (fun a s => by kernel_rfl)

/-! ### (*loop.example/g00206/impl.halves).trim: function 105 -/
noncomputable def impl_halves_trim.H : Hints := hintsOf [(9000001, .unroll 1)]
noncomputable def impl_halves_trim.says (N : Nat) : List Say := []
noncomputable def impl_halves_trim.call (N : Nat) : CallK := callBy (impl_halves_trim.says N)
noncomputable def impl_halves_trim.qt (N : Nat) : FuncId → List PV → Sig → Cl := qtBy (impl_halves_trim.says N)
noncomputable def impl_halves_trim (N : Nat) (p0_1 : Int) (p0_2 : ByteArray) (p0_3 : ByteArray) (p2 : (List Int)) (p3 : (List Int)) : Option (Unit × ((Unit × (Int × (ByteArray × (ByteArray × Unit)))) × ((Unit × (Unit × Unit)) × ((List Int) × ((List Int) × Unit))))) :=
  ofFn Try.prog impl_halves_trim.call impl_halves_trim.qt impl_halves_trim.H N Try.f105 [.one (.ptr 0 0)] [.cells [.ptr 1 0, ck_i, ck_s, ck_s], .cells [.apl 2 0 512, .own 3], .rows (.int .u8), .rows (.int .u8)] [] [.cells [.ptr 1 0, ck_i, ck_s, ck_s], .cells [.apl 2 0 512, .own 3], .rows (.int .u8) true, .rows (.int .u8) true] [⟨[], [], [], []⟩] ((), ()) (((), (p0_1, (p0_2, (p0_3, ())))), (((), ((), ())), (p2, (p3, ()))))
noncomputable def impl_halves_trim.S (N : Nat) : Say := ⟨false, 105, [.one (.ptr 0 0)], [.cells [.ptr 1 0, ck_i, ck_s, ck_s], .cells [.apl 2 0 512, .own 3], .rows (.int .u8), .rows (.int .u8)], [], [.cells [.ptr 1 0, ck_i, ck_s, ck_s], .cells [.apl 2 0 512, .own 3], .rows (.int .u8) true, .rows (.int .u8) true], fun a s => impl_halves_trim N s.1.2.1 s.1.2.2.1 s.1.2.2.2.1 s.2.2.1 s.2.2.2.1⟩
set_option maxRecDepth 100000 in
theorem impl_halves_trim.eq (N : Nat) (p0_1 : Int) (p0_2 : ByteArray) (p0_3 : ByteArray) (p2 : (List Int)) (p3 : (List Int)) : impl_halves_trim N p0_1 p0_2 p0_3 p2 p3 =
 sel (decide ((Int.tmod p0_1 2) = 0))
  (
  some ((), (((), (p0_1, (p0_2, (p0_3, ())))), (((), ((), ())), (p2, (p3, ()))))))
  (
  chk ((decide (0 ≤ (IntKind.i64.wrap (((bytesL p0_2).length : Int) - 1)))) && (decide ((IntKind.i64.wrap (((bytesL p0_2).length : Int) - 1)) < ((bytesL p0_2).length : Int)))) (
  chk ((decide (0 ≤ (IntKind.i64.wrap (((bytesL p0_2).length : Int) - 1)))) && (decide ((IntKind.i64.wrap (((bytesL p0_2).length : Int) - 1)) < ((bytesL p0_2).length : Int)))) (
  chk (decide (0 < ((bytesL p0_3).length : Int))) (
  chk (decide (0 < ((bytesL p0_3).length : Int))) (
  some ((), (((), (p0_1, ((strL ((bytesL p0_2).set (Int.toNat (IntKind.i64.wrap (((bytesL p0_2).length : Int) - 1))) (Go.bits .and .u8 ((bytesL p0_2).getD (Int.toNat (IntKind.i64.wrap (((bytesL p0_2).length : Int) - 1))) 0) 240))), ((strL ((bytesL p0_3).set 0 (Go.bits .and .u8 ((bytesL p0_3).getD 0 0) 15))), ())))), (((), ((), ())), (p2, (p3, ())))))))))) := by kernel_rfl
set_option maxRecDepth 100000 in
theorem impl_halves_trim.say (N : Nat) : SayOk Try.prog (impl_halves_trim.S N) := sayOk_mk (N := N) (H := impl_halves_trim.H) (preps := [⟨[], [], [], []⟩]) (l := impl_halves_trim.says) (fn := Try.f105) (c := bodyOf Try.f105)
  (by kernel_rfl) (by kernel_rfl) (by kernel_rfl) (by kernel_rfl) (by kernel_rfl) (by kernel_rfl) (by kernel_rfl)
  (fun N => SayAll.nil) (fun a s => by kernel_rfl)

/-! ### loop.example/g00206/impl.halvesOf: function 71 -/
noncomputable def impl_halvesOf.H : Hints := hintsOf []
noncomputable def impl_halvesOf.says (N : Nat) : List Say := [impl_cipherOf.S N, impl_halves_trim.S N]
noncomputable def impl_halvesOf.call (N : Nat) : CallK := callBy (impl_halvesOf.says N)
noncomputable def impl_halvesOf.qt (N : Nat) : FuncId → List PV → Sig → Cl := qtBy (impl_halvesOf.says N)
noncomputable def impl_halvesOf (N : Nat) (key : ByteArray) (s : ByteArray) : Option ((Unit × Unit) × ((Unit × (Int × (ByteArray × (ByteArray × Unit)))) × ((Unit × (Unit × Unit)) × ((List Int) × ((List Int) × Unit))))) :=
  ofFn Try.prog impl_halvesOf.call impl_halvesOf.qt impl_halvesOf.H N Try.f71 [ak_s, ak_s] [] [.one (.ptr 0 0)] [.cells [.ptr 1 0, ck_i, ck_s, ck_s], .cells [.apl 2 0 512, .own 3], .rows (.int .u8), .rows (.int .u8)] [⟨[], [], [], [3, 0, 1, 2]⟩] (key, (s, ())) ()
noncomputable def impl_halvesOf.S (N : Nat) : Say := ⟨false, 71, [ak_s, ak_s], [], [.one (.ptr 0 0)], [.cells [.ptr 1 0, ck_i, ck_s, ck_s], .cells [.apl 2 0 512, .own 3], .rows (.int .u8), .rows (.int .u8)], fun a s => impl_halvesOf N a.1 a.2.1⟩
set_option maxRecDepth 100000 in
theorem impl_halvesOf.eq (N : Nat) (key : ByteArray) (s : ByteArray) : impl_halvesOf N key s =
 andK (impl_cipherOf N key) fun u1 =>
 chk ((decide (0 ≤ (IntKind.i64.wrap (Int.tdiv (IntKind.i64.wrap ((s.size : Int) + 1)) 2)))) && (decide ((IntKind.i64.wrap (Int.tdiv (IntKind.i64.wrap ((s.size : Int) + 1)) 2)) ≤ (s.size : Int)))) (
 chk ((decide (0 ≤ (IntKind.i64.wrap ((s.size : Int) - (IntKind.i64.wrap (Int.tdiv (IntKind.i64.wrap ((s.size : Int) + 1)) 2)))))) && ((decide ((IntKind.i64.wrap ((s.size : Int) - (IntKind.i64.wrap (Int.tdiv (IntKind.i64.wrap ((s.size : Int) + 1)) 2)))) ≤ (s.size : Int))) && (decide ((s.size : Int) ≤ (s.size : Int))))) (
 andK (impl_halves_trim N (s.size : Int) (s.extract 0 (Int.toNat (IntKind.i64.wrap (Int.tdiv (IntKind.i64.wrap ((s.size : Int) + 1)) 2)))) (s.extract (Int.toNat (IntKind.i64.wrap ((s.size : Int) - (IntKind.i64.wrap (Int.tdiv (IntKind.i64.wrap ((s.size : Int) + 1)) 2))))) (Int.toNat (s.size : Int))) u1.2.2.1 u1.2.2.2.1) fun u2 =>
 some (((), ()), (((), (u2.2.1.2.1, (u2.2.1.2.2.1, (u2.2.1.2.2.2.1, ())))), (((), ((), ())), (u2.2.2.2.1, (u2.2.2.2.2.1, ()))))))) := by kernel_rfl
set_option maxRecDepth 100000 in
theorem impl_halvesOf.say (N : Nat) : SayOk Try.prog (impl_halvesOf.S N) := sayOk_mk (N := N) (H := impl_halvesOf.H) (preps := [⟨[], [], [], [3, 0, 1, 2]⟩]) (l := impl_halvesOf.says) (fn := Try.f71) (c := bodyOf Try.f71)
  (by kernel_rfl) (by kernel_rfl) (by kernel_rfl) (by kernel_rfl) (by kernel_rfl) (by kernel_rfl) (by kernel_rfl)
  (fun N => SayAll.cons (impl_cipherOf.say N) (SayAll.cons (impl_halves_trim.say N) (SayAll.nil))) (fun a s => by kernel_rfl)

/-! ### strings.Repeat: function 81 -/
noncomputable def strings_Repeat (N : Nat) (s : ByteArray) (n : Int) : Option ((ByteArray × Unit) × Unit) := repF s n
noncomputable def strings_Repeat.S (N : Nat) : Say := repS 81
theorem strings_Repeat.eq (N : Nat) (s : ByteArray) (n : Int) : strings_Repeat N s n =
 chk (decide (0 ≤ n)) (
 chk (decide (n ≤ 9223372036854775807)) (
 chk (decide (s.size * (Int.toNat n) ≤ 140737488355328)) (
 some (((repL s (Int.toNat n)), ()), ())))) := repF_eq s n
set_option maxRecDepth 100000 in
theorem strings_Repeat.say (N : Nat) : SayOk Try.prog (strings_Repeat.S N) := sayOk_repeat (enters_mk (fn := Try.f81) (c := bodyOf Try.f81) (by kernel_rfl) (by kernel_rfl) (by kernel_rfl)) Try.strings_Repeat

/-! ### loop.example/g00206/impl.halfBlock: function 107 -/
noncomputable def impl_halfBlock.H : Hints := hintsOf []
noncomputable def impl_halfBlock.says (N : Nat) : List Say := [strings_Repeat.S N]
noncomputable def impl_halfBlock.call (N : Nat) : CallK := callBy (impl_halfBlock.says N)
noncomputable def impl_halfBlock.qt (N : Nat) : FuncId → List PV → Sig → Cl := qtBy (impl_halfBlock.says N)
noncomputable def impl_halfBlock (N : Nat) (s : ByteArray) (size : Int) (pass : Int) : Option ((ByteArray × Unit) × Unit) :=
  ofFn Try.prog impl_halfBlock.call impl_halfBlock.qt impl_halfBlock.H N Try.f107 [ak_s, ak_i, ak_i] [] [ak_s] [] [⟨[], [], [], []⟩] (s, (size, (pass, ()))) ()
noncomputable def impl_halfBlock.S (N : Nat) : Say := ⟨false, 107, [ak_s, ak_i, ak_i], [], [ak_s], [], fun a s => impl_halfBlock N a.1 a.2.1 a.2.2.1⟩
set_option maxRecDepth 100000 in
theorem impl_halfBlock.eq (N : Nat) (s : ByteArray) (size : Int) (pass : Int) : impl_halfBlock N s size pass =
 andK (strings_Repeat N (⟨#[0]⟩ : ByteArray) (IntKind.i64.wrap (14 - (s.size : Int)))) fun u1 =>
 sel (decide ((Int.tmod pass 2) = 1))
  (
  chk (decide (s.size + u1.1.1.size ≤ 9223372036854775807)) (
  chk (decide ((s ++ u1.1.1).size + (strL [(IntKind.u8.wrap size), (IntKind.u8.wrap pass)]).size ≤ 9223372036854775807)) (
  some ((((s ++ u1.1.1) ++ (strL [(IntKind.u8.wrap size), (IntKind.u8.wrap pass)])), ()), ()))))
  (
  chk (decide ((strL [(IntKind.u8.wrap size), (IntKind.u8.wrap pass)]).size + u1.1.1.size ≤ 9223372036854775807)) (
  chk (decide (((strL [(IntKind.u8.wrap size), (IntKind.u8.wrap pass)]) ++ u1.1.1).size + s.size ≤ 9223372036854775807)) (
  some (((((strL [(IntKind.u8.wrap size), (IntKind.u8.wrap pass)]) ++ u1.1.1) ++ s), ()), ())))) := by kernel_rfl
set_option maxRecDepth 100000 in
theorem impl_halfBlock.say (N : Nat) : SayOk Try.prog (impl_halfBlock.S N) := sayOk_mk (N := N) (H := impl_halfBlock.H) (preps := [⟨[], [], [], []⟩]) (l := impl_halfBlock.says) (fn := Try.f107) (c := bodyOf Try.f107)
  (by kernel_rfl) (by kernel_rfl) (by kernel_rfl) (by kernel_rfl) (by kernel_rfl) (by kernel_rfl) (by kernel_rfl)
  (fun N => SayAll.cons (strings_Repeat.say N) (SayAll.nil)) (fun a s => by kernel_rfl)

/-! ### (*loop.example/g00206/impl.cipher).addKey: function 98 -/
noncomputable def impl_cipher_addKey.H : Hints := hintsOf [(2000001, .loop ⟨.normal, [2, 8], [0, 1, 9], [.one (.ptr 0 0), .one (.own 1), ak_i], [.cells [.apl 2 0 512, .own 3], .rows (.int .u8) true, .rows (.int .u8) true, .rows (.int .u8) true], [⟨[], [], [], []⟩]⟩ [⟨(.exit 0), [], [], [], [.cells [.apl 2 0 512, .own 3], .rows (.int .u8) true, .rows (.int .u8) true, .rows (.int .u8) true], [⟨[], [], [], []⟩]⟩])]
noncomputable def impl_cipher_addKey.says (N : Nat) : List Say := []
noncomputable def impl_cipher_addKey.call (N : Nat) : CallK := callBy (impl_cipher_addKey.says N)
noncomputable def impl_cipher_addKey.qt (N : Nat) : FuncId → List PV → Sig → Cl := qtBy (impl_cipher_addKey.says N)
noncomputable def impl_cipher_addKey.l0.hd : Alt := ⟨.normal, [2, 8], [0, 1, 9], [.one (.ptr 0 0), .one (.own 1), ak_i], [.cells [.apl 2 0 512, .own 3], .rows (.int .u8) true, .rows (.int .u8) true, .rows (.int .u8) true], [⟨[], [], [], []⟩]⟩
noncomputable def impl_cipher_addKey.l0.outs : List Alt := [⟨(.exit 0), [], [], [], [.cells [.apl 2 0 512, .own 3], .rows (.int .u8) true, .rows (.int .u8) true, .rows (.int .u8) true], [⟨[], [], [], []⟩]⟩]
noncomputable def impl_cipher_addKey.l0 (N : Nat) (round1 : Int) (t8 : Int) (t9 : Int) (p11 : (List Int)) (p21 : (List Int)) (p31 : (List Int)) : Option (Unit × ((Unit × (Unit × Unit)) × ((List Int) × ((List Int) × ((List Int) × Unit))))) :=
  loopK Try.prog impl_cipher_addKey.call impl_cipher_addKey.qt impl_cipher_addKey.H (codeAt (bodyOf Try.f98) [1, 0, 0]) 4 impl_cipher_addKey.l0.hd impl_cipher_addKey.l0.outs [(2, .v (.int .i64 round1)), (8, .v (.int .i64 t8))] N (((), ((), (t9, ()))), (((), ((), ())), (p11, (p21, (p31, ())))))
noncomputable def impl_cipher_addKey (N : Nat) (round : Int) (p1 : (List Int)) (p2 : (List Int)) (p3 : (List Int)) : Option (Unit × ((Unit × (Unit × Unit)) × ((List Int) × ((List Int) × ((List Int) × Unit))))) :=
  ofFn Try.prog impl_cipher_addKey.call impl_cipher_addKey.qt impl_cipher_addKey.H N Try.f98 [.one (.ptr 0 0), .one (.own 1), ak_i] [.cells [.apl 2 0 512, .own 3], .rows (.int .u8), .rows (.int .u8), .rows (.int .u8)] [] [.cells [.apl 2 0 512, .own 3], .rows (.int .u8) true, .rows (.int .u8) true, .rows (.int .u8) true] [⟨[], [], [], []⟩] ((), ((), (round, ()))) (((), ((), ())), (p1, (p2, (p3, ()))))
noncomputable def impl_cipher_addKey.S (N : Nat) : Say := ⟨false, 98, [.one (.ptr 0 0), .one (.own 1), ak_i], [.cells [.apl 2 0 512, .own 3], .rows (.int .u8), .rows (.int .u8), .rows (.int .u8)], [], [.cells [.apl 2 0 512, .own 3], .rows (.int .u8) true, .rows (.int .u8) true, .rows (.int .u8) true], fun a s => impl_cipher_addKey N a.2.2.1 s.2.1 s.2.2.1 s.2.2.2.1⟩
set_option maxRecDepth 100000 in
theorem impl_cipher_addKey.l0.eq (N : Nat) (round1 : Int) (t8 : Int) (t9 : Int) (p11 : (List Int)) (p21 : (List Int)) (p31 : (List Int)) : impl_cipher_addKey.l0 (N + 1) round1 t8 t9 p11 p21 p31 =
 sel (decide (t9 < t8))
  (
  chk ((decide (0 ≤ t9)) && (decide (t9 < (p11.length : Int)))) (
  chk ((decide (0 ≤ (IntKind.i64.wrap ((IntKind.i64.wrap (16 * round1)) + t9)))) && (decide ((IntKind.i64.wrap ((IntKind.i64.wrap (16 * round1)) + t9)) < (p31.length : Int)))) (
  chk ((decide (0 ≤ t9)) && (decide (t9 < (p11.length : Int)))) (
  impl_cipher_addKey.l0 N round1 t8 (IntKind.i64.wrap (t9 + 1)) (p11.set (Int.toNat t9) (Go.bits .xor .u8 (p11.getD (Int.toNat t9) 0) (p31.getD (Int.toNat (IntKind.i64.wrap ((IntKind.i64.wrap (16 * round1)) + t9))) 0))) p21 p31))))
  (
  some (((), (((), ((), ())), (p11, (p21, (p31, ()))))))) := by kernel_rfl
set_option maxRecDepth 100000 in
theorem impl_cipher_addKey.eq (N : Nat) (round : Int) (p1 : (List Int)) (p2 : (List Int)) (p3 : (List Int)) : impl_cipher_addKey N round p1 p2 p3 =
 andK (impl_cipher_addKey.l0 N round (p1.length : Int) 0 p1 p2 p3) fun l1 =>
 some ((), (((), ((), ())), (l1.2.2.1, (l1.2.2.2.1, (l1.2.2.2.2.1, ()))))) := by kernel_rfl
set_option maxRecDepth 100000 in
theorem impl_cipher_addKey.say (N : Nat) : SayOk Try.prog (impl_cipher_addKey.S N) := sayOk_mk (N := N) (H := impl_cipher_addKey.H) (preps := [⟨[], [], [], []⟩]) (l := impl_cipher_addKey.says) (fn := Try.f98) (c := bodyOf Try.f98)
  (by kernel_rfl) (by kernel_rfl) (by kernel_rfl) (by kernel_rfl) (by kernel_rfl) (by kernel_rfl) (by kernel_rfl)
  (fun N => SayAll.nil) (fun a s => by kernel_rfl)

/-! ### loop.example/g00206/impl.shift: function 99 -/
noncomputable def impl_shift.H : Hints := hintsOf [(2000002, .loop ⟨.normal, [1, 10], [0, 4, 11], [.one (.own 0), .one (.apl 1 0 16), ak_i], [.rows (.int .u8) true, .rows (.int .u8)], [⟨[], [], [], []⟩]⟩ [⟨(.exit 0), [], [], [], [.rows (.int .u8) true, .rows (.int .u8)], [⟨[], [], [], []⟩]⟩])]
noncomputable def impl_shift.says (N : Nat) : List Say := []
noncomputable def impl_shift.call (N : Nat) : CallK := callBy (impl_shift.says N)
noncomputable def impl_shift.qt (N : Nat) : FuncId → List PV → Sig → Cl := qtBy (impl_shift.says N)
noncomputable def impl_shift.l0.hd : Alt := ⟨.normal, [1, 10], [0, 4, 11], [.one (.own 0), .one (.apl 1 0 16), ak_i], [.rows (.int .u8) true, .rows (.int .u8)], [⟨[], [], [], []⟩]⟩
noncomputable def impl_shift.l0.outs : List Alt := [⟨(.exit 0), [], [], [], [.rows (.int .u8) true, .rows (.int .u8)], [⟨[], [], [], []⟩]⟩]
noncomputable def impl_shift.l0 (N : Nat) (byv1 : Int) (t10 : Int) (t11 : Int) (p01 : (List Int)) (p1 : (List Int)) : Option (Unit × ((List Int) × ((List Int) × Unit))) :=
  loopK Try.prog impl_shift.call impl_shift.qt impl_shift.H (codeAt (bodyOf Try.f99) [1, 1, 0, 0]) 2 impl_shift.l0.hd impl_shift.l0.outs [(1, .v (.int .i64 byv1)), (10, .v (.int .i64 t10))] N (((), ((), (t11, ()))), (p01, (p1, ())))
noncomputable def impl_shift (N : Nat) (byv : Int) (p0 : (List Int)) : Option (Unit × ((List Int) × Unit)) :=
  ofFn Try.prog impl_shift.call impl_shift.qt impl_shift.H N Try.f99 [.one (.own 0), ak_i] [.rows (.int .u8)] [] [.rows (.int .u8) true] [⟨[], [], [], []⟩] ((), (byv, ())) (p0, ())
noncomputable def impl_shift.S (N : Nat) : Say := ⟨false, 99, [.one (.own 0), ak_i], [.rows (.int .u8)], [], [.rows (.int .u8) true], fun a s => impl_shift N a.2.1 s.1⟩
set_option maxRecDepth 100000 in
theorem impl_shift.l0.eq (N : Nat) (byv1 : Int) (t10 : Int) (t11 : Int) (p01 : (List Int)) (p1 : (List Int)) : impl_shift.l0 (N + 1) byv1 t10 t11 p01 p1 =
 sel (decide (t11 < t10))
  (
  chk ((decide (0 ≤ (IntKind.i64.wrap ((IntKind.i64.wrap (4 * (Int.tmod (IntKind.i64.wrap ((IntKind.i64.wrap (Int.tdiv t11 4)) + (IntKind.i64.wrap (byv1 * (Int.tmod t11 4))))) 4))) + (Int.tmod t11 4))))) && (decide ((IntKind.i64.wrap ((IntKind.i64.wrap (4 * (Int.tmod (IntKind.i64.wrap ((IntKind.i64.wrap (Int.tdiv t11 4)) + (IntKind.i64.wrap (byv1 * (Int.tmod t11 4))))) 4))) + (Int.tmod t11 4))) < 16))) (
  chk ((decide (0 ≤ t11)) && (decide (t11 < (p01.length : Int)))) (
  impl_shift.l0 N byv1 t10 (IntKind.i64.wrap (t11 + 1)) (p01.set (Int.toNat t11) (p1.getD (0 + (Int.toNat (IntKind.i64.wrap ((IntKind.i64.wrap (4 * (Int.tmod (IntKind.i64.wrap ((IntKind.i64.wrap (Int.tdiv t11 4)) + (IntKind.i64.wrap (byv1 * (Int.tmod t11 4))))) 4))) + (Int.tmod t11 4))))) 0)) p1)))
  (
  some (((), (p01, (p1, ()))))) := by kernel_rfl
set_option maxRecDepth 100000 in
theorem impl_shift.eq (N : Nat) (byv : Int) (p0 : (List Int)) : impl_shift N byv p0 =
 chk (decide (16 ≤ p0.length)) (
 chk ((decide ((List.replicate 16 (0 : Int)).length = 16)) && (decide (((p0.drop 0).take 16).length = 16))) (
 andK (impl_shift.l0 N byv (p0.length : Int) 0 p0 ((p0.drop 0).take 16)) fun l1 =>
 some ((), (l1.2.1, ())))) := by kernel_rfl
set_option maxRecDepth 100000 in
theorem impl_shift.say (N : Nat) : SayOk Try.prog (impl_shift.S N) := sayOk_mk (N := N) (H := impl_shift.H) (preps := [⟨[], [], [], []⟩]) (l := impl_shift.says) (fn := Try.f99) (c := bodyOf Try.f99)
  (by kernel_rfl) (by kernel_rfl) (by kernel_rfl) (by kernel_rfl) (by kernel_rfl) (by kernel_rfl) (by kernel_rfl)
  (fun N => SayAll.nil) (fun a s => by kernel_rfl)

/-! ### loop.example/g00206/impl.forth: function 101 -/
noncomputable def impl_forth.H : Hints := hintsOf []
noncomputable def impl_forth.says (N : Nat) : List Say := []
noncomputable def impl_forth.call (N : Nat) : CallK := callBy (impl_forth.says N)
noncomputable def impl_forth.qt (N : Nat) : FuncId → List PV → Sig → Cl := qtBy (impl_forth.says N)
noncomputable def impl_forth (N : Nat) : Option (((List Int) × Unit) × Unit) :=
  ofFn Try.prog impl_forth.call impl_forth.qt impl_forth.H N Try.f101 [] [] [.arr .u8] [] [⟨[], [], [], []⟩] () ()
noncomputable def impl_forth.S (N : Nat) : Say := ⟨false, 101, [], [], [.arr .u8], [], fun a s => impl_forth N⟩
set_option maxRecDepth 100000 in
theorem impl_forth.eq (N : Nat) : impl_forth N =
 chk ((decide ((List.replicate 4 (0 : Int)).length = 4)) && true) (
 some (((([2, 3, 1, 1].drop 0).take 4), ()), ())) := by kernel_rfl
set_option maxRecDepth 100000 in
theorem impl_forth.say (N : Nat) : SayOk Try.prog (impl_forth.S N) := sayOk_mk (N := N) (H := impl_forth.H) (preps := [⟨[], [], [], []⟩]) (l := impl_forth.says) (fn := Try.f101) (c := bodyOf Try.f101)
  (by kernel_rfl) (by kernel_rfl) (by kernel_rfl) (by kernel_rfl) (by kernel_rfl) (by kernel_rfl) (by kernel_rfl)
  (fun N => SayAll.nil) (fun a s => by kernel_rfl)

/-! ### loop.example/g00206/impl.mixed: function 100 -/
noncomputable def impl_mixed.H : Hints := hintsOf [(2000006, .loop ⟨.normal, [5, 9, 12], [0, 3, 4, 13], [.one (.ref 0), .one (.apl 1 0 4), .one (.apl 2 0 4), ak_i], [.rows (.int .u8) true, .rows (.int .u8), .rows (.int .u8)], [⟨[], [], [], []⟩]⟩ [⟨(.exit 2), [9], [0, 3, 4], [.one (.ref 0), .one (.apl 1 0 4), .one (.apl 2 0 4)], [.rows (.int .u8) true, .rows (.int .u8), .rows (.int .u8)], [⟨[], [], [], []⟩]⟩]),
  (2000003, .loop ⟨.normal, [], [0, 3, 4, 9], [.one (.ref 0), .one (.apl 1 0 4), .one (.apl 2 0 4), ak_i], [.rows (.int .u8) true, .rows (.int .u8), .rows (.int .u8)], [⟨[], [], [], []⟩]⟩ [⟨(.exit 0), [], [0, 4], [.one (.ref 0), .one (.apl 2 0 4)], [.rows (.int .u8) true, .rows (.int .u8), .rows (.int .u8)], [⟨[], [], [], []⟩]⟩])]
noncomputable def impl_mixed.says (N : Nat) : List Say := [impl_mulGf.S N]
noncomputable def impl_mixed.call (N : Nat) : CallK := callBy (impl_mixed.says N)
noncomputable def impl_mixed.qt (N : Nat) : FuncId → List PV → Sig → Cl := qtBy (impl_mixed.says N)
noncomputable def impl_mixed.l0.hd : Alt := ⟨.normal, [], [0, 3, 4, 9], [.one (.ref 0), .one (.apl 1 0 4), .one (.apl 2 0 4), ak_i], [.rows (.int .u8) true, .rows (.int .u8), .rows (.int .u8)], [⟨[], [], [], []⟩]⟩
noncomputable def impl_mixed.l0.outs : List Alt := [⟨(.exit 0), [], [0, 4], [.one (.ref 0), .one (.apl 2 0 4)], [.rows (.int .u8) true, .rows (.int .u8), .rows (.int .u8)], [⟨[], [], [], []⟩]⟩]
noncomputable def impl_mixed.l0 (N : Nat) (s1 : (Nat × Nat)) (t9 : Int) (p01 : (List Int)) (p1 : (List Int)) (p2 : (List Int)) : Option (((Nat × Nat) × (Unit × Unit)) × ((List Int) × ((List Int) × ((List Int) × Unit)))) :=
  loopK Try.prog impl_mixed.call impl_mixed.qt impl_mixed.H (codeAt (bodyOf Try.f100) [1, 1, 0, 1, 0, 0]) 3 impl_mixed.l0.hd impl_mixed.l0.outs [] N ((s1, ((), ((), (t9, ())))), (p01, (p1, (p2, ()))))
noncomputable def impl_mixed.l1.hd : Alt := ⟨.normal, [5, 9, 12], [0, 3, 4, 13], [.one (.ref 0), .one (.apl 1 0 4), .one (.apl 2 0 4), ak_i], [.rows (.int .u8) true, .rows (.int .u8), .rows (.int .u8)], [⟨[], [], [], []⟩]⟩
noncomputable def impl_mixed.l1.outs : List Alt := [⟨(.exit 2), [9], [0, 3, 4], [.one (.ref 0), .one (.apl 1 0 4), .one (.apl 2 0 4)], [.rows (.int .u8) true, .rows (.int .u8), .rows (.int .u8)], [⟨[], [], [], []⟩]⟩]
noncomputable def impl_mixed.l1 (N : Nat) (i : Int) (t91 : Int) (t12 : (List Int)) (s2 : (Nat × Nat)) (t13 : Int) (p02 : (List Int)) (p11 : (List Int)) (p21 : (List Int)) : Option (((Nat × Nat) × (Unit × (Unit × Unit))) × ((List Int) × ((List Int) × ((List Int) × Unit)))) :=
  loopK Try.prog impl_mixed.call impl_mixed.qt impl_mixed.H (codeAt (bodyOf Try.f100) [1, 1, 0, 1, 0, 0, 1, 1, 0, 0, 1, 1, 0, 0]) 3 impl_mixed.l1.hd impl_mixed.l1.outs [(5, .v (.int .i64 i)), (9, .v (.int .i64 t91)), (12, .arr .u8 t12)] N ((s2, ((), ((), (t13, ())))), (p02, (p11, (p21, ()))))
noncomputable def impl_mixed (N : Nat) (s : (Nat × Nat)) (byv : (List Int)) (p0 : (List Int)) : Option (Unit × ((List Int) × Unit)) :=
  ofFn Try.prog impl_mixed.call impl_mixed.qt impl_mixed.H N Try.f100 [.one (.ref 0), .arr .u8] [.rows (.int .u8)] [] [.rows (.int .u8) true] [⟨[], [], [], []⟩] (s, (byv, ())) (p0, ())
noncomputable def impl_mixed.S (N : Nat) : Say := ⟨false, 100, [.one (.ref 0), .arr .u8], [.rows (.int .u8)], [], [.rows (.int .u8) true], fun a s => impl_mixed N a.1 a.2.1 s.1⟩
set_option maxRecDepth 100000 in
theorem impl_mixed.l1.eq (N : Nat) (i : Int) (t91 : Int) (t12 : (List Int)) (s2 : (Nat × Nat)) (t13 : Int) (p02 : (List Int)) (p11 : (List Int)) (p21 : (List Int)) : impl_mixed.l1 (N + 1) i t91 t12 s2 t13 p02 p11 p21 =
 sel (decide (t13 < 4))
  (
  chk ((decide (0 ≤ t13)) && ((decide (t13 < 4)) && (decide (t13 < (t12.length : Int))))) (
  chk ((decide (0 ≤ i)) && (decide (i < 4))) (
  chk ((decide (0 ≤ (Int.tmod (IntKind.i64.wrap (i + t13)) 4))) && (decide ((Int.tmod (IntKind.i64.wrap (i + t13)) 4) < (s2.2 : Int)))) (
  andK (impl_mulGf N (t12.getD (Int.toNat t13) 0) (p02.getD (s2.1 + (Int.toNat (Int.tmod (IntKind.i64.wrap (i + t13)) 4))) 0)) fun u1 =>
  chk ((decide (0 ≤ i)) && (decide (i < 4))) (
  impl_mixed.l1 N i t91 t12 (s2.1, s2.2) (IntKind.i64.wrap (t13 + 1)) p02 p11 (p21.set (0 + (Int.toNat i)) (Go.bits .xor .u8 (p21.getD (0 + (Int.toNat i)) 0) u1.1.1)))))))
  (
  some ((((s2.1, s2.2), ((), ((), ()))), (p02, (p11, (p21, ())))))) := by kernel_rfl
set_option maxRecDepth 100000 in
theorem impl_mixed.l0.eq (N : Nat) (s1 : (Nat × Nat)) (t9 : Int) (p01 : (List Int)) (p1 : (List Int)) (p2 : (List Int)) : impl_mixed.l0 (N + 1) s1 t9 p01 p1 p2 =
 sel (decide (t9 < 4))
  (
  andK (impl_mixed.l1 N t9 t9 ((p1.drop 0).take 4) (s1.1, s1.2) 0 p01 p1 p2) fun l2 =>
  impl_mixed.l0 N (l2.1.1.1, l2.1.1.2) (IntKind.i64.wrap (t9 + 1)) l2.2.1 l2.2.2.1 l2.2.2.2.1)
  (
  some ((((s1.1, s1.2), ((), ())), (p01, (p1, (p2, ())))))) := by kernel_rfl
set_option maxRecDepth 100000 in
theorem impl_mixed.eq (N : Nat) (s : (Nat × Nat)) (byv : (List Int)) (p0 : (List Int)) : impl_mixed N s byv p0 =
 chk (decide (byv.length = 4)) (
 chk ((decide ((List.replicate 4 (0 : Int)).length = 4)) && true) (
 andK (impl_mixed.l0 N (s.1, s.2) 0 p0 byv [0, 0, 0, 0]) fun l3 =>
 some ((), (((l3.2.1.take l3.1.1.1) ++ ((((l3.2.2.2.1.drop 0).take 4).take (min ((l3.2.2.2.1.drop 0).take 4).length l3.1.1.2)) ++ (l3.2.1.drop (l3.1.1.1 + (min ((l3.2.2.2.1.drop 0).take 4).length l3.1.1.2))))), ())))) := by kernel_rfl
set_option maxRecDepth 100000 in
theorem impl_mixed.say (N : Nat) : SayOk Try.prog (impl_mixed.S N) := sayOk_mk (N := N) (H := impl_mixed.H) (preps := [⟨[], [], [], []⟩]) (l := impl_mixed.says) (fn := Try.f100) (c := bodyOf Try.f100)
  (by kernel_rfl) (by kernel_rfl) (by kernel_rfl) (by kernel_rfl) (by kernel_rfl) (by kernel_rfl) (by kernel_rfl)
  (fun N => SayAll.cons (impl_mulGf.say N) (SayAll.nil)) (fun a s => by kernel_rfl)

/-! ### (*loop.example/g00206/impl.cipher).encrypt: function 61 -/
noncomputable def impl_cipher_encrypt.H : Hints := hintsOf [(2000007, .loop ⟨.normal, [6, 20], [0, 5, 19, 21], [.one (.ptr 0 0), .one (.own 3), .one (.own 3), ak_i], [.cells [.apl 1 0 512, .own 2], .rows (.int .u8) true, .rows (.int .u8) true, .rows (.int .u8)], [⟨[], [], [], []⟩]⟩ [⟨(.exit 2), [6], [0, 5], [.one (.ptr 0 0), .one (.own 3)], [.cells [.apl 1 0 512, .own 2], .rows (.int .u8) true, .rows (.int .u8) true, .rows (.int .u8)], [⟨[], [], [], []⟩]⟩]),
  (5000013, .join [⟨.normal, [6, 9], [0, 5, 46], [.one (.ptr 0 0), .one (.own 3), ak_b], [.cells [.apl 1 0 512, .own 2], .rows (.int .u8) true, .rows (.int .u8) true, .rows (.int .u8)], [⟨[], [], [], []⟩]⟩]),
  (2000013, .loop ⟨.normal, [6], [0, 5, 9], [.one (.ptr 0 0), .one (.own 3), ak_i], [.cells [.apl 1 0 512, .own 2], .rows (.int .u8) true, .rows (.int .u8) true, .rows (.int .u8)], [⟨[], [], [], []⟩]⟩ [⟨(.exit 4), [6], [0, 5], [.one (.ptr 0 0), .one (.own 3)], [.cells [.apl 1 0 512, .own 2], .rows (.int .u8) true, .rows (.int .u8) true, .rows (.int .u8)], [⟨[], [], [], []⟩]⟩]),
  (2000004, .loop ⟨.normal, [], [0, 5, 6], [.one (.ptr 0 0), .one (.own 3), ak_i], [.cells [.apl 1 0 512, .own 2], .rows (.int .u8) true, .rows (.int .u8) true, .rows (.int .u8)], [⟨[], [], [], []⟩]⟩ [⟨(.exit 0), [], [5], [.one (.own 3)], [.cells [.apl 1 0 512, .own 2], .rows (.int .u8) true, .rows (.int .u8) true, .rows (.int .u8)], [⟨[], [], [], []⟩]⟩])]
noncomputable def impl_cipher_encrypt.says (N : Nat) : List Say := [impl_cipher_addKey.S N, impl_shift.S N, impl_forth.S N, impl_mixed.S N]
noncomputable def impl_cipher_encrypt.call (N : Nat) : CallK := callBy (impl_cipher_encrypt.says N)
noncomputable def impl_cipher_encrypt.qt (N : Nat) : FuncId → List PV → Sig → Cl := qtBy (impl_cipher_encrypt.says N)
noncomputable def impl_cipher_encrypt.l0.hd : Alt := ⟨.normal, [], [0, 5, 6], [.one (.ptr 0 0), .one (.own 3), ak_i], [.cells [.apl 1 0 512, .own 2], .rows (.int .u8) true, .rows (.int .u8) true, .rows (.int .u8)], [⟨[], [], [], []⟩]⟩
noncomputable def impl_cipher_encrypt.l0.outs : List Alt := [⟨(.exit 0), [], [5], [.one (.own 3)], [.cells [.apl 1 0 512, .own 2], .rows (.int .u8) true, .rows (.int .u8) true, .rows (.int .u8)], [⟨[], [], [], []⟩]⟩]
noncomputable def impl_cipher_encrypt.l0 (N : Nat) (round : Int) (p11 : (List Int)) (p21 : (List Int)) (p3 : (List Int)) : Option ((Unit × Unit) × ((Unit × (Unit × Unit)) × ((List Int) × ((List Int) × ((List Int) × Unit))))) :=
  loopK Try.prog impl_cipher_encrypt.call impl_cipher_encrypt.qt impl_cipher_encrypt.H (codeAt (bodyOf Try.f61) [1, 1, 1, 0, 1, 0, 0]) 4 impl_cipher_encrypt.l0.hd impl_cipher_encrypt.l0.outs [] N (((), ((), (round, ()))), (((), ((), ())), (p11, (p21, (p3, ())))))
noncomputable def impl_cipher_encrypt.l1.hd : Alt := ⟨.normal, [6, 20], [0, 5, 19, 21], [.one (.ptr 0 0), .one (.own 3), .one (.own 3), ak_i], [.cells [.apl 1 0 512, .own 2], .rows (.int .u8) true, .rows (.int .u8) true, .rows (.int .u8)], [⟨[], [], [], []⟩]⟩
noncomputable def impl_cipher_encrypt.l1.outs : List Alt := [⟨(.exit 2), [6], [0, 5], [.one (.ptr 0 0), .one (.own 3)], [.cells [.apl 1 0 512, .own 2], .rows (.int .u8) true, .rows (.int .u8) true, .rows (.int .u8)], [⟨[], [], [], []⟩]⟩]
noncomputable def impl_cipher_encrypt.l1 (N : Nat) (round1 : Int) (t20 : Int) (t21 : Int) (p12 : (List Int)) (p22 : (List Int)) (p31 : (List Int)) : Option ((Unit × (Unit × Unit)) × ((Unit × (Unit × Unit)) × ((List Int) × ((List Int) × ((List Int) × Unit))))) :=
  loopK Try.prog impl_cipher_encrypt.call impl_cipher_encrypt.qt impl_cipher_encrypt.H (codeAt (bodyOf Try.f61) [1, 1, 1, 0, 1, 0, 0, 1, 0, 0, 0, 1, 0, 0]) 4 impl_cipher_encrypt.l1.hd impl_cipher_encrypt.l1.outs [(6, .v (.int .i64 round1)), (20, .v (.int .i64 t20))] N (((), ((), ((), (t21, ())))), (((), ((), ())), (p12, (p22, (p31, ())))))
noncomputable def impl_cipher_encrypt.l2.hd : Alt := ⟨.normal, [6], [0, 5, 9], [.one (.ptr 0 0), .one (.own 3), ak_i], [.cells [.apl 1 0 512, .own 2], .rows (.int .u8) true, .rows (.int .u8) true, .rows (.int .u8)], [⟨[], [], [], []⟩]⟩
noncomputable def impl_cipher_encrypt.l2.outs : List Alt := [⟨(.exit 4), [6], [0, 5], [.one (.ptr 0 0), .one (.own 3)], [.cells [.apl 1 0 512, .own 2], .rows (.int .u8) true, .rows (.int .u8) true, .rows (.int .u8)], [⟨[], [], [], []⟩]⟩]
noncomputable def impl_cipher_encrypt.l2 (N : Nat) (round2 : Int) (i : Int) (p13 : (List Int)) (p23 : (List Int)) (p32 : (List Int)) : Option ((Unit × (Unit × Unit)) × ((Unit × (Unit × Unit)) × ((List Int) × ((List Int) × ((List Int) × Unit))))) :=
  loopK Try.prog impl_cipher_encrypt.call impl_cipher_encrypt.qt impl_cipher_encrypt.H (codeAt (bodyOf Try.f61) [1, 1, 1, 0, 1, 0, 0, 1, 0, 0, 1, 1, 0, 1, 0, 0]) 4 impl_cipher_encrypt.l2.hd impl_cipher_encrypt.l2.outs [(6, .v (.int .i64 round2))] N (((), ((), (i, ()))), (((), ((), ())), (p13, (p23, (p32, ())))))
noncomputable def impl_cipher_encrypt (N : Nat) (block : ByteArray) (p1 : (List Int)) (p2 : (List Int)) : Option ((ByteArray × Unit) × ((Unit × (Unit × Unit)) × ((List Int) × ((List Int) × Unit)))) :=
  ofFn Try.prog impl_cipher_encrypt.call impl_cipher_encrypt.qt impl_cipher_encrypt.H N Try.f61 [.one (.ptr 0 0), ak_s] [.cells [.apl 1 0 512, .own 2], .rows (.int .u8), .rows (.int .u8)] [ak_s] [.cells [.apl 1 0 512, .own 2], .rows (.int .u8) true, .rows (.int .u8) true] [⟨[], [], [], []⟩] ((), (block, ())) (((), ((), ())), (p1, (p2, ())))
noncomputable def impl_cipher_encrypt.S (N : Nat) : Say := ⟨false, 61, [.one (.ptr 0 0), ak_s], [.cells [.apl 1 0 512, .own 2], .rows (.int .u8), .rows (.int .u8)], [ak_s], [.cells [.apl 1 0 512, .own 2], .rows (.int .u8) true, .rows (.int .u8) true], fun a s => impl_cipher_encrypt N a.2.1 s.2.1 s.2.2.1⟩
set_option maxRecDepth 100000 in
theorem impl_cipher_encrypt.l2.eq (N : Nat) (round2 : Int) (i : Int) (p13 : (List Int)) (p23 : (List Int)) (p32 : (List Int)) : impl_cipher_encrypt.l2 (N + 1) round2 i p13 p23 p32 =
 andK (α := ((Unit × (Unit × (Bool × Unit))) × ((Unit × (Unit × Unit)) × ((List Int) × ((List Int) × ((List Int) × Unit)))))) (
  sel (decide (i < 16))
   (
   some ((((), ((), ((decide (round2 < 10)), ()))), (((), ((), ())), (p13, (p23, (p32, ())))))))
   (
   some ((((), ((), (false, ()))), (((), ((), ())), (p13, (p23, (p32, ())))))))) fun j4 =>
 sel j4.1.2.2.1
  (
  chk ((decide (0 ≤ i)) && ((decide (i ≤ (IntKind.i64.wrap (i + 4)))) && (decide ((IntKind.i64.wrap (i + 4)) ≤ (j4.2.2.2.2.1.length : Int))))) (
  andK (impl_forth N) fun u5 =>
  andK (impl_mixed N ((Int.toNat i), ((Int.toNat (IntKind.i64.wrap (i + 4))) - (Int.toNat i))) u5.1.1 j4.2.2.2.2.1) fun u6 =>
  impl_cipher_encrypt.l2 N round2 (IntKind.i64.wrap (i + 4)) j4.2.2.1 j4.2.2.2.1 u6.2.1))
  (
  some ((((), ((), ())), (((), ((), ())), (j4.2.2.1, (j4.2.2.2.1, (j4.2.2.2.2.1, ()))))))) := by kernel_rfl
set_option maxRecDepth 100000 in
theorem impl_cipher_encrypt.l1.eq (N : Nat) (round1 : Int) (t20 : Int) (t21 : Int) (p12 : (List Int)) (p22 : (List Int)) (p31 : (List Int)) : impl_cipher_encrypt.l1 (N + 1) round1 t20 t21 p12 p22 p31 =
 sel (decide (t21 < t20))
  (
  chk ((decide (0 ≤ t21)) && (decide (t21 < (p31.length : Int)))) (
  chk ((decide (0 ≤ (p31.getD (Int.toNat t21) 0))) && (decide ((p31.getD (Int.toNat t21) 0) < 256))) (
  chk ((decide (0 ≤ t21)) && (decide (t21 < (p31.length : Int)))) (
  impl_cipher_encrypt.l1 N round1 t20 (IntKind.i64.wrap (t21 + 1)) p12 p22 (p31.set (Int.toNat t21) (p12.getD (0 + (Int.toNat (p31.getD (Int.toNat t21) 0))) 0))))))
  (
  some ((((), ((), ())), (((), ((), ())), (p12, (p22, (p31, ()))))))) := by kernel_rfl
set_option maxRecDepth 100000 in
theorem impl_cipher_encrypt.l0.eq (N : Nat) (round : Int) (p11 : (List Int)) (p21 : (List Int)) (p3 : (List Int)) : impl_cipher_encrypt.l0 (N + 1) round p11 p21 p3 =
 sel (decide (round ≤ 10))
  (
  andK (impl_cipher_encrypt.l1 N round (p3.length : Int) 0 p11 p21 p3) fun l2 =>
  andK (impl_shift N 1 l2.2.2.2.2.1) fun u3 =>
  andK (impl_cipher_encrypt.l2 N round 0 l2.2.2.1 l2.2.2.2.1 u3.2.1) fun l7 =>
  andK (impl_cipher_addKey N round l7.2.2.2.2.1 l7.2.2.1 l7.2.2.2.1) fun u8 =>
  impl_cipher_encrypt.l0 N (IntKind.i64.wrap (round + 1)) u8.2.2.2.1 u8.2.2.2.2.1 u8.2.2.1)
  (
  some ((((), ()), (((), ((), ())), (p11, (p21, (p3, ()))))))) := by kernel_rfl
set_option maxRecDepth 100000 in
theorem impl_cipher_encrypt.eq (N : Nat) (block : ByteArray) (p1 : (List Int)) (p2 : (List Int)) : impl_cipher_encrypt N block p1 p2 =
 andK (impl_cipher_addKey N 0 (bytesL block) p1 p2) fun u1 =>
 andK (impl_cipher_encrypt.l0 N 1 u1.2.2.2.1 u1.2.2.2.2.1 u1.2.2.1) fun l9 =>
 some (((strL l9.2.2.2.2.1), ()), (((), ((), ())), (l9.2.2.1, (l9.2.2.2.1, ())))) := by kernel_rfl
set_option maxRecDepth 100000 in
theorem impl_cipher_encrypt.say (N : Nat) : SayOk Try.prog (impl_cipher_encrypt.S N) := sayOk_mk (N := N) (H := impl_cipher_encrypt.H) (preps := [⟨[], [], [], []⟩]) (l := impl_cipher_encrypt.says) (fn := Try.f61) (c := bodyOf Try.f61)
  (by kernel_rfl) (by kernel_rfl) (by kernel_rfl) (by kernel_rfl) (by kernel_rfl) (by kernel_rfl) (by kernel_rfl)
  (fun N => SayAll.cons (impl_cipher_addKey.say N) (SayAll.cons (impl_shift.say N) (SayAll.cons (impl_forth.say N) (SayAll.cons (impl_mixed.say N) (SayAll.nil))))) (fun a s => by kernel_rfl)

/-! ### loop.example/g00206/impl.xored: function 106 -/
noncomputable def impl_xored.H : Hints := hintsOf [(2000003, .loop ⟨.normal, [1, 10], [5, 11], [.one (.own 0), ak_i], [.rows (.int .u8)], [⟨[], [], [], []⟩]⟩ [⟨(.exit 0), [], [5], [.one (.own 0)], [.rows (.int .u8)], [⟨[], [], [], []⟩]⟩])]
noncomputable def impl_xored.says (N : Nat) : List Say := []
noncomputable def impl_xored.call (N : Nat) : CallK := callBy (impl_xored.says N)
noncomputable def impl_xored.qt (N : Nat) : FuncId → List PV → Sig → Cl := qtBy (impl_xored.says N)
noncomputable def impl_xored.l0.hd : Alt := ⟨.normal, [1, 10], [5, 11], [.one (.own 0), ak_i], [.rows (.int .u8)], [⟨[], [], [], []⟩]⟩
noncomputable def impl_xored.l0.outs : List Alt := [⟨(.exit 0), [], [5], [.one (.own 0)], [.rows (.int .u8)], [⟨[], [], [], []⟩]⟩]
noncomputable def impl_xored.l0 (N : Nat) (b1 : ByteArray) (t10 : Int) (t11 : Int) (p0 : (List Int)) : Option ((Unit × Unit) × ((List Int) × Unit)) :=
  loopK Try.prog impl_xored.call impl_xored.qt impl_xored.H (codeAt (bodyOf Try.f106) [1, 1, 0, 1, 0, 0]) 1 impl_xored.l0.hd impl_xored.l0.outs [(1, .v (.string b1)), (10, .v (.int .i64 t10))] N (((), (t11, ())), (p0, ()))
noncomputable def impl_xored (N : Nat) (a : ByteArray) (b : ByteArray) : Option ((ByteArray × Unit) × Unit) :=
  ofFn Try.prog impl_xored.call impl_xored.qt impl_xored.H N Try.f106 [ak_s, ak_s] [] [ak_s] [] [⟨[], [], [], []⟩] (a, (b, ())) ()
noncomputable def impl_xored.S (N : Nat) : Say := ⟨false, 106, [ak_s, ak_s], [], [ak_s], [], fun a s => impl_xored N a.1 a.2.1⟩
set_option maxRecDepth 100000 in
theorem impl_xored.l0.eq (N : Nat) (b1 : ByteArray) (t10 : Int) (t11 : Int) (p0 : (List Int)) : impl_xored.l0 (N + 1) b1 t10 t11 p0 =
 sel (decide (t11 < t10))
  (
  chk ((decide (0 ≤ t11)) && (decide (t11 < (p0.length : Int)))) (
  chk ((decide (0 ≤ t11)) && (decide (t11 < (b1.size : Int)))) (
  chk ((decide (0 ≤ t11)) && (decide (t11 < (p0.length : Int)))) (
  impl_xored.l0 N b1 t10 (IntKind.i64.wrap (t11 + 1)) (p0.set (Int.toNat t11) (Go.bits .xor .u8 (p0.getD (Int.toNat t11) 0) ((bytesL b1).getD (Int.toNat t11) 0)))))))
  (
  some ((((), ()), (p0, ())))) := by kernel_rfl
set_option maxRecDepth 100000 in
theorem impl_xored.eq (N : Nat) (a : ByteArray) (b : ByteArray) : impl_xored N a b =
 andK (impl_xored.l0 N b ((bytesL a).length : Int) 0 (bytesL a)) fun l1 =>
 some (((strL l1.2.1), ()), ()) := by kernel_rfl
set_option maxRecDepth 100000 in
theorem impl_xored.say (N : Nat) : SayOk Try.prog (impl_xored.S N) := sayOk_mk (N := N) (H := impl_xored.H) (preps := [⟨[], [], [], []⟩]) (l := impl_xored.says) (fn := Try.f106) (c := bodyOf Try.f106)
  (by kernel_rfl) (by kernel_rfl) (by kernel_rfl) (by kernel_rfl) (by kernel_rfl) (by kernel_rfl) (by kernel_rfl)
  (fun N => SayAll.nil) (fun a s => by kernel_rfl)

/-! ### (*loop.example/g00206/impl.halves).pass: function 72 -/
noncomputable def impl_halves_pass.H : Hints := hintsOf [(3, .join [⟨.normal, [], [0], [.one (.ptr 0 0)], [.cells [.ptr 1 0, ck_i, ck_s, ck_s], .cells [.apl 2 0 512, .own 3], .rows (.int .u8) true, .rows (.int .u8) true], [⟨[], [], [], []⟩]⟩])]
noncomputable def impl_halves_pass.says (N : Nat) : List Say := [impl_halfBlock.S N, impl_cipher_encrypt.S N, impl_xored.S N, impl_halves_trim.S N]
noncomputable def impl_halves_pass.call (N : Nat) : CallK := callBy (impl_halves_pass.says N)
noncomputable def impl_halves_pass.qt (N : Nat) : FuncId → List PV → Sig → Cl := qtBy (impl_halves_pass.says N)
noncomputable def impl_halves_pass (N : Nat) (pass : Int) (p0_1 : Int) (p0_2 : ByteArray) (p0_3 : ByteArray) (p2 : (List Int)) (p3 : (List Int)) : Option (Unit × ((Unit × (Int × (ByteArray × (ByteArray × Unit)))) × ((Unit × (Unit × Unit)) × ((List Int) × ((List Int) × Unit))))) :=
  ofFn Try.prog impl_halves_pass.call impl_halves_pass.qt impl_halves_pass.H N Try.f72 [.one (.ptr 0 0), ak_i] [.cells [.ptr 1 0, ck_i, ck_s, ck_s], .cells [.apl 2 0 512, .own 3], .rows (.int .u8), .rows (.int .u8)] [] [.cells [.ptr 1 0, ck_i, ck_s, ck_s], .cells [.apl 2 0 512, .own 3], .rows (.int .u8) true, .rows (.int .u8) true] [⟨[], [], [], []⟩] ((), (pass, ())) (((), (p0_1, (p0_2, (p0_3, ())))), (((), ((), ())), (p2, (p3, ()))))
noncomputable def impl_halves_pass.S (N : Nat) : Say := ⟨false, 72, [.one (.ptr 0 0), ak_i], [.cells [.ptr 1 0, ck_i, ck_s, ck_s], .cells [.apl 2 0 512, .own 3], .rows (.int .u8), .rows (.int .u8)], [], [.cells [.ptr 1 0, ck_i, ck_s, ck_s], .cells [.apl 2 0 512, .own 3], .rows (.int .u8) true, .rows (.int .u8) true], fun a s => impl_halves_pass N a.2.1 s.1.2.1 s.1.2.2.1 s.1.2.2.2.1 s.2.2.1 s.2.2.2.1⟩
set_option maxRecDepth 100000 in
theorem impl_halves_pass.eq (N : Nat) (pass : Int) (p0_1 : Int) (p0_2 : ByteArray) (p0_3 : ByteArray) (p2 : (List Int)) (p3 : (List Int)) : impl_halves_pass N pass p0_1 p0_2 p0_3 p2 p3 =
 andK (α := ((Unit × Unit) × ((Unit × (Int × (ByteArray × (ByteArray × Unit)))) × ((Unit × (Unit × Unit)) × ((List Int) × ((List Int) × Unit)))))) (
  sel (decide ((Int.tmod pass 2) = 1))
   (
   andK (impl_halfBlock N p0_2 p0_1 pass) fun u1 =>
   andK (impl_cipher_encrypt N u1.1.1 p2 p3) fun u2 =>
   andK (impl_xored N p0_3 u2.1.1) fun u3 =>
   some ((((), ()), (((), (p0_1, (p0_2, (u3.1.1, ())))), (((), ((), ())), (u2.2.2.1, (u2.2.2.2.1, ())))))))
   (
   andK (impl_halfBlock N p0_3 p0_1 pass) fun u4 =>
   andK (impl_cipher_encrypt N u4.1.1 p2 p3) fun u5 =>
   andK (impl_xored N p0_2 u5.1.1) fun u6 =>
   some ((((), ()), (((), (p0_1, (u6.1.1, (p0_3, ())))), (((), ((), ())), (u5.2.2.1, (u5.2.2.2.1, ())))))))) fun j7 =>
 andK (impl_halves_trim N j7.2.1.2.1 j7.2.1.2.2.1 j7.2.1.2.2.2.1 j7.2.2.2.1 j7.2.2.2.2.1) fun u8 =>
 some ((), (((), (u8.2.1.2.1, (u8.2.1.2.2.1, (u8.2.1.2.2.2.1, ())))), (((), ((), ())), (u8.2.2.2.1, (u8.2.2.2.2.1, ()))))) := by kernel_rfl
set_option maxRecDepth 100000 in
theorem impl_halves_pass.say (N : Nat) : SayOk Try.prog (impl_halves_pass.S N) := sayOk_mk (N := N) (H := impl_halves_pass.H) (preps := [⟨[], [], [], []⟩]) (l := impl_halves_pass.says) (fn := Try.f72) (c := bodyOf Try.f72)
  (by kernel_rfl) (by kernel_rfl) (by kernel_rfl) (by kernel_rfl) (by kernel_rfl) (by kernel_rfl) (by kernel_rfl)
  (fun N => SayAll.cons (impl_halfBlock.say N) (SayAll.cons (impl_cipher_encrypt.say N) (SayAll.cons (impl_xored.say N) (SayAll.cons (impl_halves_trim.say N) (SayAll.nil))))) (fun a s => by kernel_rfl)

/-! ### (*loop.example/g00206/impl.halves).text: function 73 -/
noncomputable def impl_halves_text.H : Hints := hintsOf []
noncomputable def impl_halves_text.says (N : Nat) : List Say := []
noncomputable def impl_halves_text.call (N : Nat) : CallK := callBy (impl_halves_text.says N)
noncomputable def impl_halves_text.qt (N : Nat) : FuncId → List PV → Sig → Cl := qtBy (impl_halves_text.says N)
noncomputable def impl_halves_text (N : Nat) (p0_1 : Int) (p0_2 : ByteArray) (p0_3 : ByteArray) (p2 : (List Int)) (p3 : (List Int)) : Option ((ByteArray × Unit) × ((Unit × (Int × (ByteArray × (ByteArray × Unit)))) × ((Unit × (Unit × Unit)) × ((List Int) × ((List Int) × Unit))))) :=
  ofFn Try.prog impl_halves_text.call impl_halves_text.qt impl_halves_text.H N Try.f73 [.one (.ptr 0 0)] [.cells [.ptr 1 0, ck_i, ck_s, ck_s], .cells [.apl 2 0 512, .own 3], .rows (.int .u8), .rows (.int .u8)] [ak_s] [.cells [.ptr 1 0, ck_i, ck_s, ck_s], .cells [.apl 2 0 512, .own 3], .rows (.int .u8) true, .rows (.int .u8) true] [⟨[], [], [], []⟩] ((), ()) (((), (p0_1, (p0_2, (p0_3, ())))), (((), ((), ())), (p2, (p3, ()))))
noncomputable def impl_halves_text.S (N : Nat) : Say := ⟨false, 73, [.one (.ptr 0 0)], [.cells [.ptr 1 0, ck_i, ck_s, ck_s], .cells [.apl 2 0 512, .own 3], .rows (.int .u8), .rows (.int .u8)], [ak_s], [.cells [.ptr 1 0, ck_i, ck_s, ck_s], .cells [.apl 2 0 512, .own 3], .rows (.int .u8) true, .rows (.int .u8) true], fun a s => impl_halves_text N s.1.2.1 s.1.2.2.1 s.1.2.2.2.1 s.2.2.1 s.2.2.2.1⟩
set_option maxRecDepth 100000 in
theorem impl_halves_text.eq (N : Nat) (p0_1 : Int) (p0_2 : ByteArray) (p0_3 : ByteArray) (p2 : (List Int)) (p3 : (List Int)) : impl_halves_text N p0_1 p0_2 p0_3 p2 p3 =
 sel (decide ((Int.tmod p0_1 2) = 0))
  (
  chk (decide (p0_2.size + p0_3.size ≤ 9223372036854775807)) (
  some (((p0_2 ++ p0_3), ()), (((), (p0_1, (p0_2, (p0_3, ())))), (((), ((), ())), (p2, (p3, ())))))))
  (
  chk ((decide (0 ≤ (IntKind.i64.wrap ((p0_2.size : Int) - 1)))) && (decide ((IntKind.i64.wrap ((p0_2.size : Int) - 1)) ≤ (p0_2.size : Int)))) (
  chk ((decide (0 ≤ (IntKind.i64.wrap ((p0_2.size : Int) - 1)))) && (decide ((IntKind.i64.wrap ((p0_2.size : Int) - 1)) < (p0_2.size : Int)))) (
  chk (decide (0 < (p0_3.size : Int))) (
  chk (decide ((p0_2.extract 0 (Int.toNat (IntKind.i64.wrap ((p0_2.size : Int) - 1)))).size + (strL [(Go.bits .or .u8 ((bytesL p0_2).getD (Int.toNat (IntKind.i64.wrap ((p0_2.size : Int) - 1))) 0) ((bytesL p0_3).getD 0 0))]).size ≤ 9223372036854775807)) (
  chk ((decide (1 ≤ (p0_3.size : Int))) && (decide ((p0_3.size : Int) ≤ (p0_3.size : Int)))) (
  chk (decide (((p0_2.extract 0 (Int.toNat (IntKind.i64.wrap ((p0_2.size : Int) - 1)))) ++ (strL [(Go.bits .or .u8 ((bytesL p0_2).getD (Int.toNat (IntKind.i64.wrap ((p0_2.size : Int) - 1))) 0) ((bytesL p0_3).getD 0 0))])).size + (p0_3.extract 1 (Int.toNat (p0_3.size : Int))).size ≤ 9223372036854775807)) (
  some (((((p0_2.extract 0 (Int.toNat (IntKind.i64.wrap ((p0_2.size : Int) - 1)))) ++ (strL [(Go.bits .or .u8 ((bytesL p0_2).getD (Int.toNat (IntKind.i64.wrap ((p0_2.size : Int) - 1))) 0) ((bytesL p0_3).getD 0 0))])) ++ (p0_3.extract 1 (Int.toNat (p0_3.size : Int)))), ()), (((), (p0_1, (p0_2, (p0_3, ())))), (((), ((), ())), (p2, (p3, ())))))))))))) := by kernel_rfl
set_option maxRecDepth 100000 in
theorem impl_halves_text.say (N : Nat) : SayOk Try.prog (impl_halves_text.S N) := sayOk_mk (N := N) (H := impl_halves_text.H) (preps := [⟨[], [], [], []⟩]) (l := impl_halves_text.says) (fn := Try.f73) (c := bodyOf Try.f73)
  (by kernel_rfl) (by kernel_rfl) (by kernel_rfl) (by kernel_rfl) (by kernel_rfl) (by kernel_rfl) (by kernel_rfl)
  (fun N => SayAll.nil) (fun a s => by kernel_rfl)

/-! ### loop.example/g00206/impl.fourPasses: function 39 -/
noncomputable def impl_fourPasses.H : Hints := hintsOf [(2000003, .loop ⟨.normal, [], [5, 6], [.one (.ptr 0 0), ak_i], [.cells [.ptr 1 0, ck_i, ck_s, ck_s], .cells [.apl 2 0 512, .own 3], .rows (.int .u8), .rows (.int .u8)], [⟨[], [], [], []⟩]⟩ [⟨(.exit 0), [], [5], [.one (.ptr 0 0)], [.cells [.ptr 1 0, ck_i, ck_s, ck_s], .cells [.apl 2 0 512, .own 3], .rows (.int .u8), .rows (.int .u8)], [⟨[], [], [], []⟩]⟩])]
noncomputable def impl_fourPasses.says (N : Nat) : List Say := [impl_halvesOf.S N, impl_halves_pass.S N, impl_halves_text.S N]
noncomputable def impl_fourPasses.call (N : Nat) : CallK := callBy (impl_fourPasses.says N)
noncomputable def impl_fourPasses.qt (N : Nat) : FuncId → List PV → Sig → Cl := qtBy (impl_fourPasses.says N)
noncomputable def impl_fourPasses.l0.hd : Alt := ⟨.normal, [], [5, 6], [.one (.ptr 0 0), ak_i], [.cells [.ptr 1 0, ck_i, ck_s, ck_s], .cells [.apl 2 0 512, .own 3], .rows (.int .u8), .rows (.int .u8)], [⟨[], [], [], []⟩]⟩
noncomputable def impl_fourPasses.l0.outs : List Alt := [⟨(.exit 0), [], [5], [.one (.ptr 0 0)], [.cells [.ptr 1 0, ck_i, ck_s, ck_s], .cells [.apl 2 0 512, .own 3], .rows (.int .u8), .rows (.int .u8)], [⟨[], [], [], []⟩]⟩]
noncomputable def impl_fourPasses.l0 (N : Nat) (pass : Int) (p0_1 : Int) (p0_2 : ByteArray) (p0_3 : ByteArray) (p2 : (List Int)) (p3 : (List Int)) : Option ((Unit × Unit) × ((Unit × (Int × (ByteArray × (ByteArray × Unit)))) × ((Unit × (Unit × Unit)) × ((List Int) × ((List Int) × Unit))))) :=
  loopK Try.prog impl_fourPasses.call impl_fourPasses.qt impl_fourPasses.H (codeAt (bodyOf Try.f39) [1, 1, 0, 1, 0, 0]) 4 impl_fourPasses.l0.hd impl_fourPasses.l0.outs [] N (((), (pass, ())), (((), (p0_1, (p0_2, (p0_3, ())))), (((), ((), ())), (p2, (p3, ())))))
noncomputable def impl_fourPasses (N : Nat) (key : ByteArray) (s : ByteArray) : Option ((ByteArray × Unit) × Unit) :=
  ofFn Try.prog impl_fourPasses.call impl_fourPasses.qt impl_fourPasses.H N Try.f39 [ak_s, ak_s] [] [ak_s] [] [⟨[], [], [], []⟩] (key, (s, ())) ()
noncomputable def impl_fourPasses.S (N : Nat) : Say := ⟨false, 39, [ak_s, ak_s], [], [ak_s], [], fun a s => impl_fourPasses N a.1 a.2.1⟩
set_option maxRecDepth 100000 in
theorem impl_fourPasses.l0.eq (N : Nat) (pass : Int) (p0_1 : Int) (p0_2 : ByteArray) (p0_3 : ByteArray) (p2 : (List Int)) (p3 : (List Int)) : impl_fourPasses.l0 (N + 1) pass p0_1 p0_2 p0_3 p2 p3 =
 sel (decide (pass ≤ 4))
  (
  andK (impl_halves_pass N pass p0_1 p0_2 p0_3 p2 p3) fun u2 =>
  impl_fourPasses.l0 N (IntKind.i64.wrap (pass + 1)) u2.2.1.2.1 u2.2.1.2.2.1 u2.2.1.2.2.2.1 u2.2.2.2.1 u2.2.2.2.2.1)
  (
  some ((((), ()), (((), (p0_1, (p0_2, (p0_3, ())))), (((), ((), ())), (p2, (p3, ()))))))) := by kernel_rfl
set_option maxRecDepth 100000 in
theorem impl_fourPasses.eq (N : Nat) (key : ByteArray) (s : ByteArray) : impl_fourPasses N key s =
 andK (impl_halvesOf N key s) fun u1 =>
 andK (impl_fourPasses.l0 N 1 u1.2.1.2.1 u1.2.1.2.2.1 u1.2.1.2.2.2.1 u1.2.2.2.1 u1.2.2.2.2.1) fun l3 =>
 andK (impl_halves_text N l3.2.1.2.1 l3.2.1.2.2.1 l3.2.1.2.2.2.1 l3.2.2.2.1 l3.2.2.2.2.1) fun u4 =>
 some ((u4.1.1, ()), ()) := by kernel_rfl
set_option maxRecDepth 100000 in
theorem impl_fourPasses.say (N : Nat) : SayOk Try.prog (impl_fourPasses.S N) := sayOk_mk (N := N) (H := impl_fourPasses.H) (preps := [⟨[], [], [], []⟩]) (l := impl_fourPasses.says) (fn := Try.f39) (c := bodyOf Try.f39)
  (by kernel_rfl) (by kernel_rfl) (by kernel_rfl) (by kernel_rfl) (by kernel_rfl) (by kernel_rfl) (by kernel_rfl)
  (fun N => SayAll.cons (impl_halvesOf.say N) (SayAll.cons (impl_halves_pass.say N) (SayAll.cons (impl_halves_text.say N) (SayAll.nil)))) (fun a s => by kernel_rfl)

/-! ### loop.example/g00206/impl.FourPasses: function 10 -/
noncomputable def impl_FourPasses.H : Hints := hintsOf []
noncomputable def impl_FourPasses.says (N : Nat) : List Say := [impl_fourOk.S N, impl_fourPasses.S N]
noncomputable def impl_FourPasses.call (N : Nat) : CallK := callBy (impl_FourPasses.says N)
noncomputable def impl_FourPasses.qt (N : Nat) : FuncId → List PV → Sig → Cl := qtBy (impl_FourPasses.says N)
noncomputable def impl_FourPasses (N : Nat) (key : ByteArray) (s : ByteArray) : Option ((ByteArray × (Bool × Unit)) × Unit) :=
  ofFn Try.prog impl_FourPasses.call impl_FourPasses.qt impl_FourPasses.H N Try.f10 [ak_s, ak_s] [] [ak_s, ak_b] [] [⟨[], [], [], []⟩] (key, (s, ())) ()
noncomputable def impl_FourPasses.S (N : Nat) : Say := ⟨false, 10, [ak_s, ak_s], [], [ak_s, ak_b], [], fun a s => impl_FourPasses N a.1 a.2.1⟩
set_option maxRecDepth 100000 in
theorem impl_FourPasses.eq (N : Nat) (key : ByteArray) (s : ByteArray) : impl_FourPasses N key s =
 andK (impl_fourOk N key s) fun u1 =>
 sel (!u1.1.1)
  (
  some (((⟨#[]⟩ : ByteArray), (false, ())), ()))
  (
  andK (impl_fourPasses N key s) fun u2 =>
  some ((u2.1.1, (true, ())), ())) := by kernel_rfl
set_option maxRecDepth 100000 in
theorem impl_FourPasses.say (N : Nat) : SayOk Try.prog (impl_FourPasses.S N) := sayOk_mk (N := N) (H := impl_FourPasses.H) (preps := [⟨[], [], [], []⟩]) (l := impl_FourPasses.says) (fn := Try.f10) (c := bodyOf Try.f10)
  (by kernel_rfl) (by kernel_rfl) (by kernel_rfl) (by kernel_rfl) (by kernel_rfl) (by kernel_rfl) (by kernel_rfl)
  (fun N => SayAll.cons (impl_fourOk.say N) (SayAll.cons (impl_fourPasses.say N) (SayAll.nil))) (fun a s => by kernel_rfl)

/-! ### loop.example/g00206/spec.l1In: function 56 -/
noncomputable def spec_l1In.H : Hints := hintsOf []
noncomputable def spec_l1In.says (N : Nat) : List Say := []
noncomputable def spec_l1In.call (N : Nat) : CallK := callBy (spec_l1In.says N)
noncomputable def spec_l1In.qt (N : Nat) : FuncId → List PV → Sig → Cl := qtBy (spec_l1In.says N)
noncomputable def spec_l1In (N : Nat) (n : Int) (lo : Int) (hi : Int) : Option ((Bool × Unit) × Unit) :=
  ofFn Try.prog spec_l1In.call spec_l1In.qt spec_l1In.H N Try.f56 [ak_i, ak_i, ak_i] [] [ak_b] [] [⟨[], [], [], []⟩] (n, (lo, (hi, ()))) ()
noncomputable def spec_l1In.S (N : Nat) : Say := ⟨false, 56, [ak_i, ak_i, ak_i], [], [ak_b], [], fun a s => spec_l1In N a.1 a.2.1 a.2.2.1⟩
set_option maxRecDepth 100000 in
theorem spec_l1In.eq (N : Nat) (n : Int) (lo : Int) (hi : Int) : spec_l1In N n lo hi =
 sel (decide (lo ≤ n))
  (
  some (((decide (n ≤ hi)), ()), ()))
  (
  some ((false, ()), ())) := by kernel_rfl
set_option maxRecDepth 100000 in
theorem spec_l1In.say (N : Nat) : SayOk Try.prog (spec_l1In.S N) := sayOk_mk (N := N) (H := spec_l1In.H) (preps := [⟨[], [], [], []⟩]) (l := spec_l1In.says) (fn := Try.f56) (c := bodyOf Try.f56)
  (by kernel_rfl) (by kernel_rfl) (by kernel_rfl) (by kernel_rfl) (by kernel_rfl) (by kernel_rfl) (by kernel_rfl)
  (fun N => SayAll.nil) (fun a s => by kernel_rfl)

/-! ### loop.example/g00206/spec.l7Four: function 40 -/
noncomputable def spec_l7Four.H : Hints := hintsOf []
noncomputable def spec_l7Four.says (N : Nat) : List Say := [spec_l1In.S N]
noncomputable def spec_l7Four.call (N : Nat) : CallK := callBy (spec_l7Four.says N)
noncomputable def spec_l7Four.qt (N : Nat) : FuncId → List PV → Sig → Cl := qtBy (spec_l7Four.says N)
noncomputable def spec_l7Four (N : Nat) (key : ByteArray) (s : ByteArray) : Option ((Bool × Unit) × Unit) :=
  ofFn Try.prog spec_l7Four.call spec_l7Four.qt spec_l7Four.H N Try.f40 [ak_s, ak_s] [] [ak_b] [] [⟨[], [], [], []⟩] (key, (s, ())) ()
noncomputable def spec_l7Four.S (N : Nat) : Say := ⟨false, 40, [ak_s, ak_s], [], [ak_b], [], fun a s => spec_l7Four N a.1 a.2.1⟩
set_option maxRecDepth 100000 in
theorem spec_l7Four.eq (N : Nat) (key : ByteArray) (s : ByteArray) : spec_l7Four N key s =
 sel (decide ((key.size : Int) = 16))
  (
  andK (spec_l1In N (s.size : Int) 5 19) fun u1 =>
  some ((u1.1.1, ()), ()))
  (
  some ((false, ()), ())) := by kernel_rfl
set_option maxRecDepth 100000 in
theorem spec_l7Four.say (N : Nat) : SayOk Try.prog (spec_l7Four.S N) := sayOk_mk (N := N) (H := spec_l7Four.H) (preps := [⟨[], [], [], []⟩]) (l := spec_l7Four.says) (fn := Try.f40) (c := bodyOf Try.f40)
  (by kernel_rfl) (by kernel_rfl) (by kernel_rfl) (by kernel_rfl) (by kernel_rfl) (by kernel_rfl) (by kernel_rfl)
  (fun N => SayAll.cons (spec_l1In.say N) (SayAll.nil)) (fun a s => by kernel_rfl)

/-! ### loop.example/g00206/spec.l7Cut: function 74 -/
noncomputable def spec_l7Cut.H : Hints := hintsOf []
noncomputable def spec_l7Cut.says (N : Nat) : List Say := []
noncomputable def spec_l7Cut.call (N : Nat) : CallK := callBy (spec_l7Cut.says N)
noncomputable def spec_l7Cut.qt (N : Nat) : FuncId → List PV → Sig → Cl := qtBy (spec_l7Cut.says N)
noncomputable def spec_l7Cut (N : Nat) (s : ByteArray) : Option ((Unit × (Unit × Unit)) × ((List Int) × ((List Int) × Unit))) :=
  ofFn Try.prog spec_l7Cut.call spec_l7Cut.qt spec_l7Cut.H N Try.f74 [ak_s] [] [.one (.own 0), .one (.own 1)] [.rows (.int .u8), .rows (.int .u8)] [⟨[], [], [], [0, 1]⟩] (s, ()) ()
noncomputable def spec_l7Cut.S (N : Nat) : Say := ⟨false, 74, [ak_s], [], [.one (.own 0), .one (.own 1)], [.rows (.int .u8), .rows (.int .u8)], fun a s => spec_l7Cut N a.1⟩
set_option maxRecDepth 100000 in
theorem spec_l7Cut.eq (N : Nat) (s : ByteArray) : spec_l7Cut N s =
 chk ((decide (0 ≤ (IntKind.i64.wrap (Int.tdiv (IntKind.i64.wrap ((s.size : Int) + 1)) 2)))) && (decide ((IntKind.i64.wrap (Int.tdiv (IntKind.i64.wrap ((s.size : Int) + 1)) 2)) ≤ (s.size : Int)))) (
 chk ((decide (0 ≤ (IntKind.i64.wrap ((s.size : Int) - (IntKind.i64.wrap (Int.tdiv (IntKind.i64.wrap ((s.size : Int) + 1)) 2)))))) && ((decide ((IntKind.i64.wrap ((s.size : Int) - (IntKind.i64.wrap (Int.tdiv (IntKind.i64.wrap ((s.size : Int) + 1)) 2)))) ≤ (s.size : Int))) && (decide ((s.size : Int) ≤ (s.size : Int))))) (
 sel (decide ((Int.tmod (s.size : Int) 2) = 1))
  (
  chk ((decide (0 ≤ (IntKind.i64.wrap ((IntKind.i64.wrap (Int.tdiv (IntKind.i64.wrap ((s.size : Int) + 1)) 2)) - 1)))) && (decide ((IntKind.i64.wrap ((IntKind.i64.wrap (Int.tdiv (IntKind.i64.wrap ((s.size : Int) + 1)) 2)) - 1)) < ((bytesL (s.extract 0 (Int.toNat (IntKind.i64.wrap (Int.tdiv (IntKind.i64.wrap ((s.size : Int) + 1)) 2))))).length : Int)))) (
  chk ((decide (0 ≤ (IntKind.i64.wrap ((IntKind.i64.wrap (Int.tdiv (IntKind.i64.wrap ((s.size : Int) + 1)) 2)) - 1)))) && (decide ((IntKind.i64.wrap ((IntKind.i64.wrap (Int.tdiv (IntKind.i64.wrap ((s.size : Int) + 1)) 2)) - 1)) < ((bytesL (s.extract 0 (Int.toNat (IntKind.i64.wrap (Int.tdiv (IntKind.i64.wrap ((s.size : Int) + 1)) 2))))).length : Int)))) (
  chk (decide (0 < ((bytesL (s.extract (Int.toNat (IntKind.i64.wrap ((s.size : Int) - (IntKind.i64.wrap (Int.tdiv (IntKind.i64.wrap ((s.size : Int) + 1)) 2))))) (Int.toNat (s.size : Int)))).length : Int))) (
  chk (decide (0 < ((bytesL (s.extract (Int.toNat (IntKind.i64.wrap ((s.size : Int) - (IntKind.i64.wrap (Int.tdiv (IntKind.i64.wrap ((s.size : Int) + 1)) 2))))) (Int.toNat (s.size : Int)))).length : Int))) (
  some (((), ((), ())), (((bytesL (s.extract 0 (Int.toNat (IntKind.i64.wrap (Int.tdiv (IntKind.i64.wrap ((s.size : Int) + 1)) 2))))).set (Int.toNat (IntKind.i64.wrap ((IntKind.i64.wrap (Int.tdiv (IntKind.i64.wrap ((s.size : Int) + 1)) 2)) - 1))) (Go.bits .and .u8 ((bytesL (s.extract 0 (Int.toNat (IntKind.i64.wrap (Int.tdiv (IntKind.i64.wrap ((s.size : Int) + 1)) 2))))).getD (Int.toNat (IntKind.i64.wrap ((IntKind.i64.wrap (Int.tdiv (IntKind.i64.wrap ((s.size : Int) + 1)) 2)) - 1))) 0) 240)), (((bytesL (s.extract (Int.toNat (IntKind.i64.wrap ((s.size : Int) - (IntKind.i64.wrap (Int.tdiv (IntKind.i64.wrap ((s.size : Int) + 1)) 2))))) (Int.toNat (s.size : Int)))).set 0 (Go.bits .and .u8 ((bytesL (s.extract (Int.toNat (IntKind.i64.wrap ((s.size : Int) - (IntKind.i64.wrap (Int.tdiv (IntKind.i64.wrap ((s.size : Int) + 1)) 2))))) (Int.toNat (s.size : Int)))).getD 0 0) 15)), ()))))))))
  (
  some (((), ((), ())), ((bytesL (s.extract 0 (Int.toNat (IntKind.i64.wrap (Int.tdiv (IntKind.i64.wrap ((s.size : Int) + 1)) 2))))), ((bytesL (s.extract (Int.toNat (IntKind.i64.wrap ((s.size : Int) - (IntKind.i64.wrap (Int.tdiv (IntKind.i64.wrap ((s.size : Int) + 1)) 2))))) (Int.toNat (s.size : Int)))), ())))))) := by kernel_rfl
set_option maxRecDepth 100000 in
theorem spec_l7Cut.say (N : Nat) : SayOk Try.prog (spec_l7Cut.S N) := sayOk_mk (N := N) (H := spec_l7Cut.H) (preps := [⟨[], [], [], [0, 1]⟩]) (l := spec_l7Cut.says) (fn := Try.f74) (c := bodyOf Try.f74)
  (by kernel_rfl) (by kernel_rfl) (by kernel_rfl) (by kernel_rfl) (by kernel_rfl) (by kernel_rfl) (by kernel_rfl)
  (fun N => SayAll.nil) (fun a s => by kernel_rfl)

/-! ### loop.example/g00206/spec.l3Mul: function 109 -/
noncomputable def spec_l3Mul.H : Hints := hintsOf [(5, .join [⟨.normal, [0, 1], [5], [.one (.sh (.int .u8))], [], [⟨[], [], [], []⟩]⟩]),
  (9, .join [⟨.normal, [1, 5], [0], [.one (.sh (.int .u8))], [], [⟨[], [], [], []⟩]⟩]),
  (2000002, .loop ⟨.normal, [], [0, 1, 5], [.one (.sh (.int .u8)), .one (.sh (.int .u8)), .one (.sh (.int .u8))], [], [⟨[], [], [], []⟩]⟩ [⟨(.exit 0), [], [5], [.one (.sh (.int .u8))], [], [⟨[], [], [], []⟩]⟩])]
noncomputable def spec_l3Mul.says (N : Nat) : List Say := []
noncomputable def spec_l3Mul.call (N : Nat) : CallK := callBy (spec_l3Mul.says N)
noncomputable def spec_l3Mul.qt (N : Nat) : FuncId → List PV → Sig → Cl := qtBy (spec_l3Mul.says N)
noncomputable def spec_l3Mul.l0.hd : Alt := ⟨.normal, [], [0, 1, 5], [.one (.sh (.int .u8)), .one (.sh (.int .u8)), .one (.sh (.int .u8))], [], [⟨[], [], [], []⟩]⟩
noncomputable def spec_l3Mul.l0.outs : List Alt := [⟨(.exit 0), [], [5], [.one (.sh (.int .u8))], [], [⟨[], [], [], []⟩]⟩]
noncomputable def spec_l3Mul.l0 (N : Nat) (a1 : Int) (b1 : Int) (out : Int) : Option ((Int × Unit) × Unit) :=
  loopK Try.prog spec_l3Mul.call spec_l3Mul.qt spec_l3Mul.H (codeAt (bodyOf Try.f109) [1, 1, 0, 0, 0]) 0 spec_l3Mul.l0.hd spec_l3Mul.l0.outs [] N ((a1, (b1, (out, ()))), ())
noncomputable def spec_l3Mul (N : Nat) (a : Int) (b : Int) : Option ((Int × Unit) × Unit) :=
  ofFn Try.prog spec_l3Mul.call spec_l3Mul.qt spec_l3Mul.H N Try.f109 [.one (.sh (.int .u8)), .one (.sh (.int .u8))] [] [.one (.sh (.int .u8))] [] [⟨[], [], [], []⟩] (a, (b, ())) ()
noncomputable def spec_l3Mul.S (N : Nat) : Say := ⟨false, 109, [.one (.sh (.int .u8)), .one (.sh (.int .u8))], [], [.one (.sh (.int .u8))], [], fun a s => spec_l3Mul N a.1 a.2.1⟩
set_option maxRecDepth 100000 in
theorem spec_l3Mul.l0.eq (N : Nat) (a1 : Int) (b1 : Int) (out : Int) : spec_l3Mul.l0 (N + 1) a1 b1 out =
 sel (decide (0 < b1))
  (
  andK (α := ((Int × Unit) × Unit)) (
   sel (decide ((Go.bits .and .u8 b1 1) = 1))
    (
    some ((((Go.bits .xor .u8 out a1), ()), ())))
    (
    some (((out, ()), ())))) fun j1 =>
  andK (α := ((Int × Unit) × Unit)) (
   sel (!(decide ((Go.bits .and .u8 a1 128) = 0)))
    (
    some ((((Go.bits .xor .u8 (shlI .u8 a1 1) 27), ()), ())))
    (
    some ((((shlI .u8 a1 1), ()), ())))) fun j2 =>
  spec_l3Mul.l0 N j2.1.1 (shrI .u8 b1 1) j1.1.1)
  (
  some (((out, ()), ()))) := by kernel_rfl
set_option maxRecDepth 100000 in
theorem spec_l3Mul.eq (N : Nat) (a : Int) (b : Int) : spec_l3Mul N a b =
 andK (spec_l3Mul.l0 N a b 0) fun l3 =>
 some ((l3.1.1, ()), ()) := by kernel_rfl
set_option maxRecDepth 100000 in
theorem spec_l3Mul.say (N : Nat) : SayOk Try.prog (spec_l3Mul.S N) := sayOk_mk (N := N) (H := spec_l3Mul.H) (preps := [⟨[], [], [], []⟩]) (l := spec_l3Mul.says) (fn := Try.f109) (c := bodyOf Try.f109)
  (by kernel_rfl) (by kernel_rfl) (by kernel_rfl) (by kernel_rfl) (by kernel_rfl) (by kernel_rfl) (by kernel_rfl)
  (fun N => SayAll.nil) (fun a s => by kernel_rfl)

/-! ### loop.example/g00206/spec.l3Inverse: function 128 -/
noncomputable def spec_l3Inverse.H : Hints := hintsOf [(7, .join [⟨.normal, [0, 4], [3], [.one (.sh (.int .u8))], [], [⟨[], [], [], []⟩]⟩]),
  (2000003, .loop ⟨.normal, [], [0, 3, 4], [.one (.sh (.int .u8)), .one (.sh (.int .u8)), ak_i], [], [⟨[], [], [], []⟩]⟩ [⟨(.exit 0), [], [3], [.one (.sh (.int .u8))], [], [⟨[], [], [], []⟩]⟩])]
noncomputable def spec_l3Inverse.says (N : Nat) : List Say := [spec_l3Mul.S N]
noncomputable def spec_l3Inverse.call (N : Nat) : CallK := callBy (spec_l3Inverse.says N)
noncomputable def spec_l3Inverse.qt (N : Nat) : FuncId → List PV → Sig → Cl := qtBy (spec_l3Inverse.says N)
noncomputable def spec_l3Inverse.l0.hd : Alt := ⟨.normal, [], [0, 3, 4], [.one (.sh (.int .u8)), .one (.sh (.int .u8)), ak_i], [], [⟨[], [], [], []⟩]⟩
noncomputable def spec_l3Inverse.l0.outs : List Alt := [⟨(.exit 0), [], [3], [.one (.sh (.int .u8))], [], [⟨[], [], [], []⟩]⟩]
noncomputable def spec_l3Inverse.l0 (N : Nat) (a1 : Int) (out : Int) (n : Int) : Option ((Int × Unit) × Unit) :=
  loopK Try.prog spec_l3Inverse.call spec_l3Inverse.qt spec_l3Inverse.H (codeAt (bodyOf Try.f128) [1, 1, 0, 1, 0, 0]) 0 spec_l3Inverse.l0.hd spec_l3Inverse.l0.outs [] N ((a1, (out, (n, ()))), ())
noncomputable def spec_l3Inverse (N : Nat) (a : Int) : Option ((Int × Unit) × Unit) :=
  ofFn Try.prog spec_l3Inverse.call spec_l3Inverse.qt spec_l3Inverse.H N Try.f128 [.one (.sh (.int .u8))] [] [.one (.sh (.int .u8))] [] [⟨[], [], [], []⟩] (a, ()) ()
noncomputable def spec_l3Inverse.S (N : Nat) : Say := ⟨false, 128, [.one (.sh (.int .u8))], [], [.one (.sh (.int .u8))], [], fun a s => spec_l3Inverse N a.1⟩
set_option maxRecDepth 100000 in
theorem spec_l3Inverse.l0.eq (N : Nat) (a1 : Int) (out : Int) (n : Int) : spec_l3Inverse.l0 (N + 1) a1 out n =
 sel (decide (0 < n))
  (
  andK (α := ((Int × Unit) × Unit)) (
   sel (decide ((Go.bits .and .i64 n 1) = 1))
    (
    andK (spec_l3Mul N out a1) fun u1 =>
    some (((u1.1.1, ()), ())))
    (
    some (((out, ()), ())))) fun j2 =>
  andK (spec_l3Mul N a1 a1) fun u3 =>
  spec_l3Inverse.l0 N u3.1.1 j2.1.1 (shrI .i64 n 1))
  (
  some (((out, ()), ()))) := by kernel_rfl
set_option maxRecDepth 100000 in
theorem spec_l3Inverse.eq (N : Nat) (a : Int) : spec_l3Inverse N a =
 andK (spec_l3Inverse.l0 N a 1 254) fun l4 =>
 some ((l4.1.1, ()), ()) := by kernel_rfl
set_option maxRecDepth 100000 in
theorem spec_l3Inverse.say (N : Nat) : SayOk Try.prog (spec_l3Inverse.S N) := sayOk_mk (N := N) (H := spec_l3Inverse.H) (preps := [⟨[], [], [], []⟩]) (l := spec_l3Inverse.says) (fn := Try.f128) (c := bodyOf Try.f128)
  (by kernel_rfl) (by kernel_rfl) (by kernel_rfl) (by kernel_rfl) (by kernel_rfl) (by kernel_rfl) (by kernel_rfl)
  (fun N => SayAll.cons (spec_l3Mul.say N) (SayAll.nil)) (fun a s => by kernel_rfl)

/-! ### loop.example/g00206/spec.l3Turn: function 129 -/
noncomputable def spec_l3Turn.H : Hints := hintsOf []
noncomputable def spec_l3Turn.says (N : Nat) : List Say := []
noncomputable def spec_l3Turn.call (N : Nat) : CallK := callBy (spec_l3Turn.says N)
noncomputable def spec_l3Turn.qt (N : Nat) : FuncId → List PV → Sig → Cl := qtBy (spec_l3Turn.says N)
noncomputable def spec_l3Turn (N : Nat) (b : Int) (n : Int) : Option ((Int × Unit) × Unit) :=
  ofFn Try.prog spec_l3Turn.call spec_l3Turn.qt spec_l3Turn.H N Try.f129 [.one (.sh (.int .u8)), .one (.sh (.int .u64))] [] [.one (.sh (.int .u8))] [] [⟨[], [], [], []⟩] (b, (n, ())) ()
noncomputable def spec_l3Turn.S (N : Nat) : Say := ⟨false, 129, [.one (.sh (.int .u8)), .one (.sh (.int .u64))], [], [.one (.sh (.int .u8))], [], fun a s => spec_l3Turn N a.1 a.2.1⟩
set_option maxRecDepth 100000 in
theorem spec_l3Turn.eq (N : Nat) (b : Int) (n : Int) : spec_l3Turn N b n =
 chk (decide (0 ≤ n)) (
 chk (decide (0 ≤ (IntKind.u64.wrap (8 - n)))) (
 some (((Go.bits .or .u8 (shlI .u8 b n) (shrI .u8 b (IntKind.u64.wrap (8 - n)))), ()), ()))) := by kernel_rfl
set_option maxRecDepth 100000 in
theorem spec_l3Turn.say (N : Nat) : SayOk Try.prog (spec_l3Turn.S N) := sayOk_mk (N := N) (H := spec_l3Turn.H) (preps := [⟨[], [], [], []⟩]) (l := spec_l3Turn.says) (fn := Try.f129) (c := bodyOf Try.f129)
  (by kernel_rfl) (by kernel_rfl) (by kernel_rfl) (by kernel_rfl) (by kernel_rfl) (by kernel_rfl) (by kernel_rfl)
  (fun N => SayAll.nil) (fun a s => by kernel_rfl)

/-! ### loop.example/g00206/spec.l3Sub: function 108 -/
noncomputable def spec_l3Sub.H : Hints := hintsOf []
noncomputable def spec_l3Sub.says (N : Nat) : List Say := [spec_l3Inverse.S N, spec_l3Turn.S N]
noncomputable def spec_l3Sub.call (N : Nat) : CallK := callBy (spec_l3Sub.says N)
noncomputable def spec_l3Sub.qt (N : Nat) : FuncId → List PV → Sig → Cl := qtBy (spec_l3Sub.says N)
noncomputable def spec_l3Sub (N : Nat) (b : Int) : Option ((Int × Unit) × Unit) :=
  ofFn Try.prog spec_l3Sub.call spec_l3Sub.qt spec_l3Sub.H N Try.f108 [.one (.sh (.int .u8))] [] [.one (.sh (.int .u8))] [] [⟨[], [], [], []⟩] (b, ()) ()
noncomputable def spec_l3Sub.S (N : Nat) : Say := ⟨false, 108, [.one (.sh (.int .u8))], [], [.one (.sh (.int .u8))], [], fun a s => spec_l3Sub N a.1⟩
set_option maxRecDepth 100000 in
theorem spec_l3Sub.eq (N : Nat) (b : Int) : spec_l3Sub N b =
 andK (spec_l3Inverse N b) fun u1 =>
 andK (spec_l3Turn N u1.1.1 1) fun u2 =>
 andK (spec_l3Turn N u1.1.1 2) fun u3 =>
 andK (spec_l3Turn N u1.1.1 3) fun u4 =>
 andK (spec_l3Turn N u1.1.1 4) fun u5 =>
 some (((Go.bits .xor .u8 (Go.bits .xor .u8 (Go.bits .xor .u8 (Go.bits .xor .u8 (Go.bits .xor .u8 u1.1.1 u2.1.1) u3.1.1) u4.1.1) u5.1.1) 99), ()), ()) := by kernel_rfl
set_option maxRecDepth 100000 in
theorem spec_l3Sub.say (N : Nat) : SayOk Try.prog (spec_l3Sub.S N) := sayOk_mk (N := N) (H := spec_l3Sub.H) (preps := [⟨[], [], [], []⟩]) (l := spec_l3Sub.says) (fn := Try.f108) (c := bodyOf Try.f108)
  (by kernel_rfl) (by kernel_rfl) (by kernel_rfl) (by kernel_rfl) (by kernel_rfl) (by kernel_rfl) (by kernel_rfl)
  (fun N => SayAll.cons (spec_l3Inverse.say N) (SayAll.cons (spec_l3Turn.say N) (SayAll.nil))) (fun a s => by kernel_rfl)

/-! ### loop.example/g00206/spec.l3Keys: function 75 -/
noncomputable def spec_l3Keys.H : Hints := hintsOf [(10, .join [⟨.normal, [5], [3, 4, 6], [.one (.own 0), .one (.sh (.int .u8)), .one (.sh (.rows (.int .u8)))], [.rows (.int .u8), .gone], [⟨[], [], [], []⟩, ⟨[], [], [1], []⟩]⟩]),
  (2000011, .loop ⟨.normal, [4, 5, 6, 48], [3, 49], [.one (.own 0), ak_i], [.rows (.int .u8), .gone], [⟨[], [], [], []⟩]⟩ [⟨(.exit 2), [4, 5], [3], [.one (.own 0)], [.rows (.int .u8), .gone], [⟨[], [], [], []⟩]⟩]),
  (2000004, .loop ⟨.normal, [], [3, 4, 5], [.one (.own 0), .one (.sh (.int .u8)), ak_i], [.rows (.int .u8)], [⟨[], [], [], []⟩]⟩ [⟨(.exit 0), [], [3], [.one (.own 0)], [.rows (.int .u8)], [⟨[], [], [], []⟩]⟩])]
noncomputable def spec_l3Keys.says (N : Nat) : List Say := [spec_l3Sub.S N, spec_l3Mul.S N]
noncomputable def spec_l3Keys.call (N : Nat) : CallK := callBy (spec_l3Keys.says N)
noncomputable def spec_l3Keys.qt (N : Nat) : FuncId → List PV → Sig → Cl := qtBy (spec_l3Keys.says N)
noncomputable def spec_l3Keys.l0.hd : Alt := ⟨.normal, [], [3, 4, 5], [.one (.own 0), .one (.sh (.int .u8)), ak_i], [.rows (.int .u8)], [⟨[], [], [], []⟩]⟩
noncomputable def spec_l3Keys.l0.outs : List Alt := [⟨(.exit 0), [], [3], [.one (.own 0)], [.rows (.int .u8)], [⟨[], [], [], []⟩]⟩]
noncomputable def spec_l3Keys.l0 (N : Nat) (o : Int) (d : Int) (p0 : (List Int)) : Option ((Unit × Unit) × ((List Int) × Unit)) :=
  loopK Try.prog spec_l3Keys.call spec_l3Keys.qt spec_l3Keys.H (codeAt (bodyOf Try.f75) [1, 1, 1, 0, 1, 0, 0]) 1 spec_l3Keys.l0.hd spec_l3Keys.l0.outs [] N (((), (o, (d, ()))), (p0, ()))
noncomputable def spec_l3Keys.l1.hd : Alt := ⟨.normal, [4, 5, 6, 48], [3, 49], [.one (.own 0), ak_i], [.rows (.int .u8), .gone], [⟨[], [], [], []⟩]⟩
noncomputable def spec_l3Keys.l1.outs : List Alt := [⟨(.exit 2), [4, 5], [3], [.one (.own 0)], [.rows (.int .u8), .gone], [⟨[], [], [], []⟩]⟩]
noncomputable def spec_l3Keys.l1 (N : Nat) (o1 : Int) (d1 : Int) (e : (List Int)) (t48 : Int) (t49 : Int) (p01 : (List Int)) : Option ((Unit × Unit) × ((List Int) × (Unit × Unit))) :=
  loopK Try.prog spec_l3Keys.call spec_l3Keys.qt spec_l3Keys.H (codeAt (bodyOf Try.f75) [1, 1, 1, 0, 1, 0, 0, 1, 0, 0, 1, 1, 1, 0, 0]) 2 spec_l3Keys.l1.hd spec_l3Keys.l1.outs [(4, .v (.int .u8 o1)), (5, .v (.int .i64 d1)), (6, .rows false (.int .u8) e), (48, .v (.int .i64 t48))] N (((), (t49, ())), (p01, ((), ())))
noncomputable def spec_l3Keys (N : Nat) (G : ByteArray) : Option ((Unit × Unit) × ((List Int) × Unit)) :=
  ofFn Try.prog spec_l3Keys.call spec_l3Keys.qt spec_l3Keys.H N Try.f75 [ak_s] [] [.one (.own 0)] [.rows (.int .u8)] [⟨[], [], [], [0]⟩] (G, ()) ()
noncomputable def spec_l3Keys.S (N : Nat) : Say := ⟨false, 75, [ak_s], [], [.one (.own 0)], [.rows (.int .u8)], fun a s => spec_l3Keys N a.1⟩
set_option maxRecDepth 100000 in
theorem spec_l3Keys.l1.eq (N : Nat) (o1 : Int) (d1 : Int) (e : (List Int)) (t48 : Int) (t49 : Int) (p01 : (List Int)) : spec_l3Keys.l1 (N + 1) o1 d1 e t48 t49 p01 =
 sel (decide (t49 < t48))
  (
  chk ((decide (0 ≤ (IntKind.i64.wrap ((IntKind.i64.wrap ((IntKind.i64.wrap (4 * d1)) - 16)) + t49)))) && (decide ((IntKind.i64.wrap ((IntKind.i64.wrap ((IntKind.i64.wrap (4 * d1)) - 16)) + t49)) < (p01.length : Int)))) (
  chk ((decide (0 ≤ t49)) && (decide (t49 < (e.length : Int)))) (
  chk (decide (p01.length + 1 < most)) (
  spec_l3Keys.l1 N o1 d1 e t48 (IntKind.i64.wrap (t49 + 1)) (p01 ++ [(Go.bits .xor .u8 (p01.getD (Int.toNat (IntKind.i64.wrap ((IntKind.i64.wrap ((IntKind.i64.wrap (4 * d1)) - 16)) + t49))) 0) (e.getD (Int.toNat t49) 0))])))))
  (
  some ((((), ()), (p01, ((), ()))))) := by kernel_rfl
set_option maxRecDepth 100000 in
theorem spec_l3Keys.l0.eq (N : Nat) (o : Int) (d : Int) (p0 : (List Int)) : spec_l3Keys.l0 (N + 1) o d p0 =
 sel (decide (d < 44))
  (
  chk ((decide (0 ≤ (IntKind.i64.wrap ((IntKind.i64.wrap (4 * d)) - 4)))) && ((decide ((IntKind.i64.wrap ((IntKind.i64.wrap (4 * d)) - 4)) ≤ (IntKind.i64.wrap (4 * d)))) && (decide ((IntKind.i64.wrap (4 * d)) ≤ (p0.length : Int))))) (
  chk (decide (((p0.drop (Int.toNat (IntKind.i64.wrap ((IntKind.i64.wrap (4 * d)) - 4)))).take ((Int.toNat (IntKind.i64.wrap (4 * d))) - (Int.toNat (IntKind.i64.wrap ((IntKind.i64.wrap (4 * d)) - 4))))).length < most)) (
  andK (α := ((Unit × (Int × ((List Int) × Unit))) × ((List Int) × (Unit × Unit)))) (
   sel (decide ((Int.tmod d 4) = 0))
    (
    chk (decide (1 < (((p0.drop (Int.toNat (IntKind.i64.wrap ((IntKind.i64.wrap (4 * d)) - 4)))).take ((Int.toNat (IntKind.i64.wrap (4 * d))) - (Int.toNat (IntKind.i64.wrap ((IntKind.i64.wrap (4 * d)) - 4))))).length : Int))) (
    andK (spec_l3Sub N (((p0.drop (Int.toNat (IntKind.i64.wrap ((IntKind.i64.wrap (4 * d)) - 4)))).take ((Int.toNat (IntKind.i64.wrap (4 * d))) - (Int.toNat (IntKind.i64.wrap ((IntKind.i64.wrap (4 * d)) - 4))))).getD 1 0)) fun u1 =>
    chk (decide (2 < (((p0.drop (Int.toNat (IntKind.i64.wrap ((IntKind.i64.wrap (4 * d)) - 4)))).take ((Int.toNat (IntKind.i64.wrap (4 * d))) - (Int.toNat (IntKind.i64.wrap ((IntKind.i64.wrap (4 * d)) - 4))))).length : Int))) (
    andK (spec_l3Sub N (((p0.drop (Int.toNat (IntKind.i64.wrap ((IntKind.i64.wrap (4 * d)) - 4)))).take ((Int.toNat (IntKind.i64.wrap (4 * d))) - (Int.toNat (IntKind.i64.wrap ((IntKind.i64.wrap (4 * d)) - 4))))).getD 2 0)) fun u2 =>
    chk (decide (3 < (((p0.drop (Int.toNat (IntKind.i64.wrap ((IntKind.i64.wrap (4 * d)) - 4)))).take ((Int.toNat (IntKind.i64.wrap (4 * d))) - (Int.toNat (IntKind.i64.wrap ((IntKind.i64.wrap (4 * d)) - 4))))).length : Int))) (
    andK (spec_l3Sub N (((p0.drop (Int.toNat (IntKind.i64.wrap ((IntKind.i64.wrap (4 * d)) - 4)))).take ((Int.toNat (IntKind.i64.wrap (4 * d))) - (Int.toNat (IntKind.i64.wrap ((IntKind.i64.wrap (4 * d)) - 4))))).getD 3 0)) fun u3 =>
    chk (decide (0 < (((p0.drop (Int.toNat (IntKind.i64.wrap ((IntKind.i64.wrap (4 * d)) - 4)))).take ((Int.toNat (IntKind.i64.wrap (4 * d))) - (Int.toNat (IntKind.i64.wrap ((IntKind.i64.wrap (4 * d)) - 4))))).length : Int))) (
    andK (spec_l3Sub N (((p0.drop (Int.toNat (IntKind.i64.wrap ((IntKind.i64.wrap (4 * d)) - 4)))).take ((Int.toNat (IntKind.i64.wrap (4 * d))) - (Int.toNat (IntKind.i64.wrap ((IntKind.i64.wrap (4 * d)) - 4))))).getD 0 0)) fun u4 =>
    andK (spec_l3Mul N o 2) fun u5 =>
    some ((((), (u5.1.1, ([(Go.bits .xor .u8 u1.1.1 o), u2.1.1, u3.1.1, u4.1.1], ()))), (p0, ((), ())))))))))
    (
    some ((((), (o, (((p0.drop (Int.toNat (IntKind.i64.wrap ((IntKind.i64.wrap (4 * d)) - 4)))).take ((Int.toNat (IntKind.i64.wrap (4 * d))) - (Int.toNat (IntKind.i64.wrap ((IntKind.i64.wrap (4 * d)) - 4))))), ()))), (p0, ((), ())))))) fun j6 =>
  andK (spec_l3Keys.l1 N j6.1.2.1 d j6.1.2.2.1 (j6.1.2.2.1.length : Int) 0 j6.2.1) fun l7 =>
  spec_l3Keys.l0 N j6.1.2.1 (IntKind.i64.wrap (d + 1)) l7.2.1)))
  (
  some ((((), ()), (p0, ())))) := by kernel_rfl
set_option maxRecDepth 100000 in
theorem spec_l3Keys.eq (N : Nat) (G : ByteArray) : spec_l3Keys N G =
 andK (spec_l3Keys.l0 N 1 4 (bytesL G)) fun l8 =>
 some (((), ()), (l8.2.1, ())) := by kernel_rfl
set_option maxRecDepth 100000 in
theorem spec_l3Keys.say (N : Nat) : SayOk Try.prog (spec_l3Keys.S N) := sayOk_mk (N := N) (H := spec_l3Keys.H) (preps := [⟨[], [], [], [0]⟩]) (l := spec_l3Keys.says) (fn := Try.f75) (c := bodyOf Try.f75)
  (by kernel_rfl) (by kernel_rfl) (by kernel_rfl) (by kernel_rfl) (by kernel_rfl) (by kernel_rfl) (by kernel_rfl)
  (fun N => SayAll.cons (spec_l3Sub.say N) (SayAll.cons (spec_l3Mul.say N) (SayAll.nil))) (fun a s => by kernel_rfl)

/-! ### loop.example/g00206/spec.l3Table: function 76 -/
noncomputable def spec_l3Table.H : Hints := hintsOf [(2000003, .loop ⟨.normal, [5], [1, 6], [.one (.own 0), ak_i], [.rows (.int .u8)], [⟨[], [], [], []⟩]⟩ [⟨(.exit 0), [], [1], [.one (.own 0)], [.rows (.int .u8)], [⟨[], [], [], []⟩]⟩])]
noncomputable def spec_l3Table.says (N : Nat) : List Say := [spec_l3Sub.S N]
noncomputable def spec_l3Table.call (N : Nat) : CallK := callBy (spec_l3Table.says N)
noncomputable def spec_l3Table.qt (N : Nat) : FuncId → List PV → Sig → Cl := qtBy (spec_l3Table.says N)
noncomputable def spec_l3Table.l0.hd : Alt := ⟨.normal, [5], [1, 6], [.one (.own 0), ak_i], [.rows (.int .u8)], [⟨[], [], [], []⟩]⟩
noncomputable def spec_l3Table.l0.outs : List Alt := [⟨(.exit 0), [], [1], [.one (.own 0)], [.rows (.int .u8)], [⟨[], [], [], []⟩]⟩]
noncomputable def spec_l3Table.l0 (N : Nat) (t5 : Int) (t6 : Int) (p0 : (List Int)) : Option ((Unit × Unit) × ((List Int) × Unit)) :=
  loopK Try.prog spec_l3Table.call spec_l3Table.qt spec_l3Table.H (codeAt (bodyOf Try.f76) [1, 1, 0, 1, 0, 0]) 1 spec_l3Table.l0.hd spec_l3Table.l0.outs [(5, .v (.int .i64 t5))] N (((), (t6, ())), (p0, ()))
noncomputable def spec_l3Table (N : Nat) : Option ((Unit × Unit) × ((List Int) × Unit)) :=
  ofFn Try.prog spec_l3Table.call spec_l3Table.qt spec_l3Table.H N Try.f76 [] [] [.one (.own 0)] [.rows (.int .u8)] [⟨[], [], [], [0]⟩] () ()
noncomputable def spec_l3Table.S (N : Nat) : Say := ⟨false, 76, [], [], [.one (.own 0)], [.rows (.int .u8)], fun a s => spec_l3Table N⟩
set_option maxRecDepth 100000 in
theorem spec_l3Table.l0.eq (N : Nat) (t5 : Int) (t6 : Int) (p0 : (List Int)) : spec_l3Table.l0 (N + 1) t5 t6 p0 =
 sel (decide (t6 < t5))
  (
  andK (spec_l3Sub N (IntKind.u8.wrap t6)) fun u1 =>
  chk ((decide (0 ≤ t6)) && (decide (t6 < (p0.length : Int)))) (
  spec_l3Table.l0 N t5 (IntKind.i64.wrap (t6 + 1)) (p0.set (Int.toNat t6) u1.1.1)))
  (
  some ((((), ()), (p0, ())))) := by kernel_rfl
set_option maxRecDepth 100000 in
theorem spec_l3Table.eq (N : Nat) : spec_l3Table N =
 andK (spec_l3Table.l0 N ((List.replicate 256 (0 : Int)).length : Int) 0 (List.replicate 256 (0 : Int))) fun l2 =>
 some (((), ()), (l2.2.1, ())) := by kernel_rfl
set_option maxRecDepth 100000 in
theorem spec_l3Table.say (N : Nat) : SayOk Try.prog (spec_l3Table.S N) := sayOk_mk (N := N) (H := spec_l3Table.H) (preps := [⟨[], [], [], [0]⟩]) (l := spec_l3Table.says) (fn := Try.f76) (c := bodyOf Try.f76)
  (by kernel_rfl) (by kernel_rfl) (by kernel_rfl) (by kernel_rfl) (by kernel_rfl) (by kernel_rfl) (by kernel_rfl)
  (fun N => SayAll.cons (spec_l3Sub.say N) (SayAll.nil)) (fun a s => by kernel_rfl)

/-! ### loop.example/g00206/spec.l1Fixed: function 86 -/
noncomputable def spec_l1Fixed.H : Hints := hintsOf [(2000003, .loop ⟨.normal, [0], [5, 6], [.one (.own 0), ak_i], [.rows (.int .u8)], [⟨[(5, (.int .u8))], [], [], [0]⟩, ⟨[], [], [], [0]⟩]⟩ [⟨(.exit 0), [], [5], [.one (.own 0)], [.rows (.int .u8)], [⟨[], [], [], [0]⟩]⟩])]
noncomputable def spec_l1Fixed.says (N : Nat) : List Say := []
noncomputable def spec_l1Fixed.call (N : Nat) : CallK := callBy (spec_l1Fixed.says N)
noncomputable def spec_l1Fixed.qt (N : Nat) : FuncId → List PV → Sig → Cl := qtBy (spec_l1Fixed.says N)
noncomputable def spec_l1Fixed.l0.hd : Alt := ⟨.normal, [0], [5, 6], [.one (.own 0), ak_i], [.rows (.int .u8)], [⟨[(5, (.int .u8))], [], [], [0]⟩, ⟨[], [], [], [0]⟩]⟩
noncomputable def spec_l1Fixed.l0.outs : List Alt := [⟨(.exit 0), [], [5], [.one (.own 0)], [.rows (.int .u8)], [⟨[], [], [], [0]⟩]⟩]
noncomputable def spec_l1Fixed.l0 (N : Nat) (n1 : Int) (k : Int) (p0 : (List Int)) : Option ((Unit × Unit) × ((List Int) × Unit)) :=
  loopK Try.prog spec_l1Fixed.call spec_l1Fixed.qt spec_l1Fixed.H (codeAt (bodyOf Try.f86) [1, 1, 0, 1, 0, 0]) 0 spec_l1Fixed.l0.hd spec_l1Fixed.l0.outs [(0, .v (.int .i64 n1))] N (((), (k, ())), (p0, ()))
noncomputable def spec_l1Fixed (N : Nat) (n : Int) (many : Int) : Option ((ByteArray × Unit) × Unit) :=
  ofFn Try.prog spec_l1Fixed.call spec_l1Fixed.qt spec_l1Fixed.H N Try.f86 [ak_i, ak_i] [] [ak_s] [] [⟨[], [], [], []⟩] (n, (many, ())) ()
noncomputable def spec_l1Fixed.S (N : Nat) : Say := ⟨false, 86, [ak_i, ak_i], [], [ak_s], [], fun a s => spec_l1Fixed N a.1 a.2.1⟩
set_option maxRecDepth 100000 in
theorem spec_l1Fixed.l0.eq (N : Nat) (n1 : Int) (k : Int) (p0 : (List Int)) : spec_l1Fixed.l0 (N + 1) n1 k p0 =
 sel (decide (0 ≤ k))
  (
  chk (decide (0 ≤ (IntKind.u64.wrap (IntKind.i64.wrap (8 * k))))) (
  chk (decide (p0.length + 1 < most)) (
  spec_l1Fixed.l0 N n1 (IntKind.i64.wrap (k - 1)) (p0 ++ [(IntKind.u8.wrap (shrI .i64 n1 (IntKind.u64.wrap (IntKind.i64.wrap (8 * k)))))]))))
  (
  some ((((), ()), (p0, ())))) := by kernel_rfl
set_option maxRecDepth 100000 in
theorem spec_l1Fixed.eq (N : Nat) (n : Int) (many : Int) : spec_l1Fixed N n many =
 andK (spec_l1Fixed.l0 N n (IntKind.i64.wrap (many - 1)) []) fun l1 =>
 some (((strL l1.2.1), ()), ()) := by kernel_rfl
set_option maxRecDepth 100000 in
theorem spec_l1Fixed.say (N : Nat) : SayOk Try.prog (spec_l1Fixed.S N) := sayOk_mk (N := N) (H := spec_l1Fixed.H) (preps := [⟨[], [], [], []⟩]) (l := spec_l1Fixed.says) (fn := Try.f86) (c := bodyOf Try.f86)
  (by kernel_rfl) (by kernel_rfl) (by kernel_rfl) (by kernel_rfl) (by kernel_rfl) (by kernel_rfl) (by kernel_rfl)
  (fun N => SayAll.nil) (fun a s => by kernel_rfl)

/-! ### loop.example/g00206/spec.l7Half: function 79 -/
noncomputable def spec_l7Half.H : Hints := hintsOf []
noncomputable def spec_l7Half.says (N : Nat) : List Say := [spec_l1Fixed.S N]
noncomputable def spec_l7Half.call (N : Nat) : CallK := callBy (spec_l7Half.says N)
noncomputable def spec_l7Half.qt (N : Nat) : FuncId → List PV → Sig → Cl := qtBy (spec_l7Half.says N)
noncomputable def spec_l7Half (N : Nat) (s : ByteArray) (size : Int) (pass : Int) : Option ((ByteArray × Unit) × Unit) :=
  ofFn Try.prog spec_l7Half.call spec_l7Half.qt spec_l7Half.H N Try.f79 [ak_s, ak_i, ak_i] [] [ak_s] [] [⟨[], [], [], []⟩] (s, (size, (pass, ()))) ()
noncomputable def spec_l7Half.S (N : Nat) : Say := ⟨false, 79, [ak_s, ak_i, ak_i], [], [ak_s], [], fun a s => spec_l7Half N a.1 a.2.1 a.2.2.1⟩
set_option maxRecDepth 100000 in
theorem spec_l7Half.eq (N : Nat) (s : ByteArray) (size : Int) (pass : Int) : spec_l7Half N s size pass =
 sel (decide ((Int.tmod pass 2) = 1))
  (
  chk ((decide (0 ≤ (IntKind.i64.wrap (14 - (s.size : Int))))) && ((smallI (IntKind.i64.wrap (14 - (s.size : Int)))) && (decide ((IntKind.i64.wrap (14 - (s.size : Int))) = (IntKind.i64.wrap (14 - (s.size : Int))))))) (
  chk (decide (s.size + (strL (List.replicate (Int.toNat (IntKind.i64.wrap (14 - (s.size : Int)))) (0 : Int))).size ≤ 9223372036854775807)) (
  andK (spec_l1Fixed N size 1) fun u1 =>
  chk (decide ((s ++ (strL (List.replicate (Int.toNat (IntKind.i64.wrap (14 - (s.size : Int)))) (0 : Int)))).size + u1.1.1.size ≤ 9223372036854775807)) (
  andK (spec_l1Fixed N pass 1) fun u2 =>
  chk (decide (((s ++ (strL (List.replicate (Int.toNat (IntKind.i64.wrap (14 - (s.size : Int)))) (0 : Int)))) ++ u1.1.1).size + u2.1.1.size ≤ 9223372036854775807)) (
  some (((((s ++ (strL (List.replicate (Int.toNat (IntKind.i64.wrap (14 - (s.size : Int)))) (0 : Int)))) ++ u1.1.1) ++ u2.1.1), ()), ()))))))
  (
  andK (spec_l1Fixed N size 1) fun u3 =>
  andK (spec_l1Fixed N pass 1) fun u4 =>
  chk (decide (u3.1.1.size + u4.1.1.size ≤ 9223372036854775807)) (
  chk ((decide (0 ≤ (IntKind.i64.wrap (14 - (s.size : Int))))) && ((smallI (IntKind.i64.wrap (14 - (s.size : Int)))) && (decide ((IntKind.i64.wrap (14 - (s.size : Int))) = (IntKind.i64.wrap (14 - (s.size : Int))))))) (
  chk (decide ((u3.1.1 ++ u4.1.1).size + (strL (List.replicate (Int.toNat (IntKind.i64.wrap (14 - (s.size : Int)))) (0 : Int))).size ≤ 9223372036854775807)) (
  chk (decide (((u3.1.1 ++ u4.1.1) ++ (strL (List.replicate (Int.toNat (IntKind.i64.wrap (14 - (s.size : Int)))) (0 : Int)))).size + s.size ≤ 9223372036854775807)) (
  some (((((u3.1.1 ++ u4.1.1) ++ (strL (List.replicate (Int.toNat (IntKind.i64.wrap (14 - (s.size : Int)))) (0 : Int)))) ++ s), ()), ())))))) := by kernel_rfl
set_option maxRecDepth 100000 in
theorem spec_l7Half.say (N : Nat) : SayOk Try.prog (spec_l7Half.S N) := sayOk_mk (N := N) (H := spec_l7Half.H) (preps := [⟨[], [], [], []⟩]) (l := spec_l7Half.says) (fn := Try.f79) (c := bodyOf Try.f79)
  (by kernel_rfl) (by kernel_rfl) (by kernel_rfl) (by kernel_rfl) (by kernel_rfl) (by kernel_rfl) (by kernel_rfl)
  (fun N => SayAll.cons (spec_l1Fixed.say N) (SayAll.nil)) (fun a s => by kernel_rfl)

/-! ### loop.example/g00206/spec.l3Xor: function 77 -/
noncomputable def spec_l3Xor.H : Hints := hintsOf [(2000003, .loop ⟨.normal, [0, 1, 11], [5, 12], [.one (.own 0), ak_i], [.rows (.int .u8)], [⟨[], [], [], []⟩]⟩ [⟨(.exit 0), [], [5], [.one (.own 0)], [.rows (.int .u8)], [⟨[], [], [], []⟩]⟩])]
noncomputable def spec_l3Xor.says (N : Nat) : List Say := []
noncomputable def spec_l3Xor.call (N : Nat) : CallK := callBy (spec_l3Xor.says N)
noncomputable def spec_l3Xor.qt (N : Nat) : FuncId → List PV → Sig → Cl := qtBy (spec_l3Xor.says N)
noncomputable def spec_l3Xor.l0.hd : Alt := ⟨.normal, [0, 1, 11], [5, 12], [.one (.own 0), ak_i], [.rows (.int .u8)], [⟨[], [], [], []⟩]⟩
noncomputable def spec_l3Xor.l0.outs : List Alt := [⟨(.exit 0), [], [5], [.one (.own 0)], [.rows (.int .u8)], [⟨[], [], [], []⟩]⟩]
noncomputable def spec_l3Xor.l0 (N : Nat) (a1 : (List Int)) (b1 : (List Int)) (t11 : Int) (t12 : Int) (p0 : (List Int)) : Option ((Unit × Unit) × ((List Int) × Unit)) :=
  loopK Try.prog spec_l3Xor.call spec_l3Xor.qt spec_l3Xor.H (codeAt (bodyOf Try.f77) [1, 1, 0, 1, 0, 0]) 1 spec_l3Xor.l0.hd spec_l3Xor.l0.outs [(0, .rows false (.int .u8) a1), (1, .rows false (.int .u8) b1), (11, .v (.int .i64 t11))] N (((), (t12, ())), (p0, ()))
noncomputable def spec_l3Xor (N : Nat) (a : (List Int)) (b : (List Int)) : Option ((Unit × Unit) × ((List Int) × Unit)) :=
  ofFn Try.prog spec_l3Xor.call spec_l3Xor.qt spec_l3Xor.H N Try.f77 [.one (.sh (.rows (.int .u8))), .one (.sh (.rows (.int .u8)))] [] [.one (.own 0)] [.rows (.int .u8)] [⟨[], [], [], [0]⟩] (a, (b, ())) ()
noncomputable def spec_l3Xor.S (N : Nat) : Say := ⟨false, 77, [.one (.sh (.rows (.int .u8))), .one (.sh (.rows (.int .u8)))], [], [.one (.own 0)], [.rows (.int .u8)], fun a s => spec_l3Xor N a.1 a.2.1⟩
set_option maxRecDepth 100000 in
theorem spec_l3Xor.l0.eq (N : Nat) (a1 : (List Int)) (b1 : (List Int)) (t11 : Int) (t12 : Int) (p0 : (List Int)) : spec_l3Xor.l0 (N + 1) a1 b1 t11 t12 p0 =
 sel (decide (t12 < t11))
  (
  chk ((decide (0 ≤ t12)) && (decide (t12 < (a1.length : Int)))) (
  chk ((decide (0 ≤ t12)) && (decide (t12 < (b1.length : Int)))) (
  chk ((decide (0 ≤ t12)) && (decide (t12 < (p0.length : Int)))) (
  spec_l3Xor.l0 N a1 b1 t11 (IntKind.i64.wrap (t12 + 1)) (p0.set (Int.toNat t12) (Go.bits .xor .u8 (a1.getD (Int.toNat t12) 0) (b1.getD (Int.toNat t12) 0)))))))
  (
  some ((((), ()), (p0, ())))) := by kernel_rfl
set_option maxRecDepth 100000 in
theorem spec_l3Xor.eq (N : Nat) (a : (List Int)) (b : (List Int)) : spec_l3Xor N a b =
 chk ((decide (0 ≤ (a.length : Int))) && ((smallI (a.length : Int)) && (decide ((a.length : Int) = (a.length : Int))))) (
 andK (spec_l3Xor.l0 N a b (a.length : Int) 0 (List.replicate (Int.toNat (a.length : Int)) (0 : Int))) fun l1 =>
 some (((), ()), (l1.2.1, ()))) := by kernel_rfl
set_option maxRecDepth 100000 in
theorem spec_l3Xor.say (N : Nat) : SayOk Try.prog (spec_l3Xor.S N) := sayOk_mk (N := N) (H := spec_l3Xor.H) (preps := [⟨[], [], [], [0]⟩]) (l := spec_l3Xor.says) (fn := Try.f77) (c := bodyOf Try.f77)
  (by kernel_rfl) (by kernel_rfl) (by kernel_rfl) (by kernel_rfl) (by kernel_rfl) (by kernel_rfl) (by kernel_rfl)
  (fun N => SayAll.nil) (fun a s => by kernel_rfl)
noncomputable def spec_l3Xor.SB (N : Nat) : Say := spec_l3Xor.S N |>.lent
theorem spec_l3Xor.sayB (N : Nat) : SayOk Try.prog (spec_l3Xor.SB N) := (spec_l3Xor.say N).lent

/-! ### loop.example/g00206/spec.l3Mix: function 110 -/
noncomputable def spec_l3Mix.H : Hints := hintsOf [(2000006, .loop ⟨.normal, [0, 1, 6, 10, 11], [5, 7], [.one (.own 0), ak_i], [.rows (.int .u8)], [⟨[], [], [], []⟩]⟩ [⟨(.exit 2), [0, 1, 10, 11], [5], [.one (.own 0)], [.rows (.int .u8)], [⟨[], [], [], []⟩]⟩]),
  (2000003, .loop ⟨.normal, [0, 1, 10], [5, 11], [.one (.own 0), ak_i], [.rows (.int .u8)], [⟨[], [], [], []⟩]⟩ [⟨(.exit 0), [], [5], [.one (.own 0)], [.rows (.int .u8)], [⟨[], [], [], []⟩]⟩])]
noncomputable def spec_l3Mix.says (N : Nat) : List Say := [spec_l3Mul.S N]
noncomputable def spec_l3Mix.call (N : Nat) : CallK := callBy (spec_l3Mix.says N)
noncomputable def spec_l3Mix.qt (N : Nat) : FuncId → List PV → Sig → Cl := qtBy (spec_l3Mix.says N)
noncomputable def spec_l3Mix.l0.hd : Alt := ⟨.normal, [0, 1, 10], [5, 11], [.one (.own 0), ak_i], [.rows (.int .u8)], [⟨[], [], [], []⟩]⟩
noncomputable def spec_l3Mix.l0.outs : List Alt := [⟨(.exit 0), [], [5], [.one (.own 0)], [.rows (.int .u8)], [⟨[], [], [], []⟩]⟩]
noncomputable def spec_l3Mix.l0 (N : Nat) (s1 : (List Int)) (f1 : (List Int)) (t10 : Int) (t11 : Int) (p0 : (List Int)) : Option ((Unit × Unit) × ((List Int) × Unit)) :=
  loopK Try.prog spec_l3Mix.call spec_l3Mix.qt spec_l3Mix.H (codeAt (bodyOf Try.f110) [1, 1, 0, 1, 0, 0]) 1 spec_l3Mix.l0.hd spec_l3Mix.l0.outs [(0, .rows false (.int .u8) s1), (1, .rows false (.int .u8) f1), (10, .v (.int .i64 t10))] N (((), (t11, ())), (p0, ()))
noncomputable def spec_l3Mix.l1.hd : Alt := ⟨.normal, [0, 1, 6, 10, 11], [5, 7], [.one (.own 0), ak_i], [.rows (.int .u8)], [⟨[], [], [], []⟩]⟩
noncomputable def spec_l3Mix.l1.outs : List Alt := [⟨(.exit 2), [0, 1, 10, 11], [5], [.one (.own 0)], [.rows (.int .u8)], [⟨[], [], [], []⟩]⟩]
noncomputable def spec_l3Mix.l1 (N : Nat) (s2 : (List Int)) (f2 : (List Int)) (i : Int) (t101 : Int) (t111 : Int) (k : Int) (p01 : (List Int)) : Option ((Unit × Unit) × ((List Int) × Unit)) :=
  loopK Try.prog spec_l3Mix.call spec_l3Mix.qt spec_l3Mix.H (codeAt (bodyOf Try.f110) [1, 1, 0, 1, 0, 0, 1, 1, 0, 0, 1, 1, 0, 0]) 1 spec_l3Mix.l1.hd spec_l3Mix.l1.outs [(0, .rows false (.int .u8) s2), (1, .rows false (.int .u8) f2), (6, .v (.int .i64 i)), (10, .v (.int .i64 t101)), (11, .v (.int .i64 t111))] N (((), (k, ())), (p01, ()))
noncomputable def spec_l3Mix (N : Nat) (s : (List Int)) (f : (List Int)) : Option ((Unit × Unit) × ((List Int) × Unit)) :=
  ofFn Try.prog spec_l3Mix.call spec_l3Mix.qt spec_l3Mix.H N Try.f110 [.one (.sh (.rows (.int .u8))), .one (.sh (.rows (.int .u8)))] [] [.one (.own 0)] [.rows (.int .u8)] [⟨[], [], [], [0]⟩] (s, (f, ())) ()
noncomputable def spec_l3Mix.S (N : Nat) : Say := ⟨false, 110, [.one (.sh (.rows (.int .u8))), .one (.sh (.rows (.int .u8)))], [], [.one (.own 0)], [.rows (.int .u8)], fun a s => spec_l3Mix N a.1 a.2.1⟩
set_option maxRecDepth 100000 in
theorem spec_l3Mix.l1.eq (N : Nat) (s2 : (List Int)) (f2 : (List Int)) (i : Int) (t101 : Int) (t111 : Int) (k : Int) (p01 : (List Int)) : spec_l3Mix.l1 (N + 1) s2 f2 i t101 t111 k p01 =
 sel (decide (k < 4))
  (
  chk ((decide (0 ≤ i)) && (decide (i < (p01.length : Int)))) (
  chk ((decide (0 ≤ k)) && (decide (k < (f2.length : Int)))) (
  chk ((decide (0 ≤ (Int.tmod (IntKind.i64.wrap (i + k)) 4))) && (decide ((Int.tmod (IntKind.i64.wrap (i + k)) 4) < (s2.length : Int)))) (
  andK (spec_l3Mul N (f2.getD (Int.toNat k) 0) (s2.getD (Int.toNat (Int.tmod (IntKind.i64.wrap (i + k)) 4)) 0)) fun u1 =>
  chk ((decide (0 ≤ i)) && (decide (i < (p01.length : Int)))) (
  spec_l3Mix.l1 N s2 f2 i t101 t111 (IntKind.i64.wrap (k + 1)) (p01.set (Int.toNat i) (Go.bits .xor .u8 (p01.getD (Int.toNat i) 0) u1.1.1)))))))
  (
  some ((((), ()), (p01, ())))) := by kernel_rfl
set_option maxRecDepth 100000 in
theorem spec_l3Mix.l0.eq (N : Nat) (s1 : (List Int)) (f1 : (List Int)) (t10 : Int) (t11 : Int) (p0 : (List Int)) : spec_l3Mix.l0 (N + 1) s1 f1 t10 t11 p0 =
 sel (decide (t11 < t10))
  (
  andK (spec_l3Mix.l1 N s1 f1 t11 t10 t11 0 p0) fun l2 =>
  spec_l3Mix.l0 N s1 f1 t10 (IntKind.i64.wrap (t11 + 1)) l2.2.1)
  (
  some ((((), ()), (p0, ())))) := by kernel_rfl
set_option maxRecDepth 100000 in
theorem spec_l3Mix.eq (N : Nat) (s : (List Int)) (f : (List Int)) : spec_l3Mix N s f =
 andK (spec_l3Mix.l0 N s f ((List.replicate 4 (0 : Int)).length : Int) 0 (List.replicate 4 (0 : Int))) fun l3 =>
 some (((), ()), (l3.2.1, ())) := by kernel_rfl
set_option maxRecDepth 100000 in
theorem spec_l3Mix.say (N : Nat) : SayOk Try.prog (spec_l3Mix.S N) := sayOk_mk (N := N) (H := spec_l3Mix.H) (preps := [⟨[], [], [], [0]⟩]) (l := spec_l3Mix.says) (fn := Try.f110) (c := bodyOf Try.f110)
  (by kernel_rfl) (by kernel_rfl) (by kernel_rfl) (by kernel_rfl) (by kernel_rfl) (by kernel_rfl) (by kernel_rfl)
  (fun N => SayAll.cons (spec_l3Mul.say N) (SayAll.nil)) (fun a s => by kernel_rfl)
noncomputable def spec_l3Mix.SB (N : Nat) : Say := spec_l3Mix.S N |>.lent
theorem spec_l3Mix.sayB (N : Nat) : SayOk Try.prog (spec_l3Mix.SB N) := (spec_l3Mix.say N).lent

/-! ### loop.example/g00206/spec.l3With: function 78 -/
noncomputable def spec_l3With.H : Hints := hintsOf [(2000010, .loop ⟨.normal, [0, 1, 7, 8, 10], [9, 11], [.one (.own 2), ak_i], [.rows (.int .u8), .gone, .rows (.int .u8)], [⟨[], [], [], []⟩]⟩ [⟨(.exit 4), [0, 1, 7, 8, 10], [9], [.one (.own 2)], [.rows (.int .u8), .gone, .rows (.int .u8)], [⟨[], [], [], []⟩]⟩]),
  (2000007, .loop ⟨.normal, [0, 1, 7, 8], [9, 10], [.one (.own 2), ak_i], [.rows (.int .u8), .gone, .rows (.int .u8)], [⟨[], [], [], []⟩]⟩ [⟨(.exit 2), [0, 1, 8], [9], [.one (.own 2)], [.rows (.int .u8), .gone, .rows (.int .u8)], [⟨[], [], [], []⟩]⟩]),
  (2000016, .loop ⟨.normal, [0, 1, 8], [9, 12, 13], [.one (.own 2), .one (.own 3), ak_i], [.rows (.int .u8), .gone, .rows (.int .u8), .rows (.int .u8)], [⟨[(12, (.int .u8))], [], [], [3]⟩, ⟨[], [], [], [3]⟩]⟩ [⟨(.exit 6), [0, 1, 8], [12], [.one (.own 3)], [.rows (.int .u8), .gone, .rows (.int .u8), .rows (.int .u8)], [⟨[], [], [], [3]⟩]⟩]),
  (20, .join [⟨.normal, [0, 1, 8], [9], [.one (.sh (.rows (.int .u8)))], [.rows (.int .u8), .gone, .gone], [⟨[], [], [3], []⟩, ⟨[], [], [2], []⟩]⟩]),
  (2000003, .loop ⟨.normal, [0, 1], [7, 8], [.one (.sh (.rows (.int .u8))), ak_i], [.rows (.int .u8), .gone], [⟨[], [], [1], []⟩, ⟨[], [], [3], []⟩]⟩ [⟨(.exit 0), [], [7], [.one (.sh (.rows (.int .u8)))], [.rows (.int .u8), .gone], [⟨[], [], [], []⟩]⟩])]
noncomputable def spec_l3With.says (N : Nat) : List Say := [spec_l3Xor.SB N, spec_l3Mix.SB N, spec_l3Xor.S N]
noncomputable def spec_l3With.call (N : Nat) : CallK := callBy (spec_l3With.says N)
noncomputable def spec_l3With.qt (N : Nat) : FuncId → List PV → Sig → Cl := qtBy (spec_l3With.says N)
noncomputable def spec_l3With.l0.hd : Alt := ⟨.normal, [0, 1], [7, 8], [.one (.sh (.rows (.int .u8))), ak_i], [.rows (.int .u8), .gone], [⟨[], [], [1], []⟩, ⟨[], [], [3], []⟩]⟩
noncomputable def spec_l3With.l0.outs : List Alt := [⟨(.exit 0), [], [7], [.one (.sh (.rows (.int .u8)))], [.rows (.int .u8), .gone], [⟨[], [], [], []⟩]⟩]
noncomputable def spec_l3With.l0 (N : Nat) (G1 : (List Int)) (o1 : (List Int)) (t1 : (List Int)) (t2 : Int) (p0 : (List Int)) : Option (((List Int) × Unit) × ((List Int) × (Unit × Unit))) :=
  loopK Try.prog spec_l3With.call spec_l3With.qt spec_l3With.H (codeAt (bodyOf Try.f78) [1, 1, 0, 1, 0, 0]) 2 spec_l3With.l0.hd spec_l3With.l0.outs [(0, .rows false (.int .u8) G1), (1, .rows false (.int .u8) o1)] N ((t1, (t2, ())), (p0, ((), ())))
noncomputable def spec_l3With.l1.hd : Alt := ⟨.normal, [0, 1, 7, 8], [9, 10], [.one (.own 2), ak_i], [.rows (.int .u8), .gone, .rows (.int .u8)], [⟨[], [], [], []⟩]⟩
noncomputable def spec_l3With.l1.outs : List Alt := [⟨(.exit 2), [0, 1, 8], [9], [.one (.own 2)], [.rows (.int .u8), .gone, .rows (.int .u8)], [⟨[], [], [], []⟩]⟩]
noncomputable def spec_l3With.l1 (N : Nat) (G2 : (List Int)) (o2 : (List Int)) (t3 : (List Int)) (t4 : Int) (A : Int) (p01 : (List Int)) (p2 : (List Int)) : Option ((Unit × Unit) × ((List Int) × (Unit × ((List Int) × Unit)))) :=
  loopK Try.prog spec_l3With.call spec_l3With.qt spec_l3With.H (codeAt (bodyOf Try.f78) [1, 1, 0, 1, 0, 0, 1, 0, 0, 1, 0, 1, 0, 0]) 3 spec_l3With.l1.hd spec_l3With.l1.outs [(0, .rows false (.int .u8) G2), (1, .rows false (.int .u8) o2), (7, .rows false (.int .u8) t3), (8, .v (.int .i64 t4))] N (((), (A, ())), (p01, ((), (p2, ()))))
noncomputable def spec_l3With.l2.hd : Alt := ⟨.normal, [0, 1, 7, 8, 10], [9, 11], [.one (.own 2), ak_i], [.rows (.int .u8), .gone, .rows (.int .u8)], [⟨[], [], [], []⟩]⟩
noncomputable def spec_l3With.l2.outs : List Alt := [⟨(.exit 4), [0, 1, 7, 8, 10], [9], [.one (.own 2)], [.rows (.int .u8), .gone, .rows (.int .u8)], [⟨[], [], [], []⟩]⟩]
noncomputable def spec_l3With.l2 (N : Nat) (G3 : (List Int)) (o3 : (List Int)) (t5 : (List Int)) (t6 : Int) (A1 : Int) (r : Int) (p02 : (List Int)) (p21 : (List Int)) : Option ((Unit × Unit) × ((List Int) × (Unit × ((List Int) × Unit)))) :=
  loopK Try.prog spec_l3With.call spec_l3With.qt spec_l3With.H (codeAt (bodyOf Try.f78) [1, 1, 0, 1, 0, 0, 1, 0, 0, 1, 0, 1, 0, 0, 1, 0, 0, 1, 0, 0]) 3 spec_l3With.l2.hd spec_l3With.l2.outs [(0, .rows false (.int .u8) G3), (1, .rows false (.int .u8) o3), (7, .rows false (.int .u8) t5), (8, .v (.int .i64 t6)), (10, .v (.int .i64 A1))] N (((), (r, ())), (p02, ((), (p21, ()))))
noncomputable def spec_l3With.l3.hd : Alt := ⟨.normal, [0, 1, 8], [9, 12, 13], [.one (.own 2), .one (.own 3), ak_i], [.rows (.int .u8), .gone, .rows (.int .u8), .rows (.int .u8)], [⟨[(12, (.int .u8))], [], [], [3]⟩, ⟨[], [], [], [3]⟩]⟩
noncomputable def spec_l3With.l3.outs : List Alt := [⟨(.exit 6), [0, 1, 8], [12], [.one (.own 3)], [.rows (.int .u8), .gone, .rows (.int .u8), .rows (.int .u8)], [⟨[], [], [], [3]⟩]⟩]
noncomputable def spec_l3With.l3 (N : Nat) (G4 : (List Int)) (o4 : (List Int)) (t7 : Int) (a : Int) (p03 : (List Int)) (p22 : (List Int)) (p3 : (List Int)) : Option ((Unit × Unit) × ((List Int) × (Unit × ((List Int) × ((List Int) × Unit))))) :=
  loopK Try.prog spec_l3With.call spec_l3With.qt spec_l3With.H (codeAt (bodyOf Try.f78) [1, 1, 0, 1, 0, 0, 1, 0, 0, 1, 1, 0, 1, 0, 1, 0, 1, 0, 0]) 3 spec_l3With.l3.hd spec_l3With.l3.outs [(0, .rows false (.int .u8) G4), (1, .rows false (.int .u8) o4), (8, .v (.int .i64 t7))] N (((), ((), (a, ()))), (p03, ((), (p22, (p3, ())))))
noncomputable def spec_l3With (N : Nat) (G : (List Int)) (o : (List Int)) (t : ByteArray) : Option ((ByteArray × Unit) × Unit) :=
  ofFn Try.prog spec_l3With.call spec_l3With.qt spec_l3With.H N Try.f78 [.one (.sh (.rows (.int .u8))), .one (.sh (.rows (.int .u8))), ak_s] [] [ak_s] [] [⟨[], [], [], []⟩] (G, (o, (t, ()))) ()
noncomputable def spec_l3With.S (N : Nat) : Say := ⟨false, 78, [.one (.sh (.rows (.int .u8))), .one (.sh (.rows (.int .u8))), ak_s], [], [ak_s], [], fun a s => spec_l3With N a.1 a.2.1 a.2.2.1⟩
set_option maxRecDepth 100000 in
theorem spec_l3With.l3.eq (N : Nat) (G4 : (List Int)) (o4 : (List Int)) (t7 : Int) (a : Int) (p03 : (List Int)) (p22 : (List Int)) (p3 : (List Int)) : spec_l3With.l3 (N + 1) G4 o4 t7 a p03 p22 p3 =
 sel (decide (a < 4))
  (
  chk ((decide (0 ≤ (IntKind.i64.wrap (4 * a)))) && ((decide ((IntKind.i64.wrap (4 * a)) ≤ (IntKind.i64.wrap ((IntKind.i64.wrap (4 * a)) + 4)))) && (decide ((IntKind.i64.wrap ((IntKind.i64.wrap (4 * a)) + 4)) ≤ (p22.length : Int))))) (
  andK (spec_l3Mix N ((p22.drop (Int.toNat (IntKind.i64.wrap (4 * a)))).take ((Int.toNat (IntKind.i64.wrap ((IntKind.i64.wrap (4 * a)) + 4))) - (Int.toNat (IntKind.i64.wrap (4 * a))))) [2, 3, 1, 1]) fun u4 =>
  chk (decide (p3.length + u4.2.1.length < most)) (
  spec_l3With.l3 N G4 o4 t7 (IntKind.i64.wrap (a + 1)) p03 p22 (p3 ++ u4.2.1))))
  (
  some ((((), ()), (p03, ((), (p22, (p3, ()))))))) := by kernel_rfl
set_option maxRecDepth 100000 in
theorem spec_l3With.l2.eq (N : Nat) (G3 : (List Int)) (o3 : (List Int)) (t5 : (List Int)) (t6 : Int) (A1 : Int) (r : Int) (p02 : (List Int)) (p21 : (List Int)) : spec_l3With.l2 (N + 1) G3 o3 t5 t6 A1 r p02 p21 =
 sel (decide (r < 4))
  (
  chk ((decide (0 ≤ (IntKind.i64.wrap ((IntKind.i64.wrap (4 * (Int.tmod (IntKind.i64.wrap (A1 + r)) 4))) + r)))) && (decide ((IntKind.i64.wrap ((IntKind.i64.wrap (4 * (Int.tmod (IntKind.i64.wrap (A1 + r)) 4))) + r)) < (t5.length : Int)))) (
  chk ((decide (0 ≤ (t5.getD (Int.toNat (IntKind.i64.wrap ((IntKind.i64.wrap (4 * (Int.tmod (IntKind.i64.wrap (A1 + r)) 4))) + r))) 0))) && (decide ((t5.getD (Int.toNat (IntKind.i64.wrap ((IntKind.i64.wrap (4 * (Int.tmod (IntKind.i64.wrap (A1 + r)) 4))) + r))) 0) < (o3.length : Int)))) (
  chk ((decide (0 ≤ (IntKind.i64.wrap ((IntKind.i64.wrap (4 * A1)) + r)))) && (decide ((IntKind.i64.wrap ((IntKind.i64.wrap (4 * A1)) + r)) < (p21.length : Int)))) (
  spec_l3With.l2 N G3 o3 t5 t6 A1 (IntKind.i64.wrap (r + 1)) p02 (p21.set (Int.toNat (IntKind.i64.wrap ((IntKind.i64.wrap (4 * A1)) + r))) (o3.getD (Int.toNat (t5.getD (Int.toNat (IntKind.i64.wrap ((IntKind.i64.wrap (4 * (Int.tmod (IntKind.i64.wrap (A1 + r)) 4))) + r))) 0)) 0))))))
  (
  some ((((), ()), (p02, ((), (p21, ())))))) := by kernel_rfl
set_option maxRecDepth 100000 in
theorem spec_l3With.l1.eq (N : Nat) (G2 : (List Int)) (o2 : (List Int)) (t3 : (List Int)) (t4 : Int) (A : Int) (p01 : (List Int)) (p2 : (List Int)) : spec_l3With.l1 (N + 1) G2 o2 t3 t4 A p01 p2 =
 sel (decide (A < 4))
  (
  andK (spec_l3With.l2 N G2 o2 t3 t4 A 0 p01 p2) fun l2 =>
  spec_l3With.l1 N G2 o2 t3 t4 (IntKind.i64.wrap (A + 1)) l2.2.1 l2.2.2.2.1)
  (
  some ((((), ()), (p01, ((), (p2, ())))))) := by kernel_rfl
set_option maxRecDepth 100000 in
theorem spec_l3With.l0.eq (N : Nat) (G1 : (List Int)) (o1 : (List Int)) (t1 : (List Int)) (t2 : Int) (p0 : (List Int)) : spec_l3With.l0 (N + 1) G1 o1 t1 t2 p0 =
 sel (decide (t2 ≤ 10))
  (
  andK (spec_l3With.l1 N G1 o1 t1 t2 0 p0 (List.replicate 16 (0 : Int))) fun l3 =>
  andK (α := (((List Int) × Unit) × ((List Int) × (Unit × (Unit × Unit))))) (
   sel (decide (t2 < 10))
    (
    andK (spec_l3With.l3 N G1 o1 t2 0 l3.2.1 l3.2.2.2.1 []) fun l5 =>
    some (((l5.2.2.2.2.1, ()), (l5.2.1, ((), ((), ()))))))
    (
    some (((l3.2.2.2.1, ()), (l3.2.1, ((), ((), ()))))))) fun j6 =>
  chk ((decide (0 ≤ (IntKind.i64.wrap (16 * t2)))) && ((decide ((IntKind.i64.wrap (16 * t2)) ≤ (IntKind.i64.wrap ((IntKind.i64.wrap (16 * t2)) + 16)))) && (decide ((IntKind.i64.wrap ((IntKind.i64.wrap (16 * t2)) + 16)) ≤ (G1.length : Int))))) (
  andK (spec_l3Xor N j6.1.1 (cut G1 (IntKind.i64.wrap (16 * t2)) (IntKind.i64.wrap ((IntKind.i64.wrap (16 * t2)) + 16)))) fun u7 =>
  spec_l3With.l0 N G1 o1 u7.2.1 (IntKind.i64.wrap (t2 + 1)) j6.2.1))
  (
  some (((t1, ()), (p0, ((), ()))))) := by kernel_rfl
set_option maxRecDepth 100000 in
theorem spec_l3With.eq (N : Nat) (G : (List Int)) (o : (List Int)) (t : ByteArray) : spec_l3With N G o t =
 chk (decide (16 ≤ (G.length : Int))) (
 andK (spec_l3Xor N (bytesL t) (cut G 0 16)) fun u1 =>
 andK (spec_l3With.l0 N G o u1.2.1 1 (bytesL t)) fun l8 =>
 some (((strL l8.1.1), ()), ())) := by kernel_rfl
set_option maxRecDepth 100000 in
theorem spec_l3With.say (N : Nat) : SayOk Try.prog (spec_l3With.S N) := sayOk_mk (N := N) (H := spec_l3With.H) (preps := [⟨[], [], [], []⟩]) (l := spec_l3With.says) (fn := Try.f78) (c := bodyOf Try.f78)
  (by kernel_rfl) (by kernel_rfl) (by kernel_rfl) (by kernel_rfl) (by kernel_rfl) (by kernel_rfl) (by kernel_rfl)
  (fun N => SayAll.cons (spec_l3Xor.sayB N) (SayAll.cons (spec_l3Mix.sayB N) (SayAll.cons (spec_l3Xor.say N) (SayAll.nil)))) (fun a s => by kernel_rfl)
noncomputable def spec_l3With.SB (N : Nat) : Say := spec_l3With.S N |>.lent
theorem spec_l3With.sayB (N : Nat) : SayOk Try.prog (spec_l3With.SB N) := (spec_l3With.say N).lent

/-! ### loop.example/g00206/spec.l7Join: function 80 -/
noncomputable def spec_l7Join.H : Hints := hintsOf []
noncomputable def spec_l7Join.says (N : Nat) : List Say := []
noncomputable def spec_l7Join.call (N : Nat) : CallK := callBy (spec_l7Join.says N)
noncomputable def spec_l7Join.qt (N : Nat) : FuncId → List PV → Sig → Cl := qtBy (spec_l7Join.says N)
noncomputable def spec_l7Join (N : Nat) (left : (List Int)) (right : (List Int)) (size : Int) : Option ((ByteArray × Unit) × Unit) :=
  ofFn Try.prog spec_l7Join.call spec_l7Join.qt spec_l7Join.H N Try.f80 [.one (.sh (.rows (.int .u8))), .one (.sh (.rows (.int .u8))), ak_i] [] [ak_s] [] [⟨[], [], [], []⟩] (left, (right, (size, ()))) ()
noncomputable def spec_l7Join.S (N : Nat) : Say := ⟨false, 80, [.one (.sh (.rows (.int .u8))), .one (.sh (.rows (.int .u8))), ak_i], [], [ak_s], [], fun a s => spec_l7Join N a.1 a.2.1 a.2.2.1⟩
set_option maxRecDepth 100000 in
theorem spec_l7Join.eq (N : Nat) (left : (List Int)) (right : (List Int)) (size : Int) : spec_l7Join N left right size =
 sel (decide ((Int.tmod size 2) = 0))
  (
  chk (decide ((strL left).size + (strL right).size ≤ 9223372036854775807)) (
  some ((((strL left) ++ (strL right)), ()), ())))
  (
  chk ((decide (0 ≤ (IntKind.i64.wrap ((left.length : Int) - 1)))) && (decide ((IntKind.i64.wrap ((left.length : Int) - 1)) ≤ (left.length : Int)))) (
  chk ((decide (0 ≤ (IntKind.i64.wrap ((left.length : Int) - 1)))) && (decide ((IntKind.i64.wrap ((left.length : Int) - 1)) < (left.length : Int)))) (
  chk (decide (0 < (right.length : Int))) (
  chk (decide ((strL (cut left 0 (IntKind.i64.wrap ((left.length : Int) - 1)))).size + (strL [(Go.bits .or .u8 (left.getD (Int.toNat (IntKind.i64.wrap ((left.length : Int) - 1))) 0) (right.getD 0 0))]).size ≤ 9223372036854775807)) (
  chk ((decide (1 ≤ (right.length : Int))) && (decide ((right.length : Int) ≤ (right.length : Int)))) (
  chk (decide (((strL (cut left 0 (IntKind.i64.wrap ((left.length : Int) - 1)))) ++ (strL [(Go.bits .or .u8 (left.getD (Int.toNat (IntKind.i64.wrap ((left.length : Int) - 1))) 0) (right.getD 0 0))])).size + (strL (cut right 1 (right.length : Int))).size ≤ 9223372036854775807)) (
  some (((((strL (cut left 0 (IntKind.i64.wrap ((left.length : Int) - 1)))) ++ (strL [(Go.bits .or .u8 (left.getD (Int.toNat (IntKind.i64.wrap ((left.length : Int) - 1))) 0) (right.getD 0 0))])) ++ (strL (cut right 1 (right.length : Int)))), ()), ())))))))) := by kernel_rfl
set_option maxRecDepth 100000 in
theorem spec_l7Join.say (N : Nat) : SayOk Try.prog (spec_l7Join.S N) := sayOk_mk (N := N) (H := spec_l7Join.H) (preps := [⟨[], [], [], []⟩]) (l := spec_l7Join.says) (fn := Try.f80) (c := bodyOf Try.f80)
  (by kernel_rfl) (by kernel_rfl) (by kernel_rfl) (by kernel_rfl) (by kernel_rfl) (by kernel_rfl) (by kernel_rfl)
  (fun N => SayAll.nil) (fun a s => by kernel_rfl)

/-! ### loop.example/g00206/spec.l7Passes: function 41 -/
noncomputable def spec_l7Passes.H : Hints := hintsOf [(16, .join [⟨.normal, [1, 11, 12, 29, 30, 31], [7, 8, 9, 10], [.one (.sh (.rows (.int .u8))), .one (.sh (.rows (.int .u8))), .one (.own 2), .one (.own 3)], [.gone, .gone, .rows (.int .u8), .rows (.int .u8)], [⟨[], [], [5], []⟩]⟩]),
  (2000007, .loop ⟨.normal, [1, 11, 12, 29, 30], [7, 8, 9, 10, 31], [.one (.sh (.rows (.int .u8))), .one (.sh (.rows (.int .u8))), .one (.own 2), .one (.own 3), ak_i], [.gone, .gone, .rows (.int .u8), .rows (.int .u8)], [⟨[], [], [0, 1], []⟩, ⟨[], [], [], []⟩]⟩ [⟨(.exit 0), [1], [7, 8], [.one (.sh (.rows (.int .u8))), .one (.sh (.rows (.int .u8)))], [.gone, .gone, .rows (.int .u8), .rows (.int .u8)], [⟨[], [], [], []⟩]⟩])]
noncomputable def spec_l7Passes.says (N : Nat) : List Say := [spec_l7Cut.S N, spec_l3Keys.S N, spec_l3Table.S N, spec_l7Half.S N, spec_l3With.SB N, spec_l3Xor.SB N, spec_l7Join.S N]
noncomputable def spec_l7Passes.call (N : Nat) : CallK := callBy (spec_l7Passes.says N)
noncomputable def spec_l7Passes.qt (N : Nat) : FuncId → List PV → Sig → Cl := qtBy (spec_l7Passes.says N)
noncomputable def spec_l7Passes.l0.hd : Alt := ⟨.normal, [1, 11, 12, 29, 30], [7, 8, 9, 10, 31], [.one (.sh (.rows (.int .u8))), .one (.sh (.rows (.int .u8))), .one (.own 2), .one (.own 3), ak_i], [.gone, .gone, .rows (.int .u8), .rows (.int .u8)], [⟨[], [], [0, 1], []⟩, ⟨[], [], [], []⟩]⟩
noncomputable def spec_l7Passes.l0.outs : List Alt := [⟨(.exit 0), [1], [7, 8], [.one (.sh (.rows (.int .u8))), .one (.sh (.rows (.int .u8)))], [.gone, .gone, .rows (.int .u8), .rows (.int .u8)], [⟨[], [], [], []⟩]⟩]
noncomputable def spec_l7Passes.l0 (N : Nat) (o1 : ByteArray) (r : Int) (r1 : Bool) (t29 : (List Int)) (t30 : Int) (t1 : (List Int)) (t2 : (List Int)) (t31 : Int) (p2 : (List Int)) (p3 : (List Int)) : Option (((List Int) × ((List Int) × Unit)) × (Unit × (Unit × ((List Int) × ((List Int) × Unit))))) :=
  loopK Try.prog spec_l7Passes.call spec_l7Passes.qt spec_l7Passes.H (codeAt (bodyOf Try.f41) [1, 1, 1, 1, 1, 1, 0, 1, 0, 0]) 4 spec_l7Passes.l0.hd spec_l7Passes.l0.outs [(1, .v (.string o1)), (11, .v (.int .i64 r)), (12, .v (.bool r1)), (29, .rows false (.int .i64) t29), (30, .v (.int .i64 t30))] N ((t1, (t2, ((), ((), (t31, ()))))), ((), ((), (p2, (p3, ())))))
noncomputable def spec_l7Passes (N : Nat) (G : ByteArray) (o : ByteArray) (t : (List Int)) : Option ((ByteArray × Unit) × Unit) :=
  ofFn Try.prog spec_l7Passes.call spec_l7Passes.qt spec_l7Passes.H N Try.f41 [ak_s, ak_s, .one (.sh (.rows (.int .i64)))] [] [ak_s] [] [⟨[], [], [], []⟩] (G, (o, (t, ()))) ()
noncomputable def spec_l7Passes.S (N : Nat) : Say := ⟨false, 41, [ak_s, ak_s, .one (.sh (.rows (.int .i64)))], [], [ak_s], [], fun a s => spec_l7Passes N a.1 a.2.1 a.2.2.1⟩
set_option maxRecDepth 100000 in
theorem spec_l7Passes.l0.eq (N : Nat) (o1 : ByteArray) (r : Int) (r1 : Bool) (t29 : (List Int)) (t30 : Int) (t1 : (List Int)) (t2 : (List Int)) (t31 : Int) (p2 : (List Int)) (p3 : (List Int)) : spec_l7Passes.l0 (N + 1) o1 r r1 t29 t30 t1 t2 t31 p2 p3 =
 sel (decide (t31 < t30))
  (
  andK (α := (((List Int) × ((List Int) × (Unit × (Unit × Unit)))) × (Unit × (Unit × ((List Int) × ((List Int) × Unit)))))) (
   chk ((decide (0 ≤ t31)) && (decide (t31 < (t29.length : Int)))) (
   sel (decide ((Int.tmod (t29.getD (Int.toNat t31) 0) 2) = 1))
    (
    andK (spec_l7Half N (strL t1) (o1.size : Int) (t29.getD (Int.toNat t31) 0)) fun u4 =>
    andK (spec_l3With N p2 p3 u4.1.1) fun u5 =>
    chk ((decide (0 ≤ r)) && (decide (r ≤ ((bytesL u5.1.1).length : Int)))) (
    andK (spec_l3Xor N t2 (((bytesL u5.1.1).drop 0).take ((Int.toNat r) - 0))) fun u6 =>
    sel r1
     (
     chk (decide (0 < (u6.2.1.length : Int))) (
     chk (decide (0 < (u6.2.1.length : Int))) (
     some (((t1, ((u6.2.1.set 0 (Go.bits .and .u8 (u6.2.1.getD 0 0) 15)), ((), ((), ())))), ((), ((), (p2, (p3, ())))))))))
     (
     some (((t1, (u6.2.1, ((), ((), ())))), ((), ((), (p2, (p3, ())))))))))
    (
    andK (spec_l7Half N (strL t2) (o1.size : Int) (t29.getD (Int.toNat t31) 0)) fun u7 =>
    andK (spec_l3With N p2 p3 u7.1.1) fun u8 =>
    chk ((decide (0 ≤ r)) && (decide (r ≤ ((bytesL u8.1.1).length : Int)))) (
    andK (spec_l3Xor N t1 (((bytesL u8.1.1).drop 0).take ((Int.toNat r) - 0))) fun u9 =>
    sel r1
     (
     chk ((decide (0 ≤ (IntKind.i64.wrap (r - 1)))) && (decide ((IntKind.i64.wrap (r - 1)) < (u9.2.1.length : Int)))) (
     chk ((decide (0 ≤ (IntKind.i64.wrap (r - 1)))) && (decide ((IntKind.i64.wrap (r - 1)) < (u9.2.1.length : Int)))) (
     some ((((u9.2.1.set (Int.toNat (IntKind.i64.wrap (r - 1))) (Go.bits .and .u8 (u9.2.1.getD (Int.toNat (IntKind.i64.wrap (r - 1))) 0) 240)), (t2, ((), ((), ())))), ((), ((), (p2, (p3, ())))))))))
     (
     some (((u9.2.1, (t2, ((), ((), ())))), ((), ((), (p2, (p3, ()))))))))))) fun j10 =>
  spec_l7Passes.l0 N o1 r r1 t29 t30 j10.1.1 j10.1.2.1 (IntKind.i64.wrap (t31 + 1)) j10.2.2.2.1 j10.2.2.2.2.1)
  (
  some (((t1, (t2, ())), ((), ((), (p2, (p3, ()))))))) := by kernel_rfl
set_option maxRecDepth 100000 in
theorem spec_l7Passes.eq (N : Nat) (G : ByteArray) (o : ByteArray) (t : (List Int)) : spec_l7Passes N G o t =
 andK (spec_l7Cut N o) fun u1 =>
 andK (spec_l3Keys N G) fun u2 =>
 andK (spec_l3Table N) fun u3 =>
 andK (spec_l7Passes.l0 N o (u1.2.1.length : Int) (decide ((Int.tmod (o.size : Int) 2) = 1)) t (t.length : Int) u1.2.1 u1.2.2.1 0 u2.2.1 u3.2.1) fun l11 =>
 andK (spec_l7Join N l11.1.1 l11.1.2.1 (o.size : Int)) fun u12 =>
 some ((u12.1.1, ()), ()) := by kernel_rfl
set_option maxRecDepth 100000 in
theorem spec_l7Passes.say (N : Nat) : SayOk Try.prog (spec_l7Passes.S N) := sayOk_mk (N := N) (H := spec_l7Passes.H) (preps := [⟨[], [], [], []⟩]) (l := spec_l7Passes.says) (fn := Try.f41) (c := bodyOf Try.f41)
  (by kernel_rfl) (by kernel_rfl) (by kernel_rfl) (by kernel_rfl) (by kernel_rfl) (by kernel_rfl) (by kernel_rfl)
  (fun N => SayAll.cons (spec_l7Cut.say N) (SayAll.cons (spec_l3Keys.say N) (SayAll.cons (spec_l3Table.say N) (SayAll.cons (spec_l7Half.say N) (SayAll.cons (spec_l3With.sayB N) (SayAll.cons (spec_l3Xor.sayB N) (SayAll.cons (spec_l7Join.say N) (SayAll.nil)))))))) (fun a s => by kernel_rfl)

/-! ### loop.example/g00206/spec.FourPasses: function 11 -/
noncomputable def spec_FourPasses.H : Hints := hintsOf []
noncomputable def spec_FourPasses.says (N : Nat) : List Say := [spec_l7Four.S N, spec_l7Passes.S N]
noncomputable def spec_FourPasses.call (N : Nat) : CallK := callBy (spec_FourPasses.says N)
noncomputable def spec_FourPasses.qt (N : Nat) : FuncId → List PV → Sig → Cl := qtBy (spec_FourPasses.says N)
noncomputable def spec_FourPasses (N : Nat) (key : ByteArray) (s : ByteArray) : Option ((ByteArray × (Bool × Unit)) × Unit) :=
  ofFn Try.prog spec_FourPasses.call spec_FourPasses.qt spec_FourPasses.H N Try.f11 [ak_s, ak_s] [] [ak_s, ak_b] [] [⟨[], [], [], []⟩] (key, (s, ())) ()
noncomputable def spec_FourPasses.S (N : Nat) : Say := ⟨false, 11, [ak_s, ak_s], [], [ak_s, ak_b], [], fun a s => spec_FourPasses N a.1 a.2.1⟩
set_option maxRecDepth 100000 in
theorem spec_FourPasses.eq (N : Nat) (key : ByteArray) (s : ByteArray) : spec_FourPasses N key s =
 andK (spec_l7Four N key s) fun u1 =>
 sel (!u1.1.1)
  (
  some (((⟨#[]⟩ : ByteArray), (false, ())), ()))
  (
  andK (spec_l7Passes N key s [1, 2, 3, 4]) fun u2 =>
  some ((u2.1.1, (true, ())), ())) := by kernel_rfl
set_option maxRecDepth 100000 in
theorem spec_FourPasses.say (N : Nat) : SayOk Try.prog (spec_FourPasses.S N) := sayOk_mk (N := N) (H := spec_FourPasses.H) (preps := [⟨[], [], [], []⟩]) (l := spec_FourPasses.says) (fn := Try.f11) (c := bodyOf Try.f11)
  (by kernel_rfl) (by kernel_rfl) (by kernel_rfl) (by kernel_rfl) (by kernel_rfl) (by kernel_rfl) (by kernel_rfl)
  (fun N => SayAll.cons (spec_l7Four.say N) (SayAll.cons (spec_l7Passes.say N) (SayAll.nil))) (fun a s => by kernel_rfl)

/-! ### loop.example/g00206/impl.fourBack: function 42 -/
noncomputable def impl_fourBack.H : Hints := hintsOf [(2000003, .loop ⟨.normal, [], [5, 6], [.one (.ptr 0 0), ak_i], [.cells [.ptr 1 0, ck_i, ck_s, ck_s], .cells [.apl 2 0 512, .own 3], .rows (.int .u8), .rows (.int .u8)], [⟨[], [], [], []⟩]⟩ [⟨(.exit 0), [], [5], [.one (.ptr 0 0)], [.cells [.ptr 1 0, ck_i, ck_s, ck_s], .cells [.apl 2 0 512, .own 3], .rows (.int .u8), .rows (.int .u8)], [⟨[], [], [], []⟩]⟩])]
noncomputable def impl_fourBack.says (N : Nat) : List Say := [impl_halvesOf.S N, impl_halves_pass.S N, impl_halves_text.S N]
noncomputable def impl_fourBack.call (N : Nat) : CallK := callBy (impl_fourBack.says N)
noncomputable def impl_fourBack.qt (N : Nat) : FuncId → List PV → Sig → Cl := qtBy (impl_fourBack.says N)
noncomputable def impl_fourBack.l0.hd : Alt := ⟨.normal, [], [5, 6], [.one (.ptr 0 0), ak_i], [.cells [.ptr 1 0, ck_i, ck_s, ck_s], .cells [.apl 2 0 512, .own 3], .rows (.int .u8), .rows (.int .u8)], [⟨[], [], [], []⟩]⟩
noncomputable def impl_fourBack.l0.outs : List Alt := [⟨(.exit 0), [], [5], [.one (.ptr 0 0)], [.cells [.ptr 1 0, ck_i, ck_s, ck_s], .cells [.apl 2 0 512, .own 3], .rows (.int .u8), .rows (.int .u8)], [⟨[], [], [], []⟩]⟩]
noncomputable def impl_fourBack.l0 (N : Nat) (pass : Int) (p0_1 : Int) (p0_2 : ByteArray) (p0_3 : ByteArray) (p2 : (List Int)) (p3 : (List Int)) : Option ((Unit × Unit) × ((Unit × (Int × (ByteArray × (ByteArray × Unit)))) × ((Unit × (Unit × Unit)) × ((List Int) × ((List Int) × Unit))))) :=
  loopK Try.prog impl_fourBack.call impl_fourBack.qt impl_fourBack.H (codeAt (bodyOf Try.f42) [1, 1, 0, 1, 0, 0]) 4 impl_fourBack.l0.hd impl_fourBack.l0.outs [] N (((), (pass, ())), (((), (p0_1, (p0_2, (p0_3, ())))), (((), ((), ())), (p2, (p3, ())))))
noncomputable def impl_fourBack (N : Nat) (key : ByteArray) (s : ByteArray) : Option ((ByteArray × Unit) × Unit) :=
  ofFn Try.prog impl_fourBack.call impl_fourBack.qt impl_fourBack.H N Try.f42 [ak_s, ak_s] [] [ak_s] [] [⟨[], [], [], []⟩] (key, (s, ())) ()
noncomputable def impl_fourBack.S (N : Nat) : Say := ⟨false, 42, [ak_s, ak_s], [], [ak_s], [], fun a s => impl_fourBack N a.1 a.2.1⟩
set_option maxRecDepth 100000 in
theorem impl_fourBack.l0.eq (N : Nat) (pass : Int) (p0_1 : Int) (p0_2 : ByteArray) (p0_3 : ByteArray) (p2 : (List Int)) (p3 : (List Int)) : impl_fourBack.l0 (N + 1) pass p0_1 p0_2 p0_3 p2 p3 =
 sel (decide (1 ≤ pass))
  (
  andK (impl_halves_pass N pass p0_1 p0_2 p0_3 p2 p3) fun u2 =>
  impl_fourBack.l0 N (IntKind.i64.wrap (pass - 1)) u2.2.1.2.1 u2.2.1.2.2.1 u2.2.1.2.2.2.1 u2.2.2.2.1 u2.2.2.2.2.1)
  (
  some ((((), ()), (((), (p0_1, (p0_2, (p0_3, ())))), (((), ((), ())), (p2, (p3, ()))))))) := by kernel_rfl
set_option maxRecDepth 100000 in
theorem impl_fourBack.eq (N : Nat) (key : ByteArray) (s : ByteArray) : impl_fourBack N key s =
 andK (impl_halvesOf N key s) fun u1 =>
 andK (impl_fourBack.l0 N 4 u1.2.1.2.1 u1.2.1.2.2.1 u1.2.1.2.2.2.1 u1.2.2.2.1 u1.2.2.2.2.1) fun l3 =>
 andK (impl_halves_text N l3.2.1.2.1 l3.2.1.2.2.1 l3.2.1.2.2.2.1 l3.2.2.2.1 l3.2.2.2.2.1) fun u4 =>
 some ((u4.1.1, ()), ()) := by kernel_rfl
set_option maxRecDepth 100000 in
theorem impl_fourBack.say (N : Nat) : SayOk Try.prog (impl_fourBack.S N) := sayOk_mk (N := N) (H := impl_fourBack.H) (preps := [⟨[], [], [], []⟩]) (l := impl_fourBack.says) (fn := Try.f42) (c := bodyOf Try.f42)
  (by kernel_rfl) (by kernel_rfl) (by kernel_rfl) (by kernel_rfl) (by kernel_rfl) (by kernel_rfl) (by kernel_rfl)
  (fun N => SayAll.cons (impl_halvesOf.say N) (SayAll.cons (impl_halves_pass.say N) (SayAll.cons (impl_halves_text.say N) (SayAll.nil)))) (fun a s => by kernel_rfl)

/-! ### loop.example/g00206/impl.FourBack: function 12 -/
noncomputable def impl_FourBack.H : Hints := hintsOf []
noncomputable def impl_FourBack.says (N : Nat) : List Say := [impl_fourOk.S N, impl_fourBack.S N]
noncomputable def impl_FourBack.call (N : Nat) : CallK := callBy (impl_FourBack.says N)
noncomputable def impl_FourBack.qt (N : Nat) : FuncId → List PV → Sig → Cl := qtBy (impl_FourBack.says N)
noncomputable def impl_FourBack (N : Nat) (key : ByteArray) (s : ByteArray) : Option ((ByteArray × (Bool × Unit)) × Unit) :=
  ofFn Try.prog impl_FourBack.call impl_FourBack.qt impl_FourBack.H N Try.f12 [ak_s, ak_s] [] [ak_s, ak_b] [] [⟨[], [], [], []⟩] (key, (s, ())) ()
noncomputable def impl_FourBack.S (N : Nat) : Say := ⟨false, 12, [ak_s, ak_s], [], [ak_s, ak_b], [], fun a s => impl_FourBack N a.1 a.2.1⟩
set_option maxRecDepth 100000 in
theorem impl_FourBack.eq (N : Nat) (key : ByteArray) (s : ByteArray) : impl_FourBack N key s =
 andK (impl_fourOk N key s) fun u1 =>
 sel (!u1.1.1)
  (
  some (((⟨#[]⟩ : ByteArray), (false, ())), ()))
  (
  andK (impl_fourBack N key s) fun u2 =>
  some ((u2.1.1, (true, ())), ())) := by kernel_rfl
set_option maxRecDepth 100000 in
theorem impl_FourBack.say (N : Nat) : SayOk Try.prog (impl_FourBack.S N) := sayOk_mk (N := N) (H := impl_FourBack.H) (preps := [⟨[], [], [], []⟩]) (l := impl_FourBack.says) (fn := Try.f12) (c := bodyOf Try.f12)
  (by kernel_rfl) (by kernel_rfl) (by kernel_rfl) (by kernel_rfl) (by kernel_rfl) (by kernel_rfl) (by kernel_rfl)
  (fun N => SayAll.cons (impl_fourOk.say N) (SayAll.cons (impl_fourBack.say N) (SayAll.nil))) (fun a s => by kernel_rfl)

/-! ### loop.example/g00206/laws.numberOf: function 14 -/
noncomputable def laws_numberOf.H : Hints := hintsOf [(2000003, .loop ⟨.normal, [6, 7], [3, 8], [ak_i, ak_i], [], [⟨[], [], [], []⟩]⟩ [⟨(.exit 0), [], [3], [ak_i], [], [⟨[], [], [], []⟩]⟩])]
noncomputable def laws_numberOf.says (N : Nat) : List Say := []
noncomputable def laws_numberOf.call (N : Nat) : CallK := callBy (laws_numberOf.says N)
noncomputable def laws_numberOf.qt (N : Nat) : FuncId → List PV → Sig → Cl := qtBy (laws_numberOf.says N)
noncomputable def laws_numberOf.l0.hd : Alt := ⟨.normal, [6, 7], [3, 8], [ak_i, ak_i], [], [⟨[], [], [], []⟩]⟩
noncomputable def laws_numberOf.l0.outs : List Alt := [⟨(.exit 0), [], [3], [ak_i], [], [⟨[], [], [], []⟩]⟩]
noncomputable def laws_numberOf.l0 (N : Nat) (t6 : (List Int)) (t7 : Int) (n : Int) (t8 : Int) : Option ((Int × Unit) × Unit) :=
  loopK Try.prog laws_numberOf.call laws_numberOf.qt laws_numberOf.H (codeAt (bodyOf Try.f14) [1, 1, 0, 1, 0, 0]) 0 laws_numberOf.l0.hd laws_numberOf.l0.outs [(6, .rows false (.int .u8) t6), (7, .v (.int .i64 t7))] N ((n, (t8, ())), ())
noncomputable def laws_numberOf (N : Nat) (b : (List Int)) : Option ((Int × Unit) × Unit) :=
  ofFn Try.prog laws_numberOf.call laws_numberOf.qt laws_numberOf.H N Try.f14 [.one (.sh (.rows (.int .u8)))] [] [ak_i] [] [⟨[], [], [], []⟩] (b, ()) ()
noncomputable def laws_numberOf.S (N : Nat) : Say := ⟨false, 14, [.one (.sh (.rows (.int .u8)))], [], [ak_i], [], fun a s => laws_numberOf N a.1⟩
set_option maxRecDepth 100000 in
theorem laws_numberOf.l0.eq (N : Nat) (t6 : (List Int)) (t7 : Int) (n : Int) (t8 : Int) : laws_numberOf.l0 (N + 1) t6 t7 n t8 =
 sel (decide (t8 < t7))
  (
  chk ((decide (0 ≤ t8)) && (decide (t8 < (t6.length : Int)))) (
  laws_numberOf.l0 N t6 t7 (Int.tmod (IntKind.i64.wrap ((IntKind.i64.wrap (31 * n)) + (IntKind.i64.wrap (t6.getD (Int.toNat t8) 0)))) 1000003) (IntKind.i64.wrap (t8 + 1))))
  (
  some (((n, ()), ()))) := by kernel_rfl
set_option maxRecDepth 100000 in
theorem laws_numberOf.eq (N : Nat) (b : (List Int)) : laws_numberOf N b =
 andK (laws_numberOf.l0 N b (b.length : Int) 0 0) fun l1 =>
 some ((l1.1.1, ()), ()) := by kernel_rfl
set_option maxRecDepth 100000 in
theorem laws_numberOf.say (N : Nat) : SayOk Try.prog (laws_numberOf.S N) := sayOk_mk (N := N) (H := laws_numberOf.H) (preps := [⟨[], [], [], []⟩]) (l := laws_numberOf.says) (fn := Try.f14) (c := bodyOf Try.f14)
  (by kernel_rfl) (by kernel_rfl) (by kernel_rfl) (by kernel_rfl) (by kernel_rfl) (by kernel_rfl) (by kernel_rfl)
  (fun N => SayAll.nil) (fun a s => by kernel_rfl)

/-! ### loop.example/g00206/laws.turned: function 13 -/
noncomputable def laws_turned.H : Hints := hintsOf []
noncomputable def laws_turned.says (N : Nat) : List Say := []
noncomputable def laws_turned.call (N : Nat) : CallK := callBy (laws_turned.says N)
noncomputable def laws_turned.qt (N : Nat) : FuncId → List PV → Sig → Cl := qtBy (laws_turned.says N)
noncomputable def laws_turned (N : Nat) (s : ByteArray) (k : Int) : Option ((ByteArray × Unit) × Unit) :=
  ofFn Try.prog laws_turned.call laws_turned.qt laws_turned.H N Try.f13 [ak_s, ak_i] [] [ak_s] [] [⟨[], [], [], []⟩] (s, (k, ())) ()
noncomputable def laws_turned.S (N : Nat) : Say := ⟨false, 13, [ak_s, ak_i], [], [ak_s], [], fun a s => laws_turned N a.1 a.2.1⟩
set_option maxRecDepth 100000 in
theorem laws_turned.eq (N : Nat) (s : ByteArray) (k : Int) : laws_turned N s k =
 chk ((IntKind.i64.wrap (8 * ((bytesL s).length : Int))) != 0) (
 chk ((decide (0 ≤ (IntKind.i64.wrap (Int.tdiv (Int.tmod k (IntKind.i64.wrap (8 * ((bytesL s).length : Int)))) 8)))) && (decide ((IntKind.i64.wrap (Int.tdiv (Int.tmod k (IntKind.i64.wrap (8 * ((bytesL s).length : Int)))) 8)) < ((bytesL s).length : Int)))) (
 chk (decide (0 ≤ (IntKind.u64.wrap (Int.tmod (Int.tmod k (IntKind.i64.wrap (8 * ((bytesL s).length : Int)))) 8)))) (
 chk ((decide (0 ≤ (IntKind.i64.wrap (Int.tdiv (Int.tmod k (IntKind.i64.wrap (8 * ((bytesL s).length : Int)))) 8)))) && (decide ((IntKind.i64.wrap (Int.tdiv (Int.tmod k (IntKind.i64.wrap (8 * ((bytesL s).length : Int)))) 8)) < ((bytesL s).length : Int)))) (
 some (((strL ((bytesL s).set (Int.toNat (IntKind.i64.wrap (Int.tdiv (Int.tmod k (IntKind.i64.wrap (8 * ((bytesL s).length : Int)))) 8))) (Go.bits .xor .u8 ((bytesL s).getD (Int.toNat (IntKind.i64.wrap (Int.tdiv (Int.tmod k (IntKind.i64.wrap (8 * ((bytesL s).length : Int)))) 8))) 0) (shlI .u8 1 (IntKind.u64.wrap (Int.tmod (Int.tmod k (IntKind.i64.wrap (8 * ((bytesL s).length : Int)))) 8)))))), ()), ()))))) := by kernel_rfl
set_option maxRecDepth 100000 in
theorem laws_turned.say (N : Nat) : SayOk Try.prog (laws_turned.S N) := sayOk_mk (N := N) (H := laws_turned.H) (preps := [⟨[], [], [], []⟩]) (l := laws_turned.says) (fn := Try.f13) (c := bodyOf Try.f13)
  (by kernel_rfl) (by kernel_rfl) (by kernel_rfl) (by kernel_rfl) (by kernel_rfl) (by kernel_rfl) (by kernel_rfl)
  (fun N => SayAll.nil) (fun a s => by kernel_rfl)

/-! ### loop.example/g00206/laws.FnFeistel: function 3 -/
noncomputable def laws_FnFeistel.H : Hints := hintsOf [(5000006, .join [⟨.normal, [1, 5, 6, 7, 8], [49], [ak_b], [], [⟨[], [], [], []⟩]⟩])]
noncomputable def laws_FnFeistel.says (N : Nat) : List Say := [spec_DrawFourPasses.S N, impl_FourPasses.S N, spec_FourPasses.S N, impl_FourBack.S N, laws_numberOf.S N, laws_turned.S N]
noncomputable def laws_FnFeistel.call (N : Nat) : CallK := callBy (laws_FnFeistel.says N)
noncomputable def laws_FnFeistel.qt (N : Nat) : FuncId → List PV → Sig → Cl := qtBy (laws_FnFeistel.says N)
noncomputable def laws_FnFeistel (N : Nat) (G : (List Int)) (o : (List Int)) : Option ((Bool × Unit) × Unit) :=
  ofFn Try.prog laws_FnFeistel.call laws_FnFeistel.qt laws_FnFeistel.H N Try.f3 [.one (.sh (.rows (.int .u8))), .one (.sh (.rows (.int .u8)))] [] [ak_b] [] [⟨[], [], [], []⟩] (G, (o, ())) ()
noncomputable def laws_FnFeistel.S (N : Nat) : Say := ⟨false, 3, [.one (.sh (.rows (.int .u8))), .one (.sh (.rows (.int .u8)))], [], [ak_b], [], fun a s => laws_FnFeistel N a.1 a.2.1⟩
set_option maxRecDepth 100000 in
theorem laws_FnFeistel.eq (N : Nat) (G : (List Int)) (o : (List Int)) : laws_FnFeistel N G o =
 sel (decide (1048576 < (IntKind.i64.wrap ((G.length : Int) + (o.length : Int)))))
  (
  some ((true, ()), ()))
  (
  andK (spec_DrawFourPasses N G) fun u1 =>
  andK (impl_FourPasses N u1.1.1 u1.1.2.1) fun u2 =>
  andK (spec_FourPasses N u1.1.1 u1.1.2.1) fun u3 =>
  andK (α := ((Bool × Unit) × Unit)) (
   sel (!(u2.1.2.1 == u3.1.2.1))
    (
    some (((true, ()), ())))
    (
    some ((((!(decide (u2.1.1 = u3.1.1))), ()), ())))) fun j4 =>
  sel j4.1.1
   (
   some ((false, ()), ()))
   (
   sel (!u2.1.2.1)
    (
    some (((decide (u2.1.1 = (⟨#[]⟩ : ByteArray))), ()), ()))
    (
    andK (impl_FourBack N u1.1.1 u2.1.1) fun u5 =>
    andK (impl_FourBack N u1.1.1 u1.1.2.1) fun u6 =>
    andK (impl_FourPasses N u1.1.1 u6.1.1) fun u7 =>
    andK (laws_numberOf N o) fun u8 =>
    andK (laws_turned N u1.1.2.1 u8.1.1) fun u9 =>
    andK (impl_FourPasses N u1.1.1 u9.1.1) fun u10 =>
    sel u5.1.2.1
     (
     sel u6.1.2.1
      (
      sel u7.1.2.1
       (
       sel u10.1.2.1
        (
        sel (decide (u5.1.1 = u1.1.2.1))
         (
         sel (decide (u7.1.1 = u1.1.2.1))
          (
          sel (!(decide (u10.1.1 = u2.1.1)))
           (
           some (((decide ((u2.1.1.size : Int) = (u1.1.2.1.size : Int))), ()), ()))
           (
           some ((false, ()), ())))
          (
          some ((false, ()), ())))
         (
         some ((false, ()), ())))
        (
        some ((false, ()), ())))
       (
       some ((false, ()), ())))
      (
      some ((false, ()), ())))
     (
     some ((false, ()), ()))))) := by kernel_rfl
set_option maxRecDepth 100000 in
theorem laws_FnFeistel.say (N : Nat) : SayOk Try.prog (laws_FnFeistel.S N) := sayOk_mk (N := N) (H := laws_FnFeistel.H) (preps := [⟨[], [], [], []⟩]) (l := laws_FnFeistel.says) (fn := Try.f3) (c := bodyOf Try.f3)
  (by kernel_rfl) (by kernel_rfl) (by kernel_rfl) (by kernel_rfl) (by kernel_rfl) (by kernel_rfl) (by kernel_rfl)
  (fun N => SayAll.cons (spec_DrawFourPasses.say N) (SayAll.cons (impl_FourPasses.say N) (SayAll.cons (spec_FourPasses.say N) (SayAll.cons (impl_FourBack.say N) (SayAll.cons (laws_numberOf.say N) (SayAll.cons (laws_turned.say N) (SayAll.nil))))))) (fun a s => by kernel_rfl)

end Go.Proofs.Ytknoemdkfhkkhaa.GFnFeistel
