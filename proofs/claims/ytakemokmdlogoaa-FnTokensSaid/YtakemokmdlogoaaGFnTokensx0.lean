-- Written by a program of this session out of the translation; Lean checks it.
import Derived.Test.YtakemokmdlogoaaPmLaw
import Derived.Test.YtakemokmdlogoaaProg
import Derived.Test.YtakemokmdlogoaaShelf
set_option linter.unusedVariables false
namespace Go.Proofs.Ytakemokmdlogoaa.GFnTokens
open Go Go.Proofs Go.Proofs.YtakemokmdlogoaaPM

/-! ### (*loop.example/g00206/spec.l1Cur).next: function 78 -/
noncomputable def spec_l1Cur_next.H : Hints := hintsOf [(4, .join [⟨.normal, [], [0, 3], [.one (.ptr 0 0), ak_i], [.cells [.sh (.rows (.int .u8)), ck_i, .sh (.int .u64)]], [⟨[], [], [], []⟩]⟩])]
noncomputable def spec_l1Cur_next.says (N : Nat) : List Say := []
noncomputable def spec_l1Cur_next.call (N : Nat) : CallK := callBy (spec_l1Cur_next.says N)
noncomputable def spec_l1Cur_next.qt (N : Nat) : FuncId → List PV → Sig → Cl := qtBy (spec_l1Cur_next.says N)
noncomputable def spec_l1Cur_next (N : Nat) (p0_0 : (List Int)) (p0_1 : Int) (p0_2 : Int) : Option ((Int × Unit) × (((List Int) × (Int × (Int × Unit))) × Unit)) :=
  ofFn Try.prog spec_l1Cur_next.call spec_l1Cur_next.qt spec_l1Cur_next.H N Try.f78 [.one (.ptr 0 0)] [.cells [.sh (.rows (.int .u8)), ck_i, .sh (.int .u64)]] [ak_i] [.cells [.sh (.rows (.int .u8)), ck_i, .sh (.int .u64)]] [⟨[], [], [], []⟩] ((), ()) ((p0_0, (p0_1, (p0_2, ()))), ())
noncomputable def spec_l1Cur_next.S (N : Nat) : Say := ⟨false, 78, [.one (.ptr 0 0)], [.cells [.sh (.rows (.int .u8)), ck_i, .sh (.int .u64)]], [ak_i], [.cells [.sh (.rows (.int .u8)), ck_i, .sh (.int .u64)]], fun a s => spec_l1Cur_next N s.1.1 s.1.2.1 s.1.2.2.1⟩
set_option maxRecDepth 100000 in
theorem spec_l1Cur_next.eq (N : Nat) (p0_0 : (List Int)) (p0_1 : Int) (p0_2 : Int) : spec_l1Cur_next N p0_0 p0_1 p0_2 =
 andK (α := ((Unit × (Int × Unit)) × (((List Int) × (Int × (Int × Unit))) × Unit))) (
  sel (decide (p0_1 < (p0_0.length : Int)))
   (
   chk ((decide (0 ≤ p0_1)) && (decide (p0_1 < (p0_0.length : Int)))) (
   some ((((), ((IntKind.i64.wrap (p0_0.getD (Int.toNat p0_1) 0)), ())), ((p0_0, (p0_1, (p0_2, ()))), ())))))
   (
   some ((((), (0, ())), ((p0_0, (p0_1, (p0_2, ()))), ()))))) fun j1 =>
 sel (decide ((IntKind.i64.wrap (j1.2.1.2.1 + 1)) ≤ (j1.2.1.1.length : Int)))
  (
  some ((j1.1.2.1, ()), ((j1.2.1.1, ((IntKind.i64.wrap (j1.2.1.2.1 + 1)), ((IntKind.u64.wrap ((IntKind.u64.wrap ((IntKind.u64.wrap (j1.2.1.2.2.1 * 6364136223846793005)) + (IntKind.u64.wrap j1.1.2.1))) + 1442695040888963407)), ()))), ())))
  (
  some (((IntKind.i64.wrap (Go.bits .and .u64 (shrI .u64 (IntKind.u64.wrap ((IntKind.u64.wrap ((IntKind.u64.wrap (j1.2.1.2.2.1 * 6364136223846793005)) + (IntKind.u64.wrap j1.1.2.1))) + 1442695040888963407)) 40) 255)), ()), ((j1.2.1.1, ((IntKind.i64.wrap (j1.2.1.2.1 + 1)), ((IntKind.u64.wrap ((IntKind.u64.wrap ((IntKind.u64.wrap (j1.2.1.2.2.1 * 6364136223846793005)) + (IntKind.u64.wrap j1.1.2.1))) + 1442695040888963407)), ()))), ()))) := by kernel_rfl
set_option maxRecDepth 100000 in
theorem spec_l1Cur_next.say (N : Nat) : SayOk Try.prog (spec_l1Cur_next.S N) := sayOk_mk (N := N) (H := spec_l1Cur_next.H) (preps := [⟨[], [], [], []⟩]) (l := spec_l1Cur_next.says) (fn := Try.f78) (c := bodyOf Try.f78)
  (by kernel_rfl) (by kernel_rfl) (by kernel_rfl) (by kernel_rfl) (by kernel_rfl) (by kernel_rfl) (by kernel_rfl)
  (fun N => SayAll.nil) (fun a s => by kernel_rfl)

/-! ### (*loop.example/g00206/spec.l1Cur).pick: function 54 -/
noncomputable def spec_l1Cur_pick.H : Hints := hintsOf []
noncomputable def spec_l1Cur_pick.says (N : Nat) : List Say := [spec_l1Cur_next.S N]
noncomputable def spec_l1Cur_pick.call (N : Nat) : CallK := callBy (spec_l1Cur_pick.says N)
noncomputable def spec_l1Cur_pick.qt (N : Nat) : FuncId → List PV → Sig → Cl := qtBy (spec_l1Cur_pick.says N)
noncomputable def spec_l1Cur_pick (N : Nat) (n : Int) (p0_0 : (List Int)) (p0_1 : Int) (p0_2 : Int) : Option ((Int × Unit) × (((List Int) × (Int × (Int × Unit))) × Unit)) :=
  ofFn Try.prog spec_l1Cur_pick.call spec_l1Cur_pick.qt spec_l1Cur_pick.H N Try.f54 [.one (.ptr 0 0), ak_i] [.cells [.sh (.rows (.int .u8)), ck_i, .sh (.int .u64)]] [ak_i] [.cells [.sh (.rows (.int .u8)), ck_i, .sh (.int .u64)]] [⟨[], [], [], []⟩] ((), (n, ())) ((p0_0, (p0_1, (p0_2, ()))), ())
noncomputable def spec_l1Cur_pick.S (N : Nat) : Say := ⟨false, 54, [.one (.ptr 0 0), ak_i], [.cells [.sh (.rows (.int .u8)), ck_i, .sh (.int .u64)]], [ak_i], [.cells [.sh (.rows (.int .u8)), ck_i, .sh (.int .u64)]], fun a s => spec_l1Cur_pick N a.2.1 s.1.1 s.1.2.1 s.1.2.2.1⟩
set_option maxRecDepth 100000 in
theorem spec_l1Cur_pick.eq (N : Nat) (n : Int) (p0_0 : (List Int)) (p0_1 : Int) (p0_2 : Int) : spec_l1Cur_pick N n p0_0 p0_1 p0_2 =
 sel (decide (n ≤ 1))
  (
  some ((0, ()), ((p0_0, (p0_1, (p0_2, ()))), ())))
  (
  andK (spec_l1Cur_next N p0_0 p0_1 p0_2) fun u1 =>
  sel (decide (200 < n))
   (
   andK (spec_l1Cur_next N u1.2.1.1 u1.2.1.2.1 u1.2.1.2.2.1) fun u2 =>
   chk (n != 0) (
   some (((Int.tmod (IntKind.i64.wrap ((IntKind.i64.wrap (u1.1.1 * 256)) + u2.1.1)) n), ()), ((u2.2.1.1, (u2.2.1.2.1, (u2.2.1.2.2.1, ()))), ()))))
   (
   chk (n != 0) (
   some (((Int.tmod u1.1.1 n), ()), ((u1.2.1.1, (u1.2.1.2.1, (u1.2.1.2.2.1, ()))), ()))))) := by kernel_rfl
set_option maxRecDepth 100000 in
theorem spec_l1Cur_pick.say (N : Nat) : SayOk Try.prog (spec_l1Cur_pick.S N) := sayOk_mk (N := N) (H := spec_l1Cur_pick.H) (preps := [⟨[], [], [], []⟩]) (l := spec_l1Cur_pick.says) (fn := Try.f54) (c := bodyOf Try.f54)
  (by kernel_rfl) (by kernel_rfl) (by kernel_rfl) (by kernel_rfl) (by kernel_rfl) (by kernel_rfl) (by kernel_rfl)
  (fun N => SayAll.cons (spec_l1Cur_next.say N) (SayAll.nil)) (fun a s => by kernel_rfl)

/-! ### (*loop.example/g00206/spec.l1Cur).one: function 51 -/
noncomputable def spec_l1Cur_one.H : Hints := hintsOf []
noncomputable def spec_l1Cur_one.says (N : Nat) : List Say := [spec_l1Cur_pick.S N]
noncomputable def spec_l1Cur_one.call (N : Nat) : CallK := callBy (spec_l1Cur_one.says N)
noncomputable def spec_l1Cur_one.qt (N : Nat) : FuncId → List PV → Sig → Cl := qtBy (spec_l1Cur_one.says N)
noncomputable def spec_l1Cur_one (N : Nat) (n : Int) (p0_0 : (List Int)) (p0_1 : Int) (p0_2 : Int) : Option ((Bool × Unit) × (((List Int) × (Int × (Int × Unit))) × Unit)) :=
  ofFn Try.prog spec_l1Cur_one.call spec_l1Cur_one.qt spec_l1Cur_one.H N Try.f51 [.one (.ptr 0 0), ak_i] [.cells [.sh (.rows (.int .u8)), ck_i, .sh (.int .u64)]] [ak_b] [.cells [.sh (.rows (.int .u8)), ck_i, .sh (.int .u64)]] [⟨[], [], [], []⟩] ((), (n, ())) ((p0_0, (p0_1, (p0_2, ()))), ())
noncomputable def spec_l1Cur_one.S (N : Nat) : Say := ⟨false, 51, [.one (.ptr 0 0), ak_i], [.cells [.sh (.rows (.int .u8)), ck_i, .sh (.int .u64)]], [ak_b], [.cells [.sh (.rows (.int .u8)), ck_i, .sh (.int .u64)]], fun a s => spec_l1Cur_one N a.2.1 s.1.1 s.1.2.1 s.1.2.2.1⟩
set_option maxRecDepth 100000 in
theorem spec_l1Cur_one.eq (N : Nat) (n : Int) (p0_0 : (List Int)) (p0_1 : Int) (p0_2 : Int) : spec_l1Cur_one N n p0_0 p0_1 p0_2 =
 andK (spec_l1Cur_pick N n p0_0 p0_1 p0_2) fun u1 =>
 some (((decide (u1.1.1 = 0)), ()), ((u1.2.1.1, (u1.2.1.2.1, (u1.2.1.2.2.1, ()))), ())) := by kernel_rfl
set_option maxRecDepth 100000 in
theorem spec_l1Cur_one.say (N : Nat) : SayOk Try.prog (spec_l1Cur_one.S N) := sayOk_mk (N := N) (H := spec_l1Cur_one.H) (preps := [⟨[], [], [], []⟩]) (l := spec_l1Cur_one.says) (fn := Try.f51) (c := bodyOf Try.f51)
  (by kernel_rfl) (by kernel_rfl) (by kernel_rfl) (by kernel_rfl) (by kernel_rfl) (by kernel_rfl) (by kernel_rfl)
  (fun N => SayAll.cons (spec_l1Cur_pick.say N) (SayAll.nil)) (fun a s => by kernel_rfl)

/-! ### (*loop.example/g00206/spec.l1Cur).among: function 53 -/
noncomputable def spec_l1Cur_among.H : Hints := hintsOf []
noncomputable def spec_l1Cur_among.says (N : Nat) : List Say := [spec_l1Cur_pick.S N]
noncomputable def spec_l1Cur_among.call (N : Nat) : CallK := callBy (spec_l1Cur_among.says N)
noncomputable def spec_l1Cur_among.qt (N : Nat) : FuncId → List PV → Sig → Cl := qtBy (spec_l1Cur_among.says N)
noncomputable def spec_l1Cur_among (N : Nat) (list : (List Int)) (p0_0 : (List Int)) (p0_1 : Int) (p0_2 : Int) : Option ((Int × Unit) × (((List Int) × (Int × (Int × Unit))) × Unit)) :=
  ofFn Try.prog spec_l1Cur_among.call spec_l1Cur_among.qt spec_l1Cur_among.H N Try.f53 [.one (.ptr 0 0), .one (.sh (.rows (.int .i64)))] [.cells [.sh (.rows (.int .u8)), ck_i, .sh (.int .u64)]] [ak_i] [.cells [.sh (.rows (.int .u8)), ck_i, .sh (.int .u64)]] [⟨[], [], [], []⟩] ((), (list, ())) ((p0_0, (p0_1, (p0_2, ()))), ())
noncomputable def spec_l1Cur_among.S (N : Nat) : Say := ⟨false, 53, [.one (.ptr 0 0), .one (.sh (.rows (.int .i64)))], [.cells [.sh (.rows (.int .u8)), ck_i, .sh (.int .u64)]], [ak_i], [.cells [.sh (.rows (.int .u8)), ck_i, .sh (.int .u64)]], fun a s => spec_l1Cur_among N a.2.1 s.1.1 s.1.2.1 s.1.2.2.1⟩
set_option maxRecDepth 100000 in
theorem spec_l1Cur_among.eq (N : Nat) (list : (List Int)) (p0_0 : (List Int)) (p0_1 : Int) (p0_2 : Int) : spec_l1Cur_among N list p0_0 p0_1 p0_2 =
 andK (spec_l1Cur_pick N (list.length : Int) p0_0 p0_1 p0_2) fun u1 =>
 chk ((decide (0 ≤ u1.1.1)) && (decide (u1.1.1 < (list.length : Int)))) (
 some (((list.getD (Int.toNat u1.1.1) 0), ()), ((u1.2.1.1, (u1.2.1.2.1, (u1.2.1.2.2.1, ()))), ()))) := by kernel_rfl
set_option maxRecDepth 100000 in
theorem spec_l1Cur_among.say (N : Nat) : SayOk Try.prog (spec_l1Cur_among.S N) := sayOk_mk (N := N) (H := spec_l1Cur_among.H) (preps := [⟨[], [], [], []⟩]) (l := spec_l1Cur_among.says) (fn := Try.f53) (c := bodyOf Try.f53)
  (by kernel_rfl) (by kernel_rfl) (by kernel_rfl) (by kernel_rfl) (by kernel_rfl) (by kernel_rfl) (by kernel_rfl)
  (fun N => SayAll.cons (spec_l1Cur_pick.say N) (SayAll.nil)) (fun a s => by kernel_rfl)

/-! ### (*loop.example/g00206/spec.l1Cur).sizedBytes: function 52 -/
noncomputable def spec_l1Cur_sizedBytes.H : Hints := hintsOf [(2000003, .loop ⟨.normal, [10], [0, 5, 11], [.one (.ptr 0 0), .one (.own 1), ak_i], [.cells [.sh (.rows (.int .u8)), ck_i, .sh (.int .u64)], .rows (.int .u8)], [⟨[], [], [], []⟩]⟩ [⟨(.exit 0), [], [5], [.one (.own 1)], [.cells [.sh (.rows (.int .u8)), ck_i, .sh (.int .u64)], .rows (.int .u8)], [⟨[], [], [], []⟩]⟩])]
noncomputable def spec_l1Cur_sizedBytes.says (N : Nat) : List Say := [spec_l1Cur_pick.S N]
noncomputable def spec_l1Cur_sizedBytes.call (N : Nat) : CallK := callBy (spec_l1Cur_sizedBytes.says N)
noncomputable def spec_l1Cur_sizedBytes.qt (N : Nat) : FuncId → List PV → Sig → Cl := qtBy (spec_l1Cur_sizedBytes.says N)
noncomputable def spec_l1Cur_sizedBytes.l0.hd : Alt := ⟨.normal, [10], [0, 5, 11], [.one (.ptr 0 0), .one (.own 1), ak_i], [.cells [.sh (.rows (.int .u8)), ck_i, .sh (.int .u64)], .rows (.int .u8)], [⟨[], [], [], []⟩]⟩
noncomputable def spec_l1Cur_sizedBytes.l0.outs : List Alt := [⟨(.exit 0), [], [5], [.one (.own 1)], [.cells [.sh (.rows (.int .u8)), ck_i, .sh (.int .u64)], .rows (.int .u8)], [⟨[], [], [], []⟩]⟩]
noncomputable def spec_l1Cur_sizedBytes.l0 (N : Nat) (t10 : Int) (t11 : Int) (p0_01 : (List Int)) (p0_11 : Int) (p0_21 : Int) (p1 : (List Int)) : Option ((Unit × Unit) × (((List Int) × (Int × (Int × Unit))) × ((List Int) × Unit))) :=
  loopK Try.prog spec_l1Cur_sizedBytes.call spec_l1Cur_sizedBytes.qt spec_l1Cur_sizedBytes.H (codeAt (bodyOf Try.f52) [1, 1, 0, 1, 0, 0]) 2 spec_l1Cur_sizedBytes.l0.hd spec_l1Cur_sizedBytes.l0.outs [(10, .v (.int .i64 t10))] N (((), ((), (t11, ()))), ((p0_01, (p0_11, (p0_21, ()))), (p1, ())))
noncomputable def spec_l1Cur_sizedBytes (N : Nat) (n : Int) (p0_0 : (List Int)) (p0_1 : Int) (p0_2 : Int) : Option ((Unit × Unit) × (((List Int) × (Int × (Int × Unit))) × ((List Int) × Unit))) :=
  ofFn Try.prog spec_l1Cur_sizedBytes.call spec_l1Cur_sizedBytes.qt spec_l1Cur_sizedBytes.H N Try.f52 [.one (.ptr 0 0), ak_i] [.cells [.sh (.rows (.int .u8)), ck_i, .sh (.int .u64)]] [.one (.own 1)] [.cells [.sh (.rows (.int .u8)), ck_i, .sh (.int .u64)], .rows (.int .u8)] [⟨[], [], [], [1]⟩] ((), (n, ())) ((p0_0, (p0_1, (p0_2, ()))), ())
noncomputable def spec_l1Cur_sizedBytes.S (N : Nat) : Say := ⟨false, 52, [.one (.ptr 0 0), ak_i], [.cells [.sh (.rows (.int .u8)), ck_i, .sh (.int .u64)]], [.one (.own 1)], [.cells [.sh (.rows (.int .u8)), ck_i, .sh (.int .u64)], .rows (.int .u8)], fun a s => spec_l1Cur_sizedBytes N a.2.1 s.1.1 s.1.2.1 s.1.2.2.1⟩
set_option maxRecDepth 100000 in
theorem spec_l1Cur_sizedBytes.l0.eq (N : Nat) (t10 : Int) (t11 : Int) (p0_01 : (List Int)) (p0_11 : Int) (p0_21 : Int) (p1 : (List Int)) : spec_l1Cur_sizedBytes.l0 (N + 1) t10 t11 p0_01 p0_11 p0_21 p1 =
 sel (decide (t11 < t10))
  (
  andK (spec_l1Cur_pick N 256 p0_01 p0_11 p0_21) fun u1 =>
  chk ((decide (0 ≤ t11)) && (decide (t11 < (p1.length : Int)))) (
  spec_l1Cur_sizedBytes.l0 N t10 (IntKind.i64.wrap (t11 + 1)) u1.2.1.1 u1.2.1.2.1 u1.2.1.2.2.1 (p1.set (Int.toNat t11) (IntKind.u8.wrap u1.1.1))))
  (
  some ((((), ()), ((p0_01, (p0_11, (p0_21, ()))), (p1, ()))))) := by kernel_rfl
set_option maxRecDepth 100000 in
theorem spec_l1Cur_sizedBytes.eq (N : Nat) (n : Int) (p0_0 : (List Int)) (p0_1 : Int) (p0_2 : Int) : spec_l1Cur_sizedBytes N n p0_0 p0_1 p0_2 =
 chk ((decide (0 ≤ n)) && ((smallI n) && (decide (n = n)))) (
 andK (spec_l1Cur_sizedBytes.l0 N ((List.replicate (Int.toNat n) (0 : Int)).length : Int) 0 p0_0 p0_1 p0_2 (List.replicate (Int.toNat n) (0 : Int))) fun l2 =>
 some (((), ()), ((l2.2.1.1, (l2.2.1.2.1, (l2.2.1.2.2.1, ()))), (l2.2.2.1, ())))) := by kernel_rfl
set_option maxRecDepth 100000 in
theorem spec_l1Cur_sizedBytes.say (N : Nat) : SayOk Try.prog (spec_l1Cur_sizedBytes.S N) := sayOk_mk (N := N) (H := spec_l1Cur_sizedBytes.H) (preps := [⟨[], [], [], [1]⟩]) (l := spec_l1Cur_sizedBytes.says) (fn := Try.f52) (c := bodyOf Try.f52)
  (by kernel_rfl) (by kernel_rfl) (by kernel_rfl) (by kernel_rfl) (by kernel_rfl) (by kernel_rfl) (by kernel_rfl)
  (fun N => SayAll.cons (spec_l1Cur_pick.say N) (SayAll.nil)) (fun a s => by kernel_rfl)

/-! ### (*loop.example/g00206/spec.l1Cur).block: function 22 -/
noncomputable def spec_l1Cur_block.H : Hints := hintsOf []
noncomputable def spec_l1Cur_block.says (N : Nat) : List Say := [spec_l1Cur_one.S N, spec_l1Cur_among.S N, spec_l1Cur_sizedBytes.S N]
noncomputable def spec_l1Cur_block.call (N : Nat) : CallK := callBy (spec_l1Cur_block.says N)
noncomputable def spec_l1Cur_block.qt (N : Nat) : FuncId → List PV → Sig → Cl := qtBy (spec_l1Cur_block.says N)
noncomputable def spec_l1Cur_block (N : Nat) (p0_0 : (List Int)) (p0_1 : Int) (p0_2 : Int) : Option ((ByteArray × Unit) × (((List Int) × (Int × (Int × Unit))) × Unit)) :=
  ofFn Try.prog spec_l1Cur_block.call spec_l1Cur_block.qt spec_l1Cur_block.H N Try.f22 [.one (.ptr 0 0)] [.cells [.sh (.rows (.int .u8)), ck_i, .sh (.int .u64)]] [ak_s] [.cells [.sh (.rows (.int .u8)), ck_i, .sh (.int .u64)]] [⟨[], [], [], []⟩] ((), ()) ((p0_0, (p0_1, (p0_2, ()))), ())
noncomputable def spec_l1Cur_block.S (N : Nat) : Say := ⟨false, 22, [.one (.ptr 0 0)], [.cells [.sh (.rows (.int .u8)), ck_i, .sh (.int .u64)]], [ak_s], [.cells [.sh (.rows (.int .u8)), ck_i, .sh (.int .u64)]], fun a s => spec_l1Cur_block N s.1.1 s.1.2.1 s.1.2.2.1⟩
set_option maxRecDepth 100000 in
theorem spec_l1Cur_block.eq (N : Nat) (p0_0 : (List Int)) (p0_1 : Int) (p0_2 : Int) : spec_l1Cur_block N p0_0 p0_1 p0_2 =
 andK (spec_l1Cur_one N 30 p0_0 p0_1 p0_2) fun u1 =>
 sel u1.1.1
  (
  andK (spec_l1Cur_among N [0, 15, 17] u1.2.1.1 u1.2.1.2.1 u1.2.1.2.2.1) fun u2 =>
  andK (spec_l1Cur_sizedBytes N u2.1.1 u2.2.1.1 u2.2.1.2.1 u2.2.1.2.2.1) fun u3 =>
  some (((strL u3.2.2.1), ()), ((u3.2.1.1, (u3.2.1.2.1, (u3.2.1.2.2.1, ()))), ())))
  (
  andK (spec_l1Cur_one N 8 u1.2.1.1 u1.2.1.2.1 u1.2.1.2.2.1) fun u4 =>
  sel u4.1.1
   (
   some (((strL (List.replicate 16 (0 : Int))), ()), ((u4.2.1.1, (u4.2.1.2.1, (u4.2.1.2.2.1, ()))), ())))
   (
   andK (spec_l1Cur_sizedBytes N 16 u4.2.1.1 u4.2.1.2.1 u4.2.1.2.2.1) fun u5 =>
   some (((strL u5.2.2.1), ()), ((u5.2.1.1, (u5.2.1.2.1, (u5.2.1.2.2.1, ()))), ())))) := by kernel_rfl
set_option maxRecDepth 100000 in
theorem spec_l1Cur_block.say (N : Nat) : SayOk Try.prog (spec_l1Cur_block.S N) := sayOk_mk (N := N) (H := spec_l1Cur_block.H) (preps := [⟨[], [], [], []⟩]) (l := spec_l1Cur_block.says) (fn := Try.f22) (c := bodyOf Try.f22)
  (by kernel_rfl) (by kernel_rfl) (by kernel_rfl) (by kernel_rfl) (by kernel_rfl) (by kernel_rfl) (by kernel_rfl)
  (fun N => SayAll.cons (spec_l1Cur_one.say N) (SayAll.cons (spec_l1Cur_among.say N) (SayAll.cons (spec_l1Cur_sizedBytes.say N) (SayAll.nil)))) (fun a s => by kernel_rfl)

/-! ### (*loop.example/g00206/spec.l1Cur).nonce: function 23 -/
noncomputable def spec_l1Cur_nonce.H : Hints := hintsOf []
noncomputable def spec_l1Cur_nonce.says (N : Nat) : List Say := [spec_l1Cur_one.S N, spec_l1Cur_pick.S N, spec_l1Cur_sizedBytes.S N]
noncomputable def spec_l1Cur_nonce.call (N : Nat) : CallK := callBy (spec_l1Cur_nonce.says N)
noncomputable def spec_l1Cur_nonce.qt (N : Nat) : FuncId → List PV → Sig → Cl := qtBy (spec_l1Cur_nonce.says N)
noncomputable def spec_l1Cur_nonce (N : Nat) (p0_0 : (List Int)) (p0_1 : Int) (p0_2 : Int) : Option ((ByteArray × Unit) × (((List Int) × (Int × (Int × Unit))) × Unit)) :=
  ofFn Try.prog spec_l1Cur_nonce.call spec_l1Cur_nonce.qt spec_l1Cur_nonce.H N Try.f23 [.one (.ptr 0 0)] [.cells [.sh (.rows (.int .u8)), ck_i, .sh (.int .u64)]] [ak_s] [.cells [.sh (.rows (.int .u8)), ck_i, .sh (.int .u64)]] [⟨[], [], [], []⟩] ((), ()) ((p0_0, (p0_1, (p0_2, ()))), ())
noncomputable def spec_l1Cur_nonce.S (N : Nat) : Say := ⟨false, 23, [.one (.ptr 0 0)], [.cells [.sh (.rows (.int .u8)), ck_i, .sh (.int .u64)]], [ak_s], [.cells [.sh (.rows (.int .u8)), ck_i, .sh (.int .u64)]], fun a s => spec_l1Cur_nonce N s.1.1 s.1.2.1 s.1.2.2.1⟩
set_option maxRecDepth 100000 in
theorem spec_l1Cur_nonce.eq (N : Nat) (p0_0 : (List Int)) (p0_1 : Int) (p0_2 : Int) : spec_l1Cur_nonce N p0_0 p0_1 p0_2 =
 andK (spec_l1Cur_one N 30 p0_0 p0_1 p0_2) fun u1 =>
 sel u1.1.1
  (
  andK (spec_l1Cur_pick N 2 u1.2.1.1 u1.2.1.2.1 u1.2.1.2.2.1) fun u2 =>
  andK (spec_l1Cur_sizedBytes N (IntKind.i64.wrap (11 + (IntKind.i64.wrap (2 * u2.1.1)))) u2.2.1.1 u2.2.1.2.1 u2.2.1.2.2.1) fun u3 =>
  some (((strL u3.2.2.1), ()), ((u3.2.1.1, (u3.2.1.2.1, (u3.2.1.2.2.1, ()))), ())))
  (
  andK (spec_l1Cur_sizedBytes N 12 u1.2.1.1 u1.2.1.2.1 u1.2.1.2.2.1) fun u4 =>
  some (((strL u4.2.2.1), ()), ((u4.2.1.1, (u4.2.1.2.1, (u4.2.1.2.2.1, ()))), ()))) := by kernel_rfl
set_option maxRecDepth 100000 in
theorem spec_l1Cur_nonce.say (N : Nat) : SayOk Try.prog (spec_l1Cur_nonce.S N) := sayOk_mk (N := N) (H := spec_l1Cur_nonce.H) (preps := [⟨[], [], [], []⟩]) (l := spec_l1Cur_nonce.says) (fn := Try.f23) (c := bodyOf Try.f23)
  (by kernel_rfl) (by kernel_rfl) (by kernel_rfl) (by kernel_rfl) (by kernel_rfl) (by kernel_rfl) (by kernel_rfl)
  (fun N => SayAll.cons (spec_l1Cur_one.say N) (SayAll.cons (spec_l1Cur_pick.say N) (SayAll.cons (spec_l1Cur_sizedBytes.say N) (SayAll.nil)))) (fun a s => by kernel_rfl)

/-! ### (*loop.example/g00206/spec.l1Cur).of: function 55 -/
noncomputable def spec_l1Cur_of.H : Hints := hintsOf []
noncomputable def spec_l1Cur_of.says (N : Nat) : List Say := [spec_l1Cur_pick.S N]
noncomputable def spec_l1Cur_of.call (N : Nat) : CallK := callBy (spec_l1Cur_of.says N)
noncomputable def spec_l1Cur_of.qt (N : Nat) : FuncId → List PV → Sig → Cl := qtBy (spec_l1Cur_of.says N)
noncomputable def spec_l1Cur_of (N : Nat) (list : (List ByteArray)) (p0_0 : (List Int)) (p0_1 : Int) (p0_2 : Int) : Option ((ByteArray × Unit) × (((List Int) × (Int × (Int × Unit))) × Unit)) :=
  ofFn Try.prog spec_l1Cur_of.call spec_l1Cur_of.qt spec_l1Cur_of.H N Try.f55 [.one (.ptr 0 0), .one (.sh (.rows .str))] [.cells [.sh (.rows (.int .u8)), ck_i, .sh (.int .u64)]] [ak_s] [.cells [.sh (.rows (.int .u8)), ck_i, .sh (.int .u64)]] [⟨[], [], [], []⟩] ((), (list, ())) ((p0_0, (p0_1, (p0_2, ()))), ())
noncomputable def spec_l1Cur_of.S (N : Nat) : Say := ⟨false, 55, [.one (.ptr 0 0), .one (.sh (.rows .str))], [.cells [.sh (.rows (.int .u8)), ck_i, .sh (.int .u64)]], [ak_s], [.cells [.sh (.rows (.int .u8)), ck_i, .sh (.int .u64)]], fun a s => spec_l1Cur_of N a.2.1 s.1.1 s.1.2.1 s.1.2.2.1⟩
set_option maxRecDepth 100000 in
theorem spec_l1Cur_of.eq (N : Nat) (list : (List ByteArray)) (p0_0 : (List Int)) (p0_1 : Int) (p0_2 : Int) : spec_l1Cur_of N list p0_0 p0_1 p0_2 =
 andK (spec_l1Cur_pick N (list.length : Int) p0_0 p0_1 p0_2) fun u1 =>
 chk ((decide (0 ≤ u1.1.1)) && (decide (u1.1.1 < (list.length : Int)))) (
 some (((list.getD (Int.toNat u1.1.1) (⟨#[]⟩ : ByteArray)), ()), ((u1.2.1.1, (u1.2.1.2.1, (u1.2.1.2.2.1, ()))), ()))) := by kernel_rfl
set_option maxRecDepth 100000 in
theorem spec_l1Cur_of.say (N : Nat) : SayOk Try.prog (spec_l1Cur_of.S N) := sayOk_mk (N := N) (H := spec_l1Cur_of.H) (preps := [⟨[], [], [], []⟩]) (l := spec_l1Cur_of.says) (fn := Try.f55) (c := bodyOf Try.f55)
  (by kernel_rfl) (by kernel_rfl) (by kernel_rfl) (by kernel_rfl) (by kernel_rfl) (by kernel_rfl) (by kernel_rfl)
  (fun N => SayAll.cons (spec_l1Cur_pick.say N) (SayAll.nil)) (fun a s => by kernel_rfl)

/-! ### (*loop.example/g00206/spec.l1Cur).address: function 24 -/
noncomputable def spec_l1Cur_address.H : Hints := hintsOf []
noncomputable def spec_l1Cur_address.says (N : Nat) : List Say := [spec_l1Cur_one.S N, spec_l1Cur_among.S N, spec_l1Cur_sizedBytes.S N, spec_l1Cur_of.S N]
noncomputable def spec_l1Cur_address.call (N : Nat) : CallK := callBy (spec_l1Cur_address.says N)
noncomputable def spec_l1Cur_address.qt (N : Nat) : FuncId → List PV → Sig → Cl := qtBy (spec_l1Cur_address.says N)
noncomputable def spec_l1Cur_address (N : Nat) (p0_0 : (List Int)) (p0_1 : Int) (p0_2 : Int) : Option ((ByteArray × Unit) × (((List Int) × (Int × (Int × Unit))) × Unit)) :=
  ofFn Try.prog spec_l1Cur_address.call spec_l1Cur_address.qt spec_l1Cur_address.H N Try.f24 [.one (.ptr 0 0)] [.cells [.sh (.rows (.int .u8)), ck_i, .sh (.int .u64)]] [ak_s] [.cells [.sh (.rows (.int .u8)), ck_i, .sh (.int .u64)]] [⟨[], [], [], []⟩] ((), ()) ((p0_0, (p0_1, (p0_2, ()))), ())
noncomputable def spec_l1Cur_address.S (N : Nat) : Say := ⟨false, 24, [.one (.ptr 0 0)], [.cells [.sh (.rows (.int .u8)), ck_i, .sh (.int .u64)]], [ak_s], [.cells [.sh (.rows (.int .u8)), ck_i, .sh (.int .u64)]], fun a s => spec_l1Cur_address N s.1.1 s.1.2.1 s.1.2.2.1⟩
set_option maxRecDepth 100000 in
theorem spec_l1Cur_address.eq (N : Nat) (p0_0 : (List Int)) (p0_1 : Int) (p0_2 : Int) : spec_l1Cur_address N p0_0 p0_1 p0_2 =
 andK (spec_l1Cur_one N 40 p0_0 p0_1 p0_2) fun u1 =>
 sel u1.1.1
  (
  andK (spec_l1Cur_among N [0, 18, 19] u1.2.1.1 u1.2.1.2.1 u1.2.1.2.2.1) fun u2 =>
  andK (spec_l1Cur_sizedBytes N u2.1.1 u2.2.1.1 u2.2.1.2.1 u2.2.1.2.2.1) fun u3 =>
  some (((strL u3.2.2.1), ()), ((u3.2.1.1, (u3.2.1.2.1, (u3.2.1.2.2.1, ()))), ())))
  (
  andK (spec_l1Cur_of N [(⟨#[97, 100, 100, 114, 49]⟩ : ByteArray), (⟨#[97, 100, 100, 114, 50]⟩ : ByteArray), (⟨#[49, 48, 46, 48, 46, 48, 46, 49]⟩ : ByteArray)] u1.2.1.1 u1.2.1.2.1 u1.2.1.2.2.1) fun u4 =>
  some ((u4.1.1, ()), ((u4.2.1.1, (u4.2.1.2.1, (u4.2.1.2.2.1, ()))), ()))) := by kernel_rfl
set_option maxRecDepth 100000 in
theorem spec_l1Cur_address.say (N : Nat) : SayOk Try.prog (spec_l1Cur_address.S N) := sayOk_mk (N := N) (H := spec_l1Cur_address.H) (preps := [⟨[], [], [], []⟩]) (l := spec_l1Cur_address.says) (fn := Try.f24) (c := bodyOf Try.f24)
  (by kernel_rfl) (by kernel_rfl) (by kernel_rfl) (by kernel_rfl) (by kernel_rfl) (by kernel_rfl) (by kernel_rfl)
  (fun N => SayAll.cons (spec_l1Cur_one.say N) (SayAll.cons (spec_l1Cur_among.say N) (SayAll.cons (spec_l1Cur_sizedBytes.say N) (SayAll.cons (spec_l1Cur_of.say N) (SayAll.nil))))) (fun a s => by kernel_rfl)

/-! ### (*loop.example/g00206/spec.l1Cur).id: function 56 -/
noncomputable def spec_l1Cur_id.H : Hints := hintsOf [(4, .join [⟨.normal, [], [0, 3], [.one (.ptr 0 0), ak_i], [.cells [.sh (.rows (.int .u8)), ck_i, .sh (.int .u64)]], [⟨[], [], [], []⟩]⟩])]
noncomputable def spec_l1Cur_id.says (N : Nat) : List Say := [spec_l1Cur_pick.S N, spec_l1Cur_one.S N, spec_l1Cur_among.S N, spec_l1Cur_sizedBytes.S N]
noncomputable def spec_l1Cur_id.call (N : Nat) : CallK := callBy (spec_l1Cur_id.says N)
noncomputable def spec_l1Cur_id.qt (N : Nat) : FuncId → List PV → Sig → Cl := qtBy (spec_l1Cur_id.says N)
noncomputable def spec_l1Cur_id (N : Nat) (p0_0 : (List Int)) (p0_1 : Int) (p0_2 : Int) : Option ((ByteArray × Unit) × (((List Int) × (Int × (Int × Unit))) × Unit)) :=
  ofFn Try.prog spec_l1Cur_id.call spec_l1Cur_id.qt spec_l1Cur_id.H N Try.f56 [.one (.ptr 0 0)] [.cells [.sh (.rows (.int .u8)), ck_i, .sh (.int .u64)]] [ak_s] [.cells [.sh (.rows (.int .u8)), ck_i, .sh (.int .u64)]] [⟨[], [], [], []⟩] ((), ()) ((p0_0, (p0_1, (p0_2, ()))), ())
noncomputable def spec_l1Cur_id.S (N : Nat) : Say := ⟨false, 56, [.one (.ptr 0 0)], [.cells [.sh (.rows (.int .u8)), ck_i, .sh (.int .u64)]], [ak_s], [.cells [.sh (.rows (.int .u8)), ck_i, .sh (.int .u64)]], fun a s => spec_l1Cur_id N s.1.1 s.1.2.1 s.1.2.2.1⟩
set_option maxRecDepth 100000 in
theorem spec_l1Cur_id.eq (N : Nat) (p0_0 : (List Int)) (p0_1 : Int) (p0_2 : Int) : spec_l1Cur_id N p0_0 p0_1 p0_2 =
 andK (spec_l1Cur_pick N 10 p0_0 p0_1 p0_2) fun u1 =>
 andK (α := ((Unit × (Int × Unit)) × (((List Int) × (Int × (Int × Unit))) × Unit))) (
  andK (spec_l1Cur_one N 12 u1.2.1.1 u1.2.1.2.1 u1.2.1.2.2.1) fun u2 =>
  sel u2.1.1
   (
   andK (spec_l1Cur_among N [20, 21, 0] u2.2.1.1 u2.2.1.2.1 u2.2.1.2.2.1) fun u3 =>
   some ((((), (u3.1.1, ())), ((u3.2.1.1, (u3.2.1.2.1, (u3.2.1.2.2.1, ()))), ()))))
   (
   some ((((), (u1.1.1, ())), ((u2.2.1.1, (u2.2.1.2.1, (u2.2.1.2.2.1, ()))), ()))))) fun j4 =>
 andK (spec_l1Cur_sizedBytes N j4.1.2.1 j4.2.1.1 j4.2.1.2.1 j4.2.1.2.2.1) fun u5 =>
 some (((strL u5.2.2.1), ()), ((u5.2.1.1, (u5.2.1.2.1, (u5.2.1.2.2.1, ()))), ())) := by kernel_rfl
set_option maxRecDepth 100000 in
theorem spec_l1Cur_id.say (N : Nat) : SayOk Try.prog (spec_l1Cur_id.S N) := sayOk_mk (N := N) (H := spec_l1Cur_id.H) (preps := [⟨[], [], [], []⟩]) (l := spec_l1Cur_id.says) (fn := Try.f56) (c := bodyOf Try.f56)
  (by kernel_rfl) (by kernel_rfl) (by kernel_rfl) (by kernel_rfl) (by kernel_rfl) (by kernel_rfl) (by kernel_rfl)
  (fun N => SayAll.cons (spec_l1Cur_pick.say N) (SayAll.cons (spec_l1Cur_one.say N) (SayAll.cons (spec_l1Cur_among.say N) (SayAll.cons (spec_l1Cur_sizedBytes.say N) (SayAll.nil))))) (fun a s => by kernel_rfl)

/-! ### (*loop.example/g00206/spec.l1Cur).minted: function 25 -/
noncomputable def spec_l1Cur_minted.H : Hints := hintsOf []
noncomputable def spec_l1Cur_minted.says (N : Nat) : List Say := [spec_l1Cur_id.S N, spec_l1Cur_pick.S N, spec_l1Cur_one.S N, spec_l1Cur_among.S N]
noncomputable def spec_l1Cur_minted.call (N : Nat) : CallK := callBy (spec_l1Cur_minted.says N)
noncomputable def spec_l1Cur_minted.qt (N : Nat) : FuncId → List PV → Sig → Cl := qtBy (spec_l1Cur_minted.says N)
noncomputable def spec_l1Cur_minted (N : Nat) (p0_0 : (List Int)) (p0_1 : Int) (p0_2 : Int) : Option (((ByteArray × (Int × (Bool × Unit))) × Unit) × (((List Int) × (Int × (Int × Unit))) × Unit)) :=
  ofFn Try.prog spec_l1Cur_minted.call spec_l1Cur_minted.qt spec_l1Cur_minted.H N Try.f25 [.one (.ptr 0 0)] [.cells [.sh (.rows (.int .u8)), ck_i, .sh (.int .u64)]] [.agg [ck_s, ck_i, ck_b]] [.cells [.sh (.rows (.int .u8)), ck_i, .sh (.int .u64)]] [⟨[], [], [], []⟩] ((), ()) ((p0_0, (p0_1, (p0_2, ()))), ())
noncomputable def spec_l1Cur_minted.S (N : Nat) : Say := ⟨false, 25, [.one (.ptr 0 0)], [.cells [.sh (.rows (.int .u8)), ck_i, .sh (.int .u64)]], [.agg [ck_s, ck_i, ck_b]], [.cells [.sh (.rows (.int .u8)), ck_i, .sh (.int .u64)]], fun a s => spec_l1Cur_minted N s.1.1 s.1.2.1 s.1.2.2.1⟩
set_option maxRecDepth 100000 in
theorem spec_l1Cur_minted.eq (N : Nat) (p0_0 : (List Int)) (p0_1 : Int) (p0_2 : Int) : spec_l1Cur_minted N p0_0 p0_1 p0_2 =
 andK (spec_l1Cur_id N p0_0 p0_1 p0_2) fun u1 =>
 andK (spec_l1Cur_pick N 100 u1.2.1.1 u1.2.1.2.1 u1.2.1.2.2.1) fun u2 =>
 andK (spec_l1Cur_one N 3 u2.2.1.1 u2.2.1.2.1 u2.2.1.2.2.1) fun u3 =>
 andK (spec_l1Cur_one N 20 u3.2.1.1 u3.2.1.2.1 u3.2.1.2.2.1) fun u4 =>
 sel u4.1.1
  (
  andK (spec_l1Cur_among N [(-1), 1000000000, 1000000001] u4.2.1.1 u4.2.1.2.1 u4.2.1.2.2.1) fun u5 =>
  some (((u1.1.1, (u5.1.1, (u3.1.1, ()))), ()), ((u5.2.1.1, (u5.2.1.2.1, (u5.2.1.2.2.1, ()))), ())))
  (
  some (((u1.1.1, (u2.1.1, (u3.1.1, ()))), ()), ((u4.2.1.1, (u4.2.1.2.1, (u4.2.1.2.2.1, ()))), ()))) := by kernel_rfl
set_option maxRecDepth 100000 in
theorem spec_l1Cur_minted.say (N : Nat) : SayOk Try.prog (spec_l1Cur_minted.S N) := sayOk_mk (N := N) (H := spec_l1Cur_minted.H) (preps := [⟨[], [], [], []⟩]) (l := spec_l1Cur_minted.says) (fn := Try.f25) (c := bodyOf Try.f25)
  (by kernel_rfl) (by kernel_rfl) (by kernel_rfl) (by kernel_rfl) (by kernel_rfl) (by kernel_rfl) (by kernel_rfl)
  (fun N => SayAll.cons (spec_l1Cur_id.say N) (SayAll.cons (spec_l1Cur_pick.say N) (SayAll.cons (spec_l1Cur_one.say N) (SayAll.cons (spec_l1Cur_among.say N) (SayAll.nil))))) (fun a s => by kernel_rfl)

/-! ### loop.example/g00206/spec.DrawMintToken: function 6 -/
noncomputable def spec_DrawMintToken.H : Hints := hintsOf []
noncomputable def spec_DrawMintToken.says (N : Nat) : List Say := [spec_l1Cur_block.S N, spec_l1Cur_nonce.S N, spec_l1Cur_address.S N, spec_l1Cur_minted.S N]
noncomputable def spec_DrawMintToken.call (N : Nat) : CallK := callBy (spec_DrawMintToken.says N)
noncomputable def spec_DrawMintToken.qt (N : Nat) : FuncId → List PV → Sig → Cl := qtBy (spec_DrawMintToken.says N)
noncomputable def spec_DrawMintToken (N : Nat) (code : (List Int)) : Option ((ByteArray × (ByteArray × (ByteArray × ((ByteArray × (Int × (Bool × Unit))) × Unit)))) × Unit) :=
  ofFn Try.prog spec_DrawMintToken.call spec_DrawMintToken.qt spec_DrawMintToken.H N Try.f6 [.one (.sh (.rows (.int .u8)))] [] [ak_s, ak_s, ak_s, .agg [ck_s, ck_i, ck_b]] [] [⟨[], [], [], []⟩] (code, ()) ()
noncomputable def spec_DrawMintToken.S (N : Nat) : Say := ⟨false, 6, [.one (.sh (.rows (.int .u8)))], [], [ak_s, ak_s, ak_s, .agg [ck_s, ck_i, ck_b]], [], fun a s => spec_DrawMintToken N a.1⟩
set_option maxRecDepth 100000 in
theorem spec_DrawMintToken.eq (N : Nat) (code : (List Int)) : spec_DrawMintToken N code =
 andK (spec_l1Cur_block N code 0 0) fun u1 =>
 andK (spec_l1Cur_nonce N u1.2.1.1 u1.2.1.2.1 u1.2.1.2.2.1) fun u2 =>
 andK (spec_l1Cur_address N u2.2.1.1 u2.2.1.2.1 u2.2.1.2.2.1) fun u3 =>
 andK (spec_l1Cur_minted N u3.2.1.1 u3.2.1.2.1 u3.2.1.2.2.1) fun u4 =>
 some ((u1.1.1, (u2.1.1, (u3.1.1, ((u4.1.1.1, (u4.1.1.2.1, (u4.1.1.2.2.1, ()))), ())))), ()) := by kernel_rfl
set_option maxRecDepth 100000 in
theorem spec_DrawMintToken.say (N : Nat) : SayOk Try.prog (spec_DrawMintToken.S N) := sayOk_mk (N := N) (H := spec_DrawMintToken.H) (preps := [⟨[], [], [], []⟩]) (l := spec_DrawMintToken.says) (fn := Try.f6) (c := bodyOf Try.f6)
  (by kernel_rfl) (by kernel_rfl) (by kernel_rfl) (by kernel_rfl) (by kernel_rfl) (by kernel_rfl) (by kernel_rfl)
  (fun N => SayAll.cons (spec_l1Cur_block.say N) (SayAll.cons (spec_l1Cur_nonce.say N) (SayAll.cons (spec_l1Cur_address.say N) (SayAll.cons (spec_l1Cur_minted.say N) (SayAll.nil))))) (fun a s => by kernel_rfl)

/-! ### loop.example/g00206/impl.isKey: function 26 -/
noncomputable def impl_isKey.H : Hints := hintsOf []
noncomputable def impl_isKey.says (N : Nat) : List Say := []
noncomputable def impl_isKey.call (N : Nat) : CallK := callBy (impl_isKey.says N)
noncomputable def impl_isKey.qt (N : Nat) : FuncId → List PV → Sig → Cl := qtBy (impl_isKey.says N)
noncomputable def impl_isKey (N : Nat) (key : ByteArray) : Option ((Bool × Unit) × Unit) :=
  ofFn Try.prog impl_isKey.call impl_isKey.qt impl_isKey.H N Try.f26 [ak_s] [] [ak_b] [] [⟨[], [], [], []⟩] (key, ()) ()
noncomputable def impl_isKey.S (N : Nat) : Say := ⟨false, 26, [ak_s], [], [ak_b], [], fun a s => impl_isKey N a.1⟩
set_option maxRecDepth 100000 in
theorem impl_isKey.eq (N : Nat) (key : ByteArray) : impl_isKey N key =
 some (((decide ((key.size : Int) = 16)), ()), ()) := by kernel_rfl
set_option maxRecDepth 100000 in
theorem impl_isKey.say (N : Nat) : SayOk Try.prog (impl_isKey.S N) := sayOk_mk (N := N) (H := impl_isKey.H) (preps := [⟨[], [], [], []⟩]) (l := impl_isKey.says) (fn := Try.f26) (c := bodyOf Try.f26)
  (by kernel_rfl) (by kernel_rfl) (by kernel_rfl) (by kernel_rfl) (by kernel_rfl) (by kernel_rfl) (by kernel_rfl)
  (fun N => SayAll.nil) (fun a s => by kernel_rfl)

/-! ### loop.example/g00206/impl.in: function 35 -/
noncomputable def impl_in.H : Hints := hintsOf []
noncomputable def impl_in.says (N : Nat) : List Say := []
noncomputable def impl_in.call (N : Nat) : CallK := callBy (impl_in.says N)
noncomputable def impl_in.qt (N : Nat) : FuncId → List PV → Sig → Cl := qtBy (impl_in.says N)
noncomputable def impl_in (N : Nat) (n : Int) (low : Int) (high : Int) : Option ((Bool × Unit) × Unit) :=
  ofFn Try.prog impl_in.call impl_in.qt impl_in.H N Try.f35 [ak_i, ak_i, ak_i] [] [ak_b] [] [⟨[], [], [], []⟩] (n, (low, (high, ()))) ()
noncomputable def impl_in.S (N : Nat) : Say := ⟨false, 35, [ak_i, ak_i, ak_i], [], [ak_b], [], fun a s => impl_in N a.1 a.2.1 a.2.2.1⟩
set_option maxRecDepth 100000 in
theorem impl_in.eq (N : Nat) (n : Int) (low : Int) (high : Int) : impl_in N n low high =
 sel (decide (low ≤ n))
  (
  some (((decide (n ≤ high)), ()), ()))
  (
  some ((false, ()), ())) := by kernel_rfl
set_option maxRecDepth 100000 in
theorem impl_in.say (N : Nat) : SayOk Try.prog (impl_in.S N) := sayOk_mk (N := N) (H := impl_in.H) (preps := [⟨[], [], [], []⟩]) (l := impl_in.says) (fn := Try.f35) (c := bodyOf Try.f35)
  (by kernel_rfl) (by kernel_rfl) (by kernel_rfl) (by kernel_rfl) (by kernel_rfl) (by kernel_rfl) (by kernel_rfl)
  (fun N => SayAll.nil) (fun a s => by kernel_rfl)

/-! ### loop.example/g00206/impl.isAddress: function 27 -/
noncomputable def impl_isAddress.H : Hints := hintsOf []
noncomputable def impl_isAddress.says (N : Nat) : List Say := [impl_in.S N]
noncomputable def impl_isAddress.call (N : Nat) : CallK := callBy (impl_isAddress.says N)
noncomputable def impl_isAddress.qt (N : Nat) : FuncId → List PV → Sig → Cl := qtBy (impl_isAddress.says N)
noncomputable def impl_isAddress (N : Nat) (s : ByteArray) : Option ((Bool × Unit) × Unit) :=
  ofFn Try.prog impl_isAddress.call impl_isAddress.qt impl_isAddress.H N Try.f27 [ak_s] [] [ak_b] [] [⟨[], [], [], []⟩] (s, ()) ()
noncomputable def impl_isAddress.S (N : Nat) : Say := ⟨false, 27, [ak_s], [], [ak_b], [], fun a s => impl_isAddress N a.1⟩
set_option maxRecDepth 100000 in
theorem impl_isAddress.eq (N : Nat) (s : ByteArray) : impl_isAddress N s =
 andK (impl_in N (s.size : Int) 1 18) fun u1 =>
 some ((u1.1.1, ()), ()) := by kernel_rfl
set_option maxRecDepth 100000 in
theorem impl_isAddress.say (N : Nat) : SayOk Try.prog (impl_isAddress.S N) := sayOk_mk (N := N) (H := impl_isAddress.H) (preps := [⟨[], [], [], []⟩]) (l := impl_isAddress.says) (fn := Try.f27) (c := bodyOf Try.f27)
  (by kernel_rfl) (by kernel_rfl) (by kernel_rfl) (by kernel_rfl) (by kernel_rfl) (by kernel_rfl) (by kernel_rfl)
  (fun N => SayAll.cons (impl_in.say N) (SayAll.nil)) (fun a s => by kernel_rfl)

/-! ### loop.example/g00206/impl.isTime: function 34 -/
noncomputable def impl_isTime.H : Hints := hintsOf []
noncomputable def impl_isTime.says (N : Nat) : List Say := [impl_in.S N]
noncomputable def impl_isTime.call (N : Nat) : CallK := callBy (impl_isTime.says N)
noncomputable def impl_isTime.qt (N : Nat) : FuncId → List PV → Sig → Cl := qtBy (impl_isTime.says N)
noncomputable def impl_isTime (N : Nat) (n : Int) : Option ((Bool × Unit) × Unit) :=
  ofFn Try.prog impl_isTime.call impl_isTime.qt impl_isTime.H N Try.f34 [ak_i] [] [ak_b] [] [⟨[], [], [], []⟩] (n, ()) ()
noncomputable def impl_isTime.S (N : Nat) : Say := ⟨false, 34, [ak_i], [], [ak_b], [], fun a s => impl_isTime N a.1⟩
set_option maxRecDepth 100000 in
theorem impl_isTime.eq (N : Nat) (n : Int) : impl_isTime N n =
 andK (impl_in N n 0 1000000000) fun u1 =>
 some ((u1.1.1, ()), ()) := by kernel_rfl
set_option maxRecDepth 100000 in
theorem impl_isTime.say (N : Nat) : SayOk Try.prog (impl_isTime.S N) := sayOk_mk (N := N) (H := impl_isTime.H) (preps := [⟨[], [], [], []⟩]) (l := impl_isTime.says) (fn := Try.f34) (c := bodyOf Try.f34)
  (by kernel_rfl) (by kernel_rfl) (by kernel_rfl) (by kernel_rfl) (by kernel_rfl) (by kernel_rfl) (by kernel_rfl)
  (fun N => SayAll.cons (impl_in.say N) (SayAll.nil)) (fun a s => by kernel_rfl)

/-! ### loop.example/g00206/impl.goodMinted: function 28 -/
noncomputable def impl_goodMinted.H : Hints := hintsOf []
noncomputable def impl_goodMinted.says (N : Nat) : List Say := [impl_isTime.S N]
noncomputable def impl_goodMinted.call (N : Nat) : CallK := callBy (impl_goodMinted.says N)
noncomputable def impl_goodMinted.qt (N : Nat) : FuncId → List PV → Sig → Cl := qtBy (impl_goodMinted.says N)
noncomputable def impl_goodMinted (N : Nat) (m_0 : ByteArray) (m_1 : Int) (m_2 : Bool) : Option ((Bool × Unit) × Unit) :=
  ofFn Try.prog impl_goodMinted.call impl_goodMinted.qt impl_goodMinted.H N Try.f28 [.agg [ck_s, ck_i, ck_b]] [] [ak_b] [] [⟨[], [], [], []⟩] ((m_0, (m_1, (m_2, ()))), ()) ()
noncomputable def impl_goodMinted.S (N : Nat) : Say := ⟨false, 28, [.agg [ck_s, ck_i, ck_b]], [], [ak_b], [], fun a s => impl_goodMinted N a.1.1 a.1.2.1 a.1.2.2.1⟩
set_option maxRecDepth 100000 in
theorem impl_goodMinted.eq (N : Nat) (m_0 : ByteArray) (m_1 : Int) (m_2 : Bool) : impl_goodMinted N m_0 m_1 m_2 =
 sel (decide ((m_0.size : Int) ≤ 20))
  (
  andK (impl_isTime N m_1) fun u1 =>
  some ((u1.1.1, ()), ()))
  (
  some ((false, ()), ())) := by kernel_rfl
set_option maxRecDepth 100000 in
theorem impl_goodMinted.say (N : Nat) : SayOk Try.prog (impl_goodMinted.S N) := sayOk_mk (N := N) (H := impl_goodMinted.H) (preps := [⟨[], [], [], []⟩]) (l := impl_goodMinted.says) (fn := Try.f28) (c := bodyOf Try.f28)
  (by kernel_rfl) (by kernel_rfl) (by kernel_rfl) (by kernel_rfl) (by kernel_rfl) (by kernel_rfl) (by kernel_rfl)
  (fun N => SayAll.cons (impl_isTime.say N) (SayAll.nil)) (fun a s => by kernel_rfl)

/-! ### loop.example/g00206/impl.bigEndian: function 29 -/
noncomputable def impl_bigEndian.H : Hints := hintsOf [(2000003, .loop ⟨.normal, [], [0, 5, 6], [.one (.sh (.int .u64)), .one (.own 0), ak_i], [.rows (.int .u8)], [⟨[], [], [], []⟩]⟩ [⟨(.exit 0), [], [5], [.one (.own 0)], [.rows (.int .u8)], [⟨[], [], [], []⟩]⟩])]
noncomputable def impl_bigEndian.says (N : Nat) : List Say := []
noncomputable def impl_bigEndian.call (N : Nat) : CallK := callBy (impl_bigEndian.says N)
noncomputable def impl_bigEndian.qt (N : Nat) : FuncId → List PV → Sig → Cl := qtBy (impl_bigEndian.says N)
noncomputable def impl_bigEndian.l0.hd : Alt := ⟨.normal, [], [0, 5, 6], [.one (.sh (.int .u64)), .one (.own 0), ak_i], [.rows (.int .u8)], [⟨[], [], [], []⟩]⟩
noncomputable def impl_bigEndian.l0.outs : List Alt := [⟨(.exit 0), [], [5], [.one (.own 0)], [.rows (.int .u8)], [⟨[], [], [], []⟩]⟩]
noncomputable def impl_bigEndian.l0 (N : Nat) (n1 : Int) (i : Int) (p0 : (List Int)) : Option ((Unit × Unit) × ((List Int) × Unit)) :=
  loopK Try.prog impl_bigEndian.call impl_bigEndian.qt impl_bigEndian.H (codeAt (bodyOf Try.f29) [1, 1, 0, 1, 0, 0]) 1 impl_bigEndian.l0.hd impl_bigEndian.l0.outs [] N ((n1, ((), (i, ()))), (p0, ()))
noncomputable def impl_bigEndian (N : Nat) (n : Int) (many : Int) : Option ((ByteArray × Unit) × Unit) :=
  ofFn Try.prog impl_bigEndian.call impl_bigEndian.qt impl_bigEndian.H N Try.f29 [.one (.sh (.int .u64)), ak_i] [] [ak_s] [] [⟨[], [], [], []⟩] (n, (many, ())) ()
noncomputable def impl_bigEndian.S (N : Nat) : Say := ⟨false, 29, [.one (.sh (.int .u64)), ak_i], [], [ak_s], [], fun a s => impl_bigEndian N a.1 a.2.1⟩
set_option maxRecDepth 100000 in
theorem impl_bigEndian.l0.eq (N : Nat) (n1 : Int) (i : Int) (p0 : (List Int)) : impl_bigEndian.l0 (N + 1) n1 i p0 =
 sel (decide (0 ≤ i))
  (
  chk ((decide (0 ≤ i)) && (decide (i < (p0.length : Int)))) (
  impl_bigEndian.l0 N (shrI .u64 n1 8) (IntKind.i64.wrap (i - 1)) (p0.set (Int.toNat i) (IntKind.u8.wrap n1))))
  (
  some ((((), ()), (p0, ())))) := by kernel_rfl
set_option maxRecDepth 100000 in
theorem impl_bigEndian.eq (N : Nat) (n : Int) (many : Int) : impl_bigEndian N n many =
 chk ((decide (0 ≤ many)) && ((smallI many) && (decide (many = many)))) (
 andK (impl_bigEndian.l0 N n (IntKind.i64.wrap (many - 1)) (List.replicate (Int.toNat many) (0 : Int))) fun l1 =>
 some (((strL l1.2.1), ()), ())) := by kernel_rfl
set_option maxRecDepth 100000 in
theorem impl_bigEndian.say (N : Nat) : SayOk Try.prog (impl_bigEndian.S N) := sayOk_mk (N := N) (H := impl_bigEndian.H) (preps := [⟨[], [], [], []⟩]) (l := impl_bigEndian.says) (fn := Try.f29) (c := bodyOf Try.f29)
  (by kernel_rfl) (by kernel_rfl) (by kernel_rfl) (by kernel_rfl) (by kernel_rfl) (by kernel_rfl) (by kernel_rfl)
  (fun N => SayAll.nil) (fun a s => by kernel_rfl)

/-! ### loop.example/g00206/impl.sealOk: function 40 -/
noncomputable def impl_sealOk.H : Hints := hintsOf []
noncomputable def impl_sealOk.says (N : Nat) : List Say := [impl_isKey.S N]
noncomputable def impl_sealOk.call (N : Nat) : CallK := callBy (impl_sealOk.says N)
noncomputable def impl_sealOk.qt (N : Nat) : FuncId → List PV → Sig → Cl := qtBy (impl_sealOk.says N)
noncomputable def impl_sealOk (N : Nat) (key : ByteArray) (nonce : ByteArray) (beside : ByteArray) : Option ((Bool × Unit) × Unit) :=
  ofFn Try.prog impl_sealOk.call impl_sealOk.qt impl_sealOk.H N Try.f40 [ak_s, ak_s, ak_s] [] [ak_b] [] [⟨[], [], [], []⟩] (key, (nonce, (beside, ()))) ()
noncomputable def impl_sealOk.S (N : Nat) : Say := ⟨false, 40, [ak_s, ak_s, ak_s], [], [ak_b], [], fun a s => impl_sealOk N a.1 a.2.1 a.2.2.1⟩
set_option maxRecDepth 100000 in
theorem impl_sealOk.eq (N : Nat) (key : ByteArray) (nonce : ByteArray) (beside : ByteArray) : impl_sealOk N key nonce beside =
 andK (impl_isKey N key) fun u1 =>
 sel u1.1.1
  (
  sel (decide ((nonce.size : Int) = 12))
   (
   some (((decide ((beside.size : Int) ≤ 1500)), ()), ()))
   (
   some ((false, ()), ())))
  (
  some ((false, ()), ())) := by kernel_rfl
set_option maxRecDepth 100000 in
theorem impl_sealOk.say (N : Nat) : SayOk Try.prog (impl_sealOk.S N) := sayOk_mk (N := N) (H := impl_sealOk.H) (preps := [⟨[], [], [], []⟩]) (l := impl_sealOk.says) (fn := Try.f40) (c := bodyOf Try.f40)
  (by kernel_rfl) (by kernel_rfl) (by kernel_rfl) (by kernel_rfl) (by kernel_rfl) (by kernel_rfl) (by kernel_rfl)
  (fun N => SayAll.cons (impl_isKey.say N) (SayAll.nil)) (fun a s => by kernel_rfl)

/-! ### loop.example/g00206/impl.mulGf: function 63 -/
noncomputable def impl_mulGf.H : Hints := hintsOf [(5, .join [⟨.normal, [0, 1], [5], [.one (.sh (.int .u8))], [], [⟨[], [], [], []⟩]⟩]),
  (9, .join [⟨.normal, [1, 5], [0], [.one (.sh (.int .u8))], [], [⟨[], [], [], []⟩]⟩]),
  (2000002, .loop ⟨.normal, [], [0, 1, 5], [.one (.sh (.int .u8)), .one (.sh (.int .u8)), .one (.sh (.int .u8))], [], [⟨[], [], [], []⟩]⟩ [⟨(.exit 0), [], [5], [.one (.sh (.int .u8))], [], [⟨[], [], [], []⟩]⟩])]
noncomputable def impl_mulGf.says (N : Nat) : List Say := []
noncomputable def impl_mulGf.call (N : Nat) : CallK := callBy (impl_mulGf.says N)
noncomputable def impl_mulGf.qt (N : Nat) : FuncId → List PV → Sig → Cl := qtBy (impl_mulGf.says N)
noncomputable def impl_mulGf.l0.hd : Alt := ⟨.normal, [], [0, 1, 5], [.one (.sh (.int .u8)), .one (.sh (.int .u8)), .one (.sh (.int .u8))], [], [⟨[], [], [], []⟩]⟩
noncomputable def impl_mulGf.l0.outs : List Alt := [⟨(.exit 0), [], [5], [.one (.sh (.int .u8))], [], [⟨[], [], [], []⟩]⟩]
noncomputable def impl_mulGf.l0 (N : Nat) (a1 : Int) (b1 : Int) (out : Int) : Option ((Int × Unit) × Unit) :=
  loopK Try.prog impl_mulGf.call impl_mulGf.qt impl_mulGf.H (codeAt (bodyOf Try.f63) [1, 1, 0, 0, 0]) 0 impl_mulGf.l0.hd impl_mulGf.l0.outs [] N ((a1, (b1, (out, ()))), ())
noncomputable def impl_mulGf (N : Nat) (a : Int) (b : Int) : Option ((Int × Unit) × Unit) :=
  ofFn Try.prog impl_mulGf.call impl_mulGf.qt impl_mulGf.H N Try.f63 [.one (.sh (.int .u8)), .one (.sh (.int .u8))] [] [.one (.sh (.int .u8))] [] [⟨[], [], [], []⟩] (a, (b, ())) ()
noncomputable def impl_mulGf.S (N : Nat) : Say := ⟨false, 63, [.one (.sh (.int .u8)), .one (.sh (.int .u8))], [], [.one (.sh (.int .u8))], [], fun a s => impl_mulGf N a.1 a.2.1⟩
set_option maxRecDepth 100000 in
theorem impl_mulGf.l0.eq (N : Nat) (a1 : Int) (b1 : Int) (out : Int) : impl_mulGf.l0 (N + 1) a1 b1 out =
 sel (!(decide (b1 = 0)))
  (
  andK (α := ((Int × Unit) × Unit)) (
   sel (decide ((Go.bits .and .u8 b1 1) = 1))
    (
    some ((((Go.bits .xor .u8 out a1), ()), ())))
    (
    some (((out, ()), ())))) fun j1 =>
  andK (α := ((Int × Unit) × Unit)) (
   sel (!(decide ((Go.bits .and .u8 a1 128) = 0)))
    (
    some ((((Go.bits .xor .u8 (shlI .u8 a1 1) 27), ()), ())))
    (
    some ((((shlI .u8 a1 1), ()), ())))) fun j2 =>
  impl_mulGf.l0 N j2.1.1 (shrI .u8 b1 1) j1.1.1)
  (
  some (((out, ()), ()))) := by kernel_rfl
set_option maxRecDepth 100000 in
theorem impl_mulGf.eq (N : Nat) (a : Int) (b : Int) : impl_mulGf N a b =
 andK (impl_mulGf.l0 N a b 0) fun l3 =>
 some ((l3.1.1, ()), ()) := by kernel_rfl
set_option maxRecDepth 100000 in
theorem impl_mulGf.say (N : Nat) : SayOk Try.prog (impl_mulGf.S N) := sayOk_mk (N := N) (H := impl_mulGf.H) (preps := [⟨[], [], [], []⟩]) (l := impl_mulGf.says) (fn := Try.f63) (c := bodyOf Try.f63)
  (by kernel_rfl) (by kernel_rfl) (by kernel_rfl) (by kernel_rfl) (by kernel_rfl) (by kernel_rfl) (by kernel_rfl)
  (fun N => SayAll.nil) (fun a s => by kernel_rfl)

/-! ### loop.example/g00206/impl.inverseGf: function 96 -/
noncomputable def impl_inverseGf.H : Hints := hintsOf [(2000003, .loop ⟨.normal, [0], [3, 4], [.one (.sh (.int .u8)), ak_i], [], [⟨[], [], [], []⟩]⟩ [⟨(.exit 0), [], [3], [.one (.sh (.int .u8))], [], [⟨[], [], [], []⟩]⟩])]
noncomputable def impl_inverseGf.says (N : Nat) : List Say := [impl_mulGf.S N]
noncomputable def impl_inverseGf.call (N : Nat) : CallK := callBy (impl_inverseGf.says N)
noncomputable def impl_inverseGf.qt (N : Nat) : FuncId → List PV → Sig → Cl := qtBy (impl_inverseGf.says N)
noncomputable def impl_inverseGf.l0.hd : Alt := ⟨.normal, [0], [3, 4], [.one (.sh (.int .u8)), ak_i], [], [⟨[], [], [], []⟩]⟩
noncomputable def impl_inverseGf.l0.outs : List Alt := [⟨(.exit 0), [], [3], [.one (.sh (.int .u8))], [], [⟨[], [], [], []⟩]⟩]
noncomputable def impl_inverseGf.l0 (N : Nat) (a1 : Int) (out : Int) (t4 : Int) : Option ((Int × Unit) × Unit) :=
  loopK Try.prog impl_inverseGf.call impl_inverseGf.qt impl_inverseGf.H (codeAt (bodyOf Try.f96) [1, 1, 0, 1, 0, 0]) 0 impl_inverseGf.l0.hd impl_inverseGf.l0.outs [(0, .v (.int .u8 a1))] N ((out, (t4, ())), ())
noncomputable def impl_inverseGf (N : Nat) (a : Int) : Option ((Int × Unit) × Unit) :=
  ofFn Try.prog impl_inverseGf.call impl_inverseGf.qt impl_inverseGf.H N Try.f96 [.one (.sh (.int .u8))] [] [.one (.sh (.int .u8))] [] [⟨[], [], [], []⟩] (a, ()) ()
noncomputable def impl_inverseGf.S (N : Nat) : Say := ⟨false, 96, [.one (.sh (.int .u8))], [], [.one (.sh (.int .u8))], [], fun a s => impl_inverseGf N a.1⟩
set_option maxRecDepth 100000 in
theorem impl_inverseGf.l0.eq (N : Nat) (a1 : Int) (out : Int) (t4 : Int) : impl_inverseGf.l0 (N + 1) a1 out t4 =
 sel (decide (t4 < 254))
  (
  andK (impl_mulGf N out a1) fun u1 =>
  impl_inverseGf.l0 N a1 u1.1.1 (IntKind.i64.wrap (t4 + 1)))
  (
  some (((out, ()), ()))) := by kernel_rfl
set_option maxRecDepth 100000 in
theorem impl_inverseGf.eq (N : Nat) (a : Int) : impl_inverseGf N a =
 andK (impl_inverseGf.l0 N a 1 0) fun l2 =>
 some ((l2.1.1, ()), ()) := by kernel_rfl
set_option maxRecDepth 100000 in
theorem impl_inverseGf.say (N : Nat) : SayOk Try.prog (impl_inverseGf.S N) := sayOk_mk (N := N) (H := impl_inverseGf.H) (preps := [⟨[], [], [], []⟩]) (l := impl_inverseGf.says) (fn := Try.f96) (c := bodyOf Try.f96)
  (by kernel_rfl) (by kernel_rfl) (by kernel_rfl) (by kernel_rfl) (by kernel_rfl) (by kernel_rfl) (by kernel_rfl)
  (fun N => SayAll.cons (impl_mulGf.say N) (SayAll.nil)) (fun a s => by kernel_rfl)

/-! ### math/bits.RotateLeft8: function 97 -/
noncomputable def math_bits_RotateLeft8.H : Hints := hintsOf []
noncomputable def math_bits_RotateLeft8.says (N : Nat) : List Say := []
noncomputable def math_bits_RotateLeft8.call (N : Nat) : CallK := callBy (math_bits_RotateLeft8.says N)
noncomputable def math_bits_RotateLeft8.qt (N : Nat) : FuncId → List PV → Sig → Cl := qtBy (math_bits_RotateLeft8.says N)
noncomputable def math_bits_RotateLeft8 (N : Nat) (x : Int) (k : Int) : Option ((Int × Unit) × Unit) :=
  ofFn Try.prog math_bits_RotateLeft8.call math_bits_RotateLeft8.qt math_bits_RotateLeft8.H N Try.f97 [.one (.sh (.int .u8)), ak_i] [] [.one (.sh (.int .u8))] [] [⟨[], [], [], []⟩] (x, (k, ())) ()
noncomputable def math_bits_RotateLeft8.S (N : Nat) : Say := ⟨false, 97, [.one (.sh (.int .u8)), ak_i], [], [.one (.sh (.int .u8))], [], fun a s => math_bits_RotateLeft8 N a.1 a.2.1⟩
set_option maxRecDepth 100000 in
theorem math_bits_RotateLeft8.eq (N : Nat) (x : Int) (k : Int) : math_bits_RotateLeft8 N x k =
 chk (decide (0 ≤ (Go.bits .and .u64 (IntKind.u64.wrap k) 7))) (
 chk (decide (0 ≤ (IntKind.u64.wrap (8 - (Go.bits .and .u64 (IntKind.u64.wrap k) 7))))) (
 some (((Go.bits .or .u8 (shlI .u8 x (Go.bits .and .u64 (IntKind.u64.wrap k) 7)) (shrI .u8 x (IntKind.u64.wrap (8 - (Go.bits .and .u64 (IntKind.u64.wrap k) 7))))), ()), ()))) := by kernel_rfl
set_option maxRecDepth 100000 in
theorem math_bits_RotateLeft8.say (N : Nat) : SayOk Try.prog (math_bits_RotateLeft8.S N) := sayOk_mk (N := N) (H := math_bits_RotateLeft8.H) (preps := [⟨[], [], [], []⟩]) (l := math_bits_RotateLeft8.says) (fn := Try.f97) (c := bodyOf Try.f97)
  (by kernel_rfl) (by kernel_rfl) (by kernel_rfl) (by kernel_rfl) (by kernel_rfl) (by kernel_rfl) (by kernel_rfl)
  (fun N => SayAll.nil) (fun a s => by kernel_rfl)

/-! ### loop.example/g00206/impl.subByte: function 80 -/
noncomputable def impl_subByte.H : Hints := hintsOf [(2000004, .loop ⟨.normal, [3], [4, 5], [.one (.sh (.int .u8)), ak_i], [], [⟨[], [], [], []⟩]⟩ [⟨(.exit 0), [], [4], [.one (.sh (.int .u8))], [], [⟨[], [], [], []⟩]⟩])]
noncomputable def impl_subByte.says (N : Nat) : List Say := [impl_inverseGf.S N, math_bits_RotateLeft8.S N]
noncomputable def impl_subByte.call (N : Nat) : CallK := callBy (impl_subByte.says N)
noncomputable def impl_subByte.qt (N : Nat) : FuncId → List PV → Sig → Cl := qtBy (impl_subByte.says N)
noncomputable def impl_subByte.l0.hd : Alt := ⟨.normal, [3], [4, 5], [.one (.sh (.int .u8)), ak_i], [], [⟨[], [], [], []⟩]⟩
noncomputable def impl_subByte.l0.outs : List Alt := [⟨(.exit 0), [], [4], [.one (.sh (.int .u8))], [], [⟨[], [], [], []⟩]⟩]
noncomputable def impl_subByte.l0 (N : Nat) (c : Int) (out : Int) (i : Int) : Option ((Int × Unit) × Unit) :=
  loopK Try.prog impl_subByte.call impl_subByte.qt impl_subByte.H (codeAt (bodyOf Try.f80) [1, 1, 1, 0, 1, 0, 0]) 0 impl_subByte.l0.hd impl_subByte.l0.outs [(3, .v (.int .u8 c))] N ((out, (i, ())), ())
noncomputable def impl_subByte (N : Nat) (b : Int) : Option ((Int × Unit) × Unit) :=
  ofFn Try.prog impl_subByte.call impl_subByte.qt impl_subByte.H N Try.f80 [.one (.sh (.int .u8))] [] [.one (.sh (.int .u8))] [] [⟨[], [], [], []⟩] (b, ()) ()
noncomputable def impl_subByte.S (N : Nat) : Say := ⟨false, 80, [.one (.sh (.int .u8))], [], [.one (.sh (.int .u8))], [], fun a s => impl_subByte N a.1⟩
set_option maxRecDepth 100000 in
theorem impl_subByte.l0.eq (N : Nat) (c : Int) (out : Int) (i : Int) : impl_subByte.l0 (N + 1) c out i =
 sel (decide (i < 5))
  (
  andK (math_bits_RotateLeft8 N c i) fun u2 =>
  impl_subByte.l0 N c (Go.bits .xor .u8 out u2.1.1) (IntKind.i64.wrap (i + 1)))
  (
  some (((out, ()), ()))) := by kernel_rfl
set_option maxRecDepth 100000 in
theorem impl_subByte.eq (N : Nat) (b : Int) : impl_subByte N b =
 andK (impl_inverseGf N b) fun u1 =>
 andK (impl_subByte.l0 N u1.1.1 (Go.bits .xor .u8 u1.1.1 99) 1) fun l3 =>
 some ((l3.1.1, ()), ()) := by kernel_rfl
set_option maxRecDepth 100000 in
theorem impl_subByte.say (N : Nat) : SayOk Try.prog (impl_subByte.S N) := sayOk_mk (N := N) (H := impl_subByte.H) (preps := [⟨[], [], [], []⟩]) (l := impl_subByte.says) (fn := Try.f80) (c := bodyOf Try.f80)
  (by kernel_rfl) (by kernel_rfl) (by kernel_rfl) (by kernel_rfl) (by kernel_rfl) (by kernel_rfl) (by kernel_rfl)
  (fun N => SayAll.cons (impl_inverseGf.say N) (SayAll.cons (math_bits_RotateLeft8.say N) (SayAll.nil))) (fun a s => by kernel_rfl)

/-! ### loop.example/g00206/impl.newBox: function 62 -/
noncomputable def impl_newBox.H : Hints := hintsOf [(2000003, .loop ⟨.normal, [], [1, 6], [.one (.apl 0 0 512), ak_i], [.rows (.int .u8)], [⟨[], [], [], []⟩]⟩ [⟨(.exit 0), [], [1], [.one (.apl 0 0 512)], [.rows (.int .u8)], [⟨[], [], [], []⟩]⟩])]
noncomputable def impl_newBox.says (N : Nat) : List Say := [impl_subByte.S N]
noncomputable def impl_newBox.call (N : Nat) : CallK := callBy (impl_newBox.says N)
noncomputable def impl_newBox.qt (N : Nat) : FuncId → List PV → Sig → Cl := qtBy (impl_newBox.says N)
noncomputable def impl_newBox.l0.hd : Alt := ⟨.normal, [], [1, 6], [.one (.apl 0 0 512), ak_i], [.rows (.int .u8)], [⟨[], [], [], []⟩]⟩
noncomputable def impl_newBox.l0.outs : List Alt := [⟨(.exit 0), [], [1], [.one (.apl 0 0 512)], [.rows (.int .u8)], [⟨[], [], [], []⟩]⟩]
noncomputable def impl_newBox.l0 (N : Nat) (t6 : Int) (p0 : (List Int)) : Option ((Unit × Unit) × ((List Int) × Unit)) :=
  loopK Try.prog impl_newBox.call impl_newBox.qt impl_newBox.H (codeAt (bodyOf Try.f62) [1, 1, 0, 1, 0, 0]) 1 impl_newBox.l0.hd impl_newBox.l0.outs [] N (((), (t6, ())), (p0, ()))
noncomputable def impl_newBox (N : Nat) : Option ((Unit × Unit) × ((List Int) × Unit)) :=
  ofFn Try.prog impl_newBox.call impl_newBox.qt impl_newBox.H N Try.f62 [] [] [.one (.apl 0 0 512)] [.rows (.int .u8)] [⟨[], [], [], [0]⟩] () ()
noncomputable def impl_newBox.S (N : Nat) : Say := ⟨false, 62, [], [], [.one (.apl 0 0 512)], [.rows (.int .u8)], fun a s => impl_newBox N⟩
set_option maxRecDepth 100000 in
theorem impl_newBox.l0.eq (N : Nat) (t6 : Int) (p0 : (List Int)) : impl_newBox.l0 (N + 1) t6 p0 =
 sel (decide (t6 < 256))
  (
  andK (impl_subByte N (IntKind.u8.wrap t6)) fun u1 =>
  chk ((decide (0 ≤ t6)) && (decide (t6 < 256))) (
  chk ((decide (0 ≤ u1.1.1)) && (decide (u1.1.1 < 256))) (
  impl_newBox.l0 N (IntKind.i64.wrap (t6 + 1)) ((p0.set (0 + (Int.toNat t6)) u1.1.1).set (256 + (Int.toNat u1.1.1)) (IntKind.u8.wrap t6)))))
  (
  some ((((), ()), (p0, ())))) := by kernel_rfl
set_option maxRecDepth 100000 in
theorem impl_newBox.eq (N : Nat) : impl_newBox N =
 andK (impl_newBox.l0 N 0 (List.replicate 512 (0 : Int))) fun l2 =>
 some (((), ()), (l2.2.1, ())) := by kernel_rfl
set_option maxRecDepth 100000 in
theorem impl_newBox.say (N : Nat) : SayOk Try.prog (impl_newBox.S N) := sayOk_mk (N := N) (H := impl_newBox.H) (preps := [⟨[], [], [], [0]⟩]) (l := impl_newBox.says) (fn := Try.f62) (c := bodyOf Try.f62)
  (by kernel_rfl) (by kernel_rfl) (by kernel_rfl) (by kernel_rfl) (by kernel_rfl) (by kernel_rfl) (by kernel_rfl)
  (fun N => SayAll.cons (impl_subByte.say N) (SayAll.nil)) (fun a s => by kernel_rfl)

/-! ### loop.example/g00206/impl.cipherOf: function 41 -/
noncomputable def impl_cipherOf.H : Hints := hintsOf [(10, .join [⟨.normal, [5], [3, 4, 6], [.one (.ptr 2 0), .one (.sh (.int .u8)), .one (.apl 3 0 4)], [.rows (.int .u8), .rows (.int .u8), .cells [.apl 0 0 512, .own 1], .rows (.int .u8)], [⟨[], [], [], []⟩]⟩]),
  (2000011, .loop ⟨.normal, [4, 5, 76], [3, 77], [.one (.ptr 2 0), ak_i], [.rows (.int .u8), .rows (.int .u8), .cells [.apl 0 0 512, .own 1], .rows (.int .u8)], [⟨[], [], [], []⟩]⟩ [⟨(.exit 2), [4, 5], [3], [.one (.ptr 2 0)], [.rows (.int .u8), .rows (.int .u8), .cells [.apl 0 0 512, .own 1], .rows (.int .u8)], [⟨[], [], [], []⟩]⟩]),
  (2000004, .loop ⟨.normal, [], [3, 4, 5], [.one (.ptr 2 0), .one (.sh (.int .u8)), ak_i], [.rows (.int .u8), .rows (.int .u8), .cells [.apl 0 0 512, .own 1]], [⟨[], [], [], []⟩]⟩ [⟨(.exit 0), [], [3], [.one (.ptr 2 0)], [.rows (.int .u8), .rows (.int .u8), .cells [.apl 0 0 512, .own 1]], [⟨[], [], [], []⟩]⟩])]
noncomputable def impl_cipherOf.says (N : Nat) : List Say := [impl_newBox.S N, impl_mulGf.S N]
noncomputable def impl_cipherOf.call (N : Nat) : CallK := callBy (impl_cipherOf.says N)
noncomputable def impl_cipherOf.qt (N : Nat) : FuncId → List PV → Sig → Cl := qtBy (impl_cipherOf.says N)
noncomputable def impl_cipherOf.l0.hd : Alt := ⟨.normal, [], [3, 4, 5], [.one (.ptr 2 0), .one (.sh (.int .u8)), ak_i], [.rows (.int .u8), .rows (.int .u8), .cells [.apl 0 0 512, .own 1]], [⟨[], [], [], []⟩]⟩
noncomputable def impl_cipherOf.l0.outs : List Alt := [⟨(.exit 0), [], [3], [.one (.ptr 2 0)], [.rows (.int .u8), .rows (.int .u8), .cells [.apl 0 0 512, .own 1]], [⟨[], [], [], []⟩]⟩]
noncomputable def impl_cipherOf.l0 (N : Nat) (o : Int) (d : Int) (p0 : (List Int)) (p1 : (List Int)) : Option ((Unit × Unit) × ((List Int) × ((List Int) × ((Unit × (Unit × Unit)) × Unit)))) :=
  loopK Try.prog impl_cipherOf.call impl_cipherOf.qt impl_cipherOf.H (codeAt (bodyOf Try.f41) [1, 1, 1, 0, 1, 0, 0]) 3 impl_cipherOf.l0.hd impl_cipherOf.l0.outs [] N (((), (o, (d, ()))), (p0, (p1, (((), ((), ())), ()))))
noncomputable def impl_cipherOf.l1.hd : Alt := ⟨.normal, [4, 5, 76], [3, 77], [.one (.ptr 2 0), ak_i], [.rows (.int .u8), .rows (.int .u8), .cells [.apl 0 0 512, .own 1], .rows (.int .u8)], [⟨[], [], [], []⟩]⟩
noncomputable def impl_cipherOf.l1.outs : List Alt := [⟨(.exit 2), [4, 5], [3], [.one (.ptr 2 0)], [.rows (.int .u8), .rows (.int .u8), .cells [.apl 0 0 512, .own 1], .rows (.int .u8)], [⟨[], [], [], []⟩]⟩]
noncomputable def impl_cipherOf.l1 (N : Nat) (o1 : Int) (d1 : Int) (t76 : (List Int)) (t77 : Int) (p01 : (List Int)) (p11 : (List Int)) (p3 : (List Int)) : Option ((Unit × Unit) × ((List Int) × ((List Int) × ((Unit × (Unit × Unit)) × ((List Int) × Unit))))) :=
  loopK Try.prog impl_cipherOf.call impl_cipherOf.qt impl_cipherOf.H (codeAt (bodyOf Try.f41) [1, 1, 1, 0, 1, 0, 0, 1, 0, 0, 1, 1, 1, 0, 0]) 4 impl_cipherOf.l1.hd impl_cipherOf.l1.outs [(4, .v (.int .u8 o1)), (5, .v (.int .i64 d1)), (76, .arr .u8 t76)] N (((), (t77, ())), (p01, (p11, (((), ((), ())), (p3, ())))))
noncomputable def impl_cipherOf (N : Nat) (G : ByteArray) : Option ((Unit × Unit) × ((Unit × (Unit × Unit)) × ((List Int) × ((List Int) × Unit)))) :=
  ofFn Try.prog impl_cipherOf.call impl_cipherOf.qt impl_cipherOf.H N Try.f41 [ak_s] [] [.one (.ptr 0 0)] [.cells [.apl 1 0 512, .own 2], .rows (.int .u8), .rows (.int .u8)] [⟨[], [], [], [2, 0, 1]⟩] (G, ()) ()
noncomputable def impl_cipherOf.S (N : Nat) : Say := ⟨false, 41, [ak_s], [], [.one (.ptr 0 0)], [.cells [.apl 1 0 512, .own 2], .rows (.int .u8), .rows (.int .u8)], fun a s => impl_cipherOf N a.1⟩
set_option maxRecDepth 100000 in
theorem impl_cipherOf.l1.eq (N : Nat) (o1 : Int) (d1 : Int) (t76 : (List Int)) (t77 : Int) (p01 : (List Int)) (p11 : (List Int)) (p3 : (List Int)) : impl_cipherOf.l1 (N + 1) o1 d1 t76 t77 p01 p11 p3 =
 sel (decide (t77 < 4))
  (
  chk ((decide (0 ≤ t77)) && ((decide (t77 < 4)) && (decide (t77 < (t76.length : Int))))) (
  chk ((decide (0 ≤ (IntKind.i64.wrap ((IntKind.i64.wrap ((IntKind.i64.wrap (4 * d1)) - 16)) + t77)))) && (decide ((IntKind.i64.wrap ((IntKind.i64.wrap ((IntKind.i64.wrap (4 * d1)) - 16)) + t77)) < (p11.length : Int)))) (
  chk (decide (p11.length + 1 < most)) (
  impl_cipherOf.l1 N o1 d1 t76 (IntKind.i64.wrap (t77 + 1)) p01 (p11 ++ [(Go.bits .xor .u8 (p11.getD (Int.toNat (IntKind.i64.wrap ((IntKind.i64.wrap ((IntKind.i64.wrap (4 * d1)) - 16)) + t77))) 0) (t76.getD (Int.toNat t77) 0))]) p3))))
  (
  some ((((), ()), (p01, (p11, (((), ((), ())), (p3, ()))))))) := by kernel_rfl
set_option maxRecDepth 100000 in
theorem impl_cipherOf.l0.eq (N : Nat) (o : Int) (d : Int) (p0 : (List Int)) (p1 : (List Int)) : impl_cipherOf.l0 (N + 1) o d p0 p1 =
 sel (decide (d < 44))
  (
  chk ((decide (0 ≤ (IntKind.i64.wrap ((IntKind.i64.wrap (4 * d)) - 4)))) && ((decide ((IntKind.i64.wrap ((IntKind.i64.wrap (4 * d)) - 4)) ≤ (p1.length : Int))) && (decide ((p1.length : Int) ≤ (p1.length : Int))))) (
  chk (decide (4 ≤ ((Int.toNat (p1.length : Int)) - (Int.toNat (IntKind.i64.wrap ((IntKind.i64.wrap (4 * d)) - 4)))))) (
  chk ((decide ((List.replicate 4 (0 : Int)).length = 4)) && (decide (((p1.drop (Int.toNat (IntKind.i64.wrap ((IntKind.i64.wrap (4 * d)) - 4)))).take 4).length = 4))) (
  andK (α := ((Unit × (Int × (Unit × Unit))) × ((List Int) × ((List Int) × ((Unit × (Unit × Unit)) × ((List Int) × Unit)))))) (
   sel (decide ((Int.tmod d 4) = 0))
    (
    chk ((decide (0 ≤ (((p1.drop (Int.toNat (IntKind.i64.wrap ((IntKind.i64.wrap (4 * d)) - 4)))).take 4).getD 1 0))) && (decide ((((p1.drop (Int.toNat (IntKind.i64.wrap ((IntKind.i64.wrap (4 * d)) - 4)))).take 4).getD 1 0) < 256))) (
    chk ((decide (0 ≤ (((p1.drop (Int.toNat (IntKind.i64.wrap ((IntKind.i64.wrap (4 * d)) - 4)))).take 4).getD 2 0))) && (decide ((((p1.drop (Int.toNat (IntKind.i64.wrap ((IntKind.i64.wrap (4 * d)) - 4)))).take 4).getD 2 0) < 256))) (
    chk ((decide (0 ≤ (((p1.drop (Int.toNat (IntKind.i64.wrap ((IntKind.i64.wrap (4 * d)) - 4)))).take 4).getD 3 0))) && (decide ((((p1.drop (Int.toNat (IntKind.i64.wrap ((IntKind.i64.wrap (4 * d)) - 4)))).take 4).getD 3 0) < 256))) (
    chk ((decide (0 ≤ (((p1.drop (Int.toNat (IntKind.i64.wrap ((IntKind.i64.wrap (4 * d)) - 4)))).take 4).getD 0 0))) && (decide ((((p1.drop (Int.toNat (IntKind.i64.wrap ((IntKind.i64.wrap (4 * d)) - 4)))).take 4).getD 0 0) < 256))) (
    chk ((decide (((p1.drop (Int.toNat (IntKind.i64.wrap ((IntKind.i64.wrap (4 * d)) - 4)))).take 4).length = 4)) && true) (
    andK (impl_mulGf N o 2) fun u2 =>
    some ((((), (u2.1.1, ((), ()))), (p0, (p1, (((), ((), ())), ([(Go.bits .xor .u8 (p0.getD (0 + (Int.toNat (((p1.drop (Int.toNat (IntKind.i64.wrap ((IntKind.i64.wrap (4 * d)) - 4)))).take 4).getD 1 0))) 0) o), (p0.getD (0 + (Int.toNat (((p1.drop (Int.toNat (IntKind.i64.wrap ((IntKind.i64.wrap (4 * d)) - 4)))).take 4).getD 2 0))) 0), (p0.getD (0 + (Int.toNat (((p1.drop (Int.toNat (IntKind.i64.wrap ((IntKind.i64.wrap (4 * d)) - 4)))).take 4).getD 3 0))) 0), (p0.getD (0 + (Int.toNat (((p1.drop (Int.toNat (IntKind.i64.wrap ((IntKind.i64.wrap (4 * d)) - 4)))).take 4).getD 0 0))) 0)], ()))))))))))))
    (
    some ((((), (o, ((), ()))), (p0, (p1, (((), ((), ())), (((p1.drop (Int.toNat (IntKind.i64.wrap ((IntKind.i64.wrap (4 * d)) - 4)))).take 4), ())))))))) fun j3 =>
  andK (impl_cipherOf.l1 N j3.1.2.1 d ((j3.2.2.2.2.1.drop 0).take 4) 0 j3.2.1 j3.2.2.1 j3.2.2.2.2.1) fun l4 =>
  impl_cipherOf.l0 N j3.1.2.1 (IntKind.i64.wrap (d + 1)) l4.2.1 l4.2.2.1))))
  (
  some ((((), ()), (p0, (p1, (((), ((), ())), ())))))) := by kernel_rfl
set_option maxRecDepth 100000 in
theorem impl_cipherOf.eq (N : Nat) (G : ByteArray) : impl_cipherOf N G =
 andK (impl_newBox N) fun u1 =>
 andK (impl_cipherOf.l0 N 1 4 u1.2.1 (bytesL G)) fun l5 =>
 some (((), ()), (((), ((), ())), (l5.2.1, (l5.2.2.1, ())))) := by kernel_rfl
set_option maxRecDepth 100000 in
theorem impl_cipherOf.say (N : Nat) : SayOk Try.prog (impl_cipherOf.S N) := sayOk_mk (N := N) (H := impl_cipherOf.H) (preps := [⟨[], [], [], [2, 0, 1]⟩]) (l := impl_cipherOf.says) (fn := Try.f41) (c := bodyOf Try.f41)
  (by kernel_rfl) (by kernel_rfl) (by kernel_rfl) (by kernel_rfl) (by kernel_rfl) (by kernel_rfl) (by kernel_rfl)
  (fun N => SayAll.cons (impl_newBox.say N) (SayAll.cons (impl_mulGf.say N) (SayAll.nil))) (fun a s => by kernel_rfl)

/-! ### loop.example/g00206/impl.numberOf: function 36 -/
noncomputable def impl_numberOf.H : Hints := hintsOf [(2000003, .loop ⟨.normal, [0, 6], [3, 7], [.one (.sh (.int .u64)), ak_i], [], [⟨[], [], [], []⟩]⟩ [⟨(.exit 0), [], [3], [.one (.sh (.int .u64))], [], [⟨[], [], [], []⟩]⟩])]
noncomputable def impl_numberOf.says (N : Nat) : List Say := []
noncomputable def impl_numberOf.call (N : Nat) : CallK := callBy (impl_numberOf.says N)
noncomputable def impl_numberOf.qt (N : Nat) : FuncId → List PV → Sig → Cl := qtBy (impl_numberOf.says N)
noncomputable def impl_numberOf.l0.hd : Alt := ⟨.normal, [0, 6], [3, 7], [.one (.sh (.int .u64)), ak_i], [], [⟨[], [], [], []⟩]⟩
noncomputable def impl_numberOf.l0.outs : List Alt := [⟨(.exit 0), [], [3], [.one (.sh (.int .u64))], [], [⟨[], [], [], []⟩]⟩]
noncomputable def impl_numberOf.l0 (N : Nat) (s1 : ByteArray) (t6 : Int) (n : Int) (t7 : Int) : Option ((Int × Unit) × Unit) :=
  loopK Try.prog impl_numberOf.call impl_numberOf.qt impl_numberOf.H (codeAt (bodyOf Try.f36) [1, 1, 0, 1, 0, 0]) 0 impl_numberOf.l0.hd impl_numberOf.l0.outs [(0, .v (.string s1)), (6, .v (.int .i64 t6))] N ((n, (t7, ())), ())
noncomputable def impl_numberOf (N : Nat) (s : ByteArray) : Option ((Int × Unit) × Unit) :=
  ofFn Try.prog impl_numberOf.call impl_numberOf.qt impl_numberOf.H N Try.f36 [ak_s] [] [.one (.sh (.int .u64))] [] [⟨[], [], [], []⟩] (s, ()) ()
noncomputable def impl_numberOf.S (N : Nat) : Say := ⟨false, 36, [ak_s], [], [.one (.sh (.int .u64))], [], fun a s => impl_numberOf N a.1⟩
set_option maxRecDepth 100000 in
theorem impl_numberOf.l0.eq (N : Nat) (s1 : ByteArray) (t6 : Int) (n : Int) (t7 : Int) : impl_numberOf.l0 (N + 1) s1 t6 n t7 =
 sel (decide (t7 < t6))
  (
  chk ((decide (0 ≤ t7)) && (decide (t7 < (s1.size : Int)))) (
  impl_numberOf.l0 N s1 t6 (Go.bits .or .u64 (shlI .u64 n 8) (IntKind.u64.wrap ((bytesL s1).getD (Int.toNat t7) 0))) (IntKind.i64.wrap (t7 + 1))))
  (
  some (((n, ()), ()))) := by kernel_rfl
set_option maxRecDepth 100000 in
theorem impl_numberOf.eq (N : Nat) (s : ByteArray) : impl_numberOf N s =
 andK (impl_numberOf.l0 N s (s.size : Int) 0 0) fun l1 =>
 some ((l1.1.1, ()), ()) := by kernel_rfl
set_option maxRecDepth 100000 in
theorem impl_numberOf.say (N : Nat) : SayOk Try.prog (impl_numberOf.S N) := sayOk_mk (N := N) (H := impl_numberOf.H) (preps := [⟨[], [], [], []⟩]) (l := impl_numberOf.says) (fn := Try.f36) (c := bodyOf Try.f36)
  (by kernel_rfl) (by kernel_rfl) (by kernel_rfl) (by kernel_rfl) (by kernel_rfl) (by kernel_rfl) (by kernel_rfl)
  (fun N => SayAll.nil) (fun a s => by kernel_rfl)

/-! ### (*loop.example/g00206/impl.cipher).addKey: function 81 -/
noncomputable def impl_cipher_addKey.H : Hints := hintsOf [(2000001, .loop ⟨.normal, [2, 8], [0, 1, 9], [.one (.ptr 0 0), .one (.own 1), ak_i], [.cells [.apl 2 0 512, .own 3], .rows (.int .u8) true, .rows (.int .u8) true, .rows (.int .u8) true], [⟨[], [], [], []⟩]⟩ [⟨(.exit 0), [], [], [], [.cells [.apl 2 0 512, .own 3], .rows (.int .u8) true, .rows (.int .u8) true, .rows (.int .u8) true], [⟨[], [], [], []⟩]⟩])]
noncomputable def impl_cipher_addKey.says (N : Nat) : List Say := []
noncomputable def impl_cipher_addKey.call (N : Nat) : CallK := callBy (impl_cipher_addKey.says N)
noncomputable def impl_cipher_addKey.qt (N : Nat) : FuncId → List PV → Sig → Cl := qtBy (impl_cipher_addKey.says N)
noncomputable def impl_cipher_addKey.l0.hd : Alt := ⟨.normal, [2, 8], [0, 1, 9], [.one (.ptr 0 0), .one (.own 1), ak_i], [.cells [.apl 2 0 512, .own 3], .rows (.int .u8) true, .rows (.int .u8) true, .rows (.int .u8) true], [⟨[], [], [], []⟩]⟩
noncomputable def impl_cipher_addKey.l0.outs : List Alt := [⟨(.exit 0), [], [], [], [.cells [.apl 2 0 512, .own 3], .rows (.int .u8) true, .rows (.int .u8) true, .rows (.int .u8) true], [⟨[], [], [], []⟩]⟩]
noncomputable def impl_cipher_addKey.l0 (N : Nat) (round1 : Int) (t8 : Int) (t9 : Int) (p11 : (List Int)) (p21 : (List Int)) (p31 : (List Int)) : Option (Unit × ((Unit × (Unit × Unit)) × ((List Int) × ((List Int) × ((List Int) × Unit))))) :=
  loopK Try.prog impl_cipher_addKey.call impl_cipher_addKey.qt impl_cipher_addKey.H (codeAt (bodyOf Try.f81) [1, 0, 0]) 4 impl_cipher_addKey.l0.hd impl_cipher_addKey.l0.outs [(2, .v (.int .i64 round1)), (8, .v (.int .i64 t8))] N (((), ((), (t9, ()))), (((), ((), ())), (p11, (p21, (p31, ())))))
noncomputable def impl_cipher_addKey (N : Nat) (round : Int) (p1 : (List Int)) (p2 : (List Int)) (p3 : (List Int)) : Option (Unit × ((Unit × (Unit × Unit)) × ((List Int) × ((List Int) × ((List Int) × Unit))))) :=
  ofFn Try.prog impl_cipher_addKey.call impl_cipher_addKey.qt impl_cipher_addKey.H N Try.f81 [.one (.ptr 0 0), .one (.own 1), ak_i] [.cells [.apl 2 0 512, .own 3], .rows (.int .u8), .rows (.int .u8), .rows (.int .u8)] [] [.cells [.apl 2 0 512, .own 3], .rows (.int .u8) true, .rows (.int .u8) true, .rows (.int .u8) true] [⟨[], [], [], []⟩] ((), ((), (round, ()))) (((), ((), ())), (p1, (p2, (p3, ()))))
noncomputable def impl_cipher_addKey.S (N : Nat) : Say := ⟨false, 81, [.one (.ptr 0 0), .one (.own 1), ak_i], [.cells [.apl 2 0 512, .own 3], .rows (.int .u8), .rows (.int .u8), .rows (.int .u8)], [], [.cells [.apl 2 0 512, .own 3], .rows (.int .u8) true, .rows (.int .u8) true, .rows (.int .u8) true], fun a s => impl_cipher_addKey N a.2.2.1 s.2.1 s.2.2.1 s.2.2.2.1⟩
set_option maxRecDepth 100000 in
theorem impl_cipher_addKey.l0.eq (N : Nat) (round1 : Int) (t8 : Int) (t9 : Int) (p11 : (List Int)) (p21 : (List Int)) (p31 : (List Int)) : impl_cipher_addKey.l0 (N + 1) round1 t8 t9 p11 p21 p31 =
 sel (decide (t9 < t8))
  (
  chk ((decide (0 ≤ t9)) && (decide (t9 < (p11.length : Int)))) (
  chk ((decide (0 ≤ (IntKind.i64.wrap ((IntKind.i64.wrap (16 * round1)) + t9)))) && (decide ((IntKind.i64.wrap ((IntKind.i64.wrap (16 * round1)) + t9)) < (p31.length : Int)))) (
  chk ((decide (0 ≤ t9)) && (decide (t9 < (p11.length : Int)))) (
  impl_cipher_addKey.l0 N round1 t8 (IntKind.i64.wrap (t9 + 1)) (p11.set (Int.toNat t9) (Go.bits .xor .u8 (p11.getD (Int.toNat t9) 0) (p31.getD (Int.toNat (IntKind.i64.wrap ((IntKind.i64.wrap (16 * round1)) + t9))) 0))) p21 p31))))
  (
  some (((), (((), ((), ())), (p11, (p21, (p31, ()))))))) := by kernel_rfl
set_option maxRecDepth 100000 in
theorem impl_cipher_addKey.eq (N : Nat) (round : Int) (p1 : (List Int)) (p2 : (List Int)) (p3 : (List Int)) : impl_cipher_addKey N round p1 p2 p3 =
 andK (impl_cipher_addKey.l0 N round (p1.length : Int) 0 p1 p2 p3) fun l1 =>
 some ((), (((), ((), ())), (l1.2.2.1, (l1.2.2.2.1, (l1.2.2.2.2.1, ()))))) := by kernel_rfl
set_option maxRecDepth 100000 in
theorem impl_cipher_addKey.say (N : Nat) : SayOk Try.prog (impl_cipher_addKey.S N) := sayOk_mk (N := N) (H := impl_cipher_addKey.H) (preps := [⟨[], [], [], []⟩]) (l := impl_cipher_addKey.says) (fn := Try.f81) (c := bodyOf Try.f81)
  (by kernel_rfl) (by kernel_rfl) (by kernel_rfl) (by kernel_rfl) (by kernel_rfl) (by kernel_rfl) (by kernel_rfl)
  (fun N => SayAll.nil) (fun a s => by kernel_rfl)

/-! ### loop.example/g00206/impl.shift: function 82 -/
noncomputable def impl_shift.H : Hints := hintsOf [(2000002, .loop ⟨.normal, [1, 10], [0, 4, 11], [.one (.own 0), .one (.apl 1 0 16), ak_i], [.rows (.int .u8) true, .rows (.int .u8)], [⟨[], [], [], []⟩]⟩ [⟨(.exit 0), [], [], [], [.rows (.int .u8) true, .rows (.int .u8)], [⟨[], [], [], []⟩]⟩])]
noncomputable def impl_shift.says (N : Nat) : List Say := []
noncomputable def impl_shift.call (N : Nat) : CallK := callBy (impl_shift.says N)
noncomputable def impl_shift.qt (N : Nat) : FuncId → List PV → Sig → Cl := qtBy (impl_shift.says N)
noncomputable def impl_shift.l0.hd : Alt := ⟨.normal, [1, 10], [0, 4, 11], [.one (.own 0), .one (.apl 1 0 16), ak_i], [.rows (.int .u8) true, .rows (.int .u8)], [⟨[], [], [], []⟩]⟩
noncomputable def impl_shift.l0.outs : List Alt := [⟨(.exit 0), [], [], [], [.rows (.int .u8) true, .rows (.int .u8)], [⟨[], [], [], []⟩]⟩]
noncomputable def impl_shift.l0 (N : Nat) (byv1 : Int) (t10 : Int) (t11 : Int) (p01 : (List Int)) (p1 : (List Int)) : Option (Unit × ((List Int) × ((List Int) × Unit))) :=
  loopK Try.prog impl_shift.call impl_shift.qt impl_shift.H (codeAt (bodyOf Try.f82) [1, 1, 0, 0]) 2 impl_shift.l0.hd impl_shift.l0.outs [(1, .v (.int .i64 byv1)), (10, .v (.int .i64 t10))] N (((), ((), (t11, ()))), (p01, (p1, ())))
noncomputable def impl_shift (N : Nat) (byv : Int) (p0 : (List Int)) : Option (Unit × ((List Int) × Unit)) :=
  ofFn Try.prog impl_shift.call impl_shift.qt impl_shift.H N Try.f82 [.one (.own 0), ak_i] [.rows (.int .u8)] [] [.rows (.int .u8) true] [⟨[], [], [], []⟩] ((), (byv, ())) (p0, ())
noncomputable def impl_shift.S (N : Nat) : Say := ⟨false, 82, [.one (.own 0), ak_i], [.rows (.int .u8)], [], [.rows (.int .u8) true], fun a s => impl_shift N a.2.1 s.1⟩
set_option maxRecDepth 100000 in
theorem impl_shift.l0.eq (N : Nat) (byv1 : Int) (t10 : Int) (t11 : Int) (p01 : (List Int)) (p1 : (List Int)) : impl_shift.l0 (N + 1) byv1 t10 t11 p01 p1 =
 sel (decide (t11 < t10))
  (
  chk ((decide (0 ≤ (IntKind.i64.wrap ((IntKind.i64.wrap (4 * (Int.tmod (IntKind.i64.wrap ((IntKind.i64.wrap (Int.tdiv t11 4)) + (IntKind.i64.wrap (byv1 * (Int.tmod t11 4))))) 4))) + (Int.tmod t11 4))))) && (decide ((IntKind.i64.wrap ((IntKind.i64.wrap (4 * (Int.tmod (IntKind.i64.wrap ((IntKind.i64.wrap (Int.tdiv t11 4)) + (IntKind.i64.wrap (byv1 * (Int.tmod t11 4))))) 4))) + (Int.tmod t11 4))) < 16))) (
  chk ((decide (0 ≤ t11)) && (decide (t11 < (p01.length : Int)))) (
  impl_shift.l0 N byv1 t10 (IntKind.i64.wrap (t11 + 1)) (p01.set (Int.toNat t11) (p1.getD (0 + (Int.toNat (IntKind.i64.wrap ((IntKind.i64.wrap (4 * (Int.tmod (IntKind.i64.wrap ((IntKind.i64.wrap (Int.tdiv t11 4)) + (IntKind.i64.wrap (byv1 * (Int.tmod t11 4))))) 4))) + (Int.tmod t11 4))))) 0)) p1)))
  (
  some (((), (p01, (p1, ()))))) := by kernel_rfl
set_option maxRecDepth 100000 in
theorem impl_shift.eq (N : Nat) (byv : Int) (p0 : (List Int)) : impl_shift N byv p0 =
 chk (decide (16 ≤ p0.length)) (
 chk ((decide ((List.replicate 16 (0 : Int)).length = 16)) && (decide (((p0.drop 0).take 16).length = 16))) (
 andK (impl_shift.l0 N byv (p0.length : Int) 0 p0 ((p0.drop 0).take 16)) fun l1 =>
 some ((), (l1.2.1, ())))) := by kernel_rfl
set_option maxRecDepth 100000 in
theorem impl_shift.say (N : Nat) : SayOk Try.prog (impl_shift.S N) := sayOk_mk (N := N) (H := impl_shift.H) (preps := [⟨[], [], [], []⟩]) (l := impl_shift.says) (fn := Try.f82) (c := bodyOf Try.f82)
  (by kernel_rfl) (by kernel_rfl) (by kernel_rfl) (by kernel_rfl) (by kernel_rfl) (by kernel_rfl) (by kernel_rfl)
  (fun N => SayAll.nil) (fun a s => by kernel_rfl)

/-! ### loop.example/g00206/impl.forth: function 84 -/
noncomputable def impl_forth.H : Hints := hintsOf []
noncomputable def impl_forth.says (N : Nat) : List Say := []
noncomputable def impl_forth.call (N : Nat) : CallK := callBy (impl_forth.says N)
noncomputable def impl_forth.qt (N : Nat) : FuncId → List PV → Sig → Cl := qtBy (impl_forth.says N)
noncomputable def impl_forth (N : Nat) : Option (((List Int) × Unit) × Unit) :=
  ofFn Try.prog impl_forth.call impl_forth.qt impl_forth.H N Try.f84 [] [] [.arr .u8] [] [⟨[], [], [], []⟩] () ()
noncomputable def impl_forth.S (N : Nat) : Say := ⟨false, 84, [], [], [.arr .u8], [], fun a s => impl_forth N⟩
set_option maxRecDepth 100000 in
theorem impl_forth.eq (N : Nat) : impl_forth N =
 chk ((decide ((List.replicate 4 (0 : Int)).length = 4)) && true) (
 some (((([2, 3, 1, 1].drop 0).take 4), ()), ())) := by kernel_rfl
set_option maxRecDepth 100000 in
theorem impl_forth.say (N : Nat) : SayOk Try.prog (impl_forth.S N) := sayOk_mk (N := N) (H := impl_forth.H) (preps := [⟨[], [], [], []⟩]) (l := impl_forth.says) (fn := Try.f84) (c := bodyOf Try.f84)
  (by kernel_rfl) (by kernel_rfl) (by kernel_rfl) (by kernel_rfl) (by kernel_rfl) (by kernel_rfl) (by kernel_rfl)
  (fun N => SayAll.nil) (fun a s => by kernel_rfl)

/-! ### loop.example/g00206/impl.mixed: function 83 -/
noncomputable def impl_mixed.H : Hints := hintsOf [(2000006, .loop ⟨.normal, [5, 9, 12], [0, 3, 4, 13], [.one (.ref 0), .one (.apl 1 0 4), .one (.apl 2 0 4), ak_i], [.rows (.int .u8) true, .rows (.int .u8), .rows (.int .u8)], [⟨[], [], [], []⟩]⟩ [⟨(.exit 2), [9], [0, 3, 4], [.one (.ref 0), .one (.apl 1 0 4), .one (.apl 2 0 4)], [.rows (.int .u8) true, .rows (.int .u8), .rows (.int .u8)], [⟨[], [], [], []⟩]⟩]),
  (2000003, .loop ⟨.normal, [], [0, 3, 4, 9], [.one (.ref 0), .one (.apl 1 0 4), .one (.apl 2 0 4), ak_i], [.rows (.int .u8) true, .rows (.int .u8), .rows (.int .u8)], [⟨[], [], [], []⟩]⟩ [⟨(.exit 0), [], [0, 4], [.one (.ref 0), .one (.apl 2 0 4)], [.rows (.int .u8) true, .rows (.int .u8), .rows (.int .u8)], [⟨[], [], [], []⟩]⟩])]
noncomputable def impl_mixed.says (N : Nat) : List Say := [impl_mulGf.S N]
noncomputable def impl_mixed.call (N : Nat) : CallK := callBy (impl_mixed.says N)
noncomputable def impl_mixed.qt (N : Nat) : FuncId → List PV → Sig → Cl := qtBy (impl_mixed.says N)
noncomputable def impl_mixed.l0.hd : Alt := ⟨.normal, [], [0, 3, 4, 9], [.one (.ref 0), .one (.apl 1 0 4), .one (.apl 2 0 4), ak_i], [.rows (.int .u8) true, .rows (.int .u8), .rows (.int .u8)], [⟨[], [], [], []⟩]⟩
noncomputable def impl_mixed.l0.outs : List Alt := [⟨(.exit 0), [], [0, 4], [.one (.ref 0), .one (.apl 2 0 4)], [.rows (.int .u8) true, .rows (.int .u8), .rows (.int .u8)], [⟨[], [], [], []⟩]⟩]
noncomputable def impl_mixed.l0 (N : Nat) (s1 : (Nat × Nat)) (t9 : Int) (p01 : (List Int)) (p1 : (List Int)) (p2 : (List Int)) : Option (((Nat × Nat) × (Unit × Unit)) × ((List Int) × ((List Int) × ((List Int) × Unit)))) :=
  loopK Try.prog impl_mixed.call impl_mixed.qt impl_mixed.H (codeAt (bodyOf Try.f83) [1, 1, 0, 1, 0, 0]) 3 impl_mixed.l0.hd impl_mixed.l0.outs [] N ((s1, ((), ((), (t9, ())))), (p01, (p1, (p2, ()))))
noncomputable def impl_mixed.l1.hd : Alt := ⟨.normal, [5, 9, 12], [0, 3, 4, 13], [.one (.ref 0), .one (.apl 1 0 4), .one (.apl 2 0 4), ak_i], [.rows (.int .u8) true, .rows (.int .u8), .rows (.int .u8)], [⟨[], [], [], []⟩]⟩
noncomputable def impl_mixed.l1.outs : List Alt := [⟨(.exit 2), [9], [0, 3, 4], [.one (.ref 0), .one (.apl 1 0 4), .one (.apl 2 0 4)], [.rows (.int .u8) true, .rows (.int .u8), .rows (.int .u8)], [⟨[], [], [], []⟩]⟩]
noncomputable def impl_mixed.l1 (N : Nat) (i : Int) (t91 : Int) (t12 : (List Int)) (s2 : (Nat × Nat)) (t13 : Int) (p02 : (List Int)) (p11 : (List Int)) (p21 : (List Int)) : Option (((Nat × Nat) × (Unit × (Unit × Unit))) × ((List Int) × ((List Int) × ((List Int) × Unit)))) :=
  loopK Try.prog impl_mixed.call impl_mixed.qt impl_mixed.H (codeAt (bodyOf Try.f83) [1, 1, 0, 1, 0, 0, 1, 1, 0, 0, 1, 1, 0, 0]) 3 impl_mixed.l1.hd impl_mixed.l1.outs [(5, .v (.int .i64 i)), (9, .v (.int .i64 t91)), (12, .arr .u8 t12)] N ((s2, ((), ((), (t13, ())))), (p02, (p11, (p21, ()))))
noncomputable def impl_mixed (N : Nat) (s : (Nat × Nat)) (byv : (List Int)) (p0 : (List Int)) : Option (Unit × ((List Int) × Unit)) :=
  ofFn Try.prog impl_mixed.call impl_mixed.qt impl_mixed.H N Try.f83 [.one (.ref 0), .arr .u8] [.rows (.int .u8)] [] [.rows (.int .u8) true] [⟨[], [], [], []⟩] (s, (byv, ())) (p0, ())
noncomputable def impl_mixed.S (N : Nat) : Say := ⟨false, 83, [.one (.ref 0), .arr .u8], [.rows (.int .u8)], [], [.rows (.int .u8) true], fun a s => impl_mixed N a.1 a.2.1 s.1⟩
set_option maxRecDepth 100000 in
theorem impl_mixed.l1.eq (N : Nat) (i : Int) (t91 : Int) (t12 : (List Int)) (s2 : (Nat × Nat)) (t13 : Int) (p02 : (List Int)) (p11 : (List Int)) (p21 : (List Int)) : impl_mixed.l1 (N + 1) i t91 t12 s2 t13 p02 p11 p21 =
 sel (decide (t13 < 4))
  (
  chk ((decide (0 ≤ t13)) && ((decide (t13 < 4)) && (decide (t13 < (t12.length : Int))))) (
  chk ((decide (0 ≤ i)) && (decide (i < 4))) (
  chk ((decide (0 ≤ (Int.tmod (IntKind.i64.wrap (i + t13)) 4))) && (decide ((Int.tmod (IntKind.i64.wrap (i + t13)) 4) < (s2.2 : Int)))) (
  andK (impl_mulGf N (t12.getD (Int.toNat t13) 0) (p02.getD (s2.1 + (Int.toNat (Int.tmod (IntKind.i64.wrap (i + t13)) 4))) 0)) fun u1 =>
  chk ((decide (0 ≤ i)) && (decide (i < 4))) (
  impl_mixed.l1 N i t91 t12 (s2.1, s2.2) (IntKind.i64.wrap (t13 + 1)) p02 p11 (p21.set (0 + (Int.toNat i)) (Go.bits .xor .u8 (p21.getD (0 + (Int.toNat i)) 0) u1.1.1)))))))
  (
  some ((((s2.1, s2.2), ((), ((), ()))), (p02, (p11, (p21, ())))))) := by kernel_rfl
set_option maxRecDepth 100000 in
theorem impl_mixed.l0.eq (N : Nat) (s1 : (Nat × Nat)) (t9 : Int) (p01 : (List Int)) (p1 : (List Int)) (p2 : (List Int)) : impl_mixed.l0 (N + 1) s1 t9 p01 p1 p2 =
 sel (decide (t9 < 4))
  (
  andK (impl_mixed.l1 N t9 t9 ((p1.drop 0).take 4) (s1.1, s1.2) 0 p01 p1 p2) fun l2 =>
  impl_mixed.l0 N (l2.1.1.1, l2.1.1.2) (IntKind.i64.wrap (t9 + 1)) l2.2.1 l2.2.2.1 l2.2.2.2.1)
  (
  some ((((s1.1, s1.2), ((), ())), (p01, (p1, (p2, ())))))) := by kernel_rfl
set_option maxRecDepth 100000 in
theorem impl_mixed.eq (N : Nat) (s : (Nat × Nat)) (byv : (List Int)) (p0 : (List Int)) : impl_mixed N s byv p0 =
 chk (decide (byv.length = 4)) (
 chk ((decide ((List.replicate 4 (0 : Int)).length = 4)) && true) (
 andK (impl_mixed.l0 N (s.1, s.2) 0 p0 byv [0, 0, 0, 0]) fun l3 =>
 some ((), (((l3.2.1.take l3.1.1.1) ++ ((((l3.2.2.2.1.drop 0).take 4).take (min ((l3.2.2.2.1.drop 0).take 4).length l3.1.1.2)) ++ (l3.2.1.drop (l3.1.1.1 + (min ((l3.2.2.2.1.drop 0).take 4).length l3.1.1.2))))), ())))) := by kernel_rfl
set_option maxRecDepth 100000 in
theorem impl_mixed.say (N : Nat) : SayOk Try.prog (impl_mixed.S N) := sayOk_mk (N := N) (H := impl_mixed.H) (preps := [⟨[], [], [], []⟩]) (l := impl_mixed.says) (fn := Try.f83) (c := bodyOf Try.f83)
  (by kernel_rfl) (by kernel_rfl) (by kernel_rfl) (by kernel_rfl) (by kernel_rfl) (by kernel_rfl) (by kernel_rfl)
  (fun N => SayAll.cons (impl_mulGf.say N) (SayAll.nil)) (fun a s => by kernel_rfl)

/-! ### (*loop.example/g00206/impl.cipher).encrypt: function 66 -/
noncomputable def impl_cipher_encrypt.H : Hints := hintsOf [(2000007, .loop ⟨.normal, [6, 20], [0, 5, 19, 21], [.one (.ptr 0 0), .one (.own 3), .one (.own 3), ak_i], [.cells [.apl 1 0 512, .own 2], .rows (.int .u8) true, .rows (.int .u8) true, .rows (.int .u8)], [⟨[], [], [], []⟩]⟩ [⟨(.exit 2), [6], [0, 5], [.one (.ptr 0 0), .one (.own 3)], [.cells [.apl 1 0 512, .own 2], .rows (.int .u8) true, .rows (.int .u8) true, .rows (.int .u8)], [⟨[], [], [], []⟩]⟩]),
  (5000013, .join [⟨.normal, [6, 9], [0, 5, 46], [.one (.ptr 0 0), .one (.own 3), ak_b], [.cells [.apl 1 0 512, .own 2], .rows (.int .u8) true, .rows (.int .u8) true, .rows (.int .u8)], [⟨[], [], [], []⟩]⟩]),
  (2000013, .loop ⟨.normal, [6], [0, 5, 9], [.one (.ptr 0 0), .one (.own 3), ak_i], [.cells [.apl 1 0 512, .own 2], .rows (.int .u8) true, .rows (.int .u8) true, .rows (.int .u8)], [⟨[], [], [], []⟩]⟩ [⟨(.exit 4), [6], [0, 5], [.one (.ptr 0 0), .one (.own 3)], [.cells [.apl 1 0 512, .own 2], .rows (.int .u8) true, .rows (.int .u8) true, .rows (.int .u8)], [⟨[], [], [], []⟩]⟩]),
  (2000004, .loop ⟨.normal, [], [0, 5, 6], [.one (.ptr 0 0), .one (.own 3), ak_i], [.cells [.apl 1 0 512, .own 2], .rows (.int .u8) true, .rows (.int .u8) true, .rows (.int .u8)], [⟨[], [], [], []⟩]⟩ [⟨(.exit 0), [], [5], [.one (.own 3)], [.cells [.apl 1 0 512, .own 2], .rows (.int .u8) true, .rows (.int .u8) true, .rows (.int .u8)], [⟨[], [], [], []⟩]⟩])]
noncomputable def impl_cipher_encrypt.says (N : Nat) : List Say := [impl_cipher_addKey.S N, impl_shift.S N, impl_forth.S N, impl_mixed.S N]
noncomputable def impl_cipher_encrypt.call (N : Nat) : CallK := callBy (impl_cipher_encrypt.says N)
noncomputable def impl_cipher_encrypt.qt (N : Nat) : FuncId → List PV → Sig → Cl := qtBy (impl_cipher_encrypt.says N)
noncomputable def impl_cipher_encrypt.l0.hd : Alt := ⟨.normal, [], [0, 5, 6], [.one (.ptr 0 0), .one (.own 3), ak_i], [.cells [.apl 1 0 512, .own 2], .rows (.int .u8) true, .rows (.int .u8) true, .rows (.int .u8)], [⟨[], [], [], []⟩]⟩
noncomputable def impl_cipher_encrypt.l0.outs : List Alt := [⟨(.exit 0), [], [5], [.one (.own 3)], [.cells [.apl 1 0 512, .own 2], .rows (.int .u8) true, .rows (.int .u8) true, .rows (.int .u8)], [⟨[], [], [], []⟩]⟩]
noncomputable def impl_cipher_encrypt.l0 (N : Nat) (round : Int) (p11 : (List Int)) (p21 : (List Int)) (p3 : (List Int)) : Option ((Unit × Unit) × ((Unit × (Unit × Unit)) × ((List Int) × ((List Int) × ((List Int) × Unit))))) :=
  loopK Try.prog impl_cipher_encrypt.call impl_cipher_encrypt.qt impl_cipher_encrypt.H (codeAt (bodyOf Try.f66) [1, 1, 1, 0, 1, 0, 0]) 4 impl_cipher_encrypt.l0.hd impl_cipher_encrypt.l0.outs [] N (((), ((), (round, ()))), (((), ((), ())), (p11, (p21, (p3, ())))))
noncomputable def impl_cipher_encrypt.l1.hd : Alt := ⟨.normal, [6, 20], [0, 5, 19, 21], [.one (.ptr 0 0), .one (.own 3), .one (.own 3), ak_i], [.cells [.apl 1 0 512, .own 2], .rows (.int .u8) true, .rows (.int .u8) true, .rows (.int .u8)], [⟨[], [], [], []⟩]⟩
noncomputable def impl_cipher_encrypt.l1.outs : List Alt := [⟨(.exit 2), [6], [0, 5], [.one (.ptr 0 0), .one (.own 3)], [.cells [.apl 1 0 512, .own 2], .rows (.int .u8) true, .rows (.int .u8) true, .rows (.int .u8)], [⟨[], [], [], []⟩]⟩]
noncomputable def impl_cipher_encrypt.l1 (N : Nat) (round1 : Int) (t20 : Int) (t21 : Int) (p12 : (List Int)) (p22 : (List Int)) (p31 : (List Int)) : Option ((Unit × (Unit × Unit)) × ((Unit × (Unit × Unit)) × ((List Int) × ((List Int) × ((List Int) × Unit))))) :=
  loopK Try.prog impl_cipher_encrypt.call impl_cipher_encrypt.qt impl_cipher_encrypt.H (codeAt (bodyOf Try.f66) [1, 1, 1, 0, 1, 0, 0, 1, 0, 0, 0, 1, 0, 0]) 4 impl_cipher_encrypt.l1.hd impl_cipher_encrypt.l1.outs [(6, .v (.int .i64 round1)), (20, .v (.int .i64 t20))] N (((), ((), ((), (t21, ())))), (((), ((), ())), (p12, (p22, (p31, ())))))
noncomputable def impl_cipher_encrypt.l2.hd : Alt := ⟨.normal, [6], [0, 5, 9], [.one (.ptr 0 0), .one (.own 3), ak_i], [.cells [.apl 1 0 512, .own 2], .rows (.int .u8) true, .rows (.int .u8) true, .rows (.int .u8)], [⟨[], [], [], []⟩]⟩
noncomputable def impl_cipher_encrypt.l2.outs : List Alt := [⟨(.exit 4), [6], [0, 5], [.one (.ptr 0 0), .one (.own 3)], [.cells [.apl 1 0 512, .own 2], .rows (.int .u8) true, .rows (.int .u8) true, .rows (.int .u8)], [⟨[], [], [], []⟩]⟩]
noncomputable def impl_cipher_encrypt.l2 (N : Nat) (round2 : Int) (i : Int) (p13 : (List Int)) (p23 : (List Int)) (p32 : (List Int)) : Option ((Unit × (Unit × Unit)) × ((Unit × (Unit × Unit)) × ((List Int) × ((List Int) × ((List Int) × Unit))))) :=
  loopK Try.prog impl_cipher_encrypt.call impl_cipher_encrypt.qt impl_cipher_encrypt.H (codeAt (bodyOf Try.f66) [1, 1, 1, 0, 1, 0, 0, 1, 0, 0, 1, 1, 0, 1, 0, 0]) 4 impl_cipher_encrypt.l2.hd impl_cipher_encrypt.l2.outs [(6, .v (.int .i64 round2))] N (((), ((), (i, ()))), (((), ((), ())), (p13, (p23, (p32, ())))))
noncomputable def impl_cipher_encrypt (N : Nat) (block : ByteArray) (p1 : (List Int)) (p2 : (List Int)) : Option ((ByteArray × Unit) × ((Unit × (Unit × Unit)) × ((List Int) × ((List Int) × Unit)))) :=
  ofFn Try.prog impl_cipher_encrypt.call impl_cipher_encrypt.qt impl_cipher_encrypt.H N Try.f66 [.one (.ptr 0 0), ak_s] [.cells [.apl 1 0 512, .own 2], .rows (.int .u8), .rows (.int .u8)] [ak_s] [.cells [.apl 1 0 512, .own 2], .rows (.int .u8) true, .rows (.int .u8) true] [⟨[], [], [], []⟩] ((), (block, ())) (((), ((), ())), (p1, (p2, ())))
noncomputable def impl_cipher_encrypt.S (N : Nat) : Say := ⟨false, 66, [.one (.ptr 0 0), ak_s], [.cells [.apl 1 0 512, .own 2], .rows (.int .u8), .rows (.int .u8)], [ak_s], [.cells [.apl 1 0 512, .own 2], .rows (.int .u8) true, .rows (.int .u8) true], fun a s => impl_cipher_encrypt N a.2.1 s.2.1 s.2.2.1⟩
set_option maxRecDepth 100000 in
theorem impl_cipher_encrypt.l2.eq (N : Nat) (round2 : Int) (i : Int) (p13 : (List Int)) (p23 : (List Int)) (p32 : (List Int)) : impl_cipher_encrypt.l2 (N + 1) round2 i p13 p23 p32 =
 andK (α := ((Unit × (Unit × (Bool × Unit))) × ((Unit × (Unit × Unit)) × ((List Int) × ((List Int) × ((List Int) × Unit)))))) (
  sel (decide (i < 16))
   (
   some ((((), ((), ((decide (round2 < 10)), ()))), (((), ((), ())), (p13, (p23, (p32, ())))))))
   (
   some ((((), ((), (false, ()))), (((), ((), ())), (p13, (p23, (p32, ())))))))) fun j4 =>
 sel j4.1.2.2.1
  (
  chk ((decide (0 ≤ i)) && ((decide (i ≤ (IntKind.i64.wrap (i + 4)))) && (decide ((IntKind.i64.wrap (i + 4)) ≤ (j4.2.2.2.2.1.length : Int))))) (
  andK (impl_forth N) fun u5 =>
  andK (impl_mixed N ((Int.toNat i), ((Int.toNat (IntKind.i64.wrap (i + 4))) - (Int.toNat i))) u5.1.1 j4.2.2.2.2.1) fun u6 =>
  impl_cipher_encrypt.l2 N round2 (IntKind.i64.wrap (i + 4)) j4.2.2.1 j4.2.2.2.1 u6.2.1))
  (
  some ((((), ((), ())), (((), ((), ())), (j4.2.2.1, (j4.2.2.2.1, (j4.2.2.2.2.1, ()))))))) := by kernel_rfl
set_option maxRecDepth 100000 in
theorem impl_cipher_encrypt.l1.eq (N : Nat) (round1 : Int) (t20 : Int) (t21 : Int) (p12 : (List Int)) (p22 : (List Int)) (p31 : (List Int)) : impl_cipher_encrypt.l1 (N + 1) round1 t20 t21 p12 p22 p31 =
 sel (decide (t21 < t20))
  (
  chk ((decide (0 ≤ t21)) && (decide (t21 < (p31.length : Int)))) (
  chk ((decide (0 ≤ (p31.getD (Int.toNat t21) 0))) && (decide ((p31.getD (Int.toNat t21) 0) < 256))) (
  chk ((decide (0 ≤ t21)) && (decide (t21 < (p31.length : Int)))) (
  impl_cipher_encrypt.l1 N round1 t20 (IntKind.i64.wrap (t21 + 1)) p12 p22 (p31.set (Int.toNat t21) (p12.getD (0 + (Int.toNat (p31.getD (Int.toNat t21) 0))) 0))))))
  (
  some ((((), ((), ())), (((), ((), ())), (p12, (p22, (p31, ()))))))) := by kernel_rfl
set_option maxRecDepth 100000 in
theorem impl_cipher_encrypt.l0.eq (N : Nat) (round : Int) (p11 : (List Int)) (p21 : (List Int)) (p3 : (List Int)) : impl_cipher_encrypt.l0 (N + 1) round p11 p21 p3 =
 sel (decide (round ≤ 10))
  (
  andK (impl_cipher_encrypt.l1 N round (p3.length : Int) 0 p11 p21 p3) fun l2 =>
  andK (impl_shift N 1 l2.2.2.2.2.1) fun u3 =>
  andK (impl_cipher_encrypt.l2 N round 0 l2.2.2.1 l2.2.2.2.1 u3.2.1) fun l7 =>
  andK (impl_cipher_addKey N round l7.2.2.2.2.1 l7.2.2.1 l7.2.2.2.1) fun u8 =>
  impl_cipher_encrypt.l0 N (IntKind.i64.wrap (round + 1)) u8.2.2.2.1 u8.2.2.2.2.1 u8.2.2.1)
  (
  some ((((), ()), (((), ((), ())), (p11, (p21, (p3, ()))))))) := by kernel_rfl
set_option maxRecDepth 100000 in
theorem impl_cipher_encrypt.eq (N : Nat) (block : ByteArray) (p1 : (List Int)) (p2 : (List Int)) : impl_cipher_encrypt N block p1 p2 =
 andK (impl_cipher_addKey N 0 (bytesL block) p1 p2) fun u1 =>
 andK (impl_cipher_encrypt.l0 N 1 u1.2.2.2.1 u1.2.2.2.2.1 u1.2.2.1) fun l9 =>
 some (((strL l9.2.2.2.2.1), ()), (((), ((), ())), (l9.2.2.1, (l9.2.2.2.1, ())))) := by kernel_rfl
set_option maxRecDepth 100000 in
theorem impl_cipher_encrypt.say (N : Nat) : SayOk Try.prog (impl_cipher_encrypt.S N) := sayOk_mk (N := N) (H := impl_cipher_encrypt.H) (preps := [⟨[], [], [], []⟩]) (l := impl_cipher_encrypt.says) (fn := Try.f66) (c := bodyOf Try.f66)
  (by kernel_rfl) (by kernel_rfl) (by kernel_rfl) (by kernel_rfl) (by kernel_rfl) (by kernel_rfl) (by kernel_rfl)
  (fun N => SayAll.cons (impl_cipher_addKey.say N) (SayAll.cons (impl_shift.say N) (SayAll.cons (impl_forth.say N) (SayAll.cons (impl_mixed.say N) (SayAll.nil))))) (fun a s => by kernel_rfl)

/-! ### (*loop.example/g00206/impl.cipher).counter: function 64 -/
noncomputable def impl_cipher_counter.H : Hints := hintsOf [(2000007, .loop ⟨.normal, [8, 9, 10, 11], [0, 7, 12], [.one (.ptr 0 0), .one (.own 3), ak_i], [.cells [.apl 1 0 512, .own 2], .rows (.int .u8) true, .rows (.int .u8) true, .rows (.int .u8)], [⟨[], [], [], []⟩]⟩ [⟨(.exit 2), [8, 9, 10], [0, 7], [.one (.ptr 0 0), .one (.own 3)], [.cells [.apl 1 0 512, .own 2], .rows (.int .u8) true, .rows (.int .u8) true, .rows (.int .u8)], [⟨[], [], [], []⟩]⟩]),
  (2000003, .loop ⟨.normal, [8], [0, 7, 9, 10], [.one (.ptr 0 0), .one (.own 3), .one (.sh (.int .u32)), ak_i], [.cells [.apl 1 0 512, .own 2], .rows (.int .u8) true, .rows (.int .u8) true, .rows (.int .u8)], [⟨[], [], [], []⟩]⟩ [⟨(.exit 0), [], [7], [.one (.own 3)], [.cells [.apl 1 0 512, .own 2], .rows (.int .u8) true, .rows (.int .u8) true, .rows (.int .u8)], [⟨[], [], [], []⟩]⟩])]
noncomputable def impl_cipher_counter.says (N : Nat) : List Say := [impl_numberOf.S N, impl_bigEndian.S N, impl_cipher_encrypt.S N]
noncomputable def impl_cipher_counter.call (N : Nat) : CallK := callBy (impl_cipher_counter.says N)
noncomputable def impl_cipher_counter.qt (N : Nat) : FuncId → List PV → Sig → Cl := qtBy (impl_cipher_counter.says N)
noncomputable def impl_cipher_counter.l0.hd : Alt := ⟨.normal, [8], [0, 7, 9, 10], [.one (.ptr 0 0), .one (.own 3), .one (.sh (.int .u32)), ak_i], [.cells [.apl 1 0 512, .own 2], .rows (.int .u8) true, .rows (.int .u8) true, .rows (.int .u8)], [⟨[], [], [], []⟩]⟩
noncomputable def impl_cipher_counter.l0.outs : List Alt := [⟨(.exit 0), [], [7], [.one (.own 3)], [.cells [.apl 1 0 512, .own 2], .rows (.int .u8) true, .rows (.int .u8) true, .rows (.int .u8)], [⟨[], [], [], []⟩]⟩]
noncomputable def impl_cipher_counter.l0 (N : Nat) (head : ByteArray) (n : Int) (i : Int) (p11 : (List Int)) (p21 : (List Int)) (p3 : (List Int)) : Option ((Unit × Unit) × ((Unit × (Unit × Unit)) × ((List Int) × ((List Int) × ((List Int) × Unit))))) :=
  loopK Try.prog impl_cipher_counter.call impl_cipher_counter.qt impl_cipher_counter.H (codeAt (bodyOf Try.f64) [1, 1, 0, 1, 0, 0]) 4 impl_cipher_counter.l0.hd impl_cipher_counter.l0.outs [(8, .v (.string head))] N (((), ((), (n, (i, ())))), (((), ((), ())), (p11, (p21, (p3, ())))))
noncomputable def impl_cipher_counter.l1.hd : Alt := ⟨.normal, [8, 9, 10, 11], [0, 7, 12], [.one (.ptr 0 0), .one (.own 3), ak_i], [.cells [.apl 1 0 512, .own 2], .rows (.int .u8) true, .rows (.int .u8) true, .rows (.int .u8)], [⟨[], [], [], []⟩]⟩
noncomputable def impl_cipher_counter.l1.outs : List Alt := [⟨(.exit 2), [8, 9, 10], [0, 7], [.one (.ptr 0 0), .one (.own 3)], [.cells [.apl 1 0 512, .own 2], .rows (.int .u8) true, .rows (.int .u8) true, .rows (.int .u8)], [⟨[], [], [], []⟩]⟩]
noncomputable def impl_cipher_counter.l1 (N : Nat) (head1 : ByteArray) (n1 : Int) (i1 : Int) (block : ByteArray) (k : Int) (p12 : (List Int)) (p22 : (List Int)) (p31 : (List Int)) : Option ((Unit × (Unit × Unit)) × ((Unit × (Unit × Unit)) × ((List Int) × ((List Int) × ((List Int) × Unit))))) :=
  loopK Try.prog impl_cipher_counter.call impl_cipher_counter.qt impl_cipher_counter.H (codeAt (bodyOf Try.f64) [1, 1, 0, 1, 0, 0, 1, 0, 0, 1, 0, 1, 0, 0]) 4 impl_cipher_counter.l1.hd impl_cipher_counter.l1.outs [(8, .v (.string head1)), (9, .v (.int .u32 n1)), (10, .v (.int .i64 i1)), (11, .v (.string block))] N (((), ((), (k, ()))), (((), ((), ())), (p12, (p22, (p31, ())))))
noncomputable def impl_cipher_counter (N : Nat) (start : ByteArray) (text : ByteArray) (p1 : (List Int)) (p2 : (List Int)) : Option ((ByteArray × Unit) × ((Unit × (Unit × Unit)) × ((List Int) × ((List Int) × Unit)))) :=
  ofFn Try.prog impl_cipher_counter.call impl_cipher_counter.qt impl_cipher_counter.H N Try.f64 [.one (.ptr 0 0), ak_s, ak_s] [.cells [.apl 1 0 512, .own 2], .rows (.int .u8), .rows (.int .u8)] [ak_s] [.cells [.apl 1 0 512, .own 2], .rows (.int .u8) true, .rows (.int .u8) true] [⟨[], [], [], []⟩] ((), (start, (text, ()))) (((), ((), ())), (p1, (p2, ())))
noncomputable def impl_cipher_counter.S (N : Nat) : Say := ⟨false, 64, [.one (.ptr 0 0), ak_s, ak_s], [.cells [.apl 1 0 512, .own 2], .rows (.int .u8), .rows (.int .u8)], [ak_s], [.cells [.apl 1 0 512, .own 2], .rows (.int .u8) true, .rows (.int .u8) true], fun a s => impl_cipher_counter N a.2.1 a.2.2.1 s.2.1 s.2.2.1⟩
set_option maxRecDepth 100000 in
theorem impl_cipher_counter.l1.eq (N : Nat) (head1 : ByteArray) (n1 : Int) (i1 : Int) (block : ByteArray) (k : Int) (p12 : (List Int)) (p22 : (List Int)) (p31 : (List Int)) : impl_cipher_counter.l1 (N + 1) head1 n1 i1 block k p12 p22 p31 =
 sel (decide (k < (mmI false (IntKind.i64.wrap (i1 + 16)) (p31.length : Int))))
  (
  chk ((decide (0 ≤ k)) && (decide (k < (p31.length : Int)))) (
  chk ((decide (0 ≤ (IntKind.i64.wrap (k - i1)))) && (decide ((IntKind.i64.wrap (k - i1)) < (block.size : Int)))) (
  chk ((decide (0 ≤ k)) && (decide (k < (p31.length : Int)))) (
  impl_cipher_counter.l1 N head1 n1 i1 block (IntKind.i64.wrap (k + 1)) p12 p22 (p31.set (Int.toNat k) (Go.bits .xor .u8 (p31.getD (Int.toNat k) 0) ((bytesL block).getD (Int.toNat (IntKind.i64.wrap (k - i1))) 0)))))))
  (
  some ((((), ((), ())), (((), ((), ())), (p12, (p22, (p31, ()))))))) := by kernel_rfl
set_option maxRecDepth 100000 in
theorem impl_cipher_counter.l0.eq (N : Nat) (head : ByteArray) (n : Int) (i : Int) (p11 : (List Int)) (p21 : (List Int)) (p3 : (List Int)) : impl_cipher_counter.l0 (N + 1) head n i p11 p21 p3 =
 sel (decide (i < (p3.length : Int)))
  (
  andK (impl_bigEndian N (IntKind.u64.wrap n) 4) fun u2 =>
  chk (decide (head.size + u2.1.1.size ≤ 9223372036854775807)) (
  andK (impl_cipher_encrypt N (head ++ u2.1.1) p11 p21) fun u3 =>
  andK (impl_cipher_counter.l1 N head n i u3.1.1 i u3.2.2.1 u3.2.2.2.1 p3) fun l4 =>
  impl_cipher_counter.l0 N head (IntKind.u32.wrap (n + 1)) (IntKind.i64.wrap (i + 16)) l4.2.2.1 l4.2.2.2.1 l4.2.2.2.2.1))
  (
  some ((((), ()), (((), ((), ())), (p11, (p21, (p3, ()))))))) := by kernel_rfl
set_option maxRecDepth 100000 in
theorem impl_cipher_counter.eq (N : Nat) (start : ByteArray) (text : ByteArray) (p1 : (List Int)) (p2 : (List Int)) : impl_cipher_counter N start text p1 p2 =
 chk (decide (12 ≤ (start.size : Int))) (
 chk ((decide (12 ≤ (start.size : Int))) && (decide ((start.size : Int) ≤ (start.size : Int)))) (
 andK (impl_numberOf N (start.extract 12 (Int.toNat (start.size : Int)))) fun u1 =>
 andK (impl_cipher_counter.l0 N (start.extract 0 12) (IntKind.u32.wrap u1.1.1) 0 p1 p2 (bytesL text)) fun l5 =>
 some (((strL l5.2.2.2.2.1), ()), (((), ((), ())), (l5.2.2.1, (l5.2.2.2.1, ())))))) := by kernel_rfl
set_option maxRecDepth 100000 in
theorem impl_cipher_counter.say (N : Nat) : SayOk Try.prog (impl_cipher_counter.S N) := sayOk_mk (N := N) (H := impl_cipher_counter.H) (preps := [⟨[], [], [], []⟩]) (l := impl_cipher_counter.says) (fn := Try.f64) (c := bodyOf Try.f64)
  (by kernel_rfl) (by kernel_rfl) (by kernel_rfl) (by kernel_rfl) (by kernel_rfl) (by kernel_rfl) (by kernel_rfl)
  (fun N => SayAll.cons (impl_numberOf.say N) (SayAll.cons (impl_bigEndian.say N) (SayAll.cons (impl_cipher_encrypt.say N) (SayAll.nil)))) (fun a s => by kernel_rfl)

/-! ### (*loop.example/g00206/impl.cipher).turned: function 42 -/
noncomputable def impl_cipher_turned.H : Hints := hintsOf []
noncomputable def impl_cipher_turned.says (N : Nat) : List Say := [impl_bigEndian.S N, impl_cipher_counter.S N]
noncomputable def impl_cipher_turned.call (N : Nat) : CallK := callBy (impl_cipher_turned.says N)
noncomputable def impl_cipher_turned.qt (N : Nat) : FuncId → List PV → Sig → Cl := qtBy (impl_cipher_turned.says N)
noncomputable def impl_cipher_turned (N : Nat) (nonce : ByteArray) (text : ByteArray) (p1 : (List Int)) (p2 : (List Int)) : Option ((ByteArray × Unit) × ((Unit × (Unit × Unit)) × ((List Int) × ((List Int) × Unit)))) :=
  ofFn Try.prog impl_cipher_turned.call impl_cipher_turned.qt impl_cipher_turned.H N Try.f42 [.one (.ptr 0 0), ak_s, ak_s] [.cells [.apl 1 0 512, .own 2], .rows (.int .u8), .rows (.int .u8)] [ak_s] [.cells [.apl 1 0 512, .own 2], .rows (.int .u8) true, .rows (.int .u8) true] [⟨[], [], [], []⟩] ((), (nonce, (text, ()))) (((), ((), ())), (p1, (p2, ())))
noncomputable def impl_cipher_turned.S (N : Nat) : Say := ⟨false, 42, [.one (.ptr 0 0), ak_s, ak_s], [.cells [.apl 1 0 512, .own 2], .rows (.int .u8), .rows (.int .u8)], [ak_s], [.cells [.apl 1 0 512, .own 2], .rows (.int .u8) true, .rows (.int .u8) true], fun a s => impl_cipher_turned N a.2.1 a.2.2.1 s.2.1 s.2.2.1⟩
set_option maxRecDepth 100000 in
theorem impl_cipher_turned.eq (N : Nat) (nonce : ByteArray) (text : ByteArray) (p1 : (List Int)) (p2 : (List Int)) : impl_cipher_turned N nonce text p1 p2 =
 andK (impl_bigEndian N 2 4) fun u1 =>
 chk (decide (nonce.size + u1.1.1.size ≤ 9223372036854775807)) (
 andK (impl_cipher_counter N (nonce ++ u1.1.1) text p1 p2) fun u2 =>
 some ((u2.1.1, ()), (((), ((), ())), (u2.2.2.1, (u2.2.2.2.1, ()))))) := by kernel_rfl
set_option maxRecDepth 100000 in
theorem impl_cipher_turned.say (N : Nat) : SayOk Try.prog (impl_cipher_turned.S N) := sayOk_mk (N := N) (H := impl_cipher_turned.H) (preps := [⟨[], [], [], []⟩]) (l := impl_cipher_turned.says) (fn := Try.f42) (c := bodyOf Try.f42)
  (by kernel_rfl) (by kernel_rfl) (by kernel_rfl) (by kernel_rfl) (by kernel_rfl) (by kernel_rfl) (by kernel_rfl)
  (fun N => SayAll.cons (impl_bigEndian.say N) (SayAll.cons (impl_cipher_counter.say N) (SayAll.nil))) (fun a s => by kernel_rfl)

/-! ### loop.example/g00206/impl.polyOf: function 65 -/
noncomputable def impl_polyOf.H : Hints := hintsOf []
noncomputable def impl_polyOf.says (N : Nat) : List Say := [impl_numberOf.S N]
noncomputable def impl_polyOf.call (N : Nat) : CallK := callBy (impl_polyOf.says N)
noncomputable def impl_polyOf.qt (N : Nat) : FuncId → List PV → Sig → Cl := qtBy (impl_polyOf.says N)
noncomputable def impl_polyOf (N : Nat) (s : ByteArray) : Option (((Int × (Int × Unit)) × Unit) × Unit) :=
  ofFn Try.prog impl_polyOf.call impl_polyOf.qt impl_polyOf.H N Try.f65 [ak_s] [] [.agg [.sh (.int .u64), .sh (.int .u64)]] [] [⟨[], [], [], []⟩] (s, ()) ()
noncomputable def impl_polyOf.S (N : Nat) : Say := ⟨false, 65, [ak_s], [], [.agg [.sh (.int .u64), .sh (.int .u64)]], [], fun a s => impl_polyOf N a.1⟩
set_option maxRecDepth 100000 in
theorem impl_polyOf.eq (N : Nat) (s : ByteArray) : impl_polyOf N s =
 chk (decide (8 ≤ (s.size : Int))) (
 andK (impl_numberOf N (s.extract 0 8)) fun u1 =>
 chk ((decide (8 ≤ (s.size : Int))) && (decide ((s.size : Int) ≤ (s.size : Int)))) (
 andK (impl_numberOf N (s.extract 8 (Int.toNat (s.size : Int)))) fun u2 =>
 some (((u1.1.1, (u2.1.1, ())), ()), ()))) := by kernel_rfl
set_option maxRecDepth 100000 in
theorem impl_polyOf.say (N : Nat) : SayOk Try.prog (impl_polyOf.S N) := sayOk_mk (N := N) (H := impl_polyOf.H) (preps := [⟨[], [], [], []⟩]) (l := impl_polyOf.says) (fn := Try.f65) (c := bodyOf Try.f65)
  (by kernel_rfl) (by kernel_rfl) (by kernel_rfl) (by kernel_rfl) (by kernel_rfl) (by kernel_rfl) (by kernel_rfl)
  (fun N => SayAll.cons (impl_numberOf.say N) (SayAll.nil)) (fun a s => by kernel_rfl)

/-! ### strings.Repeat: function 87 -/
noncomputable def strings_Repeat (N : Nat) (s : ByteArray) (n : Int) : Option ((ByteArray × Unit) × Unit) := repF s n
noncomputable def strings_Repeat.S (N : Nat) : Say := repS 87
theorem strings_Repeat.eq (N : Nat) (s : ByteArray) (n : Int) : strings_Repeat N s n =
 chk (decide (0 ≤ n)) (
 chk (decide (n ≤ 9223372036854775807)) (
 chk (decide (s.size * (Int.toNat n) ≤ 140737488355328)) (
 some (((repL s (Int.toNat n)), ()), ())))) := repF_eq s n
set_option maxRecDepth 100000 in
theorem strings_Repeat.say (N : Nat) : SayOk Try.prog (strings_Repeat.S N) := sayOk_repeat (enters_mk (fn := Try.f87) (c := bodyOf Try.f87) (by kernel_rfl) (by kernel_rfl) (by kernel_rfl)) Try.strings_Repeat

/-! ### loop.example/g00206/impl.filled: function 68 -/
noncomputable def impl_filled.H : Hints := hintsOf []
noncomputable def impl_filled.says (N : Nat) : List Say := [strings_Repeat.S N]
noncomputable def impl_filled.call (N : Nat) : CallK := callBy (impl_filled.says N)
noncomputable def impl_filled.qt (N : Nat) : FuncId → List PV → Sig → Cl := qtBy (impl_filled.says N)
noncomputable def impl_filled (N : Nat) (s : ByteArray) : Option ((ByteArray × Unit) × Unit) :=
  ofFn Try.prog impl_filled.call impl_filled.qt impl_filled.H N Try.f68 [ak_s] [] [ak_s] [] [⟨[], [], [], []⟩] (s, ()) ()
noncomputable def impl_filled.S (N : Nat) : Say := ⟨false, 68, [ak_s], [], [ak_s], [], fun a s => impl_filled N a.1⟩
set_option maxRecDepth 100000 in
theorem impl_filled.eq (N : Nat) (s : ByteArray) : impl_filled N s =
 andK (strings_Repeat N (⟨#[0]⟩ : ByteArray) (Int.tmod (IntKind.i64.wrap (16 - (Int.tmod (s.size : Int) 16))) 16)) fun u1 =>
 chk (decide (s.size + u1.1.1.size ≤ 9223372036854775807)) (
 some (((s ++ u1.1.1), ()), ())) := by kernel_rfl
set_option maxRecDepth 100000 in
theorem impl_filled.say (N : Nat) : SayOk Try.prog (impl_filled.S N) := sayOk_mk (N := N) (H := impl_filled.H) (preps := [⟨[], [], [], []⟩]) (l := impl_filled.says) (fn := Try.f68) (c := bodyOf Try.f68)
  (by kernel_rfl) (by kernel_rfl) (by kernel_rfl) (by kernel_rfl) (by kernel_rfl) (by kernel_rfl) (by kernel_rfl)
  (fun N => SayAll.cons (strings_Repeat.say N) (SayAll.nil)) (fun a s => by kernel_rfl)

/-! ### (loop.example/g00206/impl.poly).xor: function 85 -/
noncomputable def impl_poly_xor.H : Hints := hintsOf []
noncomputable def impl_poly_xor.says (N : Nat) : List Say := []
noncomputable def impl_poly_xor.call (N : Nat) : CallK := callBy (impl_poly_xor.says N)
noncomputable def impl_poly_xor.qt (N : Nat) : FuncId → List PV → Sig → Cl := qtBy (impl_poly_xor.says N)
noncomputable def impl_poly_xor (N : Nat) (p_0 : Int) (p_1 : Int) (q_0 : Int) (q_1 : Int) : Option (((Int × (Int × Unit)) × Unit) × Unit) :=
  ofFn Try.prog impl_poly_xor.call impl_poly_xor.qt impl_poly_xor.H N Try.f85 [.agg [.sh (.int .u64), .sh (.int .u64)], .agg [.sh (.int .u64), .sh (.int .u64)]] [] [.agg [.sh (.int .u64), .sh (.int .u64)]] [] [⟨[], [], [], []⟩] ((p_0, (p_1, ())), ((q_0, (q_1, ())), ())) ()
noncomputable def impl_poly_xor.S (N : Nat) : Say := ⟨false, 85, [.agg [.sh (.int .u64), .sh (.int .u64)], .agg [.sh (.int .u64), .sh (.int .u64)]], [], [.agg [.sh (.int .u64), .sh (.int .u64)]], [], fun a s => impl_poly_xor N a.1.1 a.1.2.1 a.2.1.1 a.2.1.2.1⟩
set_option maxRecDepth 100000 in
theorem impl_poly_xor.eq (N : Nat) (p_0 : Int) (p_1 : Int) (q_0 : Int) (q_1 : Int) : impl_poly_xor N p_0 p_1 q_0 q_1 =
 some ((((Go.bits .xor .u64 p_0 q_0), ((Go.bits .xor .u64 p_1 q_1), ())), ()), ()) := by kernel_rfl
set_option maxRecDepth 100000 in
theorem impl_poly_xor.say (N : Nat) : SayOk Try.prog (impl_poly_xor.S N) := sayOk_mk (N := N) (H := impl_poly_xor.H) (preps := [⟨[], [], [], []⟩]) (l := impl_poly_xor.says) (fn := Try.f85) (c := bodyOf Try.f85)
  (by kernel_rfl) (by kernel_rfl) (by kernel_rfl) (by kernel_rfl) (by kernel_rfl) (by kernel_rfl) (by kernel_rfl)
  (fun N => SayAll.nil) (fun a s => by kernel_rfl)

/-! ### (loop.example/g00206/impl.poly).byX: function 98 -/
noncomputable def impl_poly_byX.H : Hints := hintsOf []
noncomputable def impl_poly_byX.says (N : Nat) : List Say := []
noncomputable def impl_poly_byX.call (N : Nat) : CallK := callBy (impl_poly_byX.says N)
noncomputable def impl_poly_byX.qt (N : Nat) : FuncId → List PV → Sig → Cl := qtBy (impl_poly_byX.says N)
noncomputable def impl_poly_byX (N : Nat) (p_0 : Int) (p_1 : Int) : Option (((Int × (Int × Unit)) × Unit) × Unit) :=
  ofFn Try.prog impl_poly_byX.call impl_poly_byX.qt impl_poly_byX.H N Try.f98 [.agg [.sh (.int .u64), .sh (.int .u64)]] [] [.agg [.sh (.int .u64), .sh (.int .u64)]] [] [⟨[], [], [], []⟩] ((p_0, (p_1, ())), ()) ()
noncomputable def impl_poly_byX.S (N : Nat) : Say := ⟨false, 98, [.agg [.sh (.int .u64), .sh (.int .u64)]], [], [.agg [.sh (.int .u64), .sh (.int .u64)]], [], fun a s => impl_poly_byX N a.1.1 a.1.2.1⟩
set_option maxRecDepth 100000 in
theorem impl_poly_byX.eq (N : Nat) (p_0 : Int) (p_1 : Int) : impl_poly_byX N p_0 p_1 =
 sel (decide ((Go.bits .and .u64 p_1 1) = 1))
  (
  some ((((Go.bits .xor .u64 (shrI .u64 p_0 1) 16212958658533785600), ((Go.bits .or .u64 (shrI .u64 p_1 1) (shlI .u64 p_0 63)), ())), ()), ()))
  (
  some ((((shrI .u64 p_0 1), ((Go.bits .or .u64 (shrI .u64 p_1 1) (shlI .u64 p_0 63)), ())), ()), ())) := by kernel_rfl
set_option maxRecDepth 100000 in
theorem impl_poly_byX.say (N : Nat) : SayOk Try.prog (impl_poly_byX.S N) := sayOk_mk (N := N) (H := impl_poly_byX.H) (preps := [⟨[], [], [], []⟩]) (l := impl_poly_byX.says) (fn := Try.f98) (c := bodyOf Try.f98)
  (by kernel_rfl) (by kernel_rfl) (by kernel_rfl) (by kernel_rfl) (by kernel_rfl) (by kernel_rfl) (by kernel_rfl)
  (fun N => SayAll.nil) (fun a s => by kernel_rfl)

/-! ### (loop.example/g00206/impl.poly).times: function 86 -/
noncomputable def impl_poly_times.H : Hints := hintsOf [(8, .join [⟨.normal, [9], [2, 3, 4, 5, 7], [.one (.ptr 0 0), .one (.ptr 1 0), .one (.ptr 2 0), .one (.ptr 3 0), .one (.sh (.int .u64))], [.cells [.sh (.int .u64), .sh (.int .u64)], .cells [.sh (.int .u64), .sh (.int .u64)], .cells [.sh (.int .u64), .sh (.int .u64)], .cells [.sh (.int .u64), .sh (.int .u64)]], [⟨[], [], [], []⟩]⟩]),
  (10, .join [⟨.normal, [9], [2, 3, 4, 5], [.one (.ptr 0 0), .one (.ptr 1 0), .one (.ptr 2 0), .one (.ptr 3 0)], [.cells [.sh (.int .u64), .sh (.int .u64)], .cells [.sh (.int .u64), .sh (.int .u64)], .cells [.sh (.int .u64), .sh (.int .u64)], .cells [.sh (.int .u64), .sh (.int .u64)]], [⟨[], [], [], []⟩]⟩]),
  (2000003, .loop ⟨.normal, [], [2, 3, 4, 5, 9], [.one (.ptr 0 0), .one (.ptr 1 0), .one (.ptr 2 0), .one (.ptr 3 0), ak_i], [.cells [.sh (.int .u64), .sh (.int .u64)], .cells [.sh (.int .u64), .sh (.int .u64)], .cells [.sh (.int .u64), .sh (.int .u64)], .cells [.sh (.int .u64), .sh (.int .u64)]], [⟨[], [], [], []⟩]⟩ [⟨(.exit 0), [], [4, 5], [.one (.ptr 2 0), .one (.ptr 3 0)], [.cells [.sh (.int .u64), .sh (.int .u64)], .cells [.sh (.int .u64), .sh (.int .u64)], .cells [.sh (.int .u64), .sh (.int .u64)], .cells [.sh (.int .u64), .sh (.int .u64)]], [⟨[], [], [], []⟩]⟩])]
noncomputable def impl_poly_times.says (N : Nat) : List Say := [impl_poly_xor.S N, impl_poly_byX.S N]
noncomputable def impl_poly_times.call (N : Nat) : CallK := callBy (impl_poly_times.says N)
noncomputable def impl_poly_times.qt (N : Nat) : FuncId → List PV → Sig → Cl := qtBy (impl_poly_times.says N)
noncomputable def impl_poly_times.l0.hd : Alt := ⟨.normal, [], [2, 3, 4, 5, 9], [.one (.ptr 0 0), .one (.ptr 1 0), .one (.ptr 2 0), .one (.ptr 3 0), ak_i], [.cells [.sh (.int .u64), .sh (.int .u64)], .cells [.sh (.int .u64), .sh (.int .u64)], .cells [.sh (.int .u64), .sh (.int .u64)], .cells [.sh (.int .u64), .sh (.int .u64)]], [⟨[], [], [], []⟩]⟩
noncomputable def impl_poly_times.l0.outs : List Alt := [⟨(.exit 0), [], [4, 5], [.one (.ptr 2 0), .one (.ptr 3 0)], [.cells [.sh (.int .u64), .sh (.int .u64)], .cells [.sh (.int .u64), .sh (.int .u64)], .cells [.sh (.int .u64), .sh (.int .u64)], .cells [.sh (.int .u64), .sh (.int .u64)]], [⟨[], [], [], []⟩]⟩]
noncomputable def impl_poly_times.l0 (N : Nat) (t9 : Int) (p0_0 : Int) (p0_1 : Int) (p1_0 : Int) (p1_1 : Int) (p2_0 : Int) (p2_1 : Int) (p3_0 : Int) (p3_1 : Int) : Option ((Unit × (Unit × Unit)) × ((Int × (Int × Unit)) × ((Int × (Int × Unit)) × ((Int × (Int × Unit)) × ((Int × (Int × Unit)) × Unit))))) :=
  loopK Try.prog impl_poly_times.call impl_poly_times.qt impl_poly_times.H (codeAt (bodyOf Try.f86) [1, 1, 0, 1, 0, 0]) 4 impl_poly_times.l0.hd impl_poly_times.l0.outs [] N (((), ((), ((), ((), (t9, ()))))), ((p0_0, (p0_1, ())), ((p1_0, (p1_1, ())), ((p2_0, (p2_1, ())), ((p3_0, (p3_1, ())), ())))))
noncomputable def impl_poly_times (N : Nat) (p_0 : Int) (p_1 : Int) (q_0 : Int) (q_1 : Int) : Option (((Int × (Int × Unit)) × Unit) × Unit) :=
  ofFn Try.prog impl_poly_times.call impl_poly_times.qt impl_poly_times.H N Try.f86 [.agg [.sh (.int .u64), .sh (.int .u64)], .agg [.sh (.int .u64), .sh (.int .u64)]] [] [.agg [.sh (.int .u64), .sh (.int .u64)]] [] [⟨[], [], [], []⟩] ((p_0, (p_1, ())), ((q_0, (q_1, ())), ())) ()
noncomputable def impl_poly_times.S (N : Nat) : Say := ⟨false, 86, [.agg [.sh (.int .u64), .sh (.int .u64)], .agg [.sh (.int .u64), .sh (.int .u64)]], [], [.agg [.sh (.int .u64), .sh (.int .u64)]], [], fun a s => impl_poly_times N a.1.1 a.1.2.1 a.2.1.1 a.2.1.2.1⟩
set_option maxRecDepth 100000 in
theorem impl_poly_times.l0.eq (N : Nat) (t9 : Int) (p0_0 : Int) (p0_1 : Int) (p1_0 : Int) (p1_1 : Int) (p2_0 : Int) (p2_1 : Int) (p3_0 : Int) (p3_1 : Int) : impl_poly_times.l0 (N + 1) t9 p0_0 p0_1 p1_0 p1_1 p2_0 p2_1 p3_0 p3_1 =
 sel (decide (t9 < 128))
  (
  chk (decide (0 ≤ (IntKind.i64.wrap (63 - (Int.tmod t9 64))))) (
  andK (α := ((Unit × (Unit × (Unit × (Unit × (Int × Unit))))) × ((Int × (Int × Unit)) × ((Int × (Int × Unit)) × ((Int × (Int × Unit)) × ((Int × (Int × Unit)) × Unit)))))) (
   sel (decide (63 < t9))
    (
    chk (decide (0 ≤ (IntKind.i64.wrap (63 - (Int.tmod t9 64))))) (
    some ((((), ((), ((), ((), ((shrI .u64 p1_1 (IntKind.i64.wrap (63 - (Int.tmod t9 64)))), ()))))), ((p0_0, (p0_1, ())), ((p1_0, (p1_1, ())), ((p2_0, (p2_1, ())), ((p3_0, (p3_1, ())), ()))))))))
    (
    some ((((), ((), ((), ((), ((shrI .u64 p1_0 (IntKind.i64.wrap (63 - (Int.tmod t9 64)))), ()))))), ((p0_0, (p0_1, ())), ((p1_0, (p1_1, ())), ((p2_0, (p2_1, ())), ((p3_0, (p3_1, ())), ())))))))) fun j1 =>
  andK (α := ((Unit × (Unit × (Unit × (Unit × Unit)))) × ((Int × (Int × Unit)) × ((Int × (Int × Unit)) × ((Int × (Int × Unit)) × ((Int × (Int × Unit)) × Unit)))))) (
   sel (decide ((Go.bits .and .u64 j1.1.2.2.2.2.1 1) = 1))
    (
    andK (impl_poly_xor N j1.2.2.2.2.1.1 j1.2.2.2.2.1.2.1 j1.2.1.1 j1.2.1.2.1) fun u2 =>
    some ((((), ((), ((), ((), ())))), ((j1.2.1.1, (j1.2.1.2.1, ())), ((j1.2.2.1.1, (j1.2.2.1.2.1, ())), ((j1.2.2.2.1.1, (j1.2.2.2.1.2.1, ())), ((u2.1.1.1, (u2.1.1.2.1, ())), ())))))))
    (
    some ((((), ((), ((), ((), ())))), ((j1.2.1.1, (j1.2.1.2.1, ())), ((j1.2.2.1.1, (j1.2.2.1.2.1, ())), ((j1.2.2.2.1.1, (j1.2.2.2.1.2.1, ())), ((j1.2.2.2.2.1.1, (j1.2.2.2.2.1.2.1, ())), ())))))))) fun j3 =>
  andK (impl_poly_byX N j3.2.1.1 j3.2.1.2.1) fun u4 =>
  impl_poly_times.l0 N (IntKind.i64.wrap (t9 + 1)) u4.1.1.1 u4.1.1.2.1 j3.2.2.1.1 j3.2.2.1.2.1 j3.2.2.2.1.1 j3.2.2.2.1.2.1 j3.2.2.2.2.1.1 j3.2.2.2.2.1.2.1))
  (
  some ((((), ((), ())), ((p0_0, (p0_1, ())), ((p1_0, (p1_1, ())), ((p2_0, (p2_1, ())), ((p3_0, (p3_1, ())), ()))))))) := by kernel_rfl
set_option maxRecDepth 100000 in
theorem impl_poly_times.eq (N : Nat) (p_0 : Int) (p_1 : Int) (q_0 : Int) (q_1 : Int) : impl_poly_times N p_0 p_1 q_0 q_1 =
 andK (impl_poly_times.l0 N 0 p_0 p_1 q_0 q_1 0 0 0 0) fun l5 =>
 some (((l5.2.2.2.2.1.1, (l5.2.2.2.2.1.2.1, ())), ()), ()) := by kernel_rfl
set_option maxRecDepth 100000 in
theorem impl_poly_times.say (N : Nat) : SayOk Try.prog (impl_poly_times.S N) := sayOk_mk (N := N) (H := impl_poly_times.H) (preps := [⟨[], [], [], []⟩]) (l := impl_poly_times.says) (fn := Try.f86) (c := bodyOf Try.f86)
  (by kernel_rfl) (by kernel_rfl) (by kernel_rfl) (by kernel_rfl) (by kernel_rfl) (by kernel_rfl) (by kernel_rfl)
  (fun N => SayAll.cons (impl_poly_xor.say N) (SayAll.cons (impl_poly_byX.say N) (SayAll.nil))) (fun a s => by kernel_rfl)

/-! ### loop.example/g00206/impl.ghash: function 67 -/
noncomputable def impl_ghash.H : Hints := hintsOf [(2000003, .loop ⟨.normal, [1], [2, 4, 5, 6], [.one (.ptr 0 0), .one (.ptr 1 0), .one (.ptr 2 0), ak_i], [.cells [.sh (.int .u64), .sh (.int .u64)], .cells [.sh (.int .u64), .sh (.int .u64)], .cells [.sh (.int .u64), .sh (.int .u64)]], [⟨[], [], [], []⟩]⟩ [⟨(.exit 0), [], [4, 5], [.one (.ptr 1 0), .one (.ptr 2 0)], [.cells [.sh (.int .u64), .sh (.int .u64)], .cells [.sh (.int .u64), .sh (.int .u64)], .cells [.sh (.int .u64), .sh (.int .u64)]], [⟨[], [], [], []⟩]⟩])]
noncomputable def impl_ghash.says (N : Nat) : List Say := [impl_polyOf.S N, impl_poly_xor.S N, impl_poly_times.S N]
noncomputable def impl_ghash.call (N : Nat) : CallK := callBy (impl_ghash.says N)
noncomputable def impl_ghash.qt (N : Nat) : FuncId → List PV → Sig → Cl := qtBy (impl_ghash.says N)
noncomputable def impl_ghash.l0.hd : Alt := ⟨.normal, [1], [2, 4, 5, 6], [.one (.ptr 0 0), .one (.ptr 1 0), .one (.ptr 2 0), ak_i], [.cells [.sh (.int .u64), .sh (.int .u64)], .cells [.sh (.int .u64), .sh (.int .u64)], .cells [.sh (.int .u64), .sh (.int .u64)]], [⟨[], [], [], []⟩]⟩
noncomputable def impl_ghash.l0.outs : List Alt := [⟨(.exit 0), [], [4, 5], [.one (.ptr 1 0), .one (.ptr 2 0)], [.cells [.sh (.int .u64), .sh (.int .u64)], .cells [.sh (.int .u64), .sh (.int .u64)], .cells [.sh (.int .u64), .sh (.int .u64)]], [⟨[], [], [], []⟩]⟩]
noncomputable def impl_ghash.l0 (N : Nat) (s1 : ByteArray) (i : Int) (p0_0 : Int) (p0_1 : Int) (p1_0 : Int) (p1_1 : Int) (p2_0 : Int) (p2_1 : Int) : Option ((Unit × (Unit × Unit)) × ((Int × (Int × Unit)) × ((Int × (Int × Unit)) × ((Int × (Int × Unit)) × Unit)))) :=
  loopK Try.prog impl_ghash.call impl_ghash.qt impl_ghash.H (codeAt (bodyOf Try.f67) [1, 1, 0, 1, 0, 0]) 3 impl_ghash.l0.hd impl_ghash.l0.outs [(1, .v (.string s1))] N (((), ((), ((), (i, ())))), ((p0_0, (p0_1, ())), ((p1_0, (p1_1, ())), ((p2_0, (p2_1, ())), ()))))
noncomputable def impl_ghash (N : Nat) (h_0 : Int) (h_1 : Int) (s : ByteArray) : Option (((Int × (Int × Unit)) × Unit) × Unit) :=
  ofFn Try.prog impl_ghash.call impl_ghash.qt impl_ghash.H N Try.f67 [.agg [.sh (.int .u64), .sh (.int .u64)], ak_s] [] [.agg [.sh (.int .u64), .sh (.int .u64)]] [] [⟨[], [], [], []⟩] ((h_0, (h_1, ())), (s, ())) ()
noncomputable def impl_ghash.S (N : Nat) : Say := ⟨false, 67, [.agg [.sh (.int .u64), .sh (.int .u64)], ak_s], [], [.agg [.sh (.int .u64), .sh (.int .u64)]], [], fun a s => impl_ghash N a.1.1 a.1.2.1 a.2.1⟩
set_option maxRecDepth 100000 in
theorem impl_ghash.l0.eq (N : Nat) (s1 : ByteArray) (i : Int) (p0_0 : Int) (p0_1 : Int) (p1_0 : Int) (p1_1 : Int) (p2_0 : Int) (p2_1 : Int) : impl_ghash.l0 (N + 1) s1 i p0_0 p0_1 p1_0 p1_1 p2_0 p2_1 =
 sel (decide (i < (s1.size : Int)))
  (
  chk ((decide (0 ≤ i)) && ((decide (i ≤ (IntKind.i64.wrap (i + 16)))) && (decide ((IntKind.i64.wrap (i + 16)) ≤ (s1.size : Int))))) (
  andK (impl_polyOf N (s1.extract (Int.toNat i) (Int.toNat (IntKind.i64.wrap (i + 16))))) fun u1 =>
  andK (impl_poly_xor N p2_0 p2_1 u1.1.1.1 u1.1.1.2.1) fun u2 =>
  andK (impl_poly_times N u2.1.1.1 u2.1.1.2.1 p0_0 p0_1) fun u3 =>
  impl_ghash.l0 N s1 (IntKind.i64.wrap (i + 16)) p0_0 p0_1 p1_0 p1_1 u3.1.1.1 u3.1.1.2.1))
  (
  some ((((), ((), ())), ((p0_0, (p0_1, ())), ((p1_0, (p1_1, ())), ((p2_0, (p2_1, ())), ())))))) := by kernel_rfl
set_option maxRecDepth 100000 in
theorem impl_ghash.eq (N : Nat) (h_0 : Int) (h_1 : Int) (s : ByteArray) : impl_ghash N h_0 h_1 s =
 andK (impl_ghash.l0 N s 0 h_0 h_1 0 0 0 0) fun l4 =>
 some (((l4.2.2.2.1.1, (l4.2.2.2.1.2.1, ())), ()), ()) := by kernel_rfl
set_option maxRecDepth 100000 in
theorem impl_ghash.say (N : Nat) : SayOk Try.prog (impl_ghash.S N) := sayOk_mk (N := N) (H := impl_ghash.H) (preps := [⟨[], [], [], []⟩]) (l := impl_ghash.says) (fn := Try.f67) (c := bodyOf Try.f67)
  (by kernel_rfl) (by kernel_rfl) (by kernel_rfl) (by kernel_rfl) (by kernel_rfl) (by kernel_rfl) (by kernel_rfl)
  (fun N => SayAll.cons (impl_polyOf.say N) (SayAll.cons (impl_poly_xor.say N) (SayAll.cons (impl_poly_times.say N) (SayAll.nil)))) (fun a s => by kernel_rfl)

/-! ### (loop.example/g00206/impl.poly).text: function 69 -/
noncomputable def impl_poly_text.H : Hints := hintsOf []
noncomputable def impl_poly_text.says (N : Nat) : List Say := [impl_bigEndian.S N]
noncomputable def impl_poly_text.call (N : Nat) : CallK := callBy (impl_poly_text.says N)
noncomputable def impl_poly_text.qt (N : Nat) : FuncId → List PV → Sig → Cl := qtBy (impl_poly_text.says N)
noncomputable def impl_poly_text (N : Nat) (p_0 : Int) (p_1 : Int) : Option ((ByteArray × Unit) × Unit) :=
  ofFn Try.prog impl_poly_text.call impl_poly_text.qt impl_poly_text.H N Try.f69 [.agg [.sh (.int .u64), .sh (.int .u64)]] [] [ak_s] [] [⟨[], [], [], []⟩] ((p_0, (p_1, ())), ()) ()
noncomputable def impl_poly_text.S (N : Nat) : Say := ⟨false, 69, [.agg [.sh (.int .u64), .sh (.int .u64)]], [], [ak_s], [], fun a s => impl_poly_text N a.1.1 a.1.2.1⟩
set_option maxRecDepth 100000 in
theorem impl_poly_text.eq (N : Nat) (p_0 : Int) (p_1 : Int) : impl_poly_text N p_0 p_1 =
 andK (impl_bigEndian N p_0 8) fun u1 =>
 andK (impl_bigEndian N p_1 8) fun u2 =>
 chk (decide (u1.1.1.size + u2.1.1.size ≤ 9223372036854775807)) (
 some (((u1.1.1 ++ u2.1.1), ()), ())) := by kernel_rfl
set_option maxRecDepth 100000 in
theorem impl_poly_text.say (N : Nat) : SayOk Try.prog (impl_poly_text.S N) := sayOk_mk (N := N) (H := impl_poly_text.H) (preps := [⟨[], [], [], []⟩]) (l := impl_poly_text.says) (fn := Try.f69) (c := bodyOf Try.f69)
  (by kernel_rfl) (by kernel_rfl) (by kernel_rfl) (by kernel_rfl) (by kernel_rfl) (by kernel_rfl) (by kernel_rfl)
  (fun N => SayAll.cons (impl_bigEndian.say N) (SayAll.nil)) (fun a s => by kernel_rfl)

/-! ### loop.example/g00206/impl.xored: function 70 -/
noncomputable def impl_xored.H : Hints := hintsOf [(2000003, .loop ⟨.normal, [1, 10], [5, 11], [.one (.own 0), ak_i], [.rows (.int .u8)], [⟨[], [], [], []⟩]⟩ [⟨(.exit 0), [], [5], [.one (.own 0)], [.rows (.int .u8)], [⟨[], [], [], []⟩]⟩])]
noncomputable def impl_xored.says (N : Nat) : List Say := []
noncomputable def impl_xored.call (N : Nat) : CallK := callBy (impl_xored.says N)
noncomputable def impl_xored.qt (N : Nat) : FuncId → List PV → Sig → Cl := qtBy (impl_xored.says N)
noncomputable def impl_xored.l0.hd : Alt := ⟨.normal, [1, 10], [5, 11], [.one (.own 0), ak_i], [.rows (.int .u8)], [⟨[], [], [], []⟩]⟩
noncomputable def impl_xored.l0.outs : List Alt := [⟨(.exit 0), [], [5], [.one (.own 0)], [.rows (.int .u8)], [⟨[], [], [], []⟩]⟩]
noncomputable def impl_xored.l0 (N : Nat) (b1 : ByteArray) (t10 : Int) (t11 : Int) (p0 : (List Int)) : Option ((Unit × Unit) × ((List Int) × Unit)) :=
  loopK Try.prog impl_xored.call impl_xored.qt impl_xored.H (codeAt (bodyOf Try.f70) [1, 1, 0, 1, 0, 0]) 1 impl_xored.l0.hd impl_xored.l0.outs [(1, .v (.string b1)), (10, .v (.int .i64 t10))] N (((), (t11, ())), (p0, ()))
noncomputable def impl_xored (N : Nat) (a : ByteArray) (b : ByteArray) : Option ((ByteArray × Unit) × Unit) :=
  ofFn Try.prog impl_xored.call impl_xored.qt impl_xored.H N Try.f70 [ak_s, ak_s] [] [ak_s] [] [⟨[], [], [], []⟩] (a, (b, ())) ()
noncomputable def impl_xored.S (N : Nat) : Say := ⟨false, 70, [ak_s, ak_s], [], [ak_s], [], fun a s => impl_xored N a.1 a.2.1⟩
set_option maxRecDepth 100000 in
theorem impl_xored.l0.eq (N : Nat) (b1 : ByteArray) (t10 : Int) (t11 : Int) (p0 : (List Int)) : impl_xored.l0 (N + 1) b1 t10 t11 p0 =
 sel (decide (t11 < t10))
  (
  chk ((decide (0 ≤ t11)) && (decide (t11 < (p0.length : Int)))) (
  chk ((decide (0 ≤ t11)) && (decide (t11 < (b1.size : Int)))) (
  chk ((decide (0 ≤ t11)) && (decide (t11 < (p0.length : Int)))) (
  impl_xored.l0 N b1 t10 (IntKind.i64.wrap (t11 + 1)) (p0.set (Int.toNat t11) (Go.bits .xor .u8 (p0.getD (Int.toNat t11) 0) ((bytesL b1).getD (Int.toNat t11) 0)))))))
  (
  some ((((), ()), (p0, ())))) := by kernel_rfl
set_option maxRecDepth 100000 in
theorem impl_xored.eq (N : Nat) (a : ByteArray) (b : ByteArray) : impl_xored N a b =
 andK (impl_xored.l0 N b ((bytesL a).length : Int) 0 (bytesL a)) fun l1 =>
 some (((strL l1.2.1), ()), ()) := by kernel_rfl
set_option maxRecDepth 100000 in
theorem impl_xored.say (N : Nat) : SayOk Try.prog (impl_xored.S N) := sayOk_mk (N := N) (H := impl_xored.H) (preps := [⟨[], [], [], []⟩]) (l := impl_xored.says) (fn := Try.f70) (c := bodyOf Try.f70)
  (by kernel_rfl) (by kernel_rfl) (by kernel_rfl) (by kernel_rfl) (by kernel_rfl) (by kernel_rfl) (by kernel_rfl)
  (fun N => SayAll.nil) (fun a s => by kernel_rfl)

/-! ### (*loop.example/g00206/impl.cipher).tag: function 43 -/
noncomputable def impl_cipher_tag.H : Hints := hintsOf []
noncomputable def impl_cipher_tag.says (N : Nat) : List Say := [impl_bigEndian.S N, impl_cipher_encrypt.S N, impl_polyOf.S N, impl_filled.S N, impl_ghash.S N, impl_poly_text.S N, impl_xored.S N]
noncomputable def impl_cipher_tag.call (N : Nat) : CallK := callBy (impl_cipher_tag.says N)
noncomputable def impl_cipher_tag.qt (N : Nat) : FuncId → List PV → Sig → Cl := qtBy (impl_cipher_tag.says N)
noncomputable def impl_cipher_tag (N : Nat) (nonce : ByteArray) (beside : ByteArray) (sealed : ByteArray) (p1 : (List Int)) (p2 : (List Int)) : Option ((ByteArray × Unit) × ((Unit × (Unit × Unit)) × ((List Int) × ((List Int) × Unit)))) :=
  ofFn Try.prog impl_cipher_tag.call impl_cipher_tag.qt impl_cipher_tag.H N Try.f43 [.one (.ptr 0 0), ak_s, ak_s, ak_s] [.cells [.apl 1 0 512, .own 2], .rows (.int .u8), .rows (.int .u8)] [ak_s] [.cells [.apl 1 0 512, .own 2], .rows (.int .u8) true, .rows (.int .u8) true] [⟨[], [], [], []⟩] ((), (nonce, (beside, (sealed, ())))) (((), ((), ())), (p1, (p2, ())))
noncomputable def impl_cipher_tag.S (N : Nat) : Say := ⟨false, 43, [.one (.ptr 0 0), ak_s, ak_s, ak_s], [.cells [.apl 1 0 512, .own 2], .rows (.int .u8), .rows (.int .u8)], [ak_s], [.cells [.apl 1 0 512, .own 2], .rows (.int .u8) true, .rows (.int .u8) true], fun a s => impl_cipher_tag N a.2.1 a.2.2.1 a.2.2.2.1 s.2.1 s.2.2.1⟩
set_option maxRecDepth 100000 in
theorem impl_cipher_tag.eq (N : Nat) (nonce : ByteArray) (beside : ByteArray) (sealed : ByteArray) (p1 : (List Int)) (p2 : (List Int)) : impl_cipher_tag N nonce beside sealed p1 p2 =
 andK (impl_bigEndian N 0 8) fun u1 =>
 andK (impl_bigEndian N 0 8) fun u2 =>
 chk (decide (u1.1.1.size + u2.1.1.size ≤ 9223372036854775807)) (
 andK (impl_cipher_encrypt N (u1.1.1 ++ u2.1.1) p1 p2) fun u3 =>
 andK (impl_polyOf N u3.1.1) fun u4 =>
 andK (impl_bigEndian N (IntKind.u64.wrap (IntKind.i64.wrap (8 * (beside.size : Int)))) 8) fun u5 =>
 andK (impl_bigEndian N (IntKind.u64.wrap (IntKind.i64.wrap (8 * (sealed.size : Int)))) 8) fun u6 =>
 chk (decide (u5.1.1.size + u6.1.1.size ≤ 9223372036854775807)) (
 andK (impl_filled N beside) fun u7 =>
 andK (impl_filled N sealed) fun u8 =>
 chk (decide (u7.1.1.size + u8.1.1.size ≤ 9223372036854775807)) (
 chk (decide ((u7.1.1 ++ u8.1.1).size + (u5.1.1 ++ u6.1.1).size ≤ 9223372036854775807)) (
 andK (impl_ghash N u4.1.1.1 u4.1.1.2.1 ((u7.1.1 ++ u8.1.1) ++ (u5.1.1 ++ u6.1.1))) fun u9 =>
 andK (impl_poly_text N u9.1.1.1 u9.1.1.2.1) fun u10 =>
 andK (impl_bigEndian N 1 4) fun u11 =>
 chk (decide (nonce.size + u11.1.1.size ≤ 9223372036854775807)) (
 andK (impl_cipher_encrypt N (nonce ++ u11.1.1) u3.2.2.1 u3.2.2.2.1) fun u12 =>
 andK (impl_xored N u10.1.1 u12.1.1) fun u13 =>
 some ((u13.1.1, ()), (((), ((), ())), (u12.2.2.1, (u12.2.2.2.1, ()))))))))) := by kernel_rfl
set_option maxRecDepth 100000 in
theorem impl_cipher_tag.say (N : Nat) : SayOk Try.prog (impl_cipher_tag.S N) := sayOk_mk (N := N) (H := impl_cipher_tag.H) (preps := [⟨[], [], [], []⟩]) (l := impl_cipher_tag.says) (fn := Try.f43) (c := bodyOf Try.f43)
  (by kernel_rfl) (by kernel_rfl) (by kernel_rfl) (by kernel_rfl) (by kernel_rfl) (by kernel_rfl) (by kernel_rfl)
  (fun N => SayAll.cons (impl_bigEndian.say N) (SayAll.cons (impl_cipher_encrypt.say N) (SayAll.cons (impl_polyOf.say N) (SayAll.cons (impl_filled.say N) (SayAll.cons (impl_ghash.say N) (SayAll.cons (impl_poly_text.say N) (SayAll.cons (impl_xored.say N) (SayAll.nil)))))))) (fun a s => by kernel_rfl)

/-! ### loop.example/g00206/impl.SealText: function 15 -/
noncomputable def impl_SealText.H : Hints := hintsOf [(5000001, .join [⟨.normal, [0, 1, 2, 3], [21], [ak_b], [], [⟨[], [], [], []⟩]⟩])]
noncomputable def impl_SealText.says (N : Nat) : List Say := [impl_sealOk.S N, impl_cipherOf.S N, impl_cipher_turned.S N, impl_cipher_tag.S N]
noncomputable def impl_SealText.call (N : Nat) : CallK := callBy (impl_SealText.says N)
noncomputable def impl_SealText.qt (N : Nat) : FuncId → List PV → Sig → Cl := qtBy (impl_SealText.says N)
noncomputable def impl_SealText (N : Nat) (key : ByteArray) (nonce : ByteArray) (beside : ByteArray) (text : ByteArray) : Option ((ByteArray × (Bool × Unit)) × Unit) :=
  ofFn Try.prog impl_SealText.call impl_SealText.qt impl_SealText.H N Try.f15 [ak_s, ak_s, ak_s, ak_s] [] [ak_s, ak_b] [] [⟨[], [], [], []⟩] (key, (nonce, (beside, (text, ())))) ()
noncomputable def impl_SealText.S (N : Nat) : Say := ⟨false, 15, [ak_s, ak_s, ak_s, ak_s], [], [ak_s, ak_b], [], fun a s => impl_SealText N a.1 a.2.1 a.2.2.1 a.2.2.2.1⟩
set_option maxRecDepth 100000 in
theorem impl_SealText.eq (N : Nat) (key : ByteArray) (nonce : ByteArray) (beside : ByteArray) (text : ByteArray) : impl_SealText N key nonce beside text =
 andK (α := ((Bool × Unit) × Unit)) (
  andK (impl_sealOk N key nonce beside) fun u1 =>
  sel (!u1.1.1)
   (
   some (((true, ()), ())))
   (
   some ((((decide (1500 < (text.size : Int))), ()), ())))) fun j2 =>
 sel j2.1.1
  (
  some (((⟨#[]⟩ : ByteArray), (false, ())), ()))
  (
  andK (impl_cipherOf N key) fun u3 =>
  andK (impl_cipher_turned N nonce text u3.2.2.1 u3.2.2.2.1) fun u4 =>
  andK (impl_cipher_tag N nonce beside u4.1.1 u4.2.2.1 u4.2.2.2.1) fun u5 =>
  chk (decide (u4.1.1.size + u5.1.1.size ≤ 9223372036854775807)) (
  some (((u4.1.1 ++ u5.1.1), (true, ())), ()))) := by kernel_rfl
set_option maxRecDepth 100000 in
theorem impl_SealText.say (N : Nat) : SayOk Try.prog (impl_SealText.S N) := sayOk_mk (N := N) (H := impl_SealText.H) (preps := [⟨[], [], [], []⟩]) (l := impl_SealText.says) (fn := Try.f15) (c := bodyOf Try.f15)
  (by kernel_rfl) (by kernel_rfl) (by kernel_rfl) (by kernel_rfl) (by kernel_rfl) (by kernel_rfl) (by kernel_rfl)
  (fun N => SayAll.cons (impl_sealOk.say N) (SayAll.cons (impl_cipherOf.say N) (SayAll.cons (impl_cipher_turned.say N) (SayAll.cons (impl_cipher_tag.say N) (SayAll.nil))))) (fun a s => by kernel_rfl)

/-! ### loop.example/g00206/impl.MintToken: function 7 -/
noncomputable def impl_MintToken.H : Hints := hintsOf [(5000001, .join [⟨.normal, [0, 1, 2], [7, 30], [.one (.ptr 0 0), ak_b], [.cells [ck_s, ck_i, ck_b]], [⟨[], [], [], []⟩]⟩]),
  (6, .join [⟨.normal, [0, 1, 2], [7, 10], [.one (.ptr 0 0), ak_s], [.cells [ck_s, ck_i, ck_b]], [⟨[], [], [], []⟩]⟩])]
noncomputable def impl_MintToken.says (N : Nat) : List Say := [impl_isKey.S N, impl_isAddress.S N, impl_goodMinted.S N, impl_bigEndian.S N, impl_SealText.S N]
noncomputable def impl_MintToken.call (N : Nat) : CallK := callBy (impl_MintToken.says N)
noncomputable def impl_MintToken.qt (N : Nat) : FuncId → List PV → Sig → Cl := qtBy (impl_MintToken.says N)
noncomputable def impl_MintToken (N : Nat) (key : ByteArray) (nonce : ByteArray) (address : ByteArray) (m_0 : ByteArray) (m_1 : Int) (m_2 : Bool) : Option ((ByteArray × (Bool × Unit)) × Unit) :=
  ofFn Try.prog impl_MintToken.call impl_MintToken.qt impl_MintToken.H N Try.f7 [ak_s, ak_s, ak_s, .agg [ck_s, ck_i, ck_b]] [] [ak_s, ak_b] [] [⟨[], [], [], []⟩] (key, (nonce, (address, ((m_0, (m_1, (m_2, ()))), ())))) ()
noncomputable def impl_MintToken.S (N : Nat) : Say := ⟨false, 7, [ak_s, ak_s, ak_s, .agg [ck_s, ck_i, ck_b]], [], [ak_s, ak_b], [], fun a s => impl_MintToken N a.1 a.2.1 a.2.2.1 a.2.2.2.1.1 a.2.2.2.1.2.1 a.2.2.2.1.2.2.1⟩
set_option maxRecDepth 100000 in
theorem impl_MintToken.eq (N : Nat) (key : ByteArray) (nonce : ByteArray) (address : ByteArray) (m_0 : ByteArray) (m_1 : Int) (m_2 : Bool) : impl_MintToken N key nonce address m_0 m_1 m_2 =
 andK (α := ((Unit × (Bool × Unit)) × ((ByteArray × (Int × (Bool × Unit))) × Unit))) (
  andK (impl_isKey N key) fun u1 =>
  sel (!u1.1.1)
   (
   some ((((), (true, ())), ((m_0, (m_1, (m_2, ()))), ()))))
   (
   sel (!(decide ((nonce.size : Int) = 12)))
    (
    some ((((), (true, ())), ((m_0, (m_1, (m_2, ()))), ()))))
    (
    andK (impl_isAddress N address) fun u2 =>
    sel (!u2.1.1)
     (
     some ((((), (true, ())), ((m_0, (m_1, (m_2, ()))), ()))))
     (
     andK (impl_goodMinted N m_0 m_1 m_2) fun u3 =>
     some ((((), ((!u3.1.1), ())), ((m_0, (m_1, (m_2, ()))), ()))))))) fun j4 =>
 sel j4.1.2.1
  (
  some (((⟨#[]⟩ : ByteArray), (false, ())), ()))
  (
  andK (α := ((Unit × (ByteArray × Unit)) × ((ByteArray × (Int × (Bool × Unit))) × Unit))) (
   sel j4.2.1.2.2.1
    (
    some ((((), ((⟨#[1]⟩ : ByteArray), ())), ((j4.2.1.1, (j4.2.1.2.1, (j4.2.1.2.2.1, ()))), ()))))
    (
    some ((((), ((⟨#[0]⟩ : ByteArray), ())), ((j4.2.1.1, (j4.2.1.2.1, (j4.2.1.2.2.1, ()))), ()))))) fun j5 =>
  chk (decide (j5.1.2.1.size + address.size ≤ 9223372036854775807)) (
  andK (impl_bigEndian N (IntKind.u64.wrap j5.2.1.2.1) 8) fun u6 =>
  chk (decide (u6.1.1.size + j5.2.1.1.size ≤ 9223372036854775807)) (
  andK (impl_SealText N key nonce (j5.1.2.1 ++ address) (u6.1.1 ++ j5.2.1.1)) fun u7 =>
  chk (decide (j5.1.2.1.size + nonce.size ≤ 9223372036854775807)) (
  chk (decide ((j5.1.2.1 ++ nonce).size + u7.1.1.size ≤ 9223372036854775807)) (
  some ((((j5.1.2.1 ++ nonce) ++ u7.1.1), (true, ())), ())))))) := by kernel_rfl
set_option maxRecDepth 100000 in
theorem impl_MintToken.say (N : Nat) : SayOk Try.prog (impl_MintToken.S N) := sayOk_mk (N := N) (H := impl_MintToken.H) (preps := [⟨[], [], [], []⟩]) (l := impl_MintToken.says) (fn := Try.f7) (c := bodyOf Try.f7)
  (by kernel_rfl) (by kernel_rfl) (by kernel_rfl) (by kernel_rfl) (by kernel_rfl) (by kernel_rfl) (by kernel_rfl)
  (fun N => SayAll.cons (impl_isKey.say N) (SayAll.cons (impl_isAddress.say N) (SayAll.cons (impl_goodMinted.say N) (SayAll.cons (impl_bigEndian.say N) (SayAll.cons (impl_SealText.say N) (SayAll.nil)))))) (fun a s => by kernel_rfl)

/-! ### loop.example/g00206/spec.l1In: function 37 -/
noncomputable def spec_l1In.H : Hints := hintsOf []
noncomputable def spec_l1In.says (N : Nat) : List Say := []
noncomputable def spec_l1In.call (N : Nat) : CallK := callBy (spec_l1In.says N)
noncomputable def spec_l1In.qt (N : Nat) : FuncId → List PV → Sig → Cl := qtBy (spec_l1In.says N)
noncomputable def spec_l1In (N : Nat) (n : Int) (lo : Int) (hi : Int) : Option ((Bool × Unit) × Unit) :=
  ofFn Try.prog spec_l1In.call spec_l1In.qt spec_l1In.H N Try.f37 [ak_i, ak_i, ak_i] [] [ak_b] [] [⟨[], [], [], []⟩] (n, (lo, (hi, ()))) ()
noncomputable def spec_l1In.S (N : Nat) : Say := ⟨false, 37, [ak_i, ak_i, ak_i], [], [ak_b], [], fun a s => spec_l1In N a.1 a.2.1 a.2.2.1⟩
set_option maxRecDepth 100000 in
theorem spec_l1In.eq (N : Nat) (n : Int) (lo : Int) (hi : Int) : spec_l1In N n lo hi =
 sel (decide (lo ≤ n))
  (
  some (((decide (n ≤ hi)), ()), ()))
  (
  some ((false, ()), ())) := by kernel_rfl
set_option maxRecDepth 100000 in
theorem spec_l1In.say (N : Nat) : SayOk Try.prog (spec_l1In.S N) := sayOk_mk (N := N) (H := spec_l1In.H) (preps := [⟨[], [], [], []⟩]) (l := spec_l1In.says) (fn := Try.f37) (c := bodyOf Try.f37)
  (by kernel_rfl) (by kernel_rfl) (by kernel_rfl) (by kernel_rfl) (by kernel_rfl) (by kernel_rfl) (by kernel_rfl)
  (fun N => SayAll.nil) (fun a s => by kernel_rfl)

/-! ### loop.example/g00206/spec.l10Address: function 30 -/
noncomputable def spec_l10Address.H : Hints := hintsOf []
noncomputable def spec_l10Address.says (N : Nat) : List Say := [spec_l1In.S N]
noncomputable def spec_l10Address.call (N : Nat) : CallK := callBy (spec_l10Address.says N)
noncomputable def spec_l10Address.qt (N : Nat) : FuncId → List PV → Sig → Cl := qtBy (spec_l10Address.says N)
noncomputable def spec_l10Address (N : Nat) (s : ByteArray) : Option ((Bool × Unit) × Unit) :=
  ofFn Try.prog spec_l10Address.call spec_l10Address.qt spec_l10Address.H N Try.f30 [ak_s] [] [ak_b] [] [⟨[], [], [], []⟩] (s, ()) ()
noncomputable def spec_l10Address.S (N : Nat) : Say := ⟨false, 30, [ak_s], [], [ak_b], [], fun a s => spec_l10Address N a.1⟩
set_option maxRecDepth 100000 in
theorem spec_l10Address.eq (N : Nat) (s : ByteArray) : spec_l10Address N s =
 andK (spec_l1In N (s.size : Int) 1 18) fun u1 =>
 some ((u1.1.1, ()), ()) := by kernel_rfl
set_option maxRecDepth 100000 in
theorem spec_l10Address.say (N : Nat) : SayOk Try.prog (spec_l10Address.S N) := sayOk_mk (N := N) (H := spec_l10Address.H) (preps := [⟨[], [], [], []⟩]) (l := spec_l10Address.says) (fn := Try.f30) (c := bodyOf Try.f30)
  (by kernel_rfl) (by kernel_rfl) (by kernel_rfl) (by kernel_rfl) (by kernel_rfl) (by kernel_rfl) (by kernel_rfl)
  (fun N => SayAll.cons (spec_l1In.say N) (SayAll.nil)) (fun a s => by kernel_rfl)

/-! ### loop.example/g00206/spec.l10Minted: function 31 -/
noncomputable def spec_l10Minted.H : Hints := hintsOf []
noncomputable def spec_l10Minted.says (N : Nat) : List Say := [spec_l1In.S N]
noncomputable def spec_l10Minted.call (N : Nat) : CallK := callBy (spec_l10Minted.says N)
noncomputable def spec_l10Minted.qt (N : Nat) : FuncId → List PV → Sig → Cl := qtBy (spec_l10Minted.says N)
noncomputable def spec_l10Minted (N : Nat) (m_0 : ByteArray) (m_1 : Int) (m_2 : Bool) : Option ((Bool × Unit) × Unit) :=
  ofFn Try.prog spec_l10Minted.call spec_l10Minted.qt spec_l10Minted.H N Try.f31 [.agg [ck_s, ck_i, ck_b]] [] [ak_b] [] [⟨[], [], [], []⟩] ((m_0, (m_1, (m_2, ()))), ()) ()
noncomputable def spec_l10Minted.S (N : Nat) : Say := ⟨false, 31, [.agg [ck_s, ck_i, ck_b]], [], [ak_b], [], fun a s => spec_l10Minted N a.1.1 a.1.2.1 a.1.2.2.1⟩
set_option maxRecDepth 100000 in
theorem spec_l10Minted.eq (N : Nat) (m_0 : ByteArray) (m_1 : Int) (m_2 : Bool) : spec_l10Minted N m_0 m_1 m_2 =
 sel (decide ((m_0.size : Int) ≤ 20))
  (
  andK (spec_l1In N m_1 0 1000000000) fun u1 =>
  some ((u1.1.1, ()), ()))
  (
  some ((false, ()), ())) := by kernel_rfl
set_option maxRecDepth 100000 in
theorem spec_l10Minted.say (N : Nat) : SayOk Try.prog (spec_l10Minted.S N) := sayOk_mk (N := N) (H := spec_l10Minted.H) (preps := [⟨[], [], [], []⟩]) (l := spec_l10Minted.says) (fn := Try.f31) (c := bodyOf Try.f31)
  (by kernel_rfl) (by kernel_rfl) (by kernel_rfl) (by kernel_rfl) (by kernel_rfl) (by kernel_rfl) (by kernel_rfl)
  (fun N => SayAll.cons (spec_l1In.say N) (SayAll.nil)) (fun a s => by kernel_rfl)

/-! ### loop.example/g00206/spec.l3Mul: function 89 -/
noncomputable def spec_l3Mul.H : Hints := hintsOf [(5, .join [⟨.normal, [0, 1], [5], [.one (.sh (.int .u8))], [], [⟨[], [], [], []⟩]⟩]),
  (9, .join [⟨.normal, [1, 5], [0], [.one (.sh (.int .u8))], [], [⟨[], [], [], []⟩]⟩]),
  (2000002, .loop ⟨.normal, [], [0, 1, 5], [.one (.sh (.int .u8)), .one (.sh (.int .u8)), .one (.sh (.int .u8))], [], [⟨[], [], [], []⟩]⟩ [⟨(.exit 0), [], [5], [.one (.sh (.int .u8))], [], [⟨[], [], [], []⟩]⟩])]
noncomputable def spec_l3Mul.says (N : Nat) : List Say := []
noncomputable def spec_l3Mul.call (N : Nat) : CallK := callBy (spec_l3Mul.says N)
noncomputable def spec_l3Mul.qt (N : Nat) : FuncId → List PV → Sig → Cl := qtBy (spec_l3Mul.says N)
noncomputable def spec_l3Mul.l0.hd : Alt := ⟨.normal, [], [0, 1, 5], [.one (.sh (.int .u8)), .one (.sh (.int .u8)), .one (.sh (.int .u8))], [], [⟨[], [], [], []⟩]⟩
noncomputable def spec_l3Mul.l0.outs : List Alt := [⟨(.exit 0), [], [5], [.one (.sh (.int .u8))], [], [⟨[], [], [], []⟩]⟩]
noncomputable def spec_l3Mul.l0 (N : Nat) (a1 : Int) (b1 : Int) (out : Int) : Option ((Int × Unit) × Unit) :=
  loopK Try.prog spec_l3Mul.call spec_l3Mul.qt spec_l3Mul.H (codeAt (bodyOf Try.f89) [1, 1, 0, 0, 0]) 0 spec_l3Mul.l0.hd spec_l3Mul.l0.outs [] N ((a1, (b1, (out, ()))), ())
noncomputable def spec_l3Mul (N : Nat) (a : Int) (b : Int) : Option ((Int × Unit) × Unit) :=
  ofFn Try.prog spec_l3Mul.call spec_l3Mul.qt spec_l3Mul.H N Try.f89 [.one (.sh (.int .u8)), .one (.sh (.int .u8))] [] [.one (.sh (.int .u8))] [] [⟨[], [], [], []⟩] (a, (b, ())) ()
noncomputable def spec_l3Mul.S (N : Nat) : Say := ⟨false, 89, [.one (.sh (.int .u8)), .one (.sh (.int .u8))], [], [.one (.sh (.int .u8))], [], fun a s => spec_l3Mul N a.1 a.2.1⟩
set_option maxRecDepth 100000 in
theorem spec_l3Mul.l0.eq (N : Nat) (a1 : Int) (b1 : Int) (out : Int) : spec_l3Mul.l0 (N + 1) a1 b1 out =
 sel (decide (0 < b1))
  (
  andK (α := ((Int × Unit) × Unit)) (
   sel (decide ((Go.bits .and .u8 b1 1) = 1))
    (
    some ((((Go.bits .xor .u8 out a1), ()), ())))
    (
    some (((out, ()), ())))) fun j1 =>
  andK (α := ((Int × Unit) × Unit)) (
   sel (!(decide ((Go.bits .and .u8 a1 128) = 0)))
    (
    some ((((Go.bits .xor .u8 (shlI .u8 a1 1) 27), ()), ())))
    (
    some ((((shlI .u8 a1 1), ()), ())))) fun j2 =>
  spec_l3Mul.l0 N j2.1.1 (shrI .u8 b1 1) j1.1.1)
  (
  some (((out, ()), ()))) := by kernel_rfl
set_option maxRecDepth 100000 in
theorem spec_l3Mul.eq (N : Nat) (a : Int) (b : Int) : spec_l3Mul N a b =
 andK (spec_l3Mul.l0 N a b 0) fun l3 =>
 some ((l3.1.1, ()), ()) := by kernel_rfl
set_option maxRecDepth 100000 in
theorem spec_l3Mul.say (N : Nat) : SayOk Try.prog (spec_l3Mul.S N) := sayOk_mk (N := N) (H := spec_l3Mul.H) (preps := [⟨[], [], [], []⟩]) (l := spec_l3Mul.says) (fn := Try.f89) (c := bodyOf Try.f89)
  (by kernel_rfl) (by kernel_rfl) (by kernel_rfl) (by kernel_rfl) (by kernel_rfl) (by kernel_rfl) (by kernel_rfl)
  (fun N => SayAll.nil) (fun a s => by kernel_rfl)

/-! ### loop.example/g00206/spec.l3Inverse: function 105 -/
noncomputable def spec_l3Inverse.H : Hints := hintsOf [(7, .join [⟨.normal, [0, 4], [3], [.one (.sh (.int .u8))], [], [⟨[], [], [], []⟩]⟩]),
  (2000003, .loop ⟨.normal, [], [0, 3, 4], [.one (.sh (.int .u8)), .one (.sh (.int .u8)), ak_i], [], [⟨[], [], [], []⟩]⟩ [⟨(.exit 0), [], [3], [.one (.sh (.int .u8))], [], [⟨[], [], [], []⟩]⟩])]
noncomputable def spec_l3Inverse.says (N : Nat) : List Say := [spec_l3Mul.S N]
noncomputable def spec_l3Inverse.call (N : Nat) : CallK := callBy (spec_l3Inverse.says N)
noncomputable def spec_l3Inverse.qt (N : Nat) : FuncId → List PV → Sig → Cl := qtBy (spec_l3Inverse.says N)
noncomputable def spec_l3Inverse.l0.hd : Alt := ⟨.normal, [], [0, 3, 4], [.one (.sh (.int .u8)), .one (.sh (.int .u8)), ak_i], [], [⟨[], [], [], []⟩]⟩
noncomputable def spec_l3Inverse.l0.outs : List Alt := [⟨(.exit 0), [], [3], [.one (.sh (.int .u8))], [], [⟨[], [], [], []⟩]⟩]
noncomputable def spec_l3Inverse.l0 (N : Nat) (a1 : Int) (out : Int) (n : Int) : Option ((Int × Unit) × Unit) :=
  loopK Try.prog spec_l3Inverse.call spec_l3Inverse.qt spec_l3Inverse.H (codeAt (bodyOf Try.f105) [1, 1, 0, 1, 0, 0]) 0 spec_l3Inverse.l0.hd spec_l3Inverse.l0.outs [] N ((a1, (out, (n, ()))), ())
noncomputable def spec_l3Inverse (N : Nat) (a : Int) : Option ((Int × Unit) × Unit) :=
  ofFn Try.prog spec_l3Inverse.call spec_l3Inverse.qt spec_l3Inverse.H N Try.f105 [.one (.sh (.int .u8))] [] [.one (.sh (.int .u8))] [] [⟨[], [], [], []⟩] (a, ()) ()
noncomputable def spec_l3Inverse.S (N : Nat) : Say := ⟨false, 105, [.one (.sh (.int .u8))], [], [.one (.sh (.int .u8))], [], fun a s => spec_l3Inverse N a.1⟩
set_option maxRecDepth 100000 in
theorem spec_l3Inverse.l0.eq (N : Nat) (a1 : Int) (out : Int) (n : Int) : spec_l3Inverse.l0 (N + 1) a1 out n =
 sel (decide (0 < n))
  (
  andK (α := ((Int × Unit) × Unit)) (
   sel (decide ((Go.bits .and .i64 n 1) = 1))
    (
    andK (spec_l3Mul N out a1) fun u1 =>
    some (((u1.1.1, ()), ())))
    (
    some (((out, ()), ())))) fun j2 =>
  andK (spec_l3Mul N a1 a1) fun u3 =>
  spec_l3Inverse.l0 N u3.1.1 j2.1.1 (shrI .i64 n 1))
  (
  some (((out, ()), ()))) := by kernel_rfl
set_option maxRecDepth 100000 in
theorem spec_l3Inverse.eq (N : Nat) (a : Int) : spec_l3Inverse N a =
 andK (spec_l3Inverse.l0 N a 1 254) fun l4 =>
 some ((l4.1.1, ()), ()) := by kernel_rfl
set_option maxRecDepth 100000 in
theorem spec_l3Inverse.say (N : Nat) : SayOk Try.prog (spec_l3Inverse.S N) := sayOk_mk (N := N) (H := spec_l3Inverse.H) (preps := [⟨[], [], [], []⟩]) (l := spec_l3Inverse.says) (fn := Try.f105) (c := bodyOf Try.f105)
  (by kernel_rfl) (by kernel_rfl) (by kernel_rfl) (by kernel_rfl) (by kernel_rfl) (by kernel_rfl) (by kernel_rfl)
  (fun N => SayAll.cons (spec_l3Mul.say N) (SayAll.nil)) (fun a s => by kernel_rfl)

/-! ### loop.example/g00206/spec.l3Turn: function 106 -/
noncomputable def spec_l3Turn.H : Hints := hintsOf []
noncomputable def spec_l3Turn.says (N : Nat) : List Say := []
noncomputable def spec_l3Turn.call (N : Nat) : CallK := callBy (spec_l3Turn.says N)
noncomputable def spec_l3Turn.qt (N : Nat) : FuncId → List PV → Sig → Cl := qtBy (spec_l3Turn.says N)
noncomputable def spec_l3Turn (N : Nat) (b : Int) (n : Int) : Option ((Int × Unit) × Unit) :=
  ofFn Try.prog spec_l3Turn.call spec_l3Turn.qt spec_l3Turn.H N Try.f106 [.one (.sh (.int .u8)), .one (.sh (.int .u64))] [] [.one (.sh (.int .u8))] [] [⟨[], [], [], []⟩] (b, (n, ())) ()
noncomputable def spec_l3Turn.S (N : Nat) : Say := ⟨false, 106, [.one (.sh (.int .u8)), .one (.sh (.int .u64))], [], [.one (.sh (.int .u8))], [], fun a s => spec_l3Turn N a.1 a.2.1⟩
set_option maxRecDepth 100000 in
theorem spec_l3Turn.eq (N : Nat) (b : Int) (n : Int) : spec_l3Turn N b n =
 chk (decide (0 ≤ n)) (
 chk (decide (0 ≤ (IntKind.u64.wrap (8 - n)))) (
 some (((Go.bits .or .u8 (shlI .u8 b n) (shrI .u8 b (IntKind.u64.wrap (8 - n)))), ()), ()))) := by kernel_rfl
set_option maxRecDepth 100000 in
theorem spec_l3Turn.say (N : Nat) : SayOk Try.prog (spec_l3Turn.S N) := sayOk_mk (N := N) (H := spec_l3Turn.H) (preps := [⟨[], [], [], []⟩]) (l := spec_l3Turn.says) (fn := Try.f106) (c := bodyOf Try.f106)
  (by kernel_rfl) (by kernel_rfl) (by kernel_rfl) (by kernel_rfl) (by kernel_rfl) (by kernel_rfl) (by kernel_rfl)
  (fun N => SayAll.nil) (fun a s => by kernel_rfl)

/-! ### loop.example/g00206/spec.l3Sub: function 88 -/
noncomputable def spec_l3Sub.H : Hints := hintsOf []
noncomputable def spec_l3Sub.says (N : Nat) : List Say := [spec_l3Inverse.S N, spec_l3Turn.S N]
noncomputable def spec_l3Sub.call (N : Nat) : CallK := callBy (spec_l3Sub.says N)
noncomputable def spec_l3Sub.qt (N : Nat) : FuncId → List PV → Sig → Cl := qtBy (spec_l3Sub.says N)
noncomputable def spec_l3Sub (N : Nat) (b : Int) : Option ((Int × Unit) × Unit) :=
  ofFn Try.prog spec_l3Sub.call spec_l3Sub.qt spec_l3Sub.H N Try.f88 [.one (.sh (.int .u8))] [] [.one (.sh (.int .u8))] [] [⟨[], [], [], []⟩] (b, ()) ()
noncomputable def spec_l3Sub.S (N : Nat) : Say := ⟨false, 88, [.one (.sh (.int .u8))], [], [.one (.sh (.int .u8))], [], fun a s => spec_l3Sub N a.1⟩
set_option maxRecDepth 100000 in
theorem spec_l3Sub.eq (N : Nat) (b : Int) : spec_l3Sub N b =
 andK (spec_l3Inverse N b) fun u1 =>
 andK (spec_l3Turn N u1.1.1 1) fun u2 =>
 andK (spec_l3Turn N u1.1.1 2) fun u3 =>
 andK (spec_l3Turn N u1.1.1 3) fun u4 =>
 andK (spec_l3Turn N u1.1.1 4) fun u5 =>
 some (((Go.bits .xor .u8 (Go.bits .xor .u8 (Go.bits .xor .u8 (Go.bits .xor .u8 (Go.bits .xor .u8 u1.1.1 u2.1.1) u3.1.1) u4.1.1) u5.1.1) 99), ()), ()) := by kernel_rfl
set_option maxRecDepth 100000 in
theorem spec_l3Sub.say (N : Nat) : SayOk Try.prog (spec_l3Sub.S N) := sayOk_mk (N := N) (H := spec_l3Sub.H) (preps := [⟨[], [], [], []⟩]) (l := spec_l3Sub.says) (fn := Try.f88) (c := bodyOf Try.f88)
  (by kernel_rfl) (by kernel_rfl) (by kernel_rfl) (by kernel_rfl) (by kernel_rfl) (by kernel_rfl) (by kernel_rfl)
  (fun N => SayAll.cons (spec_l3Inverse.say N) (SayAll.cons (spec_l3Turn.say N) (SayAll.nil))) (fun a s => by kernel_rfl)

/-! ### loop.example/g00206/spec.l3Keys: function 71 -/
noncomputable def spec_l3Keys.H : Hints := hintsOf [(10, .join [⟨.normal, [5], [3, 4, 6], [.one (.own 0), .one (.sh (.int .u8)), .one (.sh (.rows (.int .u8)))], [.rows (.int .u8), .gone], [⟨[], [], [], []⟩, ⟨[], [], [1], []⟩]⟩]),
  (2000011, .loop ⟨.normal, [4, 5, 6, 48], [3, 49], [.one (.own 0), ak_i], [.rows (.int .u8), .gone], [⟨[], [], [], []⟩]⟩ [⟨(.exit 2), [4, 5], [3], [.one (.own 0)], [.rows (.int .u8), .gone], [⟨[], [], [], []⟩]⟩]),
  (2000004, .loop ⟨.normal, [], [3, 4, 5], [.one (.own 0), .one (.sh (.int .u8)), ak_i], [.rows (.int .u8)], [⟨[], [], [], []⟩]⟩ [⟨(.exit 0), [], [3], [.one (.own 0)], [.rows (.int .u8)], [⟨[], [], [], []⟩]⟩])]
noncomputable def spec_l3Keys.says (N : Nat) : List Say := [spec_l3Sub.S N, spec_l3Mul.S N]
noncomputable def spec_l3Keys.call (N : Nat) : CallK := callBy (spec_l3Keys.says N)
noncomputable def spec_l3Keys.qt (N : Nat) : FuncId → List PV → Sig → Cl := qtBy (spec_l3Keys.says N)
noncomputable def spec_l3Keys.l0.hd : Alt := ⟨.normal, [], [3, 4, 5], [.one (.own 0), .one (.sh (.int .u8)), ak_i], [.rows (.int .u8)], [⟨[], [], [], []⟩]⟩
noncomputable def spec_l3Keys.l0.outs : List Alt := [⟨(.exit 0), [], [3], [.one (.own 0)], [.rows (.int .u8)], [⟨[], [], [], []⟩]⟩]
noncomputable def spec_l3Keys.l0 (N : Nat) (o : Int) (d : Int) (p0 : (List Int)) : Option ((Unit × Unit) × ((List Int) × Unit)) :=
  loopK Try.prog spec_l3Keys.call spec_l3Keys.qt spec_l3Keys.H (codeAt (bodyOf Try.f71) [1, 1, 1, 0, 1, 0, 0]) 1 spec_l3Keys.l0.hd spec_l3Keys.l0.outs [] N (((), (o, (d, ()))), (p0, ()))
noncomputable def spec_l3Keys.l1.hd : Alt := ⟨.normal, [4, 5, 6, 48], [3, 49], [.one (.own 0), ak_i], [.rows (.int .u8), .gone], [⟨[], [], [], []⟩]⟩
noncomputable def spec_l3Keys.l1.outs : List Alt := [⟨(.exit 2), [4, 5], [3], [.one (.own 0)], [.rows (.int .u8), .gone], [⟨[], [], [], []⟩]⟩]
noncomputable def spec_l3Keys.l1 (N : Nat) (o1 : Int) (d1 : Int) (e : (List Int)) (t48 : Int) (t49 : Int) (p01 : (List Int)) : Option ((Unit × Unit) × ((List Int) × (Unit × Unit))) :=
  loopK Try.prog spec_l3Keys.call spec_l3Keys.qt spec_l3Keys.H (codeAt (bodyOf Try.f71) [1, 1, 1, 0, 1, 0, 0, 1, 0, 0, 1, 1, 1, 0, 0]) 2 spec_l3Keys.l1.hd spec_l3Keys.l1.outs [(4, .v (.int .u8 o1)), (5, .v (.int .i64 d1)), (6, .rows false (.int .u8) e), (48, .v (.int .i64 t48))] N (((), (t49, ())), (p01, ((), ())))
noncomputable def spec_l3Keys (N : Nat) (G : ByteArray) : Option ((Unit × Unit) × ((List Int) × Unit)) :=
  ofFn Try.prog spec_l3Keys.call spec_l3Keys.qt spec_l3Keys.H N Try.f71 [ak_s] [] [.one (.own 0)] [.rows (.int .u8)] [⟨[], [], [], [0]⟩] (G, ()) ()
noncomputable def spec_l3Keys.S (N : Nat) : Say := ⟨false, 71, [ak_s], [], [.one (.own 0)], [.rows (.int .u8)], fun a s => spec_l3Keys N a.1⟩
set_option maxRecDepth 100000 in
theorem spec_l3Keys.l1.eq (N : Nat) (o1 : Int) (d1 : Int) (e : (List Int)) (t48 : Int) (t49 : Int) (p01 : (List Int)) : spec_l3Keys.l1 (N + 1) o1 d1 e t48 t49 p01 =
 sel (decide (t49 < t48))
  (
  chk ((decide (0 ≤ (IntKind.i64.wrap ((IntKind.i64.wrap ((IntKind.i64.wrap (4 * d1)) - 16)) + t49)))) && (decide ((IntKind.i64.wrap ((IntKind.i64.wrap ((IntKind.i64.wrap (4 * d1)) - 16)) + t49)) < (p01.length : Int)))) (
  chk ((decide (0 ≤ t49)) && (decide (t49 < (e.length : Int)))) (
  chk (decide (p01.length + 1 < most)) (
  spec_l3Keys.l1 N o1 d1 e t48 (IntKind.i64.wrap (t49 + 1)) (p01 ++ [(Go.bits .xor .u8 (p01.getD (Int.toNat (IntKind.i64.wrap ((IntKind.i64.wrap ((IntKind.i64.wrap (4 * d1)) - 16)) + t49))) 0) (e.getD (Int.toNat t49) 0))])))))
  (
  some ((((), ()), (p01, ((), ()))))) := by kernel_rfl
set_option maxRecDepth 100000 in
theorem spec_l3Keys.l0.eq (N : Nat) (o : Int) (d : Int) (p0 : (List Int)) : spec_l3Keys.l0 (N + 1) o d p0 =
 sel (decide (d < 44))
  (
  chk ((decide (0 ≤ (IntKind.i64.wrap ((IntKind.i64.wrap (4 * d)) - 4)))) && ((decide ((IntKind.i64.wrap ((IntKind.i64.wrap (4 * d)) - 4)) ≤ (IntKind.i64.wrap (4 * d)))) && (decide ((IntKind.i64.wrap (4 * d)) ≤ (p0.length : Int))))) (
  chk (decide (((p0.drop (Int.toNat (IntKind.i64.wrap ((IntKind.i64.wrap (4 * d)) - 4)))).take ((Int.toNat (IntKind.i64.wrap (4 * d))) - (Int.toNat (IntKind.i64.wrap ((IntKind.i64.wrap (4 * d)) - 4))))).length < most)) (
  andK (α := ((Unit × (Int × ((List Int) × Unit))) × ((List Int) × (Unit × Unit)))) (
   sel (decide ((Int.tmod d 4) = 0))
    (
    chk (decide (1 < (((p0.drop (Int.toNat (IntKind.i64.wrap ((IntKind.i64.wrap (4 * d)) - 4)))).take ((Int.toNat (IntKind.i64.wrap (4 * d))) - (Int.toNat (IntKind.i64.wrap ((IntKind.i64.wrap (4 * d)) - 4))))).length : Int))) (
    andK (spec_l3Sub N (((p0.drop (Int.toNat (IntKind.i64.wrap ((IntKind.i64.wrap (4 * d)) - 4)))).take ((Int.toNat (IntKind.i64.wrap (4 * d))) - (Int.toNat (IntKind.i64.wrap ((IntKind.i64.wrap (4 * d)) - 4))))).getD 1 0)) fun u1 =>
    chk (decide (2 < (((p0.drop (Int.toNat (IntKind.i64.wrap ((IntKind.i64.wrap (4 * d)) - 4)))).take ((Int.toNat (IntKind.i64.wrap (4 * d))) - (Int.toNat (IntKind.i64.wrap ((IntKind.i64.wrap (4 * d)) - 4))))).length : Int))) (
    andK (spec_l3Sub N (((p0.drop (Int.toNat (IntKind.i64.wrap ((IntKind.i64.wrap (4 * d)) - 4)))).take ((Int.toNat (IntKind.i64.wrap (4 * d))) - (Int.toNat (IntKind.i64.wrap ((IntKind.i64.wrap (4 * d)) - 4))))).getD 2 0)) fun u2 =>
    chk (decide (3 < (((p0.drop (Int.toNat (IntKind.i64.wrap ((IntKind.i64.wrap (4 * d)) - 4)))).take ((Int.toNat (IntKind.i64.wrap (4 * d))) - (Int.toNat (IntKind.i64.wrap ((IntKind.i64.wrap (4 * d)) - 4))))).length : Int))) (
    andK (spec_l3Sub N (((p0.drop (Int.toNat (IntKind.i64.wrap ((IntKind.i64.wrap (4 * d)) - 4)))).take ((Int.toNat (IntKind.i64.wrap (4 * d))) - (Int.toNat (IntKind.i64.wrap ((IntKind.i64.wrap (4 * d)) - 4))))).getD 3 0)) fun u3 =>
    chk (decide (0 < (((p0.drop (Int.toNat (IntKind.i64.wrap ((IntKind.i64.wrap (4 * d)) - 4)))).take ((Int.toNat (IntKind.i64.wrap (4 * d))) - (Int.toNat (IntKind.i64.wrap ((IntKind.i64.wrap (4 * d)) - 4))))).length : Int))) (
    andK (spec_l3Sub N (((p0.drop (Int.toNat (IntKind.i64.wrap ((IntKind.i64.wrap (4 * d)) - 4)))).take ((Int.toNat (IntKind.i64.wrap (4 * d))) - (Int.toNat (IntKind.i64.wrap ((IntKind.i64.wrap (4 * d)) - 4))))).getD 0 0)) fun u4 =>
    andK (spec_l3Mul N o 2) fun u5 =>
    some ((((), (u5.1.1, ([(Go.bits .xor .u8 u1.1.1 o), u2.1.1, u3.1.1, u4.1.1], ()))), (p0, ((), ())))))))))
    (
    some ((((), (o, (((p0.drop (Int.toNat (IntKind.i64.wrap ((IntKind.i64.wrap (4 * d)) - 4)))).take ((Int.toNat (IntKind.i64.wrap (4 * d))) - (Int.toNat (IntKind.i64.wrap ((IntKind.i64.wrap (4 * d)) - 4))))), ()))), (p0, ((), ())))))) fun j6 =>
  andK (spec_l3Keys.l1 N j6.1.2.1 d j6.1.2.2.1 (j6.1.2.2.1.length : Int) 0 j6.2.1) fun l7 =>
  spec_l3Keys.l0 N j6.1.2.1 (IntKind.i64.wrap (d + 1)) l7.2.1)))
  (
  some ((((), ()), (p0, ())))) := by kernel_rfl
set_option maxRecDepth 100000 in
theorem spec_l3Keys.eq (N : Nat) (G : ByteArray) : spec_l3Keys N G =
 andK (spec_l3Keys.l0 N 1 4 (bytesL G)) fun l8 =>
 some (((), ()), (l8.2.1, ())) := by kernel_rfl
set_option maxRecDepth 100000 in
theorem spec_l3Keys.say (N : Nat) : SayOk Try.prog (spec_l3Keys.S N) := sayOk_mk (N := N) (H := spec_l3Keys.H) (preps := [⟨[], [], [], [0]⟩]) (l := spec_l3Keys.says) (fn := Try.f71) (c := bodyOf Try.f71)
  (by kernel_rfl) (by kernel_rfl) (by kernel_rfl) (by kernel_rfl) (by kernel_rfl) (by kernel_rfl) (by kernel_rfl)
  (fun N => SayAll.cons (spec_l3Sub.say N) (SayAll.cons (spec_l3Mul.say N) (SayAll.nil))) (fun a s => by kernel_rfl)

/-! ### loop.example/g00206/spec.l3Table: function 72 -/
noncomputable def spec_l3Table.H : Hints := hintsOf [(2000003, .loop ⟨.normal, [5], [1, 6], [.one (.own 0), ak_i], [.rows (.int .u8)], [⟨[], [], [], []⟩]⟩ [⟨(.exit 0), [], [1], [.one (.own 0)], [.rows (.int .u8)], [⟨[], [], [], []⟩]⟩])]
noncomputable def spec_l3Table.says (N : Nat) : List Say := [spec_l3Sub.S N]
noncomputable def spec_l3Table.call (N : Nat) : CallK := callBy (spec_l3Table.says N)
noncomputable def spec_l3Table.qt (N : Nat) : FuncId → List PV → Sig → Cl := qtBy (spec_l3Table.says N)
noncomputable def spec_l3Table.l0.hd : Alt := ⟨.normal, [5], [1, 6], [.one (.own 0), ak_i], [.rows (.int .u8)], [⟨[], [], [], []⟩]⟩
noncomputable def spec_l3Table.l0.outs : List Alt := [⟨(.exit 0), [], [1], [.one (.own 0)], [.rows (.int .u8)], [⟨[], [], [], []⟩]⟩]
noncomputable def spec_l3Table.l0 (N : Nat) (t5 : Int) (t6 : Int) (p0 : (List Int)) : Option ((Unit × Unit) × ((List Int) × Unit)) :=
  loopK Try.prog spec_l3Table.call spec_l3Table.qt spec_l3Table.H (codeAt (bodyOf Try.f72) [1, 1, 0, 1, 0, 0]) 1 spec_l3Table.l0.hd spec_l3Table.l0.outs [(5, .v (.int .i64 t5))] N (((), (t6, ())), (p0, ()))
noncomputable def spec_l3Table (N : Nat) : Option ((Unit × Unit) × ((List Int) × Unit)) :=
  ofFn Try.prog spec_l3Table.call spec_l3Table.qt spec_l3Table.H N Try.f72 [] [] [.one (.own 0)] [.rows (.int .u8)] [⟨[], [], [], [0]⟩] () ()
noncomputable def spec_l3Table.S (N : Nat) : Say := ⟨false, 72, [], [], [.one (.own 0)], [.rows (.int .u8)], fun a s => spec_l3Table N⟩
set_option maxRecDepth 100000 in
theorem spec_l3Table.l0.eq (N : Nat) (t5 : Int) (t6 : Int) (p0 : (List Int)) : spec_l3Table.l0 (N + 1) t5 t6 p0 =
 sel (decide (t6 < t5))
  (
  andK (spec_l3Sub N (IntKind.u8.wrap t6)) fun u1 =>
  chk ((decide (0 ≤ t6)) && (decide (t6 < (p0.length : Int)))) (
  spec_l3Table.l0 N t5 (IntKind.i64.wrap (t6 + 1)) (p0.set (Int.toNat t6) u1.1.1)))
  (
  some ((((), ()), (p0, ())))) := by kernel_rfl
set_option maxRecDepth 100000 in
theorem spec_l3Table.eq (N : Nat) : spec_l3Table N =
 andK (spec_l3Table.l0 N ((List.replicate 256 (0 : Int)).length : Int) 0 (List.replicate 256 (0 : Int))) fun l2 =>
 some (((), ()), (l2.2.1, ())) := by kernel_rfl
set_option maxRecDepth 100000 in
theorem spec_l3Table.say (N : Nat) : SayOk Try.prog (spec_l3Table.S N) := sayOk_mk (N := N) (H := spec_l3Table.H) (preps := [⟨[], [], [], [0]⟩]) (l := spec_l3Table.says) (fn := Try.f72) (c := bodyOf Try.f72)
  (by kernel_rfl) (by kernel_rfl) (by kernel_rfl) (by kernel_rfl) (by kernel_rfl) (by kernel_rfl) (by kernel_rfl)
  (fun N => SayAll.cons (spec_l3Sub.say N) (SayAll.nil)) (fun a s => by kernel_rfl)

/-! ### loop.example/g00206/spec.l3Xor: function 90 -/
noncomputable def spec_l3Xor.H : Hints := hintsOf [(2000003, .loop ⟨.normal, [0, 1, 11], [5, 12], [.one (.own 0), ak_i], [.rows (.int .u8)], [⟨[], [], [], []⟩]⟩ [⟨(.exit 0), [], [5], [.one (.own 0)], [.rows (.int .u8)], [⟨[], [], [], []⟩]⟩])]
noncomputable def spec_l3Xor.says (N : Nat) : List Say := []
noncomputable def spec_l3Xor.call (N : Nat) : CallK := callBy (spec_l3Xor.says N)
noncomputable def spec_l3Xor.qt (N : Nat) : FuncId → List PV → Sig → Cl := qtBy (spec_l3Xor.says N)
noncomputable def spec_l3Xor.l0.hd : Alt := ⟨.normal, [0, 1, 11], [5, 12], [.one (.own 0), ak_i], [.rows (.int .u8)], [⟨[], [], [], []⟩]⟩
noncomputable def spec_l3Xor.l0.outs : List Alt := [⟨(.exit 0), [], [5], [.one (.own 0)], [.rows (.int .u8)], [⟨[], [], [], []⟩]⟩]
noncomputable def spec_l3Xor.l0 (N : Nat) (a1 : (List Int)) (b1 : (List Int)) (t11 : Int) (t12 : Int) (p0 : (List Int)) : Option ((Unit × Unit) × ((List Int) × Unit)) :=
  loopK Try.prog spec_l3Xor.call spec_l3Xor.qt spec_l3Xor.H (codeAt (bodyOf Try.f90) [1, 1, 0, 1, 0, 0]) 1 spec_l3Xor.l0.hd spec_l3Xor.l0.outs [(0, .rows false (.int .u8) a1), (1, .rows false (.int .u8) b1), (11, .v (.int .i64 t11))] N (((), (t12, ())), (p0, ()))
noncomputable def spec_l3Xor (N : Nat) (a : (List Int)) (b : (List Int)) : Option ((Unit × Unit) × ((List Int) × Unit)) :=
  ofFn Try.prog spec_l3Xor.call spec_l3Xor.qt spec_l3Xor.H N Try.f90 [.one (.sh (.rows (.int .u8))), .one (.sh (.rows (.int .u8)))] [] [.one (.own 0)] [.rows (.int .u8)] [⟨[], [], [], [0]⟩] (a, (b, ())) ()
noncomputable def spec_l3Xor.S (N : Nat) : Say := ⟨false, 90, [.one (.sh (.rows (.int .u8))), .one (.sh (.rows (.int .u8)))], [], [.one (.own 0)], [.rows (.int .u8)], fun a s => spec_l3Xor N a.1 a.2.1⟩
set_option maxRecDepth 100000 in
theorem spec_l3Xor.l0.eq (N : Nat) (a1 : (List Int)) (b1 : (List Int)) (t11 : Int) (t12 : Int) (p0 : (List Int)) : spec_l3Xor.l0 (N + 1) a1 b1 t11 t12 p0 =
 sel (decide (t12 < t11))
  (
  chk ((decide (0 ≤ t12)) && (decide (t12 < (a1.length : Int)))) (
  chk ((decide (0 ≤ t12)) && (decide (t12 < (b1.length : Int)))) (
  chk ((decide (0 ≤ t12)) && (decide (t12 < (p0.length : Int)))) (
  spec_l3Xor.l0 N a1 b1 t11 (IntKind.i64.wrap (t12 + 1)) (p0.set (Int.toNat t12) (Go.bits .xor .u8 (a1.getD (Int.toNat t12) 0) (b1.getD (Int.toNat t12) 0)))))))
  (
  some ((((), ()), (p0, ())))) := by kernel_rfl
set_option maxRecDepth 100000 in
theorem spec_l3Xor.eq (N : Nat) (a : (List Int)) (b : (List Int)) : spec_l3Xor N a b =
 chk ((decide (0 ≤ (a.length : Int))) && ((smallI (a.length : Int)) && (decide ((a.length : Int) = (a.length : Int))))) (
 andK (spec_l3Xor.l0 N a b (a.length : Int) 0 (List.replicate (Int.toNat (a.length : Int)) (0 : Int))) fun l1 =>
 some (((), ()), (l1.2.1, ()))) := by kernel_rfl
set_option maxRecDepth 100000 in
theorem spec_l3Xor.say (N : Nat) : SayOk Try.prog (spec_l3Xor.S N) := sayOk_mk (N := N) (H := spec_l3Xor.H) (preps := [⟨[], [], [], [0]⟩]) (l := spec_l3Xor.says) (fn := Try.f90) (c := bodyOf Try.f90)
  (by kernel_rfl) (by kernel_rfl) (by kernel_rfl) (by kernel_rfl) (by kernel_rfl) (by kernel_rfl) (by kernel_rfl)
  (fun N => SayAll.nil) (fun a s => by kernel_rfl)
noncomputable def spec_l3Xor.SB (N : Nat) : Say := spec_l3Xor.S N |>.lent
theorem spec_l3Xor.sayB (N : Nat) : SayOk Try.prog (spec_l3Xor.SB N) := (spec_l3Xor.say N).lent

/-! ### loop.example/g00206/spec.l3Mix: function 91 -/
noncomputable def spec_l3Mix.H : Hints := hintsOf [(2000006, .loop ⟨.normal, [0, 1, 6, 10, 11], [5, 7], [.one (.own 0), ak_i], [.rows (.int .u8)], [⟨[], [], [], []⟩]⟩ [⟨(.exit 2), [0, 1, 10, 11], [5], [.one (.own 0)], [.rows (.int .u8)], [⟨[], [], [], []⟩]⟩]),
  (2000003, .loop ⟨.normal, [0, 1, 10], [5, 11], [.one (.own 0), ak_i], [.rows (.int .u8)], [⟨[], [], [], []⟩]⟩ [⟨(.exit 0), [], [5], [.one (.own 0)], [.rows (.int .u8)], [⟨[], [], [], []⟩]⟩])]
noncomputable def spec_l3Mix.says (N : Nat) : List Say := [spec_l3Mul.S N]
noncomputable def spec_l3Mix.call (N : Nat) : CallK := callBy (spec_l3Mix.says N)
noncomputable def spec_l3Mix.qt (N : Nat) : FuncId → List PV → Sig → Cl := qtBy (spec_l3Mix.says N)
noncomputable def spec_l3Mix.l0.hd : Alt := ⟨.normal, [0, 1, 10], [5, 11], [.one (.own 0), ak_i], [.rows (.int .u8)], [⟨[], [], [], []⟩]⟩
noncomputable def spec_l3Mix.l0.outs : List Alt := [⟨(.exit 0), [], [5], [.one (.own 0)], [.rows (.int .u8)], [⟨[], [], [], []⟩]⟩]
noncomputable def spec_l3Mix.l0 (N : Nat) (s1 : (List Int)) (f1 : (List Int)) (t10 : Int) (t11 : Int) (p0 : (List Int)) : Option ((Unit × Unit) × ((List Int) × Unit)) :=
  loopK Try.prog spec_l3Mix.call spec_l3Mix.qt spec_l3Mix.H (codeAt (bodyOf Try.f91) [1, 1, 0, 1, 0, 0]) 1 spec_l3Mix.l0.hd spec_l3Mix.l0.outs [(0, .rows false (.int .u8) s1), (1, .rows false (.int .u8) f1), (10, .v (.int .i64 t10))] N (((), (t11, ())), (p0, ()))
noncomputable def spec_l3Mix.l1.hd : Alt := ⟨.normal, [0, 1, 6, 10, 11], [5, 7], [.one (.own 0), ak_i], [.rows (.int .u8)], [⟨[], [], [], []⟩]⟩
noncomputable def spec_l3Mix.l1.outs : List Alt := [⟨(.exit 2), [0, 1, 10, 11], [5], [.one (.own 0)], [.rows (.int .u8)], [⟨[], [], [], []⟩]⟩]
noncomputable def spec_l3Mix.l1 (N : Nat) (s2 : (List Int)) (f2 : (List Int)) (i : Int) (t101 : Int) (t111 : Int) (k : Int) (p01 : (List Int)) : Option ((Unit × Unit) × ((List Int) × Unit)) :=
  loopK Try.prog spec_l3Mix.call spec_l3Mix.qt spec_l3Mix.H (codeAt (bodyOf Try.f91) [1, 1, 0, 1, 0, 0, 1, 1, 0, 0, 1, 1, 0, 0]) 1 spec_l3Mix.l1.hd spec_l3Mix.l1.outs [(0, .rows false (.int .u8) s2), (1, .rows false (.int .u8) f2), (6, .v (.int .i64 i)), (10, .v (.int .i64 t101)), (11, .v (.int .i64 t111))] N (((), (k, ())), (p01, ()))
noncomputable def spec_l3Mix (N : Nat) (s : (List Int)) (f : (List Int)) : Option ((Unit × Unit) × ((List Int) × Unit)) :=
  ofFn Try.prog spec_l3Mix.call spec_l3Mix.qt spec_l3Mix.H N Try.f91 [.one (.sh (.rows (.int .u8))), .one (.sh (.rows (.int .u8)))] [] [.one (.own 0)] [.rows (.int .u8)] [⟨[], [], [], [0]⟩] (s, (f, ())) ()
noncomputable def spec_l3Mix.S (N : Nat) : Say := ⟨false, 91, [.one (.sh (.rows (.int .u8))), .one (.sh (.rows (.int .u8)))], [], [.one (.own 0)], [.rows (.int .u8)], fun a s => spec_l3Mix N a.1 a.2.1⟩
set_option maxRecDepth 100000 in
theorem spec_l3Mix.l1.eq (N : Nat) (s2 : (List Int)) (f2 : (List Int)) (i : Int) (t101 : Int) (t111 : Int) (k : Int) (p01 : (List Int)) : spec_l3Mix.l1 (N + 1) s2 f2 i t101 t111 k p01 =
 sel (decide (k < 4))
  (
  chk ((decide (0 ≤ i)) && (decide (i < (p01.length : Int)))) (
  chk ((decide (0 ≤ k)) && (decide (k < (f2.length : Int)))) (
  chk ((decide (0 ≤ (Int.tmod (IntKind.i64.wrap (i + k)) 4))) && (decide ((Int.tmod (IntKind.i64.wrap (i + k)) 4) < (s2.length : Int)))) (
  andK (spec_l3Mul N (f2.getD (Int.toNat k) 0) (s2.getD (Int.toNat (Int.tmod (IntKind.i64.wrap (i + k)) 4)) 0)) fun u1 =>
  chk ((decide (0 ≤ i)) && (decide (i < (p01.length : Int)))) (
  spec_l3Mix.l1 N s2 f2 i t101 t111 (IntKind.i64.wrap (k + 1)) (p01.set (Int.toNat i) (Go.bits .xor .u8 (p01.getD (Int.toNat i) 0) u1.1.1)))))))
  (
  some ((((), ()), (p01, ())))) := by kernel_rfl
set_option maxRecDepth 100000 in
theorem spec_l3Mix.l0.eq (N : Nat) (s1 : (List Int)) (f1 : (List Int)) (t10 : Int) (t11 : Int) (p0 : (List Int)) : spec_l3Mix.l0 (N + 1) s1 f1 t10 t11 p0 =
 sel (decide (t11 < t10))
  (
  andK (spec_l3Mix.l1 N s1 f1 t11 t10 t11 0 p0) fun l2 =>
  spec_l3Mix.l0 N s1 f1 t10 (IntKind.i64.wrap (t11 + 1)) l2.2.1)
  (
  some ((((), ()), (p0, ())))) := by kernel_rfl
set_option maxRecDepth 100000 in
theorem spec_l3Mix.eq (N : Nat) (s : (List Int)) (f : (List Int)) : spec_l3Mix N s f =
 andK (spec_l3Mix.l0 N s f ((List.replicate 4 (0 : Int)).length : Int) 0 (List.replicate 4 (0 : Int))) fun l3 =>
 some (((), ()), (l3.2.1, ())) := by kernel_rfl
set_option maxRecDepth 100000 in
theorem spec_l3Mix.say (N : Nat) : SayOk Try.prog (spec_l3Mix.S N) := sayOk_mk (N := N) (H := spec_l3Mix.H) (preps := [⟨[], [], [], [0]⟩]) (l := spec_l3Mix.says) (fn := Try.f91) (c := bodyOf Try.f91)
  (by kernel_rfl) (by kernel_rfl) (by kernel_rfl) (by kernel_rfl) (by kernel_rfl) (by kernel_rfl) (by kernel_rfl)
  (fun N => SayAll.cons (spec_l3Mul.say N) (SayAll.nil)) (fun a s => by kernel_rfl)
noncomputable def spec_l3Mix.SB (N : Nat) : Say := spec_l3Mix.S N |>.lent
theorem spec_l3Mix.sayB (N : Nat) : SayOk Try.prog (spec_l3Mix.SB N) := (spec_l3Mix.say N).lent

/-! ### loop.example/g00206/spec.l3With: function 73 -/
noncomputable def spec_l3With.H : Hints := hintsOf [(2000010, .loop ⟨.normal, [0, 1, 7, 8, 10], [9, 11], [.one (.own 2), ak_i], [.rows (.int .u8), .gone, .rows (.int .u8)], [⟨[], [], [], []⟩]⟩ [⟨(.exit 4), [0, 1, 7, 8, 10], [9], [.one (.own 2)], [.rows (.int .u8), .gone, .rows (.int .u8)], [⟨[], [], [], []⟩]⟩]),
  (2000007, .loop ⟨.normal, [0, 1, 7, 8], [9, 10], [.one (.own 2), ak_i], [.rows (.int .u8), .gone, .rows (.int .u8)], [⟨[], [], [], []⟩]⟩ [⟨(.exit 2), [0, 1, 8], [9], [.one (.own 2)], [.rows (.int .u8), .gone, .rows (.int .u8)], [⟨[], [], [], []⟩]⟩]),
  (2000016, .loop ⟨.normal, [0, 1, 8], [9, 12, 13], [.one (.own 2), .one (.own 3), ak_i], [.rows (.int .u8), .gone, .rows (.int .u8), .rows (.int .u8)], [⟨[(12, (.int .u8))], [], [], [3]⟩, ⟨[], [], [], [3]⟩]⟩ [⟨(.exit 6), [0, 1, 8], [12], [.one (.own 3)], [.rows (.int .u8), .gone, .rows (.int .u8), .rows (.int .u8)], [⟨[], [], [], [3]⟩]⟩]),
  (20, .join [⟨.normal, [0, 1, 8], [9], [.one (.sh (.rows (.int .u8)))], [.rows (.int .u8), .gone, .gone], [⟨[], [], [3], []⟩, ⟨[], [], [2], []⟩]⟩]),
  (2000003, .loop ⟨.normal, [0, 1], [7, 8], [.one (.sh (.rows (.int .u8))), ak_i], [.rows (.int .u8), .gone], [⟨[], [], [1], []⟩, ⟨[], [], [3], []⟩]⟩ [⟨(.exit 0), [], [7], [.one (.sh (.rows (.int .u8)))], [.rows (.int .u8), .gone], [⟨[], [], [], []⟩]⟩])]
noncomputable def spec_l3With.says (N : Nat) : List Say := [spec_l3Xor.SB N, spec_l3Mix.SB N, spec_l3Xor.S N]
noncomputable def spec_l3With.call (N : Nat) : CallK := callBy (spec_l3With.says N)
noncomputable def spec_l3With.qt (N : Nat) : FuncId → List PV → Sig → Cl := qtBy (spec_l3With.says N)
noncomputable def spec_l3With.l0.hd : Alt := ⟨.normal, [0, 1], [7, 8], [.one (.sh (.rows (.int .u8))), ak_i], [.rows (.int .u8), .gone], [⟨[], [], [1], []⟩, ⟨[], [], [3], []⟩]⟩
noncomputable def spec_l3With.l0.outs : List Alt := [⟨(.exit 0), [], [7], [.one (.sh (.rows (.int .u8)))], [.rows (.int .u8), .gone], [⟨[], [], [], []⟩]⟩]
noncomputable def spec_l3With.l0 (N : Nat) (G1 : (List Int)) (o1 : (List Int)) (t1 : (List Int)) (t2 : Int) (p0 : (List Int)) : Option (((List Int) × Unit) × ((List Int) × (Unit × Unit))) :=
  loopK Try.prog spec_l3With.call spec_l3With.qt spec_l3With.H (codeAt (bodyOf Try.f73) [1, 1, 0, 1, 0, 0]) 2 spec_l3With.l0.hd spec_l3With.l0.outs [(0, .rows false (.int .u8) G1), (1, .rows false (.int .u8) o1)] N ((t1, (t2, ())), (p0, ((), ())))
noncomputable def spec_l3With.l1.hd : Alt := ⟨.normal, [0, 1, 7, 8], [9, 10], [.one (.own 2), ak_i], [.rows (.int .u8), .gone, .rows (.int .u8)], [⟨[], [], [], []⟩]⟩
noncomputable def spec_l3With.l1.outs : List Alt := [⟨(.exit 2), [0, 1, 8], [9], [.one (.own 2)], [.rows (.int .u8), .gone, .rows (.int .u8)], [⟨[], [], [], []⟩]⟩]
noncomputable def spec_l3With.l1 (N : Nat) (G2 : (List Int)) (o2 : (List Int)) (t3 : (List Int)) (t4 : Int) (A : Int) (p01 : (List Int)) (p2 : (List Int)) : Option ((Unit × Unit) × ((List Int) × (Unit × ((List Int) × Unit)))) :=
  loopK Try.prog spec_l3With.call spec_l3With.qt spec_l3With.H (codeAt (bodyOf Try.f73) [1, 1, 0, 1, 0, 0, 1, 0, 0, 1, 0, 1, 0, 0]) 3 spec_l3With.l1.hd spec_l3With.l1.outs [(0, .rows false (.int .u8) G2), (1, .rows false (.int .u8) o2), (7, .rows false (.int .u8) t3), (8, .v (.int .i64 t4))] N (((), (A, ())), (p01, ((), (p2, ()))))
noncomputable def spec_l3With.l2.hd : Alt := ⟨.normal, [0, 1, 7, 8, 10], [9, 11], [.one (.own 2), ak_i], [.rows (.int .u8), .gone, .rows (.int .u8)], [⟨[], [], [], []⟩]⟩
noncomputable def spec_l3With.l2.outs : List Alt := [⟨(.exit 4), [0, 1, 7, 8, 10], [9], [.one (.own 2)], [.rows (.int .u8), .gone, .rows (.int .u8)], [⟨[], [], [], []⟩]⟩]
noncomputable def spec_l3With.l2 (N : Nat) (G3 : (List Int)) (o3 : (List Int)) (t5 : (List Int)) (t6 : Int) (A1 : Int) (r : Int) (p02 : (List Int)) (p21 : (List Int)) : Option ((Unit × Unit) × ((List Int) × (Unit × ((List Int) × Unit)))) :=
  loopK Try.prog spec_l3With.call spec_l3With.qt spec_l3With.H (codeAt (bodyOf Try.f73) [1, 1, 0, 1, 0, 0, 1, 0, 0, 1, 0, 1, 0, 0, 1, 0, 0, 1, 0, 0]) 3 spec_l3With.l2.hd spec_l3With.l2.outs [(0, .rows false (.int .u8) G3), (1, .rows false (.int .u8) o3), (7, .rows false (.int .u8) t5), (8, .v (.int .i64 t6)), (10, .v (.int .i64 A1))] N (((), (r, ())), (p02, ((), (p21, ()))))
noncomputable def spec_l3With.l3.hd : Alt := ⟨.normal, [0, 1, 8], [9, 12, 13], [.one (.own 2), .one (.own 3), ak_i], [.rows (.int .u8), .gone, .rows (.int .u8), .rows (.int .u8)], [⟨[(12, (.int .u8))], [], [], [3]⟩, ⟨[], [], [], [3]⟩]⟩
noncomputable def spec_l3With.l3.outs : List Alt := [⟨(.exit 6), [0, 1, 8], [12], [.one (.own 3)], [.rows (.int .u8), .gone, .rows (.int .u8), .rows (.int .u8)], [⟨[], [], [], [3]⟩]⟩]
noncomputable def spec_l3With.l3 (N : Nat) (G4 : (List Int)) (o4 : (List Int)) (t7 : Int) (a : Int) (p03 : (List Int)) (p22 : (List Int)) (p3 : (List Int)) : Option ((Unit × Unit) × ((List Int) × (Unit × ((List Int) × ((List Int) × Unit))))) :=
  loopK Try.prog spec_l3With.call spec_l3With.qt spec_l3With.H (codeAt (bodyOf Try.f73) [1, 1, 0, 1, 0, 0, 1, 0, 0, 1, 1, 0, 1, 0, 1, 0, 1, 0, 0]) 3 spec_l3With.l3.hd spec_l3With.l3.outs [(0, .rows false (.int .u8) G4), (1, .rows false (.int .u8) o4), (8, .v (.int .i64 t7))] N (((), ((), (a, ()))), (p03, ((), (p22, (p3, ())))))
noncomputable def spec_l3With (N : Nat) (G : (List Int)) (o : (List Int)) (t : ByteArray) : Option ((ByteArray × Unit) × Unit) :=
  ofFn Try.prog spec_l3With.call spec_l3With.qt spec_l3With.H N Try.f73 [.one (.sh (.rows (.int .u8))), .one (.sh (.rows (.int .u8))), ak_s] [] [ak_s] [] [⟨[], [], [], []⟩] (G, (o, (t, ()))) ()
noncomputable def spec_l3With.S (N : Nat) : Say := ⟨false, 73, [.one (.sh (.rows (.int .u8))), .one (.sh (.rows (.int .u8))), ak_s], [], [ak_s], [], fun a s => spec_l3With N a.1 a.2.1 a.2.2.1⟩
set_option maxRecDepth 100000 in
theorem spec_l3With.l3.eq (N : Nat) (G4 : (List Int)) (o4 : (List Int)) (t7 : Int) (a : Int) (p03 : (List Int)) (p22 : (List Int)) (p3 : (List Int)) : spec_l3With.l3 (N + 1) G4 o4 t7 a p03 p22 p3 =
 sel (decide (a < 4))
  (
  chk ((decide (0 ≤ (IntKind.i64.wrap (4 * a)))) && ((decide ((IntKind.i64.wrap (4 * a)) ≤ (IntKind.i64.wrap ((IntKind.i64.wrap (4 * a)) + 4)))) && (decide ((IntKind.i64.wrap ((IntKind.i64.wrap (4 * a)) + 4)) ≤ (p22.length : Int))))) (
  andK (spec_l3Mix N ((p22.drop (Int.toNat (IntKind.i64.wrap (4 * a)))).take ((Int.toNat (IntKind.i64.wrap ((IntKind.i64.wrap (4 * a)) + 4))) - (Int.toNat (IntKind.i64.wrap (4 * a))))) [2, 3, 1, 1]) fun u4 =>
  chk (decide (p3.length + u4.2.1.length < most)) (
  spec_l3With.l3 N G4 o4 t7 (IntKind.i64.wrap (a + 1)) p03 p22 (p3 ++ u4.2.1))))
  (
  some ((((), ()), (p03, ((), (p22, (p3, ()))))))) := by kernel_rfl
set_option maxRecDepth 100000 in
theorem spec_l3With.l2.eq (N : Nat) (G3 : (List Int)) (o3 : (List Int)) (t5 : (List Int)) (t6 : Int) (A1 : Int) (r : Int) (p02 : (List Int)) (p21 : (List Int)) : spec_l3With.l2 (N + 1) G3 o3 t5 t6 A1 r p02 p21 =
 sel (decide (r < 4))
  (
  chk ((decide (0 ≤ (IntKind.i64.wrap ((IntKind.i64.wrap (4 * (Int.tmod (IntKind.i64.wrap (A1 + r)) 4))) + r)))) && (decide ((IntKind.i64.wrap ((IntKind.i64.wrap (4 * (Int.tmod (IntKind.i64.wrap (A1 + r)) 4))) + r)) < (t5.length : Int)))) (
  chk ((decide (0 ≤ (t5.getD (Int.toNat (IntKind.i64.wrap ((IntKind.i64.wrap (4 * (Int.tmod (IntKind.i64.wrap (A1 + r)) 4))) + r))) 0))) && (decide ((t5.getD (Int.toNat (IntKind.i64.wrap ((IntKind.i64.wrap (4 * (Int.tmod (IntKind.i64.wrap (A1 + r)) 4))) + r))) 0) < (o3.length : Int)))) (
  chk ((decide (0 ≤ (IntKind.i64.wrap ((IntKind.i64.wrap (4 * A1)) + r)))) && (decide ((IntKind.i64.wrap ((IntKind.i64.wrap (4 * A1)) + r)) < (p21.length : Int)))) (
  spec_l3With.l2 N G3 o3 t5 t6 A1 (IntKind.i64.wrap (r + 1)) p02 (p21.set (Int.toNat (IntKind.i64.wrap ((IntKind.i64.wrap (4 * A1)) + r))) (o3.getD (Int.toNat (t5.getD (Int.toNat (IntKind.i64.wrap ((IntKind.i64.wrap (4 * (Int.tmod (IntKind.i64.wrap (A1 + r)) 4))) + r))) 0)) 0))))))
  (
  some ((((), ()), (p02, ((), (p21, ())))))) := by kernel_rfl
set_option maxRecDepth 100000 in
theorem spec_l3With.l1.eq (N : Nat) (G2 : (List Int)) (o2 : (List Int)) (t3 : (List Int)) (t4 : Int) (A : Int) (p01 : (List Int)) (p2 : (List Int)) : spec_l3With.l1 (N + 1) G2 o2 t3 t4 A p01 p2 =
 sel (decide (A < 4))
  (
  andK (spec_l3With.l2 N G2 o2 t3 t4 A 0 p01 p2) fun l2 =>
  spec_l3With.l1 N G2 o2 t3 t4 (IntKind.i64.wrap (A + 1)) l2.2.1 l2.2.2.2.1)
  (
  some ((((), ()), (p01, ((), (p2, ())))))) := by kernel_rfl
set_option maxRecDepth 100000 in
theorem spec_l3With.l0.eq (N : Nat) (G1 : (List Int)) (o1 : (List Int)) (t1 : (List Int)) (t2 : Int) (p0 : (List Int)) : spec_l3With.l0 (N + 1) G1 o1 t1 t2 p0 =
 sel (decide (t2 ≤ 10))
  (
  andK (spec_l3With.l1 N G1 o1 t1 t2 0 p0 (List.replicate 16 (0 : Int))) fun l3 =>
  andK (α := (((List Int) × Unit) × ((List Int) × (Unit × (Unit × Unit))))) (
   sel (decide (t2 < 10))
    (
    andK (spec_l3With.l3 N G1 o1 t2 0 l3.2.1 l3.2.2.2.1 []) fun l5 =>
    some (((l5.2.2.2.2.1, ()), (l5.2.1, ((), ((), ()))))))
    (
    some (((l3.2.2.2.1, ()), (l3.2.1, ((), ((), ()))))))) fun j6 =>
  chk ((decide (0 ≤ (IntKind.i64.wrap (16 * t2)))) && ((decide ((IntKind.i64.wrap (16 * t2)) ≤ (IntKind.i64.wrap ((IntKind.i64.wrap (16 * t2)) + 16)))) && (decide ((IntKind.i64.wrap ((IntKind.i64.wrap (16 * t2)) + 16)) ≤ (G1.length : Int))))) (
  andK (spec_l3Xor N j6.1.1 (cut G1 (IntKind.i64.wrap (16 * t2)) (IntKind.i64.wrap ((IntKind.i64.wrap (16 * t2)) + 16)))) fun u7 =>
  spec_l3With.l0 N G1 o1 u7.2.1 (IntKind.i64.wrap (t2 + 1)) j6.2.1))
  (
  some (((t1, ()), (p0, ((), ()))))) := by kernel_rfl
set_option maxRecDepth 100000 in
theorem spec_l3With.eq (N : Nat) (G : (List Int)) (o : (List Int)) (t : ByteArray) : spec_l3With N G o t =
 chk (decide (16 ≤ (G.length : Int))) (
 andK (spec_l3Xor N (bytesL t) (cut G 0 16)) fun u1 =>
 andK (spec_l3With.l0 N G o u1.2.1 1 (bytesL t)) fun l8 =>
 some (((strL l8.1.1), ()), ())) := by kernel_rfl
set_option maxRecDepth 100000 in
theorem spec_l3With.say (N : Nat) : SayOk Try.prog (spec_l3With.S N) := sayOk_mk (N := N) (H := spec_l3With.H) (preps := [⟨[], [], [], []⟩]) (l := spec_l3With.says) (fn := Try.f73) (c := bodyOf Try.f73)
  (by kernel_rfl) (by kernel_rfl) (by kernel_rfl) (by kernel_rfl) (by kernel_rfl) (by kernel_rfl) (by kernel_rfl)
  (fun N => SayAll.cons (spec_l3Xor.sayB N) (SayAll.cons (spec_l3Mix.sayB N) (SayAll.cons (spec_l3Xor.say N) (SayAll.nil)))) (fun a s => by kernel_rfl)
noncomputable def spec_l3With.SB (N : Nat) : Say := spec_l3With.S N |>.lent
theorem spec_l3With.sayB (N : Nat) : SayOk Try.prog (spec_l3With.SB N) := (spec_l3With.say N).lent

/-! ### loop.example/g00206/spec.l5Key: function 45 -/
noncomputable def spec_l5Key.H : Hints := hintsOf []
noncomputable def spec_l5Key.says (N : Nat) : List Say := [spec_l3Keys.S N, spec_l3Table.S N, spec_l3With.SB N]
noncomputable def spec_l5Key.call (N : Nat) : CallK := callBy (spec_l5Key.says N)
noncomputable def spec_l5Key.qt (N : Nat) : FuncId → List PV → Sig → Cl := qtBy (spec_l5Key.says N)
noncomputable def spec_l5Key (N : Nat) (key : ByteArray) : Option ((Unit × Unit) × ((Unit × (Unit × (ByteArray × Unit))) × ((List Int) × ((List Int) × Unit)))) :=
  ofFn Try.prog spec_l5Key.call spec_l5Key.qt spec_l5Key.H N Try.f45 [ak_s] [] [.one (.ptr 0 0)] [.cells [.own 1, .own 2, ck_s], .rows (.int .u8), .rows (.int .u8)] [⟨[], [], [], [2, 0, 1]⟩] (key, ()) ()
noncomputable def spec_l5Key.S (N : Nat) : Say := ⟨false, 45, [ak_s], [], [.one (.ptr 0 0)], [.cells [.own 1, .own 2, ck_s], .rows (.int .u8), .rows (.int .u8)], fun a s => spec_l5Key N a.1⟩
set_option maxRecDepth 100000 in
theorem spec_l5Key.eq (N : Nat) (key : ByteArray) : spec_l5Key N key =
 andK (spec_l3Keys N key) fun u1 =>
 andK (spec_l3Table N) fun u2 =>
 andK (spec_l3With N u1.2.1 u2.2.1 (strL (List.replicate 16 (0 : Int)))) fun u3 =>
 some (((), ()), (((), ((), (u3.1.1, ()))), (u1.2.1, (u2.2.1, ())))) := by kernel_rfl
set_option maxRecDepth 100000 in
theorem spec_l5Key.say (N : Nat) : SayOk Try.prog (spec_l5Key.S N) := sayOk_mk (N := N) (H := spec_l5Key.H) (preps := [⟨[], [], [], [2, 0, 1]⟩]) (l := spec_l5Key.says) (fn := Try.f45) (c := bodyOf Try.f45)
  (by kernel_rfl) (by kernel_rfl) (by kernel_rfl) (by kernel_rfl) (by kernel_rfl) (by kernel_rfl) (by kernel_rfl)
  (fun N => SayAll.cons (spec_l3Keys.say N) (SayAll.cons (spec_l3Table.say N) (SayAll.cons (spec_l3With.sayB N) (SayAll.nil)))) (fun a s => by kernel_rfl)

/-! ### loop.example/g00206/spec.l1Fixed: function 57 -/
noncomputable def spec_l1Fixed.H : Hints := hintsOf [(2000003, .loop ⟨.normal, [0], [5, 6], [.one (.own 0), ak_i], [.rows (.int .u8)], [⟨[(5, (.int .u8))], [], [], [0]⟩, ⟨[], [], [], [0]⟩]⟩ [⟨(.exit 0), [], [5], [.one (.own 0)], [.rows (.int .u8)], [⟨[], [], [], [0]⟩]⟩])]
noncomputable def spec_l1Fixed.says (N : Nat) : List Say := []
noncomputable def spec_l1Fixed.call (N : Nat) : CallK := callBy (spec_l1Fixed.says N)
noncomputable def spec_l1Fixed.qt (N : Nat) : FuncId → List PV → Sig → Cl := qtBy (spec_l1Fixed.says N)
noncomputable def spec_l1Fixed.l0.hd : Alt := ⟨.normal, [0], [5, 6], [.one (.own 0), ak_i], [.rows (.int .u8)], [⟨[(5, (.int .u8))], [], [], [0]⟩, ⟨[], [], [], [0]⟩]⟩
noncomputable def spec_l1Fixed.l0.outs : List Alt := [⟨(.exit 0), [], [5], [.one (.own 0)], [.rows (.int .u8)], [⟨[], [], [], [0]⟩]⟩]
noncomputable def spec_l1Fixed.l0 (N : Nat) (n1 : Int) (k : Int) (p0 : (List Int)) : Option ((Unit × Unit) × ((List Int) × Unit)) :=
  loopK Try.prog spec_l1Fixed.call spec_l1Fixed.qt spec_l1Fixed.H (codeAt (bodyOf Try.f57) [1, 1, 0, 1, 0, 0]) 0 spec_l1Fixed.l0.hd spec_l1Fixed.l0.outs [(0, .v (.int .i64 n1))] N (((), (k, ())), (p0, ()))
noncomputable def spec_l1Fixed (N : Nat) (n : Int) (many : Int) : Option ((ByteArray × Unit) × Unit) :=
  ofFn Try.prog spec_l1Fixed.call spec_l1Fixed.qt spec_l1Fixed.H N Try.f57 [ak_i, ak_i] [] [ak_s] [] [⟨[], [], [], []⟩] (n, (many, ())) ()
noncomputable def spec_l1Fixed.S (N : Nat) : Say := ⟨false, 57, [ak_i, ak_i], [], [ak_s], [], fun a s => spec_l1Fixed N a.1 a.2.1⟩
set_option maxRecDepth 100000 in
theorem spec_l1Fixed.l0.eq (N : Nat) (n1 : Int) (k : Int) (p0 : (List Int)) : spec_l1Fixed.l0 (N + 1) n1 k p0 =
 sel (decide (0 ≤ k))
  (
  chk (decide (0 ≤ (IntKind.u64.wrap (IntKind.i64.wrap (8 * k))))) (
  chk (decide (p0.length + 1 < most)) (
  spec_l1Fixed.l0 N n1 (IntKind.i64.wrap (k - 1)) (p0 ++ [(IntKind.u8.wrap (shrI .i64 n1 (IntKind.u64.wrap (IntKind.i64.wrap (8 * k)))))]))))
  (
  some ((((), ()), (p0, ())))) := by kernel_rfl
set_option maxRecDepth 100000 in
theorem spec_l1Fixed.eq (N : Nat) (n : Int) (many : Int) : spec_l1Fixed N n many =
 andK (spec_l1Fixed.l0 N n (IntKind.i64.wrap (many - 1)) []) fun l1 =>
 some (((strL l1.2.1), ()), ()) := by kernel_rfl
set_option maxRecDepth 100000 in
theorem spec_l1Fixed.say (N : Nat) : SayOk Try.prog (spec_l1Fixed.S N) := sayOk_mk (N := N) (H := spec_l1Fixed.H) (preps := [⟨[], [], [], []⟩]) (l := spec_l1Fixed.says) (fn := Try.f57) (c := bodyOf Try.f57)
  (by kernel_rfl) (by kernel_rfl) (by kernel_rfl) (by kernel_rfl) (by kernel_rfl) (by kernel_rfl) (by kernel_rfl)
  (fun N => SayAll.nil) (fun a s => by kernel_rfl)

/-! ### (*loop.example/g00206/spec.l5K).count: function 74 -/
noncomputable def spec_l5K_count.H : Hints := hintsOf [(5000007, .join [⟨.normal, [1, 2, 8, 9, 10], [0, 7, 41], [.one (.ptr 0 0), .one (.own 3), ak_b], [.cells [.own 1, .own 2, ck_s], .rows (.int .u8) true, .rows (.int .u8) true, .rows (.int .u8)], [⟨[], [], [], []⟩]⟩]),
  (2000007, .loop ⟨.normal, [1, 2, 8, 9], [0, 7, 10], [.one (.ptr 0 0), .one (.own 3), ak_i], [.cells [.own 1, .own 2, ck_s], .rows (.int .u8) true, .rows (.int .u8) true, .rows (.int .u8)], [⟨[], [], [], []⟩]⟩ [⟨(.exit 2), [1, 2, 8], [0, 7], [.one (.ptr 0 0), .one (.own 3)], [.cells [.own 1, .own 2, ck_s], .rows (.int .u8) true, .rows (.int .u8) true, .rows (.int .u8)], [⟨[], [], [], []⟩]⟩]),
  (2000003, .loop ⟨.normal, [1, 2], [0, 7, 8], [.one (.ptr 0 0), .one (.own 3), ak_i], [.cells [.own 1, .own 2, ck_s], .rows (.int .u8) true, .rows (.int .u8) true, .rows (.int .u8)], [⟨[(7, (.int .u8))], [], [], [3]⟩, ⟨[], [], [], [3]⟩]⟩ [⟨(.exit 0), [], [7], [.one (.own 3)], [.cells [.own 1, .own 2, ck_s], .rows (.int .u8) true, .rows (.int .u8) true, .rows (.int .u8)], [⟨[], [], [], [3]⟩]⟩])]
noncomputable def spec_l5K_count.says (N : Nat) : List Say := [spec_l1Fixed.S N, spec_l3With.SB N]
noncomputable def spec_l5K_count.call (N : Nat) : CallK := callBy (spec_l5K_count.says N)
noncomputable def spec_l5K_count.qt (N : Nat) : FuncId → List PV → Sig → Cl := qtBy (spec_l5K_count.says N)
noncomputable def spec_l5K_count.l0.hd : Alt := ⟨.normal, [1, 2], [0, 7, 8], [.one (.ptr 0 0), .one (.own 3), ak_i], [.cells [.own 1, .own 2, ck_s], .rows (.int .u8) true, .rows (.int .u8) true, .rows (.int .u8)], [⟨[(7, (.int .u8))], [], [], [3]⟩, ⟨[], [], [], [3]⟩]⟩
noncomputable def spec_l5K_count.l0.outs : List Alt := [⟨(.exit 0), [], [7], [.one (.own 3)], [.cells [.own 1, .own 2, ck_s], .rows (.int .u8) true, .rows (.int .u8) true, .rows (.int .u8)], [⟨[], [], [], [3]⟩]⟩]
noncomputable def spec_l5K_count.l0 (N : Nat) (nonce1 : ByteArray) (text1 : ByteArray) (atv : Int) (p0_21 : ByteArray) (p11 : (List Int)) (p21 : (List Int)) (p3 : (List Int)) : Option ((Unit × Unit) × ((Unit × (Unit × (ByteArray × Unit))) × ((List Int) × ((List Int) × ((List Int) × Unit))))) :=
  loopK Try.prog spec_l5K_count.call spec_l5K_count.qt spec_l5K_count.H (codeAt (bodyOf Try.f74) [1, 1, 0, 1, 0, 0]) 3 spec_l5K_count.l0.hd spec_l5K_count.l0.outs [(1, .v (.string nonce1)), (2, .v (.string text1))] N (((), ((), (atv, ()))), (((), ((), (p0_21, ()))), (p11, (p21, (p3, ())))))
noncomputable def spec_l5K_count.l1.hd : Alt := ⟨.normal, [1, 2, 8, 9], [0, 7, 10], [.one (.ptr 0 0), .one (.own 3), ak_i], [.cells [.own 1, .own 2, ck_s], .rows (.int .u8) true, .rows (.int .u8) true, .rows (.int .u8)], [⟨[], [], [], []⟩]⟩
noncomputable def spec_l5K_count.l1.outs : List Alt := [⟨(.exit 2), [1, 2, 8], [0, 7], [.one (.ptr 0 0), .one (.own 3)], [.cells [.own 1, .own 2, ck_s], .rows (.int .u8) true, .rows (.int .u8) true, .rows (.int .u8)], [⟨[], [], [], []⟩]⟩]
noncomputable def spec_l5K_count.l1 (N : Nat) (nonce2 : ByteArray) (text2 : ByteArray) (atv1 : Int) (b : ByteArray) (i : Int) (p0_22 : ByteArray) (p12 : (List Int)) (p22 : (List Int)) (p31 : (List Int)) : Option ((Unit × (Unit × Unit)) × ((Unit × (Unit × (ByteArray × Unit))) × ((List Int) × ((List Int) × ((List Int) × Unit))))) :=
  loopK Try.prog spec_l5K_count.call spec_l5K_count.qt spec_l5K_count.H (codeAt (bodyOf Try.f74) [1, 1, 0, 1, 0, 0, 1, 0, 0, 1, 1, 0, 0]) 4 spec_l5K_count.l1.hd spec_l5K_count.l1.outs [(1, .v (.string nonce2)), (2, .v (.string text2)), (8, .v (.int .i64 atv1)), (9, .v (.string b))] N (((), ((), (i, ()))), (((), ((), (p0_22, ()))), (p12, (p22, (p31, ())))))
noncomputable def spec_l5K_count (N : Nat) (nonce : ByteArray) (text : ByteArray) (p0_2 : ByteArray) (p1 : (List Int)) (p2 : (List Int)) : Option ((ByteArray × Unit) × ((Unit × (Unit × (ByteArray × Unit))) × ((List Int) × ((List Int) × Unit)))) :=
  ofFn Try.prog spec_l5K_count.call spec_l5K_count.qt spec_l5K_count.H N Try.f74 [.one (.ptr 0 0), ak_s, ak_s] [.cells [.own 1, .own 2, ck_s], .rows (.int .u8), .rows (.int .u8)] [ak_s] [.cells [.own 1, .own 2, ck_s], .rows (.int .u8) true, .rows (.int .u8) true] [⟨[], [], [], []⟩] ((), (nonce, (text, ()))) (((), ((), (p0_2, ()))), (p1, (p2, ())))
noncomputable def spec_l5K_count.S (N : Nat) : Say := ⟨false, 74, [.one (.ptr 0 0), ak_s, ak_s], [.cells [.own 1, .own 2, ck_s], .rows (.int .u8), .rows (.int .u8)], [ak_s], [.cells [.own 1, .own 2, ck_s], .rows (.int .u8) true, .rows (.int .u8) true], fun a s => spec_l5K_count N a.2.1 a.2.2.1 s.1.2.2.1 s.2.1 s.2.2.1⟩
set_option maxRecDepth 100000 in
theorem spec_l5K_count.l1.eq (N : Nat) (nonce2 : ByteArray) (text2 : ByteArray) (atv1 : Int) (b : ByteArray) (i : Int) (p0_22 : ByteArray) (p12 : (List Int)) (p22 : (List Int)) (p31 : (List Int)) : spec_l5K_count.l1 (N + 1) nonce2 text2 atv1 b i p0_22 p12 p22 p31 =
 andK (α := ((Unit × (Unit × (Bool × Unit))) × ((Unit × (Unit × (ByteArray × Unit))) × ((List Int) × ((List Int) × ((List Int) × Unit)))))) (
  sel (decide (i < 16))
   (
   some ((((), ((), ((decide ((IntKind.i64.wrap (atv1 + i)) < (text2.size : Int))), ()))), (((), ((), (p0_22, ()))), (p12, (p22, (p31, ())))))))
   (
   some ((((), ((), (false, ()))), (((), ((), (p0_22, ()))), (p12, (p22, (p31, ())))))))) fun j3 =>
 sel j3.1.2.2.1
  (
  chk ((decide (0 ≤ (IntKind.i64.wrap (atv1 + i)))) && (decide ((IntKind.i64.wrap (atv1 + i)) < (text2.size : Int)))) (
  chk ((decide (0 ≤ i)) && (decide (i < (b.size : Int)))) (
  chk (decide (j3.2.2.2.2.1.length + 1 < most)) (
  spec_l5K_count.l1 N nonce2 text2 atv1 b (IntKind.i64.wrap (i + 1)) j3.2.1.2.2.1 j3.2.2.1 j3.2.2.2.1 (j3.2.2.2.2.1 ++ [(Go.bits .xor .u8 ((bytesL text2).getD (Int.toNat (IntKind.i64.wrap (atv1 + i))) 0) ((bytesL b).getD (Int.toNat i) 0))])))))
  (
  some ((((), ((), ())), (((), ((), (j3.2.1.2.2.1, ()))), (j3.2.2.1, (j3.2.2.2.1, (j3.2.2.2.2.1, ()))))))) := by kernel_rfl
set_option maxRecDepth 100000 in
theorem spec_l5K_count.l0.eq (N : Nat) (nonce1 : ByteArray) (text1 : ByteArray) (atv : Int) (p0_21 : ByteArray) (p11 : (List Int)) (p21 : (List Int)) (p3 : (List Int)) : spec_l5K_count.l0 (N + 1) nonce1 text1 atv p0_21 p11 p21 p3 =
 sel (decide (atv < (text1.size : Int)))
  (
  andK (spec_l1Fixed N (IntKind.i64.wrap (2 + (IntKind.i64.wrap (Int.tdiv atv 16)))) 4) fun u1 =>
  chk (decide (nonce1.size + u1.1.1.size ≤ 9223372036854775807)) (
  andK (spec_l3With N p11 p21 (nonce1 ++ u1.1.1)) fun u2 =>
  andK (spec_l5K_count.l1 N nonce1 text1 atv u2.1.1 0 p0_21 p11 p21 p3) fun l4 =>
  spec_l5K_count.l0 N nonce1 text1 (IntKind.i64.wrap (atv + 16)) l4.2.1.2.2.1 l4.2.2.1 l4.2.2.2.1 l4.2.2.2.2.1))
  (
  some ((((), ()), (((), ((), (p0_21, ()))), (p11, (p21, (p3, ()))))))) := by kernel_rfl
set_option maxRecDepth 100000 in
theorem spec_l5K_count.eq (N : Nat) (nonce : ByteArray) (text : ByteArray) (p0_2 : ByteArray) (p1 : (List Int)) (p2 : (List Int)) : spec_l5K_count N nonce text p0_2 p1 p2 =
 andK (spec_l5K_count.l0 N nonce text 0 p0_2 p1 p2 []) fun l5 =>
 some (((strL l5.2.2.2.2.1), ()), (((), ((), (l5.2.1.2.2.1, ()))), (l5.2.2.1, (l5.2.2.2.1, ())))) := by kernel_rfl
set_option maxRecDepth 100000 in
theorem spec_l5K_count.say (N : Nat) : SayOk Try.prog (spec_l5K_count.S N) := sayOk_mk (N := N) (H := spec_l5K_count.H) (preps := [⟨[], [], [], []⟩]) (l := spec_l5K_count.says) (fn := Try.f74) (c := bodyOf Try.f74)
  (by kernel_rfl) (by kernel_rfl) (by kernel_rfl) (by kernel_rfl) (by kernel_rfl) (by kernel_rfl) (by kernel_rfl)
  (fun N => SayAll.cons (spec_l1Fixed.say N) (SayAll.cons (spec_l3With.sayB N) (SayAll.nil))) (fun a s => by kernel_rfl)

/-! ### loop.example/g00206/spec.l5Full: function 92 -/
noncomputable def spec_l5Full.H : Hints := hintsOf [(2000001, .loop ⟨.normal, [], [0], [ak_s], [], [⟨[], [], [], []⟩]⟩ [⟨(.exit 0), [], [0], [ak_s], [], [⟨[], [], [], []⟩]⟩])]
noncomputable def spec_l5Full.says (N : Nat) : List Say := []
noncomputable def spec_l5Full.call (N : Nat) : CallK := callBy (spec_l5Full.says N)
noncomputable def spec_l5Full.qt (N : Nat) : FuncId → List PV → Sig → Cl := qtBy (spec_l5Full.says N)
noncomputable def spec_l5Full.l0.hd : Alt := ⟨.normal, [], [0], [ak_s], [], [⟨[], [], [], []⟩]⟩
noncomputable def spec_l5Full.l0.outs : List Alt := [⟨(.exit 0), [], [0], [ak_s], [], [⟨[], [], [], []⟩]⟩]
noncomputable def spec_l5Full.l0 (N : Nat) (s1 : ByteArray) : Option ((ByteArray × Unit) × Unit) :=
  loopK Try.prog spec_l5Full.call spec_l5Full.qt spec_l5Full.H (codeAt (bodyOf Try.f92) [1, 0, 0, 0]) 0 spec_l5Full.l0.hd spec_l5Full.l0.outs [] N ((s1, ()), ())
noncomputable def spec_l5Full (N : Nat) (s : ByteArray) : Option ((ByteArray × Unit) × Unit) :=
  ofFn Try.prog spec_l5Full.call spec_l5Full.qt spec_l5Full.H N Try.f92 [ak_s] [] [ak_s] [] [⟨[], [], [], []⟩] (s, ()) ()
noncomputable def spec_l5Full.S (N : Nat) : Say := ⟨false, 92, [ak_s], [], [ak_s], [], fun a s => spec_l5Full N a.1⟩
set_option maxRecDepth 100000 in
theorem spec_l5Full.l0.eq (N : Nat) (s1 : ByteArray) : spec_l5Full.l0 (N + 1) s1 =
 sel (!(decide ((Int.tmod (s1.size : Int) 16) = 0)))
  (
  chk (decide (s1.size + 1 ≤ 9223372036854775807)) (
  spec_l5Full.l0 N (s1 ++ (⟨#[0]⟩ : ByteArray))))
  (
  some (((s1, ()), ()))) := by kernel_rfl
set_option maxRecDepth 100000 in
theorem spec_l5Full.eq (N : Nat) (s : ByteArray) : spec_l5Full N s =
 andK (spec_l5Full.l0 N s) fun l1 =>
 some ((l1.1.1, ()), ()) := by kernel_rfl
set_option maxRecDepth 100000 in
theorem spec_l5Full.say (N : Nat) : SayOk Try.prog (spec_l5Full.S N) := sayOk_mk (N := N) (H := spec_l5Full.H) (preps := [⟨[], [], [], []⟩]) (l := spec_l5Full.says) (fn := Try.f92) (c := bodyOf Try.f92)
  (by kernel_rfl) (by kernel_rfl) (by kernel_rfl) (by kernel_rfl) (by kernel_rfl) (by kernel_rfl) (by kernel_rfl)
  (fun N => SayAll.nil) (fun a s => by kernel_rfl)

/-! ### loop.example/g00206/spec.l1Big: function 61 -/
noncomputable def spec_l1Big.H : Hints := hintsOf [(2000003, .loop ⟨.normal, [0], [3, 4], [ak_i, ak_i], [], [⟨[], [], [], []⟩]⟩ [⟨(.exit 0), [], [3], [ak_i], [], [⟨[], [], [], []⟩]⟩])]
noncomputable def spec_l1Big.says (N : Nat) : List Say := []
noncomputable def spec_l1Big.call (N : Nat) : CallK := callBy (spec_l1Big.says N)
noncomputable def spec_l1Big.qt (N : Nat) : FuncId → List PV → Sig → Cl := qtBy (spec_l1Big.says N)
noncomputable def spec_l1Big.l0.hd : Alt := ⟨.normal, [0], [3, 4], [ak_i, ak_i], [], [⟨[], [], [], []⟩]⟩
noncomputable def spec_l1Big.l0.outs : List Alt := [⟨(.exit 0), [], [3], [ak_i], [], [⟨[], [], [], []⟩]⟩]
noncomputable def spec_l1Big.l0 (N : Nat) (s1 : ByteArray) (n : Int) (i : Int) : Option ((Int × Unit) × Unit) :=
  loopK Try.prog spec_l1Big.call spec_l1Big.qt spec_l1Big.H (codeAt (bodyOf Try.f61) [1, 1, 0, 1, 0, 0]) 0 spec_l1Big.l0.hd spec_l1Big.l0.outs [(0, .v (.string s1))] N ((n, (i, ())), ())
noncomputable def spec_l1Big (N : Nat) (s : ByteArray) : Option ((Int × Unit) × Unit) :=
  ofFn Try.prog spec_l1Big.call spec_l1Big.qt spec_l1Big.H N Try.f61 [ak_s] [] [ak_i] [] [⟨[], [], [], []⟩] (s, ()) ()
noncomputable def spec_l1Big.S (N : Nat) : Say := ⟨false, 61, [ak_s], [], [ak_i], [], fun a s => spec_l1Big N a.1⟩
set_option maxRecDepth 100000 in
theorem spec_l1Big.l0.eq (N : Nat) (s1 : ByteArray) (n : Int) (i : Int) : spec_l1Big.l0 (N + 1) s1 n i =
 sel (decide (i < (s1.size : Int)))
  (
  chk ((decide (0 ≤ i)) && (decide (i < (s1.size : Int)))) (
  spec_l1Big.l0 N s1 (Go.bits .or .i64 (shlI .i64 n 8) (IntKind.i64.wrap ((bytesL s1).getD (Int.toNat i) 0))) (IntKind.i64.wrap (i + 1))))
  (
  some (((n, ()), ()))) := by kernel_rfl
set_option maxRecDepth 100000 in
theorem spec_l1Big.eq (N : Nat) (s : ByteArray) : spec_l1Big N s =
 andK (spec_l1Big.l0 N s 0 0) fun l1 =>
 some ((l1.1.1, ()), ()) := by kernel_rfl
set_option maxRecDepth 100000 in
theorem spec_l1Big.say (N : Nat) : SayOk Try.prog (spec_l1Big.S N) := sayOk_mk (N := N) (H := spec_l1Big.H) (preps := [⟨[], [], [], []⟩]) (l := spec_l1Big.says) (fn := Try.f61) (c := bodyOf Try.f61)
  (by kernel_rfl) (by kernel_rfl) (by kernel_rfl) (by kernel_rfl) (by kernel_rfl) (by kernel_rfl) (by kernel_rfl)
  (fun N => SayAll.nil) (fun a s => by kernel_rfl)

/-! ### loop.example/g00206/spec.l5Of: function 107 -/
noncomputable def spec_l5Of.H : Hints := hintsOf []
noncomputable def spec_l5Of.says (N : Nat) : List Say := [spec_l1Big.S N]
noncomputable def spec_l5Of.call (N : Nat) : CallK := callBy (spec_l5Of.says N)
noncomputable def spec_l5Of.qt (N : Nat) : FuncId → List PV → Sig → Cl := qtBy (spec_l5Of.says N)
noncomputable def spec_l5Of (N : Nat) (s : ByteArray) : Option (((Int × (Int × Unit)) × Unit) × Unit) :=
  ofFn Try.prog spec_l5Of.call spec_l5Of.qt spec_l5Of.H N Try.f107 [ak_s] [] [.agg [.sh (.int .u64), .sh (.int .u64)]] [] [⟨[], [], [], []⟩] (s, ()) ()
noncomputable def spec_l5Of.S (N : Nat) : Say := ⟨false, 107, [ak_s], [], [.agg [.sh (.int .u64), .sh (.int .u64)]], [], fun a s => spec_l5Of N a.1⟩
set_option maxRecDepth 100000 in
theorem spec_l5Of.eq (N : Nat) (s : ByteArray) : spec_l5Of N s =
 chk (decide (8 ≤ (s.size : Int))) (
 andK (spec_l1Big N (s.extract 0 8)) fun u1 =>
 chk ((decide (8 ≤ (s.size : Int))) && (decide ((s.size : Int) ≤ (s.size : Int)))) (
 andK (spec_l1Big N (s.extract 8 (Int.toNat (s.size : Int)))) fun u2 =>
 some ((((IntKind.u64.wrap u1.1.1), ((IntKind.u64.wrap u2.1.1), ())), ()), ()))) := by kernel_rfl
set_option maxRecDepth 100000 in
theorem spec_l5Of.say (N : Nat) : SayOk Try.prog (spec_l5Of.S N) := sayOk_mk (N := N) (H := spec_l5Of.H) (preps := [⟨[], [], [], []⟩]) (l := spec_l5Of.says) (fn := Try.f107) (c := bodyOf Try.f107)
  (by kernel_rfl) (by kernel_rfl) (by kernel_rfl) (by kernel_rfl) (by kernel_rfl) (by kernel_rfl) (by kernel_rfl)
  (fun N => SayAll.cons (spec_l1Big.say N) (SayAll.nil)) (fun a s => by kernel_rfl)

/-! ### loop.example/g00206/spec.l5Mul: function 108 -/
noncomputable def spec_l5Mul.H : Hints := hintsOf [(8, .join [⟨.normal, [6], [2, 3, 4, 5, 7], [.one (.ptr 0 0), .one (.ptr 1 0), .one (.ptr 2 0), .one (.ptr 3 0), .one (.sh (.int .u64))], [.cells [.sh (.int .u64), .sh (.int .u64)], .cells [.sh (.int .u64), .sh (.int .u64)], .cells [.sh (.int .u64), .sh (.int .u64)], .cells [.sh (.int .u64), .sh (.int .u64)]], [⟨[], [], [], []⟩]⟩]),
  (11, .join [⟨.normal, [6], [2, 3, 4, 5], [.one (.ptr 0 0), .one (.ptr 1 0), .one (.ptr 2 0), .one (.ptr 3 0)], [.cells [.sh (.int .u64), .sh (.int .u64)], .cells [.sh (.int .u64), .sh (.int .u64)], .cells [.sh (.int .u64), .sh (.int .u64)], .cells [.sh (.int .u64), .sh (.int .u64)]], [⟨[], [], [], []⟩]⟩]),
  (4, .join [⟨.normal, [6], [2, 3, 4, 5], [.one (.ptr 0 0), .one (.ptr 1 0), .one (.ptr 2 0), .one (.ptr 3 0)], [.cells [.sh (.int .u64), .sh (.int .u64)], .cells [.sh (.int .u64), .sh (.int .u64)], .cells [.sh (.int .u64), .sh (.int .u64)], .cells [.sh (.int .u64), .sh (.int .u64)]], [⟨[], [], [], []⟩]⟩]),
  (2000003, .loop ⟨.normal, [], [2, 3, 4, 5, 6], [.one (.ptr 0 0), .one (.ptr 1 0), .one (.ptr 2 0), .one (.ptr 3 0), ak_i], [.cells [.sh (.int .u64), .sh (.int .u64)], .cells [.sh (.int .u64), .sh (.int .u64)], .cells [.sh (.int .u64), .sh (.int .u64)], .cells [.sh (.int .u64), .sh (.int .u64)]], [⟨[], [], [], []⟩]⟩ [⟨(.exit 0), [], [4, 5], [.one (.ptr 2 0), .one (.ptr 3 0)], [.cells [.sh (.int .u64), .sh (.int .u64)], .cells [.sh (.int .u64), .sh (.int .u64)], .cells [.sh (.int .u64), .sh (.int .u64)], .cells [.sh (.int .u64), .sh (.int .u64)]], [⟨[], [], [], []⟩]⟩])]
noncomputable def spec_l5Mul.says (N : Nat) : List Say := []
noncomputable def spec_l5Mul.call (N : Nat) : CallK := callBy (spec_l5Mul.says N)
noncomputable def spec_l5Mul.qt (N : Nat) : FuncId → List PV → Sig → Cl := qtBy (spec_l5Mul.says N)
noncomputable def spec_l5Mul.l0.hd : Alt := ⟨.normal, [], [2, 3, 4, 5, 6], [.one (.ptr 0 0), .one (.ptr 1 0), .one (.ptr 2 0), .one (.ptr 3 0), ak_i], [.cells [.sh (.int .u64), .sh (.int .u64)], .cells [.sh (.int .u64), .sh (.int .u64)], .cells [.sh (.int .u64), .sh (.int .u64)], .cells [.sh (.int .u64), .sh (.int .u64)]], [⟨[], [], [], []⟩]⟩
noncomputable def spec_l5Mul.l0.outs : List Alt := [⟨(.exit 0), [], [4, 5], [.one (.ptr 2 0), .one (.ptr 3 0)], [.cells [.sh (.int .u64), .sh (.int .u64)], .cells [.sh (.int .u64), .sh (.int .u64)], .cells [.sh (.int .u64), .sh (.int .u64)], .cells [.sh (.int .u64), .sh (.int .u64)]], [⟨[], [], [], []⟩]⟩]
noncomputable def spec_l5Mul.l0 (N : Nat) (e : Int) (p0_0 : Int) (p0_1 : Int) (p1_0 : Int) (p1_1 : Int) (p2_0 : Int) (p2_1 : Int) (p3_0 : Int) (p3_1 : Int) : Option ((Unit × (Unit × Unit)) × ((Int × (Int × Unit)) × ((Int × (Int × Unit)) × ((Int × (Int × Unit)) × ((Int × (Int × Unit)) × Unit))))) :=
  loopK Try.prog spec_l5Mul.call spec_l5Mul.qt spec_l5Mul.H (codeAt (bodyOf Try.f108) [1, 1, 0, 1, 0, 0]) 4 spec_l5Mul.l0.hd spec_l5Mul.l0.outs [] N (((), ((), ((), ((), (e, ()))))), ((p0_0, (p0_1, ())), ((p1_0, (p1_1, ())), ((p2_0, (p2_1, ())), ((p3_0, (p3_1, ())), ())))))
noncomputable def spec_l5Mul (N : Nat) (G_0 : Int) (G_1 : Int) (o_0 : Int) (o_1 : Int) : Option (((Int × (Int × Unit)) × Unit) × Unit) :=
  ofFn Try.prog spec_l5Mul.call spec_l5Mul.qt spec_l5Mul.H N Try.f108 [.agg [.sh (.int .u64), .sh (.int .u64)], .agg [.sh (.int .u64), .sh (.int .u64)]] [] [.agg [.sh (.int .u64), .sh (.int .u64)]] [] [⟨[], [], [], []⟩] ((G_0, (G_1, ())), ((o_0, (o_1, ())), ())) ()
noncomputable def spec_l5Mul.S (N : Nat) : Say := ⟨false, 108, [.agg [.sh (.int .u64), .sh (.int .u64)], .agg [.sh (.int .u64), .sh (.int .u64)]], [], [.agg [.sh (.int .u64), .sh (.int .u64)]], [], fun a s => spec_l5Mul N a.1.1 a.1.2.1 a.2.1.1 a.2.1.2.1⟩
set_option maxRecDepth 100000 in
theorem spec_l5Mul.l0.eq (N : Nat) (e : Int) (p0_0 : Int) (p0_1 : Int) (p1_0 : Int) (p1_1 : Int) (p2_0 : Int) (p2_1 : Int) (p3_0 : Int) (p3_1 : Int) : spec_l5Mul.l0 (N + 1) e p0_0 p0_1 p1_0 p1_1 p2_0 p2_1 p3_0 p3_1 =
 sel (decide (e < 128))
  (
  andK (α := ((Unit × (Unit × (Unit × (Unit × Unit)))) × ((Int × (Int × Unit)) × ((Int × (Int × Unit)) × ((Int × (Int × Unit)) × ((Int × (Int × Unit)) × Unit)))))) (
   chk (decide (0 ≤ (IntKind.u64.wrap (IntKind.i64.wrap (63 - e))))) (
   andK (α := ((Unit × (Unit × (Unit × (Unit × (Int × Unit))))) × ((Int × (Int × Unit)) × ((Int × (Int × Unit)) × ((Int × (Int × Unit)) × ((Int × (Int × Unit)) × Unit)))))) (
    sel (decide (63 < e))
     (
     chk (decide (0 ≤ (IntKind.u64.wrap (IntKind.i64.wrap (127 - e))))) (
     some ((((), ((), ((), ((), ((shrI .u64 p0_1 (IntKind.u64.wrap (IntKind.i64.wrap (127 - e)))), ()))))), ((p0_0, (p0_1, ())), ((p1_0, (p1_1, ())), ((p2_0, (p2_1, ())), ((p3_0, (p3_1, ())), ()))))))))
     (
     some ((((), ((), ((), ((), ((shrI .u64 p0_0 (IntKind.u64.wrap (IntKind.i64.wrap (63 - e)))), ()))))), ((p0_0, (p0_1, ())), ((p1_0, (p1_1, ())), ((p2_0, (p2_1, ())), ((p3_0, (p3_1, ())), ())))))))) fun j1 =>
   andK (α := ((Unit × (Unit × (Unit × (Unit × Unit)))) × ((Int × (Int × Unit)) × ((Int × (Int × Unit)) × ((Int × (Int × Unit)) × ((Int × (Int × Unit)) × Unit)))))) (
    sel (decide ((Go.bits .and .u64 j1.1.2.2.2.2.1 1) = 1))
     (
     some ((((), ((), ((), ((), ())))), ((j1.2.1.1, (j1.2.1.2.1, ())), ((j1.2.2.1.1, (j1.2.2.1.2.1, ())), ((j1.2.2.2.1.1, (j1.2.2.2.1.2.1, ())), (((Go.bits .xor .u64 j1.2.2.2.2.1.1 j1.2.2.1.1), ((Go.bits .xor .u64 j1.2.2.2.2.1.2.1 j1.2.2.1.2.1), ())), ())))))))
     (
     some ((((), ((), ((), ((), ())))), ((j1.2.1.1, (j1.2.1.2.1, ())), ((j1.2.2.1.1, (j1.2.2.1.2.1, ())), ((j1.2.2.2.1.1, (j1.2.2.2.1.2.1, ())), ((j1.2.2.2.2.1.1, (j1.2.2.2.2.1.2.1, ())), ())))))))) fun j2 =>
   sel (decide ((Go.bits .and .u64 j2.2.2.1.2.1 1) = 1))
    (
    some ((((), ((), ((), ((), ())))), ((j2.2.1.1, (j2.2.1.2.1, ())), (((Go.bits .xor .u64 (shrI .u64 j2.2.2.1.1 1) 16212958658533785600), ((Go.bits .or .u64 (shrI .u64 j2.2.2.1.2.1 1) (shlI .u64 j2.2.2.1.1 63)), ())), ((j2.2.2.2.1.1, (j2.2.2.2.1.2.1, ())), ((j2.2.2.2.2.1.1, (j2.2.2.2.2.1.2.1, ())), ())))))))
    (
    some ((((), ((), ((), ((), ())))), ((j2.2.1.1, (j2.2.1.2.1, ())), (((shrI .u64 j2.2.2.1.1 1), ((Go.bits .or .u64 (shrI .u64 j2.2.2.1.2.1 1) (shlI .u64 j2.2.2.1.1 63)), ())), ((j2.2.2.2.1.1, (j2.2.2.2.1.2.1, ())), ((j2.2.2.2.2.1.1, (j2.2.2.2.2.1.2.1, ())), ()))))))))) fun j3 =>
  spec_l5Mul.l0 N (IntKind.i64.wrap (e + 1)) j3.2.1.1 j3.2.1.2.1 j3.2.2.1.1 j3.2.2.1.2.1 j3.2.2.2.1.1 j3.2.2.2.1.2.1 j3.2.2.2.2.1.1 j3.2.2.2.2.1.2.1)
  (
  some ((((), ((), ())), ((p0_0, (p0_1, ())), ((p1_0, (p1_1, ())), ((p2_0, (p2_1, ())), ((p3_0, (p3_1, ())), ()))))))) := by kernel_rfl
set_option maxRecDepth 100000 in
theorem spec_l5Mul.eq (N : Nat) (G_0 : Int) (G_1 : Int) (o_0 : Int) (o_1 : Int) : spec_l5Mul N G_0 G_1 o_0 o_1 =
 andK (spec_l5Mul.l0 N 0 G_0 G_1 o_0 o_1 0 0 0 0) fun l4 =>
 some (((l4.2.2.2.2.1.1, (l4.2.2.2.2.1.2.1, ())), ()), ()) := by kernel_rfl
set_option maxRecDepth 100000 in
theorem spec_l5Mul.say (N : Nat) : SayOk Try.prog (spec_l5Mul.S N) := sayOk_mk (N := N) (H := spec_l5Mul.H) (preps := [⟨[], [], [], []⟩]) (l := spec_l5Mul.says) (fn := Try.f108) (c := bodyOf Try.f108)
  (by kernel_rfl) (by kernel_rfl) (by kernel_rfl) (by kernel_rfl) (by kernel_rfl) (by kernel_rfl) (by kernel_rfl)
  (fun N => SayAll.nil) (fun a s => by kernel_rfl)

/-! ### loop.example/g00206/spec.l5Ghash: function 94 -/
noncomputable def spec_l5Ghash.H : Hints := hintsOf [(2000004, .loop ⟨.normal, [1], [4, 5, 6, 7], [.one (.ptr 0 0), .one (.ptr 1 0), .one (.ptr 2 0), ak_i], [.cells [.sh (.int .u64), .sh (.int .u64)], .cells [.sh (.int .u64), .sh (.int .u64)], .cells [.sh (.int .u64), .sh (.int .u64)]], [⟨[], [], [], []⟩]⟩ [⟨(.exit 0), [], [4, 5], [.one (.ptr 0 0), .one (.ptr 1 0)], [.cells [.sh (.int .u64), .sh (.int .u64)], .cells [.sh (.int .u64), .sh (.int .u64)], .cells [.sh (.int .u64), .sh (.int .u64)]], [⟨[], [], [], []⟩]⟩])]
noncomputable def spec_l5Ghash.says (N : Nat) : List Say := [spec_l5Of.S N, spec_l5Mul.S N]
noncomputable def spec_l5Ghash.call (N : Nat) : CallK := callBy (spec_l5Ghash.says N)
noncomputable def spec_l5Ghash.qt (N : Nat) : FuncId → List PV → Sig → Cl := qtBy (spec_l5Ghash.says N)
noncomputable def spec_l5Ghash.l0.hd : Alt := ⟨.normal, [1], [4, 5, 6, 7], [.one (.ptr 0 0), .one (.ptr 1 0), .one (.ptr 2 0), ak_i], [.cells [.sh (.int .u64), .sh (.int .u64)], .cells [.sh (.int .u64), .sh (.int .u64)], .cells [.sh (.int .u64), .sh (.int .u64)]], [⟨[], [], [], []⟩]⟩
noncomputable def spec_l5Ghash.l0.outs : List Alt := [⟨(.exit 0), [], [4, 5], [.one (.ptr 0 0), .one (.ptr 1 0)], [.cells [.sh (.int .u64), .sh (.int .u64)], .cells [.sh (.int .u64), .sh (.int .u64)], .cells [.sh (.int .u64), .sh (.int .u64)]], [⟨[], [], [], []⟩]⟩]
noncomputable def spec_l5Ghash.l0 (N : Nat) (s1 : ByteArray) (atv : Int) (p0_0 : Int) (p0_1 : Int) (p1_0 : Int) (p1_1 : Int) (p2_0 : Int) (p2_1 : Int) : Option ((Unit × (Unit × Unit)) × ((Int × (Int × Unit)) × ((Int × (Int × Unit)) × ((Int × (Int × Unit)) × Unit)))) :=
  loopK Try.prog spec_l5Ghash.call spec_l5Ghash.qt spec_l5Ghash.H (codeAt (bodyOf Try.f94) [1, 1, 1, 0, 1, 0, 0]) 3 spec_l5Ghash.l0.hd spec_l5Ghash.l0.outs [(1, .v (.string s1))] N (((), ((), ((), (atv, ())))), ((p0_0, (p0_1, ())), ((p1_0, (p1_1, ())), ((p2_0, (p2_1, ())), ()))))
noncomputable def spec_l5Ghash (N : Nat) (h : ByteArray) (s : ByteArray) : Option (((Int × (Int × Unit)) × Unit) × Unit) :=
  ofFn Try.prog spec_l5Ghash.call spec_l5Ghash.qt spec_l5Ghash.H N Try.f94 [ak_s, ak_s] [] [.agg [.sh (.int .u64), .sh (.int .u64)]] [] [⟨[], [], [], []⟩] (h, (s, ())) ()
noncomputable def spec_l5Ghash.S (N : Nat) : Say := ⟨false, 94, [ak_s, ak_s], [], [.agg [.sh (.int .u64), .sh (.int .u64)]], [], fun a s => spec_l5Ghash N a.1 a.2.1⟩
set_option maxRecDepth 100000 in
theorem spec_l5Ghash.l0.eq (N : Nat) (s1 : ByteArray) (atv : Int) (p0_0 : Int) (p0_1 : Int) (p1_0 : Int) (p1_1 : Int) (p2_0 : Int) (p2_1 : Int) : spec_l5Ghash.l0 (N + 1) s1 atv p0_0 p0_1 p1_0 p1_1 p2_0 p2_1 =
 sel (decide (atv < (s1.size : Int)))
  (
  chk ((decide (0 ≤ atv)) && ((decide (atv ≤ (IntKind.i64.wrap (atv + 16)))) && (decide ((IntKind.i64.wrap (atv + 16)) ≤ (s1.size : Int))))) (
  andK (spec_l5Of N (s1.extract (Int.toNat atv) (Int.toNat (IntKind.i64.wrap (atv + 16))))) fun u2 =>
  andK (spec_l5Mul N (Go.bits .xor .u64 p1_0 u2.1.1.1) (Go.bits .xor .u64 p1_1 u2.1.1.2.1) p2_0 p2_1) fun u3 =>
  spec_l5Ghash.l0 N s1 (IntKind.i64.wrap (atv + 16)) p0_0 p0_1 u3.1.1.1 u3.1.1.2.1 p2_0 p2_1))
  (
  some ((((), ((), ())), ((p0_0, (p0_1, ())), ((p1_0, (p1_1, ())), ((p2_0, (p2_1, ())), ())))))) := by kernel_rfl
set_option maxRecDepth 100000 in
theorem spec_l5Ghash.eq (N : Nat) (h : ByteArray) (s : ByteArray) : spec_l5Ghash N h s =
 andK (spec_l5Of N h) fun u1 =>
 andK (spec_l5Ghash.l0 N s 0 0 0 0 0 u1.1.1.1 u1.1.1.2.1) fun l4 =>
 some (((l4.2.2.1.1, (l4.2.2.1.2.1, ())), ()), ()) := by kernel_rfl
set_option maxRecDepth 100000 in
theorem spec_l5Ghash.say (N : Nat) : SayOk Try.prog (spec_l5Ghash.S N) := sayOk_mk (N := N) (H := spec_l5Ghash.H) (preps := [⟨[], [], [], []⟩]) (l := spec_l5Ghash.says) (fn := Try.f94) (c := bodyOf Try.f94)
  (by kernel_rfl) (by kernel_rfl) (by kernel_rfl) (by kernel_rfl) (by kernel_rfl) (by kernel_rfl) (by kernel_rfl)
  (fun N => SayAll.cons (spec_l5Of.say N) (SayAll.cons (spec_l5Mul.say N) (SayAll.nil))) (fun a s => by kernel_rfl)

/-! ### loop.example/g00206/spec.l5Told: function 93 -/
noncomputable def spec_l5Told.H : Hints := hintsOf []
noncomputable def spec_l5Told.says (N : Nat) : List Say := [spec_l1Fixed.S N]
noncomputable def spec_l5Told.call (N : Nat) : CallK := callBy (spec_l5Told.says N)
noncomputable def spec_l5Told.qt (N : Nat) : FuncId → List PV → Sig → Cl := qtBy (spec_l5Told.says N)
noncomputable def spec_l5Told (N : Nat) (b_0 : Int) (b_1 : Int) : Option ((ByteArray × Unit) × Unit) :=
  ofFn Try.prog spec_l5Told.call spec_l5Told.qt spec_l5Told.H N Try.f93 [.agg [.sh (.int .u64), .sh (.int .u64)]] [] [ak_s] [] [⟨[], [], [], []⟩] ((b_0, (b_1, ())), ()) ()
noncomputable def spec_l5Told.S (N : Nat) : Say := ⟨false, 93, [.agg [.sh (.int .u64), .sh (.int .u64)]], [], [ak_s], [], fun a s => spec_l5Told N a.1.1 a.1.2.1⟩
set_option maxRecDepth 100000 in
theorem spec_l5Told.eq (N : Nat) (b_0 : Int) (b_1 : Int) : spec_l5Told N b_0 b_1 =
 andK (spec_l1Fixed N (IntKind.i64.wrap b_0) 8) fun u1 =>
 andK (spec_l1Fixed N (IntKind.i64.wrap b_1) 8) fun u2 =>
 chk (decide (u1.1.1.size + u2.1.1.size ≤ 9223372036854775807)) (
 some (((u1.1.1 ++ u2.1.1), ()), ())) := by kernel_rfl
set_option maxRecDepth 100000 in
theorem spec_l5Told.say (N : Nat) : SayOk Try.prog (spec_l5Told.S N) := sayOk_mk (N := N) (H := spec_l5Told.H) (preps := [⟨[], [], [], []⟩]) (l := spec_l5Told.says) (fn := Try.f93) (c := bodyOf Try.f93)
  (by kernel_rfl) (by kernel_rfl) (by kernel_rfl) (by kernel_rfl) (by kernel_rfl) (by kernel_rfl) (by kernel_rfl)
  (fun N => SayAll.cons (spec_l1Fixed.say N) (SayAll.nil)) (fun a s => by kernel_rfl)

/-! ### (*loop.example/g00206/spec.l5K).tag: function 75 -/
noncomputable def spec_l5K_tag.H : Hints := hintsOf [(8000003, .alts [34])]
noncomputable def spec_l5K_tag.says (N : Nat) : List Say := [spec_l5Full.S N, spec_l1Fixed.S N, spec_l5Ghash.S N, spec_l5Told.S N, spec_l3With.SB N, spec_l3Xor.SB N]
noncomputable def spec_l5K_tag.call (N : Nat) : CallK := callBy (spec_l5K_tag.says N)
noncomputable def spec_l5K_tag.qt (N : Nat) : FuncId → List PV → Sig → Cl := qtBy (spec_l5K_tag.says N)
noncomputable def spec_l5K_tag (N : Nat) (nonce : ByteArray) (beside : ByteArray) (sealed : ByteArray) (p0_2 : ByteArray) (p1 : (List Int)) (p2 : (List Int)) : Option ((ByteArray × Unit) × ((Unit × (Unit × (ByteArray × Unit))) × ((List Int) × ((List Int) × Unit)))) :=
  ofFn Try.prog spec_l5K_tag.call spec_l5K_tag.qt spec_l5K_tag.H N Try.f75 [.one (.ptr 0 0), ak_s, ak_s, ak_s] [.cells [.own 1, .own 2, ck_s], .rows (.int .u8), .rows (.int .u8)] [ak_s] [.cells [.own 1, .own 2, ck_s], .rows (.int .u8) true, .rows (.int .u8) true] [⟨[], [], [], []⟩] ((), (nonce, (beside, (sealed, ())))) (((), ((), (p0_2, ()))), (p1, (p2, ())))
noncomputable def spec_l5K_tag.S (N : Nat) : Say := ⟨false, 75, [.one (.ptr 0 0), ak_s, ak_s, ak_s], [.cells [.own 1, .own 2, ck_s], .rows (.int .u8), .rows (.int .u8)], [ak_s], [.cells [.own 1, .own 2, ck_s], .rows (.int .u8) true, .rows (.int .u8) true], fun a s => spec_l5K_tag N a.2.1 a.2.2.1 a.2.2.2.1 s.1.2.2.1 s.2.1 s.2.2.1⟩
set_option maxRecDepth 100000 in
theorem spec_l5K_tag.eq (N : Nat) (nonce : ByteArray) (beside : ByteArray) (sealed : ByteArray) (p0_2 : ByteArray) (p1 : (List Int)) (p2 : (List Int)) : spec_l5K_tag N nonce beside sealed p0_2 p1 p2 =
 andK (spec_l5Full N beside) fun u1 =>
 andK (spec_l5Full N sealed) fun u2 =>
 chk (decide (u1.1.1.size + u2.1.1.size ≤ 9223372036854775807)) (
 andK (spec_l1Fixed N (IntKind.i64.wrap (8 * (beside.size : Int))) 8) fun u3 =>
 chk (decide ((u1.1.1 ++ u2.1.1).size + u3.1.1.size ≤ 9223372036854775807)) (
 andK (spec_l1Fixed N (IntKind.i64.wrap (8 * (sealed.size : Int))) 8) fun u4 =>
 chk (decide (((u1.1.1 ++ u2.1.1) ++ u3.1.1).size + u4.1.1.size ≤ 9223372036854775807)) (
 andK (spec_l5Ghash N p0_2 (((u1.1.1 ++ u2.1.1) ++ u3.1.1) ++ u4.1.1)) fun u5 =>
 andK (spec_l5Told N u5.1.1.1 u5.1.1.2.1) fun u6 =>
 chk (decide (nonce.size + 4 ≤ 9223372036854775807)) (
 andK (spec_l3With N p1 p2 (nonce ++ (⟨#[0, 0, 0, 1]⟩ : ByteArray))) fun u7 =>
 andK (spec_l3Xor N (bytesL u6.1.1) (bytesL u7.1.1)) fun u8 =>
 some (((strL u8.2.1), ()), (((), ((), (p0_2, ()))), (p1, (p2, ())))))))) := by kernel_rfl
set_option maxRecDepth 100000 in
theorem spec_l5K_tag.say (N : Nat) : SayOk Try.prog (spec_l5K_tag.S N) := sayOk_mk (N := N) (H := spec_l5K_tag.H) (preps := [⟨[], [], [], []⟩]) (l := spec_l5K_tag.says) (fn := Try.f75) (c := bodyOf Try.f75)
  (by kernel_rfl) (by kernel_rfl) (by kernel_rfl) (by kernel_rfl) (by kernel_rfl) (by kernel_rfl) (by kernel_rfl)
  (fun N => SayAll.cons (spec_l5Full.say N) (SayAll.cons (spec_l1Fixed.say N) (SayAll.cons (spec_l5Ghash.say N) (SayAll.cons (spec_l5Told.say N) (SayAll.cons (spec_l3With.sayB N) (SayAll.cons (spec_l3Xor.sayB N) (SayAll.nil))))))) (fun a s => by kernel_rfl)

/-! ### (*loop.example/g00206/spec.l5K).seal: function 46 -/
noncomputable def spec_l5K_seal.H : Hints := hintsOf []
noncomputable def spec_l5K_seal.says (N : Nat) : List Say := [spec_l5K_count.S N, spec_l5K_tag.S N]
noncomputable def spec_l5K_seal.call (N : Nat) : CallK := callBy (spec_l5K_seal.says N)
noncomputable def spec_l5K_seal.qt (N : Nat) : FuncId → List PV → Sig → Cl := qtBy (spec_l5K_seal.says N)
noncomputable def spec_l5K_seal (N : Nat) (nonce : ByteArray) (beside : ByteArray) (text : ByteArray) (p0_2 : ByteArray) (p1 : (List Int)) (p2 : (List Int)) : Option ((ByteArray × Unit) × ((Unit × (Unit × (ByteArray × Unit))) × ((List Int) × ((List Int) × Unit)))) :=
  ofFn Try.prog spec_l5K_seal.call spec_l5K_seal.qt spec_l5K_seal.H N Try.f46 [.one (.ptr 0 0), ak_s, ak_s, ak_s] [.cells [.own 1, .own 2, ck_s], .rows (.int .u8), .rows (.int .u8)] [ak_s] [.cells [.own 1, .own 2, ck_s], .rows (.int .u8) true, .rows (.int .u8) true] [⟨[], [], [], []⟩] ((), (nonce, (beside, (text, ())))) (((), ((), (p0_2, ()))), (p1, (p2, ())))
noncomputable def spec_l5K_seal.S (N : Nat) : Say := ⟨false, 46, [.one (.ptr 0 0), ak_s, ak_s, ak_s], [.cells [.own 1, .own 2, ck_s], .rows (.int .u8), .rows (.int .u8)], [ak_s], [.cells [.own 1, .own 2, ck_s], .rows (.int .u8) true, .rows (.int .u8) true], fun a s => spec_l5K_seal N a.2.1 a.2.2.1 a.2.2.2.1 s.1.2.2.1 s.2.1 s.2.2.1⟩
set_option maxRecDepth 100000 in
theorem spec_l5K_seal.eq (N : Nat) (nonce : ByteArray) (beside : ByteArray) (text : ByteArray) (p0_2 : ByteArray) (p1 : (List Int)) (p2 : (List Int)) : spec_l5K_seal N nonce beside text p0_2 p1 p2 =
 andK (spec_l5K_count N nonce text p0_2 p1 p2) fun u1 =>
 andK (spec_l5K_tag N nonce beside u1.1.1 u1.2.1.2.2.1 u1.2.2.1 u1.2.2.2.1) fun u2 =>
 chk (decide (u1.1.1.size + u2.1.1.size ≤ 9223372036854775807)) (
 some (((u1.1.1 ++ u2.1.1), ()), (((), ((), (u2.2.1.2.2.1, ()))), (u2.2.2.1, (u2.2.2.2.1, ()))))) := by kernel_rfl
set_option maxRecDepth 100000 in
theorem spec_l5K_seal.say (N : Nat) : SayOk Try.prog (spec_l5K_seal.S N) := sayOk_mk (N := N) (H := spec_l5K_seal.H) (preps := [⟨[], [], [], []⟩]) (l := spec_l5K_seal.says) (fn := Try.f46) (c := bodyOf Try.f46)
  (by kernel_rfl) (by kernel_rfl) (by kernel_rfl) (by kernel_rfl) (by kernel_rfl) (by kernel_rfl) (by kernel_rfl)
  (fun N => SayAll.cons (spec_l5K_count.say N) (SayAll.cons (spec_l5K_tag.say N) (SayAll.nil))) (fun a s => by kernel_rfl)

/-! ### loop.example/g00206/spec.l10Mint: function 32 -/
noncomputable def spec_l10Mint.H : Hints := hintsOf [(4, .join [⟨.normal, [0, 1, 2], [7, 9], [.one (.ptr 0 0), ak_s], [.cells [ck_s, ck_i, ck_b]], [⟨[], [], [], []⟩]⟩])]
noncomputable def spec_l10Mint.says (N : Nat) : List Say := [spec_l5Key.S N, spec_l1Fixed.S N, spec_l5K_seal.S N]
noncomputable def spec_l10Mint.call (N : Nat) : CallK := callBy (spec_l10Mint.says N)
noncomputable def spec_l10Mint.qt (N : Nat) : FuncId → List PV → Sig → Cl := qtBy (spec_l10Mint.says N)
noncomputable def spec_l10Mint (N : Nat) (key : ByteArray) (nonce : ByteArray) (address : ByteArray) (m_0 : ByteArray) (m_1 : Int) (m_2 : Bool) : Option ((ByteArray × Unit) × Unit) :=
  ofFn Try.prog spec_l10Mint.call spec_l10Mint.qt spec_l10Mint.H N Try.f32 [ak_s, ak_s, ak_s, .agg [ck_s, ck_i, ck_b]] [] [ak_s] [] [⟨[], [], [], []⟩] (key, (nonce, (address, ((m_0, (m_1, (m_2, ()))), ())))) ()
noncomputable def spec_l10Mint.S (N : Nat) : Say := ⟨false, 32, [ak_s, ak_s, ak_s, .agg [ck_s, ck_i, ck_b]], [], [ak_s], [], fun a s => spec_l10Mint N a.1 a.2.1 a.2.2.1 a.2.2.2.1.1 a.2.2.2.1.2.1 a.2.2.2.1.2.2.1⟩
set_option maxRecDepth 100000 in
theorem spec_l10Mint.eq (N : Nat) (key : ByteArray) (nonce : ByteArray) (address : ByteArray) (m_0 : ByteArray) (m_1 : Int) (m_2 : Bool) : spec_l10Mint N key nonce address m_0 m_1 m_2 =
 andK (α := ((Unit × (ByteArray × Unit)) × ((ByteArray × (Int × (Bool × Unit))) × Unit))) (
  sel m_2
   (
   some ((((), ((⟨#[1]⟩ : ByteArray), ())), ((m_0, (m_1, (m_2, ()))), ()))))
   (
   some ((((), ((⟨#[0]⟩ : ByteArray), ())), ((m_0, (m_1, (m_2, ()))), ()))))) fun j1 =>
 chk (decide (j1.1.2.1.size + nonce.size ≤ 9223372036854775807)) (
 andK (spec_l5Key N key) fun u2 =>
 chk (decide (j1.1.2.1.size + address.size ≤ 9223372036854775807)) (
 andK (spec_l1Fixed N j1.2.1.2.1 8) fun u3 =>
 chk (decide (u3.1.1.size + j1.2.1.1.size ≤ 9223372036854775807)) (
 andK (spec_l5K_seal N nonce (j1.1.2.1 ++ address) (u3.1.1 ++ j1.2.1.1) u2.2.1.2.2.1 u2.2.2.1 u2.2.2.2.1) fun u4 =>
 chk (decide ((j1.1.2.1 ++ nonce).size + u4.1.1.size ≤ 9223372036854775807)) (
 some ((((j1.1.2.1 ++ nonce) ++ u4.1.1), ()), ()))))) := by kernel_rfl
set_option maxRecDepth 100000 in
theorem spec_l10Mint.say (N : Nat) : SayOk Try.prog (spec_l10Mint.S N) := sayOk_mk (N := N) (H := spec_l10Mint.H) (preps := [⟨[], [], [], []⟩]) (l := spec_l10Mint.says) (fn := Try.f32) (c := bodyOf Try.f32)
  (by kernel_rfl) (by kernel_rfl) (by kernel_rfl) (by kernel_rfl) (by kernel_rfl) (by kernel_rfl) (by kernel_rfl)
  (fun N => SayAll.cons (spec_l5Key.say N) (SayAll.cons (spec_l1Fixed.say N) (SayAll.cons (spec_l5K_seal.say N) (SayAll.nil)))) (fun a s => by kernel_rfl)

/-! ### loop.example/g00206/spec.MintToken: function 8 -/
noncomputable def spec_MintToken.H : Hints := hintsOf [(5000001, .join [⟨.normal, [0, 1, 2], [7, 27], [.one (.ptr 0 0), ak_b], [.cells [ck_s, ck_i, ck_b]], [⟨[], [], [], []⟩]⟩])]
noncomputable def spec_MintToken.says (N : Nat) : List Say := [spec_l10Address.S N, spec_l10Minted.S N, spec_l10Mint.S N]
noncomputable def spec_MintToken.call (N : Nat) : CallK := callBy (spec_MintToken.says N)
noncomputable def spec_MintToken.qt (N : Nat) : FuncId → List PV → Sig → Cl := qtBy (spec_MintToken.says N)
noncomputable def spec_MintToken (N : Nat) (key : ByteArray) (nonce : ByteArray) (address : ByteArray) (m_0 : ByteArray) (m_1 : Int) (m_2 : Bool) : Option ((ByteArray × (Bool × Unit)) × Unit) :=
  ofFn Try.prog spec_MintToken.call spec_MintToken.qt spec_MintToken.H N Try.f8 [ak_s, ak_s, ak_s, .agg [ck_s, ck_i, ck_b]] [] [ak_s, ak_b] [] [⟨[], [], [], []⟩] (key, (nonce, (address, ((m_0, (m_1, (m_2, ()))), ())))) ()
noncomputable def spec_MintToken.S (N : Nat) : Say := ⟨false, 8, [ak_s, ak_s, ak_s, .agg [ck_s, ck_i, ck_b]], [], [ak_s, ak_b], [], fun a s => spec_MintToken N a.1 a.2.1 a.2.2.1 a.2.2.2.1.1 a.2.2.2.1.2.1 a.2.2.2.1.2.2.1⟩
set_option maxRecDepth 100000 in
theorem spec_MintToken.eq (N : Nat) (key : ByteArray) (nonce : ByteArray) (address : ByteArray) (m_0 : ByteArray) (m_1 : Int) (m_2 : Bool) : spec_MintToken N key nonce address m_0 m_1 m_2 =
 andK (α := ((Unit × (Bool × Unit)) × ((ByteArray × (Int × (Bool × Unit))) × Unit))) (
  sel (!(decide ((key.size : Int) = 16)))
   (
   some ((((), (true, ())), ((m_0, (m_1, (m_2, ()))), ()))))
   (
   sel (!(decide ((nonce.size : Int) = 12)))
    (
    some ((((), (true, ())), ((m_0, (m_1, (m_2, ()))), ()))))
    (
    andK (spec_l10Address N address) fun u1 =>
    sel (!u1.1.1)
     (
     some ((((), (true, ())), ((m_0, (m_1, (m_2, ()))), ()))))
     (
     andK (spec_l10Minted N m_0 m_1 m_2) fun u2 =>
     some ((((), ((!u2.1.1), ())), ((m_0, (m_1, (m_2, ()))), ()))))))) fun j3 =>
 sel j3.1.2.1
  (
  some (((⟨#[]⟩ : ByteArray), (false, ())), ()))
  (
  andK (spec_l10Mint N key nonce address j3.2.1.1 j3.2.1.2.1 j3.2.1.2.2.1) fun u4 =>
  some ((u4.1.1, (true, ())), ())) := by kernel_rfl
set_option maxRecDepth 100000 in
theorem spec_MintToken.say (N : Nat) : SayOk Try.prog (spec_MintToken.S N) := sayOk_mk (N := N) (H := spec_MintToken.H) (preps := [⟨[], [], [], []⟩]) (l := spec_MintToken.says) (fn := Try.f8) (c := bodyOf Try.f8)
  (by kernel_rfl) (by kernel_rfl) (by kernel_rfl) (by kernel_rfl) (by kernel_rfl) (by kernel_rfl) (by kernel_rfl)
  (fun N => SayAll.cons (spec_l10Address.say N) (SayAll.cons (spec_l10Minted.say N) (SayAll.cons (spec_l10Mint.say N) (SayAll.nil)))) (fun a s => by kernel_rfl)

/-! ### loop.example/g00206/laws.numberOf: function 9 -/
noncomputable def laws_numberOf.H : Hints := hintsOf [(2000003, .loop ⟨.normal, [6, 7], [3, 8], [ak_i, ak_i], [], [⟨[], [], [], []⟩]⟩ [⟨(.exit 0), [], [3], [ak_i], [], [⟨[], [], [], []⟩]⟩])]
noncomputable def laws_numberOf.says (N : Nat) : List Say := []
noncomputable def laws_numberOf.call (N : Nat) : CallK := callBy (laws_numberOf.says N)
noncomputable def laws_numberOf.qt (N : Nat) : FuncId → List PV → Sig → Cl := qtBy (laws_numberOf.says N)
noncomputable def laws_numberOf.l0.hd : Alt := ⟨.normal, [6, 7], [3, 8], [ak_i, ak_i], [], [⟨[], [], [], []⟩]⟩
noncomputable def laws_numberOf.l0.outs : List Alt := [⟨(.exit 0), [], [3], [ak_i], [], [⟨[], [], [], []⟩]⟩]
noncomputable def laws_numberOf.l0 (N : Nat) (t6 : (List Int)) (t7 : Int) (n : Int) (t8 : Int) : Option ((Int × Unit) × Unit) :=
  loopK Try.prog laws_numberOf.call laws_numberOf.qt laws_numberOf.H (codeAt (bodyOf Try.f9) [1, 1, 0, 1, 0, 0]) 0 laws_numberOf.l0.hd laws_numberOf.l0.outs [(6, .rows false (.int .u8) t6), (7, .v (.int .i64 t7))] N ((n, (t8, ())), ())
noncomputable def laws_numberOf (N : Nat) (b : (List Int)) : Option ((Int × Unit) × Unit) :=
  ofFn Try.prog laws_numberOf.call laws_numberOf.qt laws_numberOf.H N Try.f9 [.one (.sh (.rows (.int .u8)))] [] [ak_i] [] [⟨[], [], [], []⟩] (b, ()) ()
noncomputable def laws_numberOf.S (N : Nat) : Say := ⟨false, 9, [.one (.sh (.rows (.int .u8)))], [], [ak_i], [], fun a s => laws_numberOf N a.1⟩
set_option maxRecDepth 100000 in
theorem laws_numberOf.l0.eq (N : Nat) (t6 : (List Int)) (t7 : Int) (n : Int) (t8 : Int) : laws_numberOf.l0 (N + 1) t6 t7 n t8 =
 sel (decide (t8 < t7))
  (
  chk ((decide (0 ≤ t8)) && (decide (t8 < (t6.length : Int)))) (
  laws_numberOf.l0 N t6 t7 (Int.tmod (IntKind.i64.wrap ((IntKind.i64.wrap (31 * n)) + (IntKind.i64.wrap (t6.getD (Int.toNat t8) 0)))) 1000003) (IntKind.i64.wrap (t8 + 1))))
  (
  some (((n, ()), ()))) := by kernel_rfl
set_option maxRecDepth 100000 in
theorem laws_numberOf.eq (N : Nat) (b : (List Int)) : laws_numberOf N b =
 andK (laws_numberOf.l0 N b (b.length : Int) 0 0) fun l1 =>
 some ((l1.1.1, ()), ()) := by kernel_rfl
set_option maxRecDepth 100000 in
theorem laws_numberOf.say (N : Nat) : SayOk Try.prog (laws_numberOf.S N) := sayOk_mk (N := N) (H := laws_numberOf.H) (preps := [⟨[], [], [], []⟩]) (l := laws_numberOf.says) (fn := Try.f9) (c := bodyOf Try.f9)
  (by kernel_rfl) (by kernel_rfl) (by kernel_rfl) (by kernel_rfl) (by kernel_rfl) (by kernel_rfl) (by kernel_rfl)
  (fun N => SayAll.nil) (fun a s => by kernel_rfl)

/-! ### loop.example/g00206/impl.tokenKeysOk$1: function 59 -/
noncomputable def impl_tokenKeysOk_1.H : Hints := hintsOf []
noncomputable def impl_tokenKeysOk_1.says (N : Nat) : List Say := [impl_isKey.S N]
noncomputable def impl_tokenKeysOk_1.call (N : Nat) : CallK := callBy (impl_tokenKeysOk_1.says N)
noncomputable def impl_tokenKeysOk_1.qt (N : Nat) : FuncId → List PV → Sig → Cl := qtBy (impl_tokenKeysOk_1.says N)
noncomputable def impl_tokenKeysOk_1 (N : Nat) (key : ByteArray) : Option ((Bool × Unit) × Unit) :=
  ofFn Try.prog impl_tokenKeysOk_1.call impl_tokenKeysOk_1.qt impl_tokenKeysOk_1.H N Try.f59 [ak_s] [] [ak_b] [] [⟨[], [], [], []⟩] (key, ()) ()
noncomputable def impl_tokenKeysOk_1.S (N : Nat) : Say := ⟨false, 59, [ak_s], [], [ak_b], [], fun a s => impl_tokenKeysOk_1 N a.1⟩
set_option maxRecDepth 100000 in
theorem impl_tokenKeysOk_1.eq (N : Nat) (key : ByteArray) : impl_tokenKeysOk_1 N key =
 andK (impl_isKey N key) fun u1 =>
 some (((!u1.1.1), ()), ()) := by kernel_rfl
set_option maxRecDepth 100000 in
theorem impl_tokenKeysOk_1.say (N : Nat) : SayOk Try.prog (impl_tokenKeysOk_1.S N) := sayOk_mk (N := N) (H := impl_tokenKeysOk_1.H) (preps := [⟨[], [], [], []⟩]) (l := impl_tokenKeysOk_1.says) (fn := Try.f59) (c := bodyOf Try.f59)
  (by kernel_rfl) (by kernel_rfl) (by kernel_rfl) (by kernel_rfl) (by kernel_rfl) (by kernel_rfl) (by kernel_rfl)
  (fun N => SayAll.cons (impl_isKey.say N) (SayAll.nil)) (fun a s => by kernel_rfl)

/-! ### slices.IndexFunc[[]string,string]: function 79 -/
noncomputable def slices_IndexFuncstring_string.H : Hints := hintsOf [(2000002, .loop ⟨.normal, [0, 1, 7], [8], [ak_i], [], [⟨[], [], [], []⟩]⟩ [⟨.ret, [], [4], [ak_i], [], [⟨[], [], [], []⟩]⟩, ⟨(.exit 0), [], [], [], [], [⟨[], [], [], []⟩]⟩])]
noncomputable def slices_IndexFuncstring_string.says (N : Nat) : List Say := [impl_tokenKeysOk_1.S N]
noncomputable def slices_IndexFuncstring_string.call (N : Nat) : CallK := callBy (slices_IndexFuncstring_string.says N)
noncomputable def slices_IndexFuncstring_string.qt (N : Nat) : FuncId → List PV → Sig → Cl := qtBy (slices_IndexFuncstring_string.says N)
noncomputable def slices_IndexFuncstring_string.l0.hd : Alt := ⟨.normal, [0, 1, 7], [8], [ak_i], [], [⟨[], [], [], []⟩]⟩
noncomputable def slices_IndexFuncstring_string.l0.outs : List Alt := [⟨.ret, [], [4], [ak_i], [], [⟨[], [], [], []⟩]⟩, ⟨(.exit 0), [], [], [], [], [⟨[], [], [], []⟩]⟩]
noncomputable def slices_IndexFuncstring_string.l0 (N : Nat) (s1 : (List ByteArray)) (t7 : Int) (t8 : Int) : Option (((Int × Unit) × Unit) ⊕ (Unit × Unit)) :=
  loopK Try.prog slices_IndexFuncstring_string.call slices_IndexFuncstring_string.qt slices_IndexFuncstring_string.H (codeAt (bodyOf Try.f79) [1, 0, 1, 0, 0]) 0 slices_IndexFuncstring_string.l0.hd slices_IndexFuncstring_string.l0.outs [(0, .rows false .str s1), (1, .fn 59 []), (7, .v (.int .i64 t7))] N ((t8, ()), ())
noncomputable def slices_IndexFuncstring_string (N : Nat) (s : (List ByteArray)) : Option ((Int × Unit) × Unit) :=
  ofFn Try.prog slices_IndexFuncstring_string.call slices_IndexFuncstring_string.qt slices_IndexFuncstring_string.H N Try.f79 [.one (.sh (.rows .str)), .fn 59 []] [] [ak_i] [] [⟨[], [], [], []⟩] (s, ((), ())) ()
noncomputable def slices_IndexFuncstring_string.S (N : Nat) : Say := ⟨false, 79, [.one (.sh (.rows .str)), .fn 59 []], [], [ak_i], [], fun a s => slices_IndexFuncstring_string N a.1⟩
set_option maxRecDepth 100000 in
theorem slices_IndexFuncstring_string.l0.eq (N : Nat) (s1 : (List ByteArray)) (t7 : Int) (t8 : Int) : slices_IndexFuncstring_string.l0 (N + 1) s1 t7 t8 =
 sel (decide (t8 < t7))
  (
  chk ((decide (0 ≤ t8)) && (decide (t8 < (s1.length : Int)))) (
  andK (impl_tokenKeysOk_1 N (s1.getD (Int.toNat t8) (⟨#[]⟩ : ByteArray))) fun u1 =>
  sel u1.1.1
   (
   some (.inl ((t8, ()), ())))
   (
   slices_IndexFuncstring_string.l0 N s1 t7 (IntKind.i64.wrap (t8 + 1)))))
  (
  some (.inr (((), ())))) := by kernel_rfl
set_option maxRecDepth 100000 in
theorem slices_IndexFuncstring_string.eq (N : Nat) (s : (List ByteArray)) : slices_IndexFuncstring_string N s =
 andK (slices_IndexFuncstring_string.l0 N s (s.length : Int) 0) fun l2 =>
 orK l2 (fun x3 =>
  some ((x3.1.1, ()), ()))
  (fun x4 =>
  some (((-1), ()), ())) := by kernel_rfl
set_option maxRecDepth 100000 in
theorem slices_IndexFuncstring_string.say (N : Nat) : SayOk Try.prog (slices_IndexFuncstring_string.S N) := sayOk_mk (N := N) (H := slices_IndexFuncstring_string.H) (preps := [⟨[], [], [], []⟩]) (l := slices_IndexFuncstring_string.says) (fn := Try.f79) (c := bodyOf Try.f79)
  (by kernel_rfl) (by kernel_rfl) (by kernel_rfl) (by kernel_rfl) (by kernel_rfl) (by kernel_rfl) (by kernel_rfl)
  (fun N => SayAll.cons (impl_tokenKeysOk_1.say N) (SayAll.nil)) (fun a s => by kernel_rfl)

/-! ### slices.ContainsFunc[[]string,string]: function 58 -/
noncomputable def slices_ContainsFuncstring_string.H : Hints := hintsOf []
noncomputable def slices_ContainsFuncstring_string.says (N : Nat) : List Say := [slices_IndexFuncstring_string.S N]
noncomputable def slices_ContainsFuncstring_string.call (N : Nat) : CallK := callBy (slices_ContainsFuncstring_string.says N)
noncomputable def slices_ContainsFuncstring_string.qt (N : Nat) : FuncId → List PV → Sig → Cl := qtBy (slices_ContainsFuncstring_string.says N)
noncomputable def slices_ContainsFuncstring_string (N : Nat) (s : (List ByteArray)) : Option ((Bool × Unit) × Unit) :=
  ofFn Try.prog slices_ContainsFuncstring_string.call slices_ContainsFuncstring_string.qt slices_ContainsFuncstring_string.H N Try.f58 [.one (.sh (.rows .str)), .fn 59 []] [] [ak_b] [] [⟨[], [], [], []⟩] (s, ((), ())) ()
noncomputable def slices_ContainsFuncstring_string.S (N : Nat) : Say := ⟨false, 58, [.one (.sh (.rows .str)), .fn 59 []], [], [ak_b], [], fun a s => slices_ContainsFuncstring_string N a.1⟩
set_option maxRecDepth 100000 in
theorem slices_ContainsFuncstring_string.eq (N : Nat) (s : (List ByteArray)) : slices_ContainsFuncstring_string N s =
 andK (slices_IndexFuncstring_string N s) fun u1 =>
 some (((decide (0 ≤ u1.1.1)), ()), ()) := by kernel_rfl
set_option maxRecDepth 100000 in
theorem slices_ContainsFuncstring_string.say (N : Nat) : SayOk Try.prog (slices_ContainsFuncstring_string.S N) := sayOk_mk (N := N) (H := slices_ContainsFuncstring_string.H) (preps := [⟨[], [], [], []⟩]) (l := slices_ContainsFuncstring_string.says) (fn := Try.f58) (c := bodyOf Try.f58)
  (by kernel_rfl) (by kernel_rfl) (by kernel_rfl) (by kernel_rfl) (by kernel_rfl) (by kernel_rfl) (by kernel_rfl)
  (fun N => SayAll.cons (slices_IndexFuncstring_string.say N) (SayAll.nil)) (fun a s => by kernel_rfl)

/-! ### loop.example/g00206/impl.tokenKeysOk: function 33 -/
noncomputable def impl_tokenKeysOk.H : Hints := hintsOf []
noncomputable def impl_tokenKeysOk.says (N : Nat) : List Say := [impl_in.S N, slices_ContainsFuncstring_string.S N]
noncomputable def impl_tokenKeysOk.call (N : Nat) : CallK := callBy (impl_tokenKeysOk.says N)
noncomputable def impl_tokenKeysOk.qt (N : Nat) : FuncId → List PV → Sig → Cl := qtBy (impl_tokenKeysOk.says N)
noncomputable def impl_tokenKeysOk (N : Nat) (keys : (List ByteArray)) : Option ((Bool × Unit) × Unit) :=
  ofFn Try.prog impl_tokenKeysOk.call impl_tokenKeysOk.qt impl_tokenKeysOk.H N Try.f33 [.one (.sh (.rows .str))] [] [ak_b] [] [⟨[], [], [], []⟩] (keys, ()) ()
noncomputable def impl_tokenKeysOk.S (N : Nat) : Say := ⟨false, 33, [.one (.sh (.rows .str))], [], [ak_b], [], fun a s => impl_tokenKeysOk N a.1⟩
set_option maxRecDepth 100000 in
theorem impl_tokenKeysOk.eq (N : Nat) (keys : (List ByteArray)) : impl_tokenKeysOk N keys =
 andK (impl_in N (keys.length : Int) 1 2) fun u1 =>
 sel u1.1.1
  (
  andK (slices_ContainsFuncstring_string N keys) fun u2 =>
  some (((!u2.1.1), ()), ()))
  (
  some ((false, ()), ())) := by kernel_rfl
set_option maxRecDepth 100000 in
theorem impl_tokenKeysOk.say (N : Nat) : SayOk Try.prog (impl_tokenKeysOk.S N) := sayOk_mk (N := N) (H := impl_tokenKeysOk.H) (preps := [⟨[], [], [], []⟩]) (l := impl_tokenKeysOk.says) (fn := Try.f33) (c := bodyOf Try.f33)
  (by kernel_rfl) (by kernel_rfl) (by kernel_rfl) (by kernel_rfl) (by kernel_rfl) (by kernel_rfl) (by kernel_rfl)
  (fun N => SayAll.cons (impl_in.say N) (SayAll.cons (slices_ContainsFuncstring_string.say N) (SayAll.nil))) (fun a s => by kernel_rfl)

/-! ### loop.example/g00206/impl.OpenText: function 17 -/
noncomputable def impl_OpenText.H : Hints := hintsOf [(5000002, .join [⟨.normal, [0, 1, 2, 3, 10], [24], [ak_b], [], [⟨[], [], [], []⟩]⟩])]
noncomputable def impl_OpenText.says (N : Nat) : List Say := [impl_sealOk.S N, impl_in.S N, impl_cipherOf.S N, impl_cipher_tag.S N, impl_cipher_turned.S N]
noncomputable def impl_OpenText.call (N : Nat) : CallK := callBy (impl_OpenText.says N)
noncomputable def impl_OpenText.qt (N : Nat) : FuncId → List PV → Sig → Cl := qtBy (impl_OpenText.says N)
noncomputable def impl_OpenText (N : Nat) (key : ByteArray) (nonce : ByteArray) (beside : ByteArray) (sealed : ByteArray) : Option ((ByteArray × (Bool × Unit)) × Unit) :=
  ofFn Try.prog impl_OpenText.call impl_OpenText.qt impl_OpenText.H N Try.f17 [ak_s, ak_s, ak_s, ak_s] [] [ak_s, ak_b] [] [⟨[], [], [], []⟩] (key, (nonce, (beside, (sealed, ())))) ()
noncomputable def impl_OpenText.S (N : Nat) : Say := ⟨false, 17, [ak_s, ak_s, ak_s, ak_s], [], [ak_s, ak_b], [], fun a s => impl_OpenText N a.1 a.2.1 a.2.2.1 a.2.2.2.1⟩
set_option maxRecDepth 100000 in
theorem impl_OpenText.eq (N : Nat) (key : ByteArray) (nonce : ByteArray) (beside : ByteArray) (sealed : ByteArray) : impl_OpenText N key nonce beside sealed =
 andK (α := ((Bool × Unit) × Unit)) (
  andK (impl_sealOk N key nonce beside) fun u1 =>
  sel (!u1.1.1)
   (
   some (((true, ()), ())))
   (
   andK (impl_in N (IntKind.i64.wrap ((sealed.size : Int) - 16)) 0 1500) fun u2 =>
   some ((((!u2.1.1), ()), ())))) fun j3 =>
 sel j3.1.1
  (
  some (((⟨#[]⟩ : ByteArray), (false, ())), ()))
  (
  andK (impl_cipherOf N key) fun u4 =>
  chk ((decide (0 ≤ (IntKind.i64.wrap ((sealed.size : Int) - 16)))) && (decide ((IntKind.i64.wrap ((sealed.size : Int) - 16)) ≤ (sealed.size : Int)))) (
  andK (impl_cipher_tag N nonce beside (sealed.extract 0 (Int.toNat (IntKind.i64.wrap ((sealed.size : Int) - 16)))) u4.2.2.1 u4.2.2.2.1) fun u5 =>
  chk ((decide (0 ≤ (IntKind.i64.wrap ((sealed.size : Int) - 16)))) && ((decide ((IntKind.i64.wrap ((sealed.size : Int) - 16)) ≤ (sealed.size : Int))) && (decide ((sealed.size : Int) ≤ (sealed.size : Int))))) (
  sel (!(decide (u5.1.1 = (sealed.extract (Int.toNat (IntKind.i64.wrap ((sealed.size : Int) - 16))) (Int.toNat (sealed.size : Int))))))
   (
   some (((⟨#[]⟩ : ByteArray), (false, ())), ()))
   (
   chk ((decide (0 ≤ (IntKind.i64.wrap ((sealed.size : Int) - 16)))) && (decide ((IntKind.i64.wrap ((sealed.size : Int) - 16)) ≤ (sealed.size : Int)))) (
   andK (impl_cipher_turned N nonce (sealed.extract 0 (Int.toNat (IntKind.i64.wrap ((sealed.size : Int) - 16)))) u5.2.2.1 u5.2.2.2.1) fun u6 =>
   some ((u6.1.1, (true, ())), ())))))) := by kernel_rfl
set_option maxRecDepth 100000 in
theorem impl_OpenText.say (N : Nat) : SayOk Try.prog (impl_OpenText.S N) := sayOk_mk (N := N) (H := impl_OpenText.H) (preps := [⟨[], [], [], []⟩]) (l := impl_OpenText.says) (fn := Try.f17) (c := bodyOf Try.f17)
  (by kernel_rfl) (by kernel_rfl) (by kernel_rfl) (by kernel_rfl) (by kernel_rfl) (by kernel_rfl) (by kernel_rfl)
  (fun N => SayAll.cons (impl_sealOk.say N) (SayAll.cons (impl_in.say N) (SayAll.cons (impl_cipherOf.say N) (SayAll.cons (impl_cipher_tag.say N) (SayAll.cons (impl_cipher_turned.say N) (SayAll.nil)))))) (fun a s => by kernel_rfl)

/-! ### loop.example/g00206/impl.CheckToken: function 10 -/
noncomputable def impl_CheckToken.H : Hints := hintsOf [(5000001, .join [⟨.normal, [0, 1, 2, 3, 4], [10, 17], [.one (.ptr 0 0), ak_b], [.cells [ck_s, ck_i, ck_b]], [⟨[], [], [], []⟩]⟩]),
  (5000003, .join [⟨.normal, [0, 1, 2, 3, 4], [10, 37], [.one (.ptr 0 0), ak_b], [.cells [ck_s, ck_i, ck_b]], [⟨[], [], [], []⟩]⟩]),
  (5000011, .join [⟨.normal, [2, 14, 16], [10, 83], [.one (.ptr 0 0), ak_b], [.cells [ck_s, ck_i, ck_b]], [⟨[], [], [], []⟩]⟩]),
  (2000006, .loop ⟨.normal, [1, 2, 3, 4, 48, 49], [10, 50], [.one (.ptr 0 0), ak_i], [.cells [ck_s, ck_i, ck_b]], [⟨[], [], [], []⟩]⟩ [⟨.ret, [], [10, 11], [.one (.ptr 0 0), ak_i], [.cells [ck_s, ck_i, ck_b]], [⟨[], [], [], []⟩]⟩, ⟨(.exit 1), [], [10], [.one (.ptr 0 0)], [.cells [ck_s, ck_i, ck_b]], [⟨[], [], [], []⟩]⟩])]
noncomputable def impl_CheckToken.says (N : Nat) : List Say := [impl_tokenKeysOk.S N, impl_isAddress.S N, impl_isTime.S N, impl_in.S N, impl_OpenText.S N, impl_numberOf.S N]
noncomputable def impl_CheckToken.call (N : Nat) : CallK := callBy (impl_CheckToken.says N)
noncomputable def impl_CheckToken.qt (N : Nat) : FuncId → List PV → Sig → Cl := qtBy (impl_CheckToken.says N)
noncomputable def impl_CheckToken.l0.hd : Alt := ⟨.normal, [1, 2, 3, 4, 48, 49], [10, 50], [.one (.ptr 0 0), ak_i], [.cells [ck_s, ck_i, ck_b]], [⟨[], [], [], []⟩]⟩
noncomputable def impl_CheckToken.l0.outs : List Alt := [⟨.ret, [], [10, 11], [.one (.ptr 0 0), ak_i], [.cells [ck_s, ck_i, ck_b]], [⟨[], [], [], []⟩]⟩, ⟨(.exit 1), [], [10], [.one (.ptr 0 0)], [.cells [ck_s, ck_i, ck_b]], [⟨[], [], [], []⟩]⟩]
noncomputable def impl_CheckToken.l0 (N : Nat) (o2 : ByteArray) (t1 : ByteArray) (C1 : Int) (o3 : Int) (t48 : (List ByteArray)) (t49 : Int) (t50 : Int) (p0_0 : ByteArray) (p0_1 : Int) (p0_2 : Bool) : Option (((Unit × (Int × Unit)) × ((ByteArray × (Int × (Bool × Unit))) × Unit)) ⊕ ((Unit × Unit) × ((ByteArray × (Int × (Bool × Unit))) × Unit))) :=
  loopK Try.prog impl_CheckToken.call impl_CheckToken.qt impl_CheckToken.H (codeAt (bodyOf Try.f10) [1, 1, 0, 1, 0, 0]) 1 impl_CheckToken.l0.hd impl_CheckToken.l0.outs [(1, .v (.string o2)), (2, .v (.string t1)), (3, .v (.int .i64 C1)), (4, .v (.int .i64 o3)), (48, .rows false .str t48), (49, .v (.int .i64 t49))] N (((), (t50, ())), ((p0_0, (p0_1, (p0_2, ()))), ()))
noncomputable def impl_CheckToken (N : Nat) (G : (List ByteArray)) (o : ByteArray) (t : ByteArray) (C : Int) (o1 : Int) : Option (((ByteArray × (Int × (Bool × Unit))) × (Int × Unit)) × Unit) :=
  ofFn Try.prog impl_CheckToken.call impl_CheckToken.qt impl_CheckToken.H N Try.f10 [.one (.sh (.rows .str)), ak_s, ak_s, ak_i, ak_i] [] [.agg [ck_s, ck_i, ck_b], ak_i] [] [⟨[], [], [], []⟩] (G, (o, (t, (C, (o1, ()))))) ()
noncomputable def impl_CheckToken.S (N : Nat) : Say := ⟨false, 10, [.one (.sh (.rows .str)), ak_s, ak_s, ak_i, ak_i], [], [.agg [ck_s, ck_i, ck_b], ak_i], [], fun a s => impl_CheckToken N a.1 a.2.1 a.2.2.1 a.2.2.2.1 a.2.2.2.2.1⟩
set_option maxRecDepth 100000 in
theorem impl_CheckToken.l0.eq (N : Nat) (o2 : ByteArray) (t1 : ByteArray) (C1 : Int) (o3 : Int) (t48 : (List ByteArray)) (t49 : Int) (t50 : Int) (p0_0 : ByteArray) (p0_1 : Int) (p0_2 : Bool) : impl_CheckToken.l0 (N + 1) o2 t1 C1 o3 t48 t49 t50 p0_0 p0_1 p0_2 =
 sel (decide (t50 < t49))
  (
  chk ((decide (0 ≤ t50)) && (decide (t50 < (t48.length : Int)))) (
  chk (decide (13 ≤ (t1.size : Int))) (
  chk (decide (1 ≤ (t1.size : Int))) (
  chk (decide ((t1.extract 0 1).size + o2.size ≤ 9223372036854775807)) (
  chk ((decide (13 ≤ (t1.size : Int))) && (decide ((t1.size : Int) ≤ (t1.size : Int)))) (
  andK (impl_OpenText N (t48.getD (Int.toNat t50) (⟨#[]⟩ : ByteArray)) (t1.extract 1 13) ((t1.extract 0 1) ++ o2) (t1.extract 13 (Int.toNat (t1.size : Int)))) fun u8 =>
  sel (!u8.1.2.1)
   (
   impl_CheckToken.l0 N o2 t1 C1 o3 t48 t49 (IntKind.i64.wrap (t50 + 1)) p0_0 p0_1 p0_2)
   (
   chk (decide (8 ≤ (u8.1.1.size : Int))) (
   andK (impl_numberOf N (u8.1.1.extract 0 8)) fun u9 =>
   andK (α := ((Unit × (Bool × Unit)) × ((ByteArray × (Int × (Bool × Unit))) × Unit))) (
    sel (decide ((IntKind.u64.wrap C1) < u9.1.1))
     (
     some ((((), (true, ())), ((p0_0, (p0_1, (p0_2, ()))), ()))))
     (
     some ((((), ((decide (o3 < (IntKind.i64.wrap (C1 - (IntKind.i64.wrap u9.1.1))))), ())), ((p0_0, (p0_1, (p0_2, ()))), ()))))) fun j10 =>
   sel j10.1.2.1
    (
    some (.inl (((), (4, ())), (((⟨#[]⟩ : ByteArray), (0, (false, ()))), ()))))
    (
    chk ((decide (8 ≤ (u8.1.1.size : Int))) && (decide ((u8.1.1.size : Int) ≤ (u8.1.1.size : Int)))) (
    chk (decide (0 < (t1.size : Int))) (
    some (.inl (((), (0, ())), (((u8.1.1.extract 8 (Int.toNat (u8.1.1.size : Int))), ((IntKind.i64.wrap u9.1.1), ((decide (((bytesL t1).getD 0 0) = 1)), ()))), ()))))))))))))))
  (
  some (.inr ((((), ()), ((p0_0, (p0_1, (p0_2, ()))), ()))))) := by kernel_rfl
set_option maxRecDepth 100000 in
theorem impl_CheckToken.eq (N : Nat) (G : (List ByteArray)) (o : ByteArray) (t : ByteArray) (C : Int) (o1 : Int) : impl_CheckToken N G o t C o1 =
 andK (α := ((Unit × (Bool × Unit)) × ((ByteArray × (Int × (Bool × Unit))) × Unit))) (
  andK (impl_tokenKeysOk N G) fun u1 =>
  sel (!u1.1.1)
   (
   some ((((), (true, ())), (((⟨#[]⟩ : ByteArray), (0, (false, ()))), ()))))
   (
   andK (impl_isAddress N o) fun u2 =>
   sel (!u2.1.1)
    (
    some ((((), (true, ())), (((⟨#[]⟩ : ByteArray), (0, (false, ()))), ()))))
    (
    andK (impl_isTime N C) fun u3 =>
    sel (!u3.1.1)
     (
     some ((((), (true, ())), (((⟨#[]⟩ : ByteArray), (0, (false, ()))), ()))))
     (
     andK (impl_in N o1 0 1000000) fun u4 =>
     some ((((), ((!u4.1.1), ())), (((⟨#[]⟩ : ByteArray), (0, (false, ()))), ()))))))) fun j5 =>
 sel j5.1.2.1
  (
  some ((((⟨#[]⟩ : ByteArray), (0, (false, ()))), (1, ())), ()))
  (
  andK (α := ((Unit × (Bool × Unit)) × ((ByteArray × (Int × (Bool × Unit))) × Unit))) (
   andK (impl_in N (t.size : Int) 37 57) fun u6 =>
   sel (!u6.1.1)
    (
    some ((((), (true, ())), ((j5.2.1.1, (j5.2.1.2.1, (j5.2.1.2.2.1, ()))), ()))))
    (
    chk (decide (0 < (t.size : Int))) (
    some ((((), ((decide (1 < ((bytesL t).getD 0 0))), ())), ((j5.2.1.1, (j5.2.1.2.1, (j5.2.1.2.2.1, ()))), ())))))) fun j7 =>
  sel j7.1.2.1
   (
   some ((((⟨#[]⟩ : ByteArray), (0, (false, ()))), (2, ())), ()))
   (
   andK (impl_CheckToken.l0 N o t C o1 G (G.length : Int) 0 j7.2.1.1 j7.2.1.2.1 j7.2.1.2.2.1) fun l11 =>
   orK l11 (fun x12 =>
    some (((x12.2.1.1, (x12.2.1.2.1, (x12.2.1.2.2.1, ()))), (x12.1.2.1, ())), ()))
    (fun x13 =>
    some ((((⟨#[]⟩ : ByteArray), (0, (false, ()))), (3, ())), ())))) := by kernel_rfl
set_option maxRecDepth 100000 in
theorem impl_CheckToken.say (N : Nat) : SayOk Try.prog (impl_CheckToken.S N) := sayOk_mk (N := N) (H := impl_CheckToken.H) (preps := [⟨[], [], [], []⟩]) (l := impl_CheckToken.says) (fn := Try.f10) (c := bodyOf Try.f10)
  (by kernel_rfl) (by kernel_rfl) (by kernel_rfl) (by kernel_rfl) (by kernel_rfl) (by kernel_rfl) (by kernel_rfl)
  (fun N => SayAll.cons (impl_tokenKeysOk.say N) (SayAll.cons (impl_isAddress.say N) (SayAll.cons (impl_isTime.say N) (SayAll.cons (impl_in.say N) (SayAll.cons (impl_OpenText.say N) (SayAll.cons (impl_numberOf.say N) (SayAll.nil))))))) (fun a s => by kernel_rfl)

/-! ### loop.example/g00206/impl.AgeOf: function 11 -/
noncomputable def impl_AgeOf.H : Hints := hintsOf []
noncomputable def impl_AgeOf.says (N : Nat) : List Say := [impl_goodMinted.S N, impl_isTime.S N]
noncomputable def impl_AgeOf.call (N : Nat) : CallK := callBy (impl_AgeOf.says N)
noncomputable def impl_AgeOf.qt (N : Nat) : FuncId → List PV → Sig → Cl := qtBy (impl_AgeOf.says N)
noncomputable def impl_AgeOf (N : Nat) (m_0 : ByteArray) (m_1 : Int) (m_2 : Bool) (now : Int) : Option ((Int × (Bool × Unit)) × Unit) :=
  ofFn Try.prog impl_AgeOf.call impl_AgeOf.qt impl_AgeOf.H N Try.f11 [.agg [ck_s, ck_i, ck_b], ak_i] [] [ak_i, ak_b] [] [⟨[], [], [], []⟩] ((m_0, (m_1, (m_2, ()))), (now, ())) ()
noncomputable def impl_AgeOf.S (N : Nat) : Say := ⟨false, 11, [.agg [ck_s, ck_i, ck_b], ak_i], [], [ak_i, ak_b], [], fun a s => impl_AgeOf N a.1.1 a.1.2.1 a.1.2.2.1 a.2.1⟩
set_option maxRecDepth 100000 in
theorem impl_AgeOf.eq (N : Nat) (m_0 : ByteArray) (m_1 : Int) (m_2 : Bool) (now : Int) : impl_AgeOf N m_0 m_1 m_2 now =
 andK (impl_goodMinted N m_0 m_1 m_2) fun u1 =>
 sel (!u1.1.1)
  (
  some ((0, (false, ())), ()))
  (
  andK (impl_isTime N now) fun u2 =>
  sel (!u2.1.1)
   (
   some ((0, (false, ())), ()))
   (
   sel (decide (now < m_1))
    (
    some ((0, (false, ())), ()))
    (
    some (((IntKind.i64.wrap (now - m_1)), (true, ())), ())))) := by kernel_rfl
set_option maxRecDepth 100000 in
theorem impl_AgeOf.say (N : Nat) : SayOk Try.prog (impl_AgeOf.S N) := sayOk_mk (N := N) (H := impl_AgeOf.H) (preps := [⟨[], [], [], []⟩]) (l := impl_AgeOf.says) (fn := Try.f11) (c := bodyOf Try.f11)
  (by kernel_rfl) (by kernel_rfl) (by kernel_rfl) (by kernel_rfl) (by kernel_rfl) (by kernel_rfl) (by kernel_rfl)
  (fun N => SayAll.cons (impl_goodMinted.say N) (SayAll.cons (impl_isTime.say N) (SayAll.nil))) (fun a s => by kernel_rfl)

/-! ### loop.example/g00206/laws.turned: function 12 -/
noncomputable def laws_turned.H : Hints := hintsOf []
noncomputable def laws_turned.says (N : Nat) : List Say := []
noncomputable def laws_turned.call (N : Nat) : CallK := callBy (laws_turned.says N)
noncomputable def laws_turned.qt (N : Nat) : FuncId → List PV → Sig → Cl := qtBy (laws_turned.says N)
noncomputable def laws_turned (N : Nat) (s : ByteArray) (k : Int) : Option ((ByteArray × Unit) × Unit) :=
  ofFn Try.prog laws_turned.call laws_turned.qt laws_turned.H N Try.f12 [ak_s, ak_i] [] [ak_s] [] [⟨[], [], [], []⟩] (s, (k, ())) ()
noncomputable def laws_turned.S (N : Nat) : Say := ⟨false, 12, [ak_s, ak_i], [], [ak_s], [], fun a s => laws_turned N a.1 a.2.1⟩
set_option maxRecDepth 100000 in
theorem laws_turned.eq (N : Nat) (s : ByteArray) (k : Int) : laws_turned N s k =
 chk ((IntKind.i64.wrap (8 * ((bytesL s).length : Int))) != 0) (
 chk ((decide (0 ≤ (IntKind.i64.wrap (Int.tdiv (Int.tmod k (IntKind.i64.wrap (8 * ((bytesL s).length : Int)))) 8)))) && (decide ((IntKind.i64.wrap (Int.tdiv (Int.tmod k (IntKind.i64.wrap (8 * ((bytesL s).length : Int)))) 8)) < ((bytesL s).length : Int)))) (
 chk (decide (0 ≤ (IntKind.u64.wrap (Int.tmod (Int.tmod k (IntKind.i64.wrap (8 * ((bytesL s).length : Int)))) 8)))) (
 chk ((decide (0 ≤ (IntKind.i64.wrap (Int.tdiv (Int.tmod k (IntKind.i64.wrap (8 * ((bytesL s).length : Int)))) 8)))) && (decide ((IntKind.i64.wrap (Int.tdiv (Int.tmod k (IntKind.i64.wrap (8 * ((bytesL s).length : Int)))) 8)) < ((bytesL s).length : Int)))) (
 some (((strL ((bytesL s).set (Int.toNat (IntKind.i64.wrap (Int.tdiv (Int.tmod k (IntKind.i64.wrap (8 * ((bytesL s).length : Int)))) 8))) (Go.bits .xor .u8 ((bytesL s).getD (Int.toNat (IntKind.i64.wrap (Int.tdiv (Int.tmod k (IntKind.i64.wrap (8 * ((bytesL s).length : Int)))) 8))) 0) (shlI .u8 1 (IntKind.u64.wrap (Int.tmod (Int.tmod k (IntKind.i64.wrap (8 * ((bytesL s).length : Int)))) 8)))))), ()), ()))))) := by kernel_rfl
set_option maxRecDepth 100000 in
theorem laws_turned.say (N : Nat) : SayOk Try.prog (laws_turned.S N) := sayOk_mk (N := N) (H := laws_turned.H) (preps := [⟨[], [], [], []⟩]) (l := laws_turned.says) (fn := Try.f12) (c := bodyOf Try.f12)
  (by kernel_rfl) (by kernel_rfl) (by kernel_rfl) (by kernel_rfl) (by kernel_rfl) (by kernel_rfl) (by kernel_rfl)
  (fun N => SayAll.nil) (fun a s => by kernel_rfl)

/-! ### (*loop.example/g00206/spec.l5K).open: function 60 -/
noncomputable def spec_l5K_open.H : Hints := hintsOf [(5000002, .join [⟨.normal, [1, 3, 10], [0, 28], [.one (.ptr 0 0), ak_b], [.cells [.own 1, .own 2, ck_s], .rows (.int .u8) true, .rows (.int .u8) true], [⟨[], [], [], []⟩]⟩])]
noncomputable def spec_l5K_open.says (N : Nat) : List Say := [spec_l5K_tag.S N, spec_l5K_count.S N]
noncomputable def spec_l5K_open.call (N : Nat) : CallK := callBy (spec_l5K_open.says N)
noncomputable def spec_l5K_open.qt (N : Nat) : FuncId → List PV → Sig → Cl := qtBy (spec_l5K_open.says N)
noncomputable def spec_l5K_open (N : Nat) (nonce : ByteArray) (beside : ByteArray) (sealed : ByteArray) (p0_2 : ByteArray) (p1 : (List Int)) (p2 : (List Int)) : Option ((ByteArray × (Bool × Unit)) × ((Unit × (Unit × (ByteArray × Unit))) × ((List Int) × ((List Int) × Unit)))) :=
  ofFn Try.prog spec_l5K_open.call spec_l5K_open.qt spec_l5K_open.H N Try.f60 [.one (.ptr 0 0), ak_s, ak_s, ak_s] [.cells [.own 1, .own 2, ck_s], .rows (.int .u8), .rows (.int .u8)] [ak_s, ak_b] [.cells [.own 1, .own 2, ck_s], .rows (.int .u8) true, .rows (.int .u8) true] [⟨[], [], [], []⟩] ((), (nonce, (beside, (sealed, ())))) (((), ((), (p0_2, ()))), (p1, (p2, ())))
noncomputable def spec_l5K_open.S (N : Nat) : Say := ⟨false, 60, [.one (.ptr 0 0), ak_s, ak_s, ak_s], [.cells [.own 1, .own 2, ck_s], .rows (.int .u8), .rows (.int .u8)], [ak_s, ak_b], [.cells [.own 1, .own 2, ck_s], .rows (.int .u8) true, .rows (.int .u8) true], fun a s => spec_l5K_open N a.2.1 a.2.2.1 a.2.2.2.1 s.1.2.2.1 s.2.1 s.2.2.1⟩
set_option maxRecDepth 100000 in
theorem spec_l5K_open.eq (N : Nat) (nonce : ByteArray) (beside : ByteArray) (sealed : ByteArray) (p0_2 : ByteArray) (p1 : (List Int)) (p2 : (List Int)) : spec_l5K_open N nonce beside sealed p0_2 p1 p2 =
 andK (α := ((Unit × (Bool × Unit)) × ((Unit × (Unit × (ByteArray × Unit))) × ((List Int) × ((List Int) × Unit))))) (
  sel (decide ((IntKind.i64.wrap ((sealed.size : Int) - 16)) < 0))
   (
   some ((((), (true, ())), (((), ((), (p0_2, ()))), (p1, (p2, ()))))))
   (
   chk ((decide (0 ≤ (IntKind.i64.wrap ((sealed.size : Int) - 16)))) && (decide ((IntKind.i64.wrap ((sealed.size : Int) - 16)) ≤ (sealed.size : Int)))) (
   andK (spec_l5K_tag N nonce beside (sealed.extract 0 (Int.toNat (IntKind.i64.wrap ((sealed.size : Int) - 16)))) p0_2 p1 p2) fun u1 =>
   chk ((decide (0 ≤ (IntKind.i64.wrap ((sealed.size : Int) - 16)))) && ((decide ((IntKind.i64.wrap ((sealed.size : Int) - 16)) ≤ (sealed.size : Int))) && (decide ((sealed.size : Int) ≤ (sealed.size : Int))))) (
   some ((((), ((!(decide (u1.1.1 = (sealed.extract (Int.toNat (IntKind.i64.wrap ((sealed.size : Int) - 16))) (Int.toNat (sealed.size : Int)))))), ())), (((), ((), (u1.2.1.2.2.1, ()))), (u1.2.2.1, (u1.2.2.2.1, ()))))))))) fun j2 =>
 sel j2.1.2.1
  (
  some (((⟨#[]⟩ : ByteArray), (false, ())), (((), ((), (j2.2.1.2.2.1, ()))), (j2.2.2.1, (j2.2.2.2.1, ())))))
  (
  chk ((decide (0 ≤ (IntKind.i64.wrap ((sealed.size : Int) - 16)))) && (decide ((IntKind.i64.wrap ((sealed.size : Int) - 16)) ≤ (sealed.size : Int)))) (
  andK (spec_l5K_count N nonce (sealed.extract 0 (Int.toNat (IntKind.i64.wrap ((sealed.size : Int) - 16)))) j2.2.1.2.2.1 j2.2.2.1 j2.2.2.2.1) fun u3 =>
  some ((u3.1.1, (true, ())), (((), ((), (u3.2.1.2.2.1, ()))), (u3.2.2.1, (u3.2.2.2.1, ())))))) := by kernel_rfl
set_option maxRecDepth 100000 in
theorem spec_l5K_open.say (N : Nat) : SayOk Try.prog (spec_l5K_open.S N) := sayOk_mk (N := N) (H := spec_l5K_open.H) (preps := [⟨[], [], [], []⟩]) (l := spec_l5K_open.says) (fn := Try.f60) (c := bodyOf Try.f60)
  (by kernel_rfl) (by kernel_rfl) (by kernel_rfl) (by kernel_rfl) (by kernel_rfl) (by kernel_rfl) (by kernel_rfl)
  (fun N => SayAll.cons (spec_l5K_tag.say N) (SayAll.cons (spec_l5K_count.say N) (SayAll.nil))) (fun a s => by kernel_rfl)

/-! ### loop.example/g00206/spec.l10Check: function 38 -/
noncomputable def spec_l10Check.H : Hints := hintsOf [(5000001, .join [⟨.normal, [0, 1, 2, 3, 4], [10, 25], [.one (.ptr 0 0), ak_b], [.cells [ck_s, ck_i, ck_b]], [⟨[], [], [], []⟩]⟩]),
  (5000009, .join [⟨.normal, [], [10, 16, 74], [.one (.ptr 0 0), .one (.ptr 4 0), ak_b], [.cells [ck_s, ck_i, ck_b], .cells [.own 2, .own 3, ck_s], .rows (.int .u8), .rows (.int .u8), .cells [ck_s, ck_i, ck_b]], [⟨[], [], [], []⟩]⟩]),
  (2000004, .loop ⟨.normal, [1, 2, 3, 4, 27, 28], [10, 29], [.one (.ptr 0 0), ak_i], [.cells [ck_s, ck_i, ck_b]], [⟨[], [], [], []⟩]⟩ [⟨.ret, [], [10, 11], [.one (.ptr 0 0), ak_i], [.cells [ck_s, ck_i, ck_b]], [⟨[], [], [], []⟩]⟩, ⟨(.exit 0), [], [10], [.one (.ptr 0 0)], [.cells [ck_s, ck_i, ck_b]], [⟨[], [], [], []⟩]⟩])]
noncomputable def spec_l10Check.says (N : Nat) : List Say := [spec_l1In.S N, spec_l5Key.S N, spec_l5K_open.S N, spec_l1Big.S N]
noncomputable def spec_l10Check.call (N : Nat) : CallK := callBy (spec_l10Check.says N)
noncomputable def spec_l10Check.qt (N : Nat) : FuncId → List PV → Sig → Cl := qtBy (spec_l10Check.says N)
noncomputable def spec_l10Check.l0.hd : Alt := ⟨.normal, [1, 2, 3, 4, 27, 28], [10, 29], [.one (.ptr 0 0), ak_i], [.cells [ck_s, ck_i, ck_b]], [⟨[], [], [], []⟩]⟩
noncomputable def spec_l10Check.l0.outs : List Alt := [⟨.ret, [], [10, 11], [.one (.ptr 0 0), ak_i], [.cells [ck_s, ck_i, ck_b]], [⟨[], [], [], []⟩]⟩, ⟨(.exit 0), [], [10], [.one (.ptr 0 0)], [.cells [ck_s, ck_i, ck_b]], [⟨[], [], [], []⟩]⟩]
noncomputable def spec_l10Check.l0 (N : Nat) (o2 : ByteArray) (t1 : ByteArray) (C1 : Int) (o3 : Int) (t27 : (List ByteArray)) (t28 : Int) (t29 : Int) (p0_0 : ByteArray) (p0_1 : Int) (p0_2 : Bool) : Option (((Unit × (Int × Unit)) × ((ByteArray × (Int × (Bool × Unit))) × Unit)) ⊕ ((Unit × Unit) × ((ByteArray × (Int × (Bool × Unit))) × Unit))) :=
  loopK Try.prog spec_l10Check.call spec_l10Check.qt spec_l10Check.H (codeAt (bodyOf Try.f38) [1, 1, 0, 1, 0, 0]) 1 spec_l10Check.l0.hd spec_l10Check.l0.outs [(1, .v (.string o2)), (2, .v (.string t1)), (3, .v (.int .i64 C1)), (4, .v (.int .i64 o3)), (27, .rows false .str t27), (28, .v (.int .i64 t28))] N (((), (t29, ())), ((p0_0, (p0_1, (p0_2, ()))), ()))
noncomputable def spec_l10Check (N : Nat) (G : (List ByteArray)) (o : ByteArray) (t : ByteArray) (C : Int) (o1 : Int) : Option (((ByteArray × (Int × (Bool × Unit))) × (Int × Unit)) × Unit) :=
  ofFn Try.prog spec_l10Check.call spec_l10Check.qt spec_l10Check.H N Try.f38 [.one (.sh (.rows .str)), ak_s, ak_s, ak_i, ak_i] [] [.agg [ck_s, ck_i, ck_b], ak_i] [] [⟨[], [], [], []⟩] (G, (o, (t, (C, (o1, ()))))) ()
noncomputable def spec_l10Check.S (N : Nat) : Say := ⟨false, 38, [.one (.sh (.rows .str)), ak_s, ak_s, ak_i, ak_i], [], [.agg [ck_s, ck_i, ck_b], ak_i], [], fun a s => spec_l10Check N a.1 a.2.1 a.2.2.1 a.2.2.2.1 a.2.2.2.2.1⟩
set_option maxRecDepth 100000 in
theorem spec_l10Check.l0.eq (N : Nat) (o2 : ByteArray) (t1 : ByteArray) (C1 : Int) (o3 : Int) (t27 : (List ByteArray)) (t28 : Int) (t29 : Int) (p0_0 : ByteArray) (p0_1 : Int) (p0_2 : Bool) : spec_l10Check.l0 (N + 1) o2 t1 C1 o3 t27 t28 t29 p0_0 p0_1 p0_2 =
 sel (decide (t29 < t28))
  (
  chk ((decide (0 ≤ t29)) && (decide (t29 < (t27.length : Int)))) (
  andK (spec_l5Key N (t27.getD (Int.toNat t29) (⟨#[]⟩ : ByteArray))) fun u3 =>
  chk (decide (13 ≤ (t1.size : Int))) (
  chk (decide (1 ≤ (t1.size : Int))) (
  chk (decide ((t1.extract 0 1).size + o2.size ≤ 9223372036854775807)) (
  chk ((decide (13 ≤ (t1.size : Int))) && (decide ((t1.size : Int) ≤ (t1.size : Int)))) (
  andK (spec_l5K_open N (t1.extract 1 13) ((t1.extract 0 1) ++ o2) (t1.extract 13 (Int.toNat (t1.size : Int))) u3.2.1.2.2.1 u3.2.2.1 u3.2.2.2.1) fun u4 =>
  sel (!u4.1.2.1)
   (
   spec_l10Check.l0 N o2 t1 C1 o3 t27 t28 (IntKind.i64.wrap (t29 + 1)) p0_0 p0_1 p0_2)
   (
   chk (decide (0 < (t1.size : Int))) (
   chk (decide (8 ≤ (u4.1.1.size : Int))) (
   andK (spec_l1Big N (u4.1.1.extract 0 8)) fun u5 =>
   chk ((decide (8 ≤ (u4.1.1.size : Int))) && (decide ((u4.1.1.size : Int) ≤ (u4.1.1.size : Int)))) (
   andK (α := ((Unit × (Unit × (Bool × Unit))) × ((ByteArray × (Int × (Bool × Unit))) × ((Unit × (Unit × (ByteArray × Unit))) × ((List Int) × ((List Int) × ((ByteArray × (Int × (Bool × Unit))) × Unit))))))) (
    sel (decide (C1 < u5.1.1))
     (
     some ((((), ((), (true, ()))), ((p0_0, (p0_1, (p0_2, ()))), (((), ((), (u4.2.1.2.2.1, ()))), (u4.2.2.1, (u4.2.2.2.1, (((u4.1.1.extract 8 (Int.toNat (u4.1.1.size : Int))), (u5.1.1, ((decide (((bytesL t1).getD 0 0) = 1)), ()))), ()))))))))
     (
     sel (decide (u5.1.1 < 0))
      (
      some ((((), ((), (true, ()))), ((p0_0, (p0_1, (p0_2, ()))), (((), ((), (u4.2.1.2.2.1, ()))), (u4.2.2.1, (u4.2.2.2.1, (((u4.1.1.extract 8 (Int.toNat (u4.1.1.size : Int))), (u5.1.1, ((decide (((bytesL t1).getD 0 0) = 1)), ()))), ()))))))))
      (
      some ((((), ((), ((decide (o3 < (IntKind.i64.wrap (C1 - u5.1.1)))), ()))), ((p0_0, (p0_1, (p0_2, ()))), (((), ((), (u4.2.1.2.2.1, ()))), (u4.2.2.1, (u4.2.2.2.1, (((u4.1.1.extract 8 (Int.toNat (u4.1.1.size : Int))), (u5.1.1, ((decide (((bytesL t1).getD 0 0) = 1)), ()))), ())))))))))) fun j6 =>
   sel j6.1.2.2.1
    (
    some (.inl (((), (4, ())), (((⟨#[]⟩ : ByteArray), (0, (false, ()))), ()))))
    (
    some (.inl (((), (0, ())), ((j6.2.2.2.2.2.1.1, (j6.2.2.2.2.2.1.2.1, (j6.2.2.2.2.2.1.2.2.1, ()))), ()))))))))))))))
  (
  some (.inr ((((), ()), ((p0_0, (p0_1, (p0_2, ()))), ()))))) := by kernel_rfl
set_option maxRecDepth 100000 in
theorem spec_l10Check.eq (N : Nat) (G : (List ByteArray)) (o : ByteArray) (t : ByteArray) (C : Int) (o1 : Int) : spec_l10Check N G o t C o1 =
 andK (α := ((Unit × (Bool × Unit)) × ((ByteArray × (Int × (Bool × Unit))) × Unit))) (
  andK (spec_l1In N (t.size : Int) 37 57) fun u1 =>
  sel (!u1.1.1)
   (
   some ((((), (true, ())), (((⟨#[]⟩ : ByteArray), (0, (false, ()))), ()))))
   (
   chk (decide (0 < (t.size : Int))) (
   some ((((), ((decide (1 < ((bytesL t).getD 0 0))), ())), (((⟨#[]⟩ : ByteArray), (0, (false, ()))), ())))))) fun j2 =>
 sel j2.1.2.1
  (
  some ((((⟨#[]⟩ : ByteArray), (0, (false, ()))), (2, ())), ()))
  (
  andK (spec_l10Check.l0 N o t C o1 G (G.length : Int) 0 j2.2.1.1 j2.2.1.2.1 j2.2.1.2.2.1) fun l7 =>
  orK l7 (fun x8 =>
   some (((x8.2.1.1, (x8.2.1.2.1, (x8.2.1.2.2.1, ()))), (x8.1.2.1, ())), ()))
   (fun x9 =>
   some ((((⟨#[]⟩ : ByteArray), (0, (false, ()))), (3, ())), ()))) := by kernel_rfl
set_option maxRecDepth 100000 in
theorem spec_l10Check.say (N : Nat) : SayOk Try.prog (spec_l10Check.S N) := sayOk_mk (N := N) (H := spec_l10Check.H) (preps := [⟨[], [], [], []⟩]) (l := spec_l10Check.says) (fn := Try.f38) (c := bodyOf Try.f38)
  (by kernel_rfl) (by kernel_rfl) (by kernel_rfl) (by kernel_rfl) (by kernel_rfl) (by kernel_rfl) (by kernel_rfl)
  (fun N => SayAll.cons (spec_l1In.say N) (SayAll.cons (spec_l5Key.say N) (SayAll.cons (spec_l5K_open.say N) (SayAll.cons (spec_l1Big.say N) (SayAll.nil))))) (fun a s => by kernel_rfl)

/-! ### loop.example/g00206/spec.CheckToken: function 13 -/
noncomputable def spec_CheckToken.H : Hints := hintsOf [(5000001, .join [⟨.normal, [0, 1, 2, 3, 4], [10, 32], [.one (.ptr 0 0), ak_b], [.cells [ck_s, ck_i, ck_b]], [⟨[], [], [], []⟩]⟩]),
  (2000004, .loop ⟨.normal, [0, 1, 2, 3, 4, 34, 35], [10, 36], [.one (.ptr 0 0), ak_i], [.cells [ck_s, ck_i, ck_b]], [⟨[], [], [], []⟩]⟩ [⟨.ret, [], [10, 11], [.one (.ptr 0 0), ak_i], [.cells [ck_s, ck_i, ck_b]], [⟨[], [], [], []⟩]⟩, ⟨(.exit 0), [0, 1, 2, 3, 4], [10], [.one (.ptr 0 0)], [.cells [ck_s, ck_i, ck_b]], [⟨[], [], [], []⟩]⟩])]
noncomputable def spec_CheckToken.says (N : Nat) : List Say := [spec_l1In.S N, spec_l10Address.S N, spec_l10Check.S N]
noncomputable def spec_CheckToken.call (N : Nat) : CallK := callBy (spec_CheckToken.says N)
noncomputable def spec_CheckToken.qt (N : Nat) : FuncId → List PV → Sig → Cl := qtBy (spec_CheckToken.says N)
noncomputable def spec_CheckToken.l0.hd : Alt := ⟨.normal, [0, 1, 2, 3, 4, 34, 35], [10, 36], [.one (.ptr 0 0), ak_i], [.cells [ck_s, ck_i, ck_b]], [⟨[], [], [], []⟩]⟩
noncomputable def spec_CheckToken.l0.outs : List Alt := [⟨.ret, [], [10, 11], [.one (.ptr 0 0), ak_i], [.cells [ck_s, ck_i, ck_b]], [⟨[], [], [], []⟩]⟩, ⟨(.exit 0), [0, 1, 2, 3, 4], [10], [.one (.ptr 0 0)], [.cells [ck_s, ck_i, ck_b]], [⟨[], [], [], []⟩]⟩]
noncomputable def spec_CheckToken.l0 (N : Nat) (keys1 : (List ByteArray)) (address1 : ByteArray) (token1 : ByteArray) (now1 : Int) (life1 : Int) (t34 : (List ByteArray)) (t35 : Int) (t36 : Int) (p0_0 : ByteArray) (p0_1 : Int) (p0_2 : Bool) : Option (((Unit × (Int × Unit)) × ((ByteArray × (Int × (Bool × Unit))) × Unit)) ⊕ ((Unit × Unit) × ((ByteArray × (Int × (Bool × Unit))) × Unit))) :=
  loopK Try.prog spec_CheckToken.call spec_CheckToken.qt spec_CheckToken.H (codeAt (bodyOf Try.f13) [1, 1, 0, 1, 0, 0]) 1 spec_CheckToken.l0.hd spec_CheckToken.l0.outs [(0, .rows false .str keys1), (1, .v (.string address1)), (2, .v (.string token1)), (3, .v (.int .i64 now1)), (4, .v (.int .i64 life1)), (34, .rows false .str t34), (35, .v (.int .i64 t35))] N (((), (t36, ())), ((p0_0, (p0_1, (p0_2, ()))), ()))
noncomputable def spec_CheckToken (N : Nat) (keys : (List ByteArray)) (address : ByteArray) (token : ByteArray) (now : Int) (life : Int) : Option (((ByteArray × (Int × (Bool × Unit))) × (Int × Unit)) × Unit) :=
  ofFn Try.prog spec_CheckToken.call spec_CheckToken.qt spec_CheckToken.H N Try.f13 [.one (.sh (.rows .str)), ak_s, ak_s, ak_i, ak_i] [] [.agg [ck_s, ck_i, ck_b], ak_i] [] [⟨[], [], [], []⟩] (keys, (address, (token, (now, (life, ()))))) ()
noncomputable def spec_CheckToken.S (N : Nat) : Say := ⟨false, 13, [.one (.sh (.rows .str)), ak_s, ak_s, ak_i, ak_i], [], [.agg [ck_s, ck_i, ck_b], ak_i], [], fun a s => spec_CheckToken N a.1 a.2.1 a.2.2.1 a.2.2.2.1 a.2.2.2.2.1⟩
set_option maxRecDepth 100000 in
theorem spec_CheckToken.l0.eq (N : Nat) (keys1 : (List ByteArray)) (address1 : ByteArray) (token1 : ByteArray) (now1 : Int) (life1 : Int) (t34 : (List ByteArray)) (t35 : Int) (t36 : Int) (p0_0 : ByteArray) (p0_1 : Int) (p0_2 : Bool) : spec_CheckToken.l0 (N + 1) keys1 address1 token1 now1 life1 t34 t35 t36 p0_0 p0_1 p0_2 =
 sel (decide (t36 < t35))
  (
  chk ((decide (0 ≤ t36)) && (decide (t36 < (t34.length : Int)))) (
  sel (!(decide (((t34.getD (Int.toNat t36) (⟨#[]⟩ : ByteArray)).size : Int) = 16)))
   (
   some (.inl (((), (1, ())), (((⟨#[]⟩ : ByteArray), (0, (false, ()))), ()))))
   (
   spec_CheckToken.l0 N keys1 address1 token1 now1 life1 t34 t35 (IntKind.i64.wrap (t36 + 1)) p0_0 p0_1 p0_2)))
  (
  some (.inr ((((), ()), ((p0_0, (p0_1, (p0_2, ()))), ()))))) := by kernel_rfl
set_option maxRecDepth 100000 in
theorem spec_CheckToken.eq (N : Nat) (keys : (List ByteArray)) (address : ByteArray) (token : ByteArray) (now : Int) (life : Int) : spec_CheckToken N keys address token now life =
 andK (α := ((Unit × (Bool × Unit)) × ((ByteArray × (Int × (Bool × Unit))) × Unit))) (
  andK (spec_l1In N (keys.length : Int) 1 2) fun u1 =>
  sel (!u1.1.1)
   (
   some ((((), (true, ())), (((⟨#[]⟩ : ByteArray), (0, (false, ()))), ()))))
   (
   andK (spec_l10Address N address) fun u2 =>
   sel (!u2.1.1)
    (
    some ((((), (true, ())), (((⟨#[]⟩ : ByteArray), (0, (false, ()))), ()))))
    (
    andK (spec_l1In N now 0 1000000000) fun u3 =>
    sel (!u3.1.1)
     (
     some ((((), (true, ())), (((⟨#[]⟩ : ByteArray), (0, (false, ()))), ()))))
     (
     andK (spec_l1In N life 0 1000000) fun u4 =>
     some ((((), ((!u4.1.1), ())), (((⟨#[]⟩ : ByteArray), (0, (false, ()))), ()))))))) fun j5 =>
 sel j5.1.2.1
  (
  some ((((⟨#[]⟩ : ByteArray), (0, (false, ()))), (1, ())), ()))
  (
  andK (spec_CheckToken.l0 N keys address token now life keys (keys.length : Int) 0 j5.2.1.1 j5.2.1.2.1 j5.2.1.2.2.1) fun l6 =>
  orK l6 (fun x7 =>
   some (((x7.2.1.1, (x7.2.1.2.1, (x7.2.1.2.2.1, ()))), (x7.1.2.1, ())), ()))
   (fun x8 =>
   andK (spec_l10Check N keys address token now life) fun u9 =>
   some (((u9.1.1.1, (u9.1.1.2.1, (u9.1.1.2.2.1, ()))), (u9.1.2.1, ())), ()))) := by kernel_rfl
set_option maxRecDepth 100000 in
theorem spec_CheckToken.say (N : Nat) : SayOk Try.prog (spec_CheckToken.S N) := sayOk_mk (N := N) (H := spec_CheckToken.H) (preps := [⟨[], [], [], []⟩]) (l := spec_CheckToken.says) (fn := Try.f13) (c := bodyOf Try.f13)
  (by kernel_rfl) (by kernel_rfl) (by kernel_rfl) (by kernel_rfl) (by kernel_rfl) (by kernel_rfl) (by kernel_rfl)
  (fun N => SayAll.cons (spec_l1In.say N) (SayAll.cons (spec_l10Address.say N) (SayAll.cons (spec_l10Check.say N) (SayAll.nil)))) (fun a s => by kernel_rfl)

end Go.Proofs.Ytakemokmdlogoaa.GFnTokens
