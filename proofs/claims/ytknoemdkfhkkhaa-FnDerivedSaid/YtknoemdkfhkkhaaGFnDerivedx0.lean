-- Written by a program of this session out of the translation; Lean checks it.
import Derived.Test.YtknoemdkfhkkhaaPmLaw
import Derived.Test.YtknoemdkfhkkhaaProg
import Derived.Test.YtknoemdkfhkkhaaShelf
set_option linter.unusedVariables false
namespace Go.Proofs.Ytknoemdkfhkkhaa.GFnDerived
open Go Go.Proofs Go.Proofs.YtknoemdkfhkkhaaPM

/-! ### (*loop.example/g00206/spec.l1Cur).next: function 69 -/
noncomputable def spec_l1Cur_next.H : Hints := hintsOf [(4, .join [⟨.normal, [], [0, 3], [.one (.ptr 0 0), ak_i], [.cells [.sh (.rows (.int .u8)), ck_i, .sh (.int .u64)]], [⟨[], [], [], []⟩]⟩])]
noncomputable def spec_l1Cur_next.says (N : Nat) : List Say := []
noncomputable def spec_l1Cur_next.call (N : Nat) : CallK := callBy (spec_l1Cur_next.says N)
noncomputable def spec_l1Cur_next.qt (N : Nat) : FuncId → List PV → Sig → Cl := qtBy (spec_l1Cur_next.says N)
noncomputable def spec_l1Cur_next (N : Nat) (p0_0 : (List Int)) (p0_1 : Int) (p0_2 : Int) : Option ((Int × Unit) × (((List Int) × (Int × (Int × Unit))) × Unit)) :=
  ofFn Try.prog spec_l1Cur_next.call spec_l1Cur_next.qt spec_l1Cur_next.H N Try.f69 [.one (.ptr 0 0)] [.cells [.sh (.rows (.int .u8)), ck_i, .sh (.int .u64)]] [ak_i] [.cells [.sh (.rows (.int .u8)), ck_i, .sh (.int .u64)]] [⟨[], [], [], []⟩] ((), ()) ((p0_0, (p0_1, (p0_2, ()))), ())
noncomputable def spec_l1Cur_next.S (N : Nat) : Say := ⟨false, 69, [.one (.ptr 0 0)], [.cells [.sh (.rows (.int .u8)), ck_i, .sh (.int .u64)]], [ak_i], [.cells [.sh (.rows (.int .u8)), ck_i, .sh (.int .u64)]], fun a s => spec_l1Cur_next N s.1.1 s.1.2.1 s.1.2.2.1⟩
set_option maxRecDepth 100000 in
theorem spec_l1Cur_next.eq (N : Nat) (p0_0 : (List Int)) (p0_1 : Int) (p0_2 : Int) : spec_l1Cur_next N p0_0 p0_1 p0_2 =
 andK (α := ((Unit × (Int × Unit)) × (((List Int) × (Int × (Int × Unit))) × Unit))) (
  sel (decide (p0_1 < (p0_0.length : Int)))
   (
   chk ((decide (0 ≤ p0_1)) && (decide (p0_1 < (p0_0.length : Int)))) (
   some ((((), ((IntKind.i64.wrap (p0_0.getD (Int.toNat p0_1) 0)), ())), ((p0_0, (p0_1, (p0_2, ()))), ())))))
   (
   some ((((), (0, ())), ((p0_0, (p0_1, (p0_2, ()))), ()))))) fun j1 =>
 sel (decide ((IntKind.i64.wrap (j1.2.1.2.1 + 1)) ≤ (j1.2.1.1.length : Int)))
  (
  some ((j1.1.2.1, ()), ((j1.2.1.1, ((IntKind.i64.wrap (j1.2.1.2.1 + 1)), ((IntKind.u64.wrap ((IntKind.u64.wrap ((IntKind.u64.wrap (j1.2.1.2.2.1 * 6364136223846793005)) + (IntKind.u64.wrap j1.1.2.1))) + 1442695040888963407)), ()))), ())))
  (
  some (((IntKind.i64.wrap (Go.bits .and .u64 (shrI .u64 (IntKind.u64.wrap ((IntKind.u64.wrap ((IntKind.u64.wrap (j1.2.1.2.2.1 * 6364136223846793005)) + (IntKind.u64.wrap j1.1.2.1))) + 1442695040888963407)) 40) 255)), ()), ((j1.2.1.1, ((IntKind.i64.wrap (j1.2.1.2.1 + 1)), ((IntKind.u64.wrap ((IntKind.u64.wrap ((IntKind.u64.wrap (j1.2.1.2.2.1 * 6364136223846793005)) + (IntKind.u64.wrap j1.1.2.1))) + 1442695040888963407)), ()))), ()))) := by kernel_rfl
set_option maxRecDepth 100000 in
theorem spec_l1Cur_next.say (N : Nat) : SayOk Try.prog (spec_l1Cur_next.S N) := sayOk_mk (N := N) (H := spec_l1Cur_next.H) (preps := [⟨[], [], [], []⟩]) (l := spec_l1Cur_next.says) (fn := Try.f69) (c := bodyOf Try.f69)
  (by kernel_rfl) (by kernel_rfl) (by kernel_rfl) (by kernel_rfl) (by kernel_rfl) (by kernel_rfl) (by kernel_rfl)
  (fun N => SayAll.nil) (fun a s => by kernel_rfl)

/-! ### (*loop.example/g00206/spec.l1Cur).pick: function 33 -/
noncomputable def spec_l1Cur_pick.H : Hints := hintsOf []
noncomputable def spec_l1Cur_pick.says (N : Nat) : List Say := [spec_l1Cur_next.S N]
noncomputable def spec_l1Cur_pick.call (N : Nat) : CallK := callBy (spec_l1Cur_pick.says N)
noncomputable def spec_l1Cur_pick.qt (N : Nat) : FuncId → List PV → Sig → Cl := qtBy (spec_l1Cur_pick.says N)
noncomputable def spec_l1Cur_pick (N : Nat) (n : Int) (p0_0 : (List Int)) (p0_1 : Int) (p0_2 : Int) : Option ((Int × Unit) × (((List Int) × (Int × (Int × Unit))) × Unit)) :=
  ofFn Try.prog spec_l1Cur_pick.call spec_l1Cur_pick.qt spec_l1Cur_pick.H N Try.f33 [.one (.ptr 0 0), ak_i] [.cells [.sh (.rows (.int .u8)), ck_i, .sh (.int .u64)]] [ak_i] [.cells [.sh (.rows (.int .u8)), ck_i, .sh (.int .u64)]] [⟨[], [], [], []⟩] ((), (n, ())) ((p0_0, (p0_1, (p0_2, ()))), ())
noncomputable def spec_l1Cur_pick.S (N : Nat) : Say := ⟨false, 33, [.one (.ptr 0 0), ak_i], [.cells [.sh (.rows (.int .u8)), ck_i, .sh (.int .u64)]], [ak_i], [.cells [.sh (.rows (.int .u8)), ck_i, .sh (.int .u64)]], fun a s => spec_l1Cur_pick N a.2.1 s.1.1 s.1.2.1 s.1.2.2.1⟩
set_option maxRecDepth 100000 in
theorem spec_l1Cur_pick.eq (N : Nat) (n : Int) (p0_0 : (List Int)) (p0_1 : Int) (p0_2 : Int) : spec_l1Cur_pick N n p0_0 p0_1 p0_2 =
 sel (decide (n ≤ 1))
  (
  some ((0, ()), ((p0_0, (p0_1, (p0_2, ()))), ())))
  (
  andK (spec_l1Cur_next N p0_0 p0_1 p0_2) fun u1 =>
  sel (decide (200 < n))
   (
   andK (spec_l1Cur_next N u1.2.1.1 u1.2.1.2.1 u1.2.1.2.2.1) fun u2 =>
   chk (n != 0) (
   some (((Int.tmod (IntKind.i64.wrap ((IntKind.i64.wrap (u1.1.1 * 256)) + u2.1.1)) n), ()), ((u2.2.1.1, (u2.2.1.2.1, (u2.2.1.2.2.1, ()))), ()))))
   (
   chk (n != 0) (
   some (((Int.tmod u1.1.1 n), ()), ((u1.2.1.1, (u1.2.1.2.1, (u1.2.1.2.2.1, ()))), ()))))) := by kernel_rfl
set_option maxRecDepth 100000 in
theorem spec_l1Cur_pick.say (N : Nat) : SayOk Try.prog (spec_l1Cur_pick.S N) := sayOk_mk (N := N) (H := spec_l1Cur_pick.H) (preps := [⟨[], [], [], []⟩]) (l := spec_l1Cur_pick.says) (fn := Try.f33) (c := bodyOf Try.f33)
  (by kernel_rfl) (by kernel_rfl) (by kernel_rfl) (by kernel_rfl) (by kernel_rfl) (by kernel_rfl) (by kernel_rfl)
  (fun N => SayAll.cons (spec_l1Cur_next.say N) (SayAll.nil)) (fun a s => by kernel_rfl)

/-! ### (*loop.example/g00206/spec.l1Cur).one: function 34 -/
noncomputable def spec_l1Cur_one.H : Hints := hintsOf []
noncomputable def spec_l1Cur_one.says (N : Nat) : List Say := [spec_l1Cur_pick.S N]
noncomputable def spec_l1Cur_one.call (N : Nat) : CallK := callBy (spec_l1Cur_one.says N)
noncomputable def spec_l1Cur_one.qt (N : Nat) : FuncId → List PV → Sig → Cl := qtBy (spec_l1Cur_one.says N)
noncomputable def spec_l1Cur_one (N : Nat) (n : Int) (p0_0 : (List Int)) (p0_1 : Int) (p0_2 : Int) : Option ((Bool × Unit) × (((List Int) × (Int × (Int × Unit))) × Unit)) :=
  ofFn Try.prog spec_l1Cur_one.call spec_l1Cur_one.qt spec_l1Cur_one.H N Try.f34 [.one (.ptr 0 0), ak_i] [.cells [.sh (.rows (.int .u8)), ck_i, .sh (.int .u64)]] [ak_b] [.cells [.sh (.rows (.int .u8)), ck_i, .sh (.int .u64)]] [⟨[], [], [], []⟩] ((), (n, ())) ((p0_0, (p0_1, (p0_2, ()))), ())
noncomputable def spec_l1Cur_one.S (N : Nat) : Say := ⟨false, 34, [.one (.ptr 0 0), ak_i], [.cells [.sh (.rows (.int .u8)), ck_i, .sh (.int .u64)]], [ak_b], [.cells [.sh (.rows (.int .u8)), ck_i, .sh (.int .u64)]], fun a s => spec_l1Cur_one N a.2.1 s.1.1 s.1.2.1 s.1.2.2.1⟩
set_option maxRecDepth 100000 in
theorem spec_l1Cur_one.eq (N : Nat) (n : Int) (p0_0 : (List Int)) (p0_1 : Int) (p0_2 : Int) : spec_l1Cur_one N n p0_0 p0_1 p0_2 =
 andK (spec_l1Cur_pick N n p0_0 p0_1 p0_2) fun u1 =>
 some (((decide (u1.1.1 = 0)), ()), ((u1.2.1.1, (u1.2.1.2.1, (u1.2.1.2.2.1, ()))), ())) := by kernel_rfl
set_option maxRecDepth 100000 in
theorem spec_l1Cur_one.say (N : Nat) : SayOk Try.prog (spec_l1Cur_one.S N) := sayOk_mk (N := N) (H := spec_l1Cur_one.H) (preps := [⟨[], [], [], []⟩]) (l := spec_l1Cur_one.says) (fn := Try.f34) (c := bodyOf Try.f34)
  (by kernel_rfl) (by kernel_rfl) (by kernel_rfl) (by kernel_rfl) (by kernel_rfl) (by kernel_rfl) (by kernel_rfl)
  (fun N => SayAll.cons (spec_l1Cur_pick.say N) (SayAll.nil)) (fun a s => by kernel_rfl)

/-! ### (*loop.example/g00206/spec.l1Cur).among: function 35 -/
noncomputable def spec_l1Cur_among.H : Hints := hintsOf []
noncomputable def spec_l1Cur_among.says (N : Nat) : List Say := [spec_l1Cur_pick.S N]
noncomputable def spec_l1Cur_among.call (N : Nat) : CallK := callBy (spec_l1Cur_among.says N)
noncomputable def spec_l1Cur_among.qt (N : Nat) : FuncId → List PV → Sig → Cl := qtBy (spec_l1Cur_among.says N)
noncomputable def spec_l1Cur_among (N : Nat) (list : (List Int)) (p0_0 : (List Int)) (p0_1 : Int) (p0_2 : Int) : Option ((Int × Unit) × (((List Int) × (Int × (Int × Unit))) × Unit)) :=
  ofFn Try.prog spec_l1Cur_among.call spec_l1Cur_among.qt spec_l1Cur_among.H N Try.f35 [.one (.ptr 0 0), .one (.sh (.rows (.int .i64)))] [.cells [.sh (.rows (.int .u8)), ck_i, .sh (.int .u64)]] [ak_i] [.cells [.sh (.rows (.int .u8)), ck_i, .sh (.int .u64)]] [⟨[], [], [], []⟩] ((), (list, ())) ((p0_0, (p0_1, (p0_2, ()))), ())
noncomputable def spec_l1Cur_among.S (N : Nat) : Say := ⟨false, 35, [.one (.ptr 0 0), .one (.sh (.rows (.int .i64)))], [.cells [.sh (.rows (.int .u8)), ck_i, .sh (.int .u64)]], [ak_i], [.cells [.sh (.rows (.int .u8)), ck_i, .sh (.int .u64)]], fun a s => spec_l1Cur_among N a.2.1 s.1.1 s.1.2.1 s.1.2.2.1⟩
set_option maxRecDepth 100000 in
theorem spec_l1Cur_among.eq (N : Nat) (list : (List Int)) (p0_0 : (List Int)) (p0_1 : Int) (p0_2 : Int) : spec_l1Cur_among N list p0_0 p0_1 p0_2 =
 andK (spec_l1Cur_pick N (list.length : Int) p0_0 p0_1 p0_2) fun u1 =>
 chk ((decide (0 ≤ u1.1.1)) && (decide (u1.1.1 < (list.length : Int)))) (
 some (((list.getD (Int.toNat u1.1.1) 0), ()), ((u1.2.1.1, (u1.2.1.2.1, (u1.2.1.2.2.1, ()))), ()))) := by kernel_rfl
set_option maxRecDepth 100000 in
theorem spec_l1Cur_among.say (N : Nat) : SayOk Try.prog (spec_l1Cur_among.S N) := sayOk_mk (N := N) (H := spec_l1Cur_among.H) (preps := [⟨[], [], [], []⟩]) (l := spec_l1Cur_among.says) (fn := Try.f35) (c := bodyOf Try.f35)
  (by kernel_rfl) (by kernel_rfl) (by kernel_rfl) (by kernel_rfl) (by kernel_rfl) (by kernel_rfl) (by kernel_rfl)
  (fun N => SayAll.cons (spec_l1Cur_pick.say N) (SayAll.nil)) (fun a s => by kernel_rfl)

/-! ### (*loop.example/g00206/spec.l1Cur).sizedBytes: function 37 -/
noncomputable def spec_l1Cur_sizedBytes.H : Hints := hintsOf [(2000003, .loop ⟨.normal, [10], [0, 5, 11], [.one (.ptr 0 0), .one (.own 1), ak_i], [.cells [.sh (.rows (.int .u8)), ck_i, .sh (.int .u64)], .rows (.int .u8)], [⟨[], [], [], []⟩]⟩ [⟨(.exit 0), [], [5], [.one (.own 1)], [.cells [.sh (.rows (.int .u8)), ck_i, .sh (.int .u64)], .rows (.int .u8)], [⟨[], [], [], []⟩]⟩])]
noncomputable def spec_l1Cur_sizedBytes.says (N : Nat) : List Say := [spec_l1Cur_pick.S N]
noncomputable def spec_l1Cur_sizedBytes.call (N : Nat) : CallK := callBy (spec_l1Cur_sizedBytes.says N)
noncomputable def spec_l1Cur_sizedBytes.qt (N : Nat) : FuncId → List PV → Sig → Cl := qtBy (spec_l1Cur_sizedBytes.says N)
noncomputable def spec_l1Cur_sizedBytes.l0.hd : Alt := ⟨.normal, [10], [0, 5, 11], [.one (.ptr 0 0), .one (.own 1), ak_i], [.cells [.sh (.rows (.int .u8)), ck_i, .sh (.int .u64)], .rows (.int .u8)], [⟨[], [], [], []⟩]⟩
noncomputable def spec_l1Cur_sizedBytes.l0.outs : List Alt := [⟨(.exit 0), [], [5], [.one (.own 1)], [.cells [.sh (.rows (.int .u8)), ck_i, .sh (.int .u64)], .rows (.int .u8)], [⟨[], [], [], []⟩]⟩]
noncomputable def spec_l1Cur_sizedBytes.l0 (N : Nat) (t10 : Int) (t11 : Int) (p0_01 : (List Int)) (p0_11 : Int) (p0_21 : Int) (p1 : (List Int)) : Option ((Unit × Unit) × (((List Int) × (Int × (Int × Unit))) × ((List Int) × Unit))) :=
  loopK Try.prog spec_l1Cur_sizedBytes.call spec_l1Cur_sizedBytes.qt spec_l1Cur_sizedBytes.H (codeAt (bodyOf Try.f37) [1, 1, 0, 1, 0, 0]) 2 spec_l1Cur_sizedBytes.l0.hd spec_l1Cur_sizedBytes.l0.outs [(10, .v (.int .i64 t10))] N (((), ((), (t11, ()))), ((p0_01, (p0_11, (p0_21, ()))), (p1, ())))
noncomputable def spec_l1Cur_sizedBytes (N : Nat) (n : Int) (p0_0 : (List Int)) (p0_1 : Int) (p0_2 : Int) : Option ((Unit × Unit) × (((List Int) × (Int × (Int × Unit))) × ((List Int) × Unit))) :=
  ofFn Try.prog spec_l1Cur_sizedBytes.call spec_l1Cur_sizedBytes.qt spec_l1Cur_sizedBytes.H N Try.f37 [.one (.ptr 0 0), ak_i] [.cells [.sh (.rows (.int .u8)), ck_i, .sh (.int .u64)]] [.one (.own 1)] [.cells [.sh (.rows (.int .u8)), ck_i, .sh (.int .u64)], .rows (.int .u8)] [⟨[], [], [], [1]⟩] ((), (n, ())) ((p0_0, (p0_1, (p0_2, ()))), ())
noncomputable def spec_l1Cur_sizedBytes.S (N : Nat) : Say := ⟨false, 37, [.one (.ptr 0 0), ak_i], [.cells [.sh (.rows (.int .u8)), ck_i, .sh (.int .u64)]], [.one (.own 1)], [.cells [.sh (.rows (.int .u8)), ck_i, .sh (.int .u64)], .rows (.int .u8)], fun a s => spec_l1Cur_sizedBytes N a.2.1 s.1.1 s.1.2.1 s.1.2.2.1⟩
set_option maxRecDepth 100000 in
theorem spec_l1Cur_sizedBytes.l0.eq (N : Nat) (t10 : Int) (t11 : Int) (p0_01 : (List Int)) (p0_11 : Int) (p0_21 : Int) (p1 : (List Int)) : spec_l1Cur_sizedBytes.l0 (N + 1) t10 t11 p0_01 p0_11 p0_21 p1 =
 sel (decide (t11 < t10))
  (
  andK (spec_l1Cur_pick N 256 p0_01 p0_11 p0_21) fun u1 =>
  chk ((decide (0 ≤ t11)) && (decide (t11 < (p1.length : Int)))) (
  spec_l1Cur_sizedBytes.l0 N t10 (IntKind.i64.wrap (t11 + 1)) u1.2.1.1 u1.2.1.2.1 u1.2.1.2.2.1 (p1.set (Int.toNat t11) (IntKind.u8.wrap u1.1.1))))
  (
  some ((((), ()), ((p0_01, (p0_11, (p0_21, ()))), (p1, ()))))) := by kernel_rfl
set_option maxRecDepth 100000 in
theorem spec_l1Cur_sizedBytes.eq (N : Nat) (n : Int) (p0_0 : (List Int)) (p0_1 : Int) (p0_2 : Int) : spec_l1Cur_sizedBytes N n p0_0 p0_1 p0_2 =
 chk ((decide (0 ≤ n)) && ((smallI n) && (decide (n = n)))) (
 andK (spec_l1Cur_sizedBytes.l0 N ((List.replicate (Int.toNat n) (0 : Int)).length : Int) 0 p0_0 p0_1 p0_2 (List.replicate (Int.toNat n) (0 : Int))) fun l2 =>
 some (((), ()), ((l2.2.1.1, (l2.2.1.2.1, (l2.2.1.2.2.1, ()))), (l2.2.2.1, ())))) := by kernel_rfl
set_option maxRecDepth 100000 in
theorem spec_l1Cur_sizedBytes.say (N : Nat) : SayOk Try.prog (spec_l1Cur_sizedBytes.S N) := sayOk_mk (N := N) (H := spec_l1Cur_sizedBytes.H) (preps := [⟨[], [], [], [1]⟩]) (l := spec_l1Cur_sizedBytes.says) (fn := Try.f37) (c := bodyOf Try.f37)
  (by kernel_rfl) (by kernel_rfl) (by kernel_rfl) (by kernel_rfl) (by kernel_rfl) (by kernel_rfl) (by kernel_rfl)
  (fun N => SayAll.cons (spec_l1Cur_pick.say N) (SayAll.nil)) (fun a s => by kernel_rfl)

/-! ### (*loop.example/g00206/spec.l1Cur).hashed: function 43 -/
noncomputable def spec_l1Cur_hashed.H : Hints := hintsOf [(4, .join [⟨.normal, [], [0, 3], [.one (.ptr 0 0), ak_i], [.cells [.sh (.rows (.int .u8)), ck_i, .sh (.int .u64)]], [⟨[], [], [], []⟩]⟩])]
noncomputable def spec_l1Cur_hashed.says (N : Nat) : List Say := [spec_l1Cur_pick.S N, spec_l1Cur_one.S N, spec_l1Cur_among.S N, spec_l1Cur_sizedBytes.S N]
noncomputable def spec_l1Cur_hashed.call (N : Nat) : CallK := callBy (spec_l1Cur_hashed.says N)
noncomputable def spec_l1Cur_hashed.qt (N : Nat) : FuncId → List PV → Sig → Cl := qtBy (spec_l1Cur_hashed.says N)
noncomputable def spec_l1Cur_hashed (N : Nat) (p0_0 : (List Int)) (p0_1 : Int) (p0_2 : Int) : Option ((ByteArray × Unit) × (((List Int) × (Int × (Int × Unit))) × Unit)) :=
  ofFn Try.prog spec_l1Cur_hashed.call spec_l1Cur_hashed.qt spec_l1Cur_hashed.H N Try.f43 [.one (.ptr 0 0)] [.cells [.sh (.rows (.int .u8)), ck_i, .sh (.int .u64)]] [ak_s] [.cells [.sh (.rows (.int .u8)), ck_i, .sh (.int .u64)]] [⟨[], [], [], []⟩] ((), ()) ((p0_0, (p0_1, (p0_2, ()))), ())
noncomputable def spec_l1Cur_hashed.S (N : Nat) : Say := ⟨false, 43, [.one (.ptr 0 0)], [.cells [.sh (.rows (.int .u8)), ck_i, .sh (.int .u64)]], [ak_s], [.cells [.sh (.rows (.int .u8)), ck_i, .sh (.int .u64)]], fun a s => spec_l1Cur_hashed N s.1.1 s.1.2.1 s.1.2.2.1⟩
set_option maxRecDepth 100000 in
theorem spec_l1Cur_hashed.eq (N : Nat) (p0_0 : (List Int)) (p0_1 : Int) (p0_2 : Int) : spec_l1Cur_hashed N p0_0 p0_1 p0_2 =
 andK (spec_l1Cur_pick N 70 p0_0 p0_1 p0_2) fun u1 =>
 andK (α := ((Unit × (Int × Unit)) × (((List Int) × (Int × (Int × Unit))) × Unit))) (
  andK (spec_l1Cur_one N 8 u1.2.1.1 u1.2.1.2.1 u1.2.1.2.2.1) fun u2 =>
  sel u2.1.1
   (
   andK (spec_l1Cur_among N [0, 55, 56, 63, 64, 65, 119, 120] u2.2.1.1 u2.2.1.2.1 u2.2.1.2.2.1) fun u3 =>
   some ((((), (u3.1.1, ())), ((u3.2.1.1, (u3.2.1.2.1, (u3.2.1.2.2.1, ()))), ()))))
   (
   some ((((), (u1.1.1, ())), ((u2.2.1.1, (u2.2.1.2.1, (u2.2.1.2.2.1, ()))), ()))))) fun j4 =>
 andK (spec_l1Cur_sizedBytes N j4.1.2.1 j4.2.1.1 j4.2.1.2.1 j4.2.1.2.2.1) fun u5 =>
 some (((strL u5.2.2.1), ()), ((u5.2.1.1, (u5.2.1.2.1, (u5.2.1.2.2.1, ()))), ())) := by kernel_rfl
set_option maxRecDepth 100000 in
theorem spec_l1Cur_hashed.say (N : Nat) : SayOk Try.prog (spec_l1Cur_hashed.S N) := sayOk_mk (N := N) (H := spec_l1Cur_hashed.H) (preps := [⟨[], [], [], []⟩]) (l := spec_l1Cur_hashed.says) (fn := Try.f43) (c := bodyOf Try.f43)
  (by kernel_rfl) (by kernel_rfl) (by kernel_rfl) (by kernel_rfl) (by kernel_rfl) (by kernel_rfl) (by kernel_rfl)
  (fun N => SayAll.cons (spec_l1Cur_pick.say N) (SayAll.cons (spec_l1Cur_one.say N) (SayAll.cons (spec_l1Cur_among.say N) (SayAll.cons (spec_l1Cur_sizedBytes.say N) (SayAll.nil))))) (fun a s => by kernel_rfl)

/-! ### (*loop.example/g00206/spec.l1Cur).of: function 66 -/
noncomputable def spec_l1Cur_of.H : Hints := hintsOf []
noncomputable def spec_l1Cur_of.says (N : Nat) : List Say := [spec_l1Cur_pick.S N]
noncomputable def spec_l1Cur_of.call (N : Nat) : CallK := callBy (spec_l1Cur_of.says N)
noncomputable def spec_l1Cur_of.qt (N : Nat) : FuncId → List PV → Sig → Cl := qtBy (spec_l1Cur_of.says N)
noncomputable def spec_l1Cur_of (N : Nat) (list : (List ByteArray)) (p0_0 : (List Int)) (p0_1 : Int) (p0_2 : Int) : Option ((ByteArray × Unit) × (((List Int) × (Int × (Int × Unit))) × Unit)) :=
  ofFn Try.prog spec_l1Cur_of.call spec_l1Cur_of.qt spec_l1Cur_of.H N Try.f66 [.one (.ptr 0 0), .one (.sh (.rows .str))] [.cells [.sh (.rows (.int .u8)), ck_i, .sh (.int .u64)]] [ak_s] [.cells [.sh (.rows (.int .u8)), ck_i, .sh (.int .u64)]] [⟨[], [], [], []⟩] ((), (list, ())) ((p0_0, (p0_1, (p0_2, ()))), ())
noncomputable def spec_l1Cur_of.S (N : Nat) : Say := ⟨false, 66, [.one (.ptr 0 0), .one (.sh (.rows .str))], [.cells [.sh (.rows (.int .u8)), ck_i, .sh (.int .u64)]], [ak_s], [.cells [.sh (.rows (.int .u8)), ck_i, .sh (.int .u64)]], fun a s => spec_l1Cur_of N a.2.1 s.1.1 s.1.2.1 s.1.2.2.1⟩
set_option maxRecDepth 100000 in
theorem spec_l1Cur_of.eq (N : Nat) (list : (List ByteArray)) (p0_0 : (List Int)) (p0_1 : Int) (p0_2 : Int) : spec_l1Cur_of N list p0_0 p0_1 p0_2 =
 andK (spec_l1Cur_pick N (list.length : Int) p0_0 p0_1 p0_2) fun u1 =>
 chk ((decide (0 ≤ u1.1.1)) && (decide (u1.1.1 < (list.length : Int)))) (
 some (((list.getD (Int.toNat u1.1.1) (⟨#[]⟩ : ByteArray)), ()), ((u1.2.1.1, (u1.2.1.2.1, (u1.2.1.2.2.1, ()))), ()))) := by kernel_rfl
set_option maxRecDepth 100000 in
theorem spec_l1Cur_of.say (N : Nat) : SayOk Try.prog (spec_l1Cur_of.S N) := sayOk_mk (N := N) (H := spec_l1Cur_of.H) (preps := [⟨[], [], [], []⟩]) (l := spec_l1Cur_of.says) (fn := Try.f66) (c := bodyOf Try.f66)
  (by kernel_rfl) (by kernel_rfl) (by kernel_rfl) (by kernel_rfl) (by kernel_rfl) (by kernel_rfl) (by kernel_rfl)
  (fun N => SayAll.cons (spec_l1Cur_pick.say N) (SayAll.nil)) (fun a s => by kernel_rfl)

/-! ### loop.example/g00206/spec.DrawHkdfExpand: function 29 -/
noncomputable def spec_DrawHkdfExpand.H : Hints := hintsOf [(5, .join [⟨.normal, [], [5, 6], [.one (.ptr 0 0), ak_i], [.cells [.sh (.rows (.int .u8)), ck_i, .sh (.int .u64)]], [⟨[], [], [], []⟩]⟩])]
noncomputable def spec_DrawHkdfExpand.says (N : Nat) : List Say := [spec_l1Cur_pick.S N, spec_l1Cur_one.S N, spec_l1Cur_among.S N, spec_l1Cur_hashed.S N, spec_l1Cur_of.S N]
noncomputable def spec_DrawHkdfExpand.call (N : Nat) : CallK := callBy (spec_DrawHkdfExpand.says N)
noncomputable def spec_DrawHkdfExpand.qt (N : Nat) : FuncId → List PV → Sig → Cl := qtBy (spec_DrawHkdfExpand.says N)
noncomputable def spec_DrawHkdfExpand (N : Nat) (code : (List Int)) : Option ((ByteArray × (ByteArray × (Int × Unit))) × Unit) :=
  ofFn Try.prog spec_DrawHkdfExpand.call spec_DrawHkdfExpand.qt spec_DrawHkdfExpand.H N Try.f29 [.one (.sh (.rows (.int .u8)))] [] [ak_s, ak_s, ak_i] [] [⟨[], [], [], []⟩] (code, ()) ()
noncomputable def spec_DrawHkdfExpand.S (N : Nat) : Say := ⟨false, 29, [.one (.sh (.rows (.int .u8)))], [], [ak_s, ak_s, ak_i], [], fun a s => spec_DrawHkdfExpand N a.1⟩
set_option maxRecDepth 100000 in
theorem spec_DrawHkdfExpand.eq (N : Nat) (code : (List Int)) : spec_DrawHkdfExpand N code =
 andK (spec_l1Cur_pick N 80 code 0 0) fun u1 =>
 andK (α := ((Unit × (Int × Unit)) × (((List Int) × (Int × (Int × Unit))) × Unit))) (
  andK (spec_l1Cur_one N 12 u1.2.1.1 u1.2.1.2.1 u1.2.1.2.2.1) fun u2 =>
  sel u2.1.1
   (
   andK (spec_l1Cur_among N [(-1), 0, 32, 33, 255, 256] u2.2.1.1 u2.2.1.2.1 u2.2.1.2.2.1) fun u3 =>
   some ((((), (u3.1.1, ())), ((u3.2.1.1, (u3.2.1.2.1, (u3.2.1.2.2.1, ()))), ()))))
   (
   some ((((), (u1.1.1, ())), ((u2.2.1.1, (u2.2.1.2.1, (u2.2.1.2.2.1, ()))), ()))))) fun j4 =>
 andK (spec_l1Cur_hashed N j4.2.1.1 j4.2.1.2.1 j4.2.1.2.2.1) fun u5 =>
 andK (spec_l1Cur_of N [(⟨#[]⟩ : ByteArray), (⟨#[105, 110, 102, 111]⟩ : ByteArray), (⟨#[97]⟩ : ByteArray)] u5.2.1.1 u5.2.1.2.1 u5.2.1.2.2.1) fun u6 =>
 some ((u5.1.1, (u6.1.1, (j4.1.2.1, ()))), ()) := by kernel_rfl
set_option maxRecDepth 100000 in
theorem spec_DrawHkdfExpand.say (N : Nat) : SayOk Try.prog (spec_DrawHkdfExpand.S N) := sayOk_mk (N := N) (H := spec_DrawHkdfExpand.H) (preps := [⟨[], [], [], []⟩]) (l := spec_DrawHkdfExpand.says) (fn := Try.f29) (c := bodyOf Try.f29)
  (by kernel_rfl) (by kernel_rfl) (by kernel_rfl) (by kernel_rfl) (by kernel_rfl) (by kernel_rfl) (by kernel_rfl)
  (fun N => SayAll.cons (spec_l1Cur_pick.say N) (SayAll.cons (spec_l1Cur_one.say N) (SayAll.cons (spec_l1Cur_among.say N) (SayAll.cons (spec_l1Cur_hashed.say N) (SayAll.cons (spec_l1Cur_of.say N) (SayAll.nil)))))) (fun a s => by kernel_rfl)

/-! ### loop.example/g00206/impl.in: function 58 -/
noncomputable def impl_in.H : Hints := hintsOf []
noncomputable def impl_in.says (N : Nat) : List Say := []
noncomputable def impl_in.call (N : Nat) : CallK := callBy (impl_in.says N)
noncomputable def impl_in.qt (N : Nat) : FuncId → List PV → Sig → Cl := qtBy (impl_in.says N)
noncomputable def impl_in (N : Nat) (n : Int) (low : Int) (high : Int) : Option ((Bool × Unit) × Unit) :=
  ofFn Try.prog impl_in.call impl_in.qt impl_in.H N Try.f58 [ak_i, ak_i, ak_i] [] [ak_b] [] [⟨[], [], [], []⟩] (n, (low, (high, ()))) ()
noncomputable def impl_in.S (N : Nat) : Say := ⟨false, 58, [ak_i, ak_i, ak_i], [], [ak_b], [], fun a s => impl_in N a.1 a.2.1 a.2.2.1⟩
set_option maxRecDepth 100000 in
theorem impl_in.eq (N : Nat) (n : Int) (low : Int) (high : Int) : impl_in N n low high =
 sel (decide (low ≤ n))
  (
  some (((decide (n ≤ high)), ()), ()))
  (
  some ((false, ()), ())) := by kernel_rfl
set_option maxRecDepth 100000 in
theorem impl_in.say (N : Nat) : SayOk Try.prog (impl_in.S N) := sayOk_mk (N := N) (H := impl_in.H) (preps := [⟨[], [], [], []⟩]) (l := impl_in.says) (fn := Try.f58) (c := bodyOf Try.f58)
  (by kernel_rfl) (by kernel_rfl) (by kernel_rfl) (by kernel_rfl) (by kernel_rfl) (by kernel_rfl) (by kernel_rfl)
  (fun N => SayAll.nil) (fun a s => by kernel_rfl)

/-! ### loop.example/g00206/impl.bigEndian: function 62 -/
noncomputable def impl_bigEndian.H : Hints := hintsOf [(2000003, .loop ⟨.normal, [], [0, 5, 6], [.one (.sh (.int .u64)), .one (.own 0), ak_i], [.rows (.int .u8)], [⟨[], [], [], []⟩]⟩ [⟨(.exit 0), [], [5], [.one (.own 0)], [.rows (.int .u8)], [⟨[], [], [], []⟩]⟩])]
noncomputable def impl_bigEndian.says (N : Nat) : List Say := []
noncomputable def impl_bigEndian.call (N : Nat) : CallK := callBy (impl_bigEndian.says N)
noncomputable def impl_bigEndian.qt (N : Nat) : FuncId → List PV → Sig → Cl := qtBy (impl_bigEndian.says N)
noncomputable def impl_bigEndian.l0.hd : Alt := ⟨.normal, [], [0, 5, 6], [.one (.sh (.int .u64)), .one (.own 0), ak_i], [.rows (.int .u8)], [⟨[], [], [], []⟩]⟩
noncomputable def impl_bigEndian.l0.outs : List Alt := [⟨(.exit 0), [], [5], [.one (.own 0)], [.rows (.int .u8)], [⟨[], [], [], []⟩]⟩]
noncomputable def impl_bigEndian.l0 (N : Nat) (n1 : Int) (i : Int) (p0 : (List Int)) : Option ((Unit × Unit) × ((List Int) × Unit)) :=
  loopK Try.prog impl_bigEndian.call impl_bigEndian.qt impl_bigEndian.H (codeAt (bodyOf Try.f62) [1, 1, 0, 1, 0, 0]) 1 impl_bigEndian.l0.hd impl_bigEndian.l0.outs [] N ((n1, ((), (i, ()))), (p0, ()))
noncomputable def impl_bigEndian (N : Nat) (n : Int) (many : Int) : Option ((ByteArray × Unit) × Unit) :=
  ofFn Try.prog impl_bigEndian.call impl_bigEndian.qt impl_bigEndian.H N Try.f62 [.one (.sh (.int .u64)), ak_i] [] [ak_s] [] [⟨[], [], [], []⟩] (n, (many, ())) ()
noncomputable def impl_bigEndian.S (N : Nat) : Say := ⟨false, 62, [.one (.sh (.int .u64)), ak_i], [], [ak_s], [], fun a s => impl_bigEndian N a.1 a.2.1⟩
set_option maxRecDepth 100000 in
theorem impl_bigEndian.l0.eq (N : Nat) (n1 : Int) (i : Int) (p0 : (List Int)) : impl_bigEndian.l0 (N + 1) n1 i p0 =
 sel (decide (0 ≤ i))
  (
  chk ((decide (0 ≤ i)) && (decide (i < (p0.length : Int)))) (
  impl_bigEndian.l0 N (shrI .u64 n1 8) (IntKind.i64.wrap (i - 1)) (p0.set (Int.toNat i) (IntKind.u8.wrap n1))))
  (
  some ((((), ()), (p0, ())))) := by kernel_rfl
set_option maxRecDepth 100000 in
theorem impl_bigEndian.eq (N : Nat) (n : Int) (many : Int) : impl_bigEndian N n many =
 chk ((decide (0 ≤ many)) && ((smallI many) && (decide (many = many)))) (
 andK (impl_bigEndian.l0 N n (IntKind.i64.wrap (many - 1)) (List.replicate (Int.toNat many) (0 : Int))) fun l1 =>
 some (((strL l1.2.1), ()), ())) := by kernel_rfl
set_option maxRecDepth 100000 in
theorem impl_bigEndian.say (N : Nat) : SayOk Try.prog (impl_bigEndian.S N) := sayOk_mk (N := N) (H := impl_bigEndian.H) (preps := [⟨[], [], [], []⟩]) (l := impl_bigEndian.says) (fn := Try.f62) (c := bodyOf Try.f62)
  (by kernel_rfl) (by kernel_rfl) (by kernel_rfl) (by kernel_rfl) (by kernel_rfl) (by kernel_rfl) (by kernel_rfl)
  (fun N => SayAll.nil) (fun a s => by kernel_rfl)

/-! ### strings.Repeat: function 81 -/
noncomputable def strings_Repeat (N : Nat) (s : ByteArray) (n : Int) : Option ((ByteArray × Unit) × Unit) := repF s n
noncomputable def strings_Repeat.S (N : Nat) : Say := repS 81
theorem strings_Repeat.eq (N : Nat) (s : ByteArray) (n : Int) : strings_Repeat N s n =
 chk (decide (0 ≤ n)) (
 chk (decide (n ≤ 9223372036854775807)) (
 chk (decide (s.size * (Int.toNat n) ≤ 140737488355328)) (
 some (((repL s (Int.toNat n)), ()), ())))) := repF_eq s n
set_option maxRecDepth 100000 in
theorem strings_Repeat.say (N : Nat) : SayOk Try.prog (strings_Repeat.S N) := sayOk_repeat (enters_mk (fn := Try.f81) (c := bodyOf Try.f81) (by kernel_rfl) (by kernel_rfl) (by kernel_rfl)) Try.strings_Repeat

/-! ### loop.example/g00206/impl.primes: function 90 -/
noncomputable def impl_primes.H : Hints := hintsOf [(5000009, .join [⟨.normal, [0, 4, 6], [3, 5], [.one (.own 0), ak_b], [.rows .flt], [⟨[], [], [], []⟩]⟩]),
  (2000007, .loop ⟨.normal, [0, 4], [3, 5, 6], [.one (.own 0), ak_b, ak_i], [.rows .flt], [⟨[], [], [], []⟩]⟩ [⟨(.exit 2), [0, 4], [3, 5], [.one (.own 0), ak_b], [.rows .flt], [⟨[], [], [], []⟩]⟩]),
  (4, .join [⟨.normal, [0, 4], [3], [.one (.own 0)], [.rows .flt], [⟨[], [], [], []⟩]⟩]),
  (2000003, .loop ⟨.normal, [0], [3, 4], [.one (.own 0), ak_i], [.rows .flt], [⟨[(3, .flt)], [], [], [0]⟩, ⟨[], [], [], [0]⟩]⟩ [⟨(.exit 0), [], [3], [.one (.own 0)], [.rows .flt], [⟨[], [], [], [0]⟩]⟩])]
noncomputable def impl_primes.says (N : Nat) : List Say := []
noncomputable def impl_primes.call (N : Nat) : CallK := callBy (impl_primes.says N)
noncomputable def impl_primes.qt (N : Nat) : FuncId → List PV → Sig → Cl := qtBy (impl_primes.says N)
noncomputable def impl_primes.l0.hd : Alt := ⟨.normal, [0], [3, 4], [.one (.own 0), ak_i], [.rows .flt], [⟨[(3, .flt)], [], [], [0]⟩, ⟨[], [], [], [0]⟩]⟩
noncomputable def impl_primes.l0.outs : List Alt := [⟨(.exit 0), [], [3], [.one (.own 0)], [.rows .flt], [⟨[], [], [], [0]⟩]⟩]
noncomputable def impl_primes.l0 (N : Nat) (many1 : Int) (n : Int) (p0 : (List Nat)) : Option ((Unit × Unit) × ((List Nat) × Unit)) :=
  loopK Try.prog impl_primes.call impl_primes.qt impl_primes.H (codeAt (bodyOf Try.f90) [1, 1, 0, 1, 0, 0]) 0 impl_primes.l0.hd impl_primes.l0.outs [(0, .v (.int .i64 many1))] N (((), (n, ())), (p0, ()))
noncomputable def impl_primes.l1.hd : Alt := ⟨.normal, [0, 4], [3, 5, 6], [.one (.own 0), ak_b, ak_i], [.rows .flt], [⟨[], [], [], []⟩]⟩
noncomputable def impl_primes.l1.outs : List Alt := [⟨(.exit 2), [0, 4], [3, 5], [.one (.own 0), ak_b], [.rows .flt], [⟨[], [], [], []⟩]⟩]
noncomputable def impl_primes.l1 (N : Nat) (many2 : Int) (n1 : Int) (prime : Bool) (k : Int) (p01 : (List Nat)) : Option ((Unit × (Bool × Unit)) × ((List Nat) × Unit)) :=
  loopK Try.prog impl_primes.call impl_primes.qt impl_primes.H (codeAt (bodyOf Try.f90) [1, 1, 0, 1, 0, 0, 1, 0, 0, 1, 0, 1, 0, 0]) 1 impl_primes.l1.hd impl_primes.l1.outs [(0, .v (.int .i64 many2)), (4, .v (.int .i64 n1))] N (((), (prime, (k, ()))), (p01, ()))
noncomputable def impl_primes (N : Nat) (many : Int) : Option ((Unit × Unit) × ((List Nat) × Unit)) :=
  ofFn Try.prog impl_primes.call impl_primes.qt impl_primes.H N Try.f90 [ak_i] [] [.one (.own 0)] [.rows .flt] [⟨[], [], [], [0]⟩] (many, ()) ()
noncomputable def impl_primes.S (N : Nat) : Say := ⟨false, 90, [ak_i], [], [.one (.own 0)], [.rows .flt], fun a s => impl_primes N a.1⟩
set_option maxRecDepth 100000 in
theorem impl_primes.l1.eq (N : Nat) (many2 : Int) (n1 : Int) (prime : Bool) (k : Int) (p01 : (List Nat)) : impl_primes.l1 (N + 1) many2 n1 prime k p01 =
 sel (decide ((IntKind.i64.wrap (k * k)) ≤ n1))
  (
  andK (α := ((Unit × (Bool × Unit)) × ((List Nat) × Unit))) (
   sel prime
    (
    chk (k != 0) (
    some ((((), ((!(decide ((Int.tmod n1 k) = 0))), ())), (p01, ())))))
    (
    some ((((), (false, ())), (p01, ()))))) fun j1 =>
  impl_primes.l1 N many2 n1 j1.1.2.1 (IntKind.i64.wrap (k + 1)) j1.2.1)
  (
  some ((((), (prime, ())), (p01, ())))) := by kernel_rfl
set_option maxRecDepth 100000 in
theorem impl_primes.l0.eq (N : Nat) (many1 : Int) (n : Int) (p0 : (List Nat)) : impl_primes.l0 (N + 1) many1 n p0 =
 sel (decide ((p0.length : Int) < many1))
  (
  andK (α := ((Unit × Unit) × ((List Nat) × Unit))) (
   andK (impl_primes.l1 N many1 n true 2 p0) fun l2 =>
   sel l2.1.2.1
    (
    chk (decide (l2.2.1.length + 1 < most)) (
    some ((((), ()), ((l2.2.1 ++ [(fOfI n)]), ())))))
    (
    some ((((), ()), (l2.2.1, ()))))) fun j3 =>
  impl_primes.l0 N many1 (IntKind.i64.wrap (n + 1)) j3.2.1)
  (
  some ((((), ()), (p0, ())))) := by kernel_rfl
set_option maxRecDepth 100000 in
theorem impl_primes.eq (N : Nat) (many : Int) : impl_primes N many =
 andK (impl_primes.l0 N many 2 []) fun l4 =>
 some (((), ()), (l4.2.1, ())) := by kernel_rfl
set_option maxRecDepth 100000 in
theorem impl_primes.say (N : Nat) : SayOk Try.prog (impl_primes.S N) := sayOk_mk (N := N) (H := impl_primes.H) (preps := [⟨[], [], [], [0]⟩]) (l := impl_primes.says) (fn := Try.f90) (c := bodyOf Try.f90)
  (by kernel_rfl) (by kernel_rfl) (by kernel_rfl) (by kernel_rfl) (by kernel_rfl) (by kernel_rfl) (by kernel_rfl)
  (fun N => SayAll.nil) (fun a s => by kernel_rfl)

/-! ### math.Sqrt: function 115 -/
noncomputable def math_Sqrt.H : Hints := hintsOf [(8000001, .alts [4])]
noncomputable def math_Sqrt.says (N : Nat) : List Say := []
noncomputable def math_Sqrt.call (N : Nat) : CallK := callBy (math_Sqrt.says N)
noncomputable def math_Sqrt.qt (N : Nat) : FuncId → List PV → Sig → Cl := qtBy (math_Sqrt.says N)
noncomputable def math_Sqrt (N : Nat) (x : Nat) : Option ((Nat × Unit) × Unit) :=
  ofFn Try.prog math_Sqrt.call math_Sqrt.qt math_Sqrt.H N Try.f115 [.one (.sh .flt)] [] [.one (.sh .flt)] [] [⟨[], [], [], []⟩] (x, ()) ()
noncomputable def math_Sqrt.S (N : Nat) : Say := ⟨false, 115, [.one (.sh .flt)], [], [.one (.sh .flt)], [], fun a s => math_Sqrt N a.1⟩
set_option maxRecDepth 100000 in
theorem math_Sqrt.eq (N : Nat) (x : Nat) : math_Sqrt N x =
 chk (fSqOk x) (
 some (((fSq x), ()), ())) := by kernel_rfl
set_option maxRecDepth 100000 in
theorem math_Sqrt.say (N : Nat) : SayOk Try.prog (math_Sqrt.S N) := sayOk_mk (N := N) (H := math_Sqrt.H) (preps := [⟨[], [], [], []⟩]) (l := math_Sqrt.says) (fn := Try.f115) (c := bodyOf Try.f115)
  (by kernel_rfl) (by kernel_rfl) (by kernel_rfl) (by kernel_rfl) (by kernel_rfl) (by kernel_rfl) (by kernel_rfl)
  (fun N => SayAll.nil) (fun a s => by kernel_rfl)

/-! ### loop.example/g00206/impl.behindPoint: function 48 -/
noncomputable def impl_behindPoint.H : Hints := hintsOf [(2000003, .loop ⟨.normal, [1, 11], [5, 10, 12], [.one (.own 1), .one (.own 0), ak_i], [.rows .flt, .rows (.int .u32)], [⟨[(5, (.int .u32))], [], [], [1]⟩, ⟨[], [], [], [1]⟩]⟩ [⟨(.exit 0), [], [5], [.one (.own 1)], [.rows .flt, .rows (.int .u32)], [⟨[], [], [], [1]⟩]⟩])]
noncomputable def impl_behindPoint.says (N : Nat) : List Say := [impl_primes.S N, math_Sqrt.S N]
noncomputable def impl_behindPoint.call (N : Nat) : CallK := callBy (impl_behindPoint.says N)
noncomputable def impl_behindPoint.qt (N : Nat) : FuncId → List PV → Sig → Cl := qtBy (impl_behindPoint.says N)
noncomputable def impl_behindPoint.l0.hd : Alt := ⟨.normal, [1, 11], [5, 10, 12], [.one (.own 1), .one (.own 0), ak_i], [.rows .flt, .rows (.int .u32)], [⟨[(5, (.int .u32))], [], [], [1]⟩, ⟨[], [], [], [1]⟩]⟩
noncomputable def impl_behindPoint.l0.outs : List Alt := [⟨(.exit 0), [], [5], [.one (.own 1)], [.rows .flt, .rows (.int .u32)], [⟨[], [], [], [1]⟩]⟩]
noncomputable def impl_behindPoint.l0 (N : Nat) (t11 : Int) (t12 : Int) (p0 : (List Nat)) (p1 : (List Int)) : Option ((Unit × Unit) × ((List Nat) × ((List Int) × Unit))) :=
  loopK Try.prog impl_behindPoint.call impl_behindPoint.qt impl_behindPoint.H (codeAt (bodyOf Try.f48) [1, 1, 0, 1, 0, 0]) 1 impl_behindPoint.l0.hd impl_behindPoint.l0.outs [(1, .fn 115 []), (11, .v (.int .i64 t11))] N (((), ((), (t12, ()))), (p0, (p1, ())))
noncomputable def impl_behindPoint (N : Nat) (many : Int) : Option ((Unit × Unit) × ((List Int) × Unit)) :=
  ofFn Try.prog impl_behindPoint.call impl_behindPoint.qt impl_behindPoint.H N Try.f48 [ak_i, .fn 115 []] [] [.one (.own 0)] [.rows (.int .u32)] [⟨[], [], [], [1]⟩] (many, ((), ())) ()
noncomputable def impl_behindPoint.S (N : Nat) : Say := ⟨false, 48, [ak_i, .fn 115 []], [], [.one (.own 0)], [.rows (.int .u32)], fun a s => impl_behindPoint N a.1⟩
set_option maxRecDepth 100000 in
theorem impl_behindPoint.l0.eq (N : Nat) (t11 : Int) (t12 : Int) (p0 : (List Nat)) (p1 : (List Int)) : impl_behindPoint.l0 (N + 1) t11 t12 p0 p1 =
 sel (decide (t12 < t11))
  (
  chk ((decide (0 ≤ t12)) && (decide (t12 < (p0.length : Int)))) (
  andK (math_Sqrt N (p0.getD (Int.toNat t12) 0)) fun u2 =>
  chk (fArOk .mul u2.1.1 4751297606875873280) (
  chk (fToOk .u64 (fAr .mul u2.1.1 4751297606875873280)) (
  chk (decide (p1.length + 1 < most)) (
  impl_behindPoint.l0 N t11 (IntKind.i64.wrap (t12 + 1)) p0 (p1 ++ [(IntKind.u32.wrap (fToI .u64 (fAr .mul u2.1.1 4751297606875873280)))]))))))
  (
  some ((((), ()), (p0, (p1, ()))))) := by kernel_rfl
set_option maxRecDepth 100000 in
theorem impl_behindPoint.eq (N : Nat) (many : Int) : impl_behindPoint N many =
 andK (impl_primes N many) fun u1 =>
 andK (impl_behindPoint.l0 N (u1.2.1.length : Int) 0 u1.2.1 []) fun l3 =>
 some (((), ()), (l3.2.2.1, ())) := by kernel_rfl
set_option maxRecDepth 100000 in
theorem impl_behindPoint.say (N : Nat) : SayOk Try.prog (impl_behindPoint.S N) := sayOk_mk (N := N) (H := impl_behindPoint.H) (preps := [⟨[], [], [], [1]⟩]) (l := impl_behindPoint.says) (fn := Try.f48) (c := bodyOf Try.f48)
  (by kernel_rfl) (by kernel_rfl) (by kernel_rfl) (by kernel_rfl) (by kernel_rfl) (by kernel_rfl) (by kernel_rfl)
  (fun N => SayAll.cons (impl_primes.say N) (SayAll.cons (math_Sqrt.say N) (SayAll.nil))) (fun a s => by kernel_rfl)

/-! ### loop.example/g00206/impl.firstState: function 82 -/
noncomputable def impl_firstState.H : Hints := hintsOf []
noncomputable def impl_firstState.says (N : Nat) : List Say := [impl_behindPoint.S N]
noncomputable def impl_firstState.call (N : Nat) : CallK := callBy (impl_firstState.says N)
noncomputable def impl_firstState.qt (N : Nat) : FuncId → List PV → Sig → Cl := qtBy (impl_firstState.says N)
noncomputable def impl_firstState (N : Nat) : Option ((Unit × Unit) × ((List Int) × Unit)) :=
  ofFn Try.prog impl_firstState.call impl_firstState.qt impl_firstState.H N Try.f82 [] [] [.one (.own 0)] [.rows (.int .u32)] [⟨[], [], [], [0]⟩] () ()
noncomputable def impl_firstState.S (N : Nat) : Say := ⟨false, 82, [], [], [.one (.own 0)], [.rows (.int .u32)], fun a s => impl_firstState N⟩
set_option maxRecDepth 100000 in
theorem impl_firstState.eq (N : Nat) : impl_firstState N =
 andK (impl_behindPoint N 8) fun u1 =>
 some (((), ()), (u1.2.1, ())) := by kernel_rfl
set_option maxRecDepth 100000 in
theorem impl_firstState.say (N : Nat) : SayOk Try.prog (impl_firstState.S N) := sayOk_mk (N := N) (H := impl_firstState.H) (preps := [⟨[], [], [], [0]⟩]) (l := impl_firstState.says) (fn := Try.f82) (c := bodyOf Try.f82)
  (by kernel_rfl) (by kernel_rfl) (by kernel_rfl) (by kernel_rfl) (by kernel_rfl) (by kernel_rfl) (by kernel_rfl)
  (fun N => SayAll.cons (impl_behindPoint.say N) (SayAll.nil)) (fun a s => by kernel_rfl)

/-! ### math.IsNaN: function 122 -/
noncomputable def math_IsNaN.H : Hints := hintsOf []
noncomputable def math_IsNaN.says (N : Nat) : List Say := []
noncomputable def math_IsNaN.call (N : Nat) : CallK := callBy (math_IsNaN.says N)
noncomputable def math_IsNaN.qt (N : Nat) : FuncId → List PV → Sig → Cl := qtBy (math_IsNaN.says N)
noncomputable def math_IsNaN (N : Nat) (f : Nat) : Option ((Bool × Unit) × Unit) :=
  ofFn Try.prog math_IsNaN.call math_IsNaN.qt math_IsNaN.H N Try.f122 [.one (.sh .flt)] [] [ak_b] [] [⟨[], [], [], []⟩] (f, ()) ()
noncomputable def math_IsNaN.S (N : Nat) : Say := ⟨false, 122, [.one (.sh .flt)], [], [ak_b], [], fun a s => math_IsNaN N a.1⟩
set_option maxRecDepth 100000 in
theorem math_IsNaN.eq (N : Nat) (f : Nat) : math_IsNaN N f =
 some (((!(fEq f f)), ()), ()) := by kernel_rfl
set_option maxRecDepth 100000 in
theorem math_IsNaN.say (N : Nat) : SayOk Try.prog (math_IsNaN.S N) := sayOk_mk (N := N) (H := math_IsNaN.H) (preps := [⟨[], [], [], []⟩]) (l := math_IsNaN.says) (fn := Try.f122) (c := bodyOf Try.f122)
  (by kernel_rfl) (by kernel_rfl) (by kernel_rfl) (by kernel_rfl) (by kernel_rfl) (by kernel_rfl) (by kernel_rfl)
  (fun N => SayAll.nil) (fun a s => by kernel_rfl)

/-! ### math.Abs: function 137 -/
noncomputable def math_Abs.H : Hints := hintsOf [(8000001, .alts [4, 6])]
noncomputable def math_Abs.says (N : Nat) : List Say := []
noncomputable def math_Abs.call (N : Nat) : CallK := callBy (math_Abs.says N)
noncomputable def math_Abs.qt (N : Nat) : FuncId → List PV → Sig → Cl := qtBy (math_Abs.says N)
noncomputable def math_Abs (N : Nat) (x : Nat) : Option ((Nat × Unit) × Unit) :=
  ofFn Try.prog math_Abs.call math_Abs.qt math_Abs.H N Try.f137 [.one (.sh .flt)] [] [.one (.sh .flt)] [] [⟨[], [], [], []⟩] (x, ()) ()
noncomputable def math_Abs.S (N : Nat) : Say := ⟨false, 137, [.one (.sh .flt)], [], [.one (.sh .flt)], [], fun a s => math_Abs N a.1⟩
set_option maxRecDepth 100000 in
theorem math_Abs.eq (N : Nat) (x : Nat) : math_Abs N x =
 some (((fB (Go.bits .andNot .u64 (x : Int) 9223372036854775808)), ()), ()) := by kernel_rfl
set_option maxRecDepth 100000 in
theorem math_Abs.say (N : Nat) : SayOk Try.prog (math_Abs.S N) := sayOk_mk (N := N) (H := math_Abs.H) (preps := [⟨[], [], [], []⟩]) (l := math_Abs.says) (fn := Try.f137) (c := bodyOf Try.f137)
  (by kernel_rfl) (by kernel_rfl) (by kernel_rfl) (by kernel_rfl) (by kernel_rfl) (by kernel_rfl) (by kernel_rfl)
  (fun N => SayAll.nil) (fun a s => by kernel_rfl)

/-! ### math.IsInf: function 123 -/
noncomputable def math_IsInf.H : Hints := hintsOf []
noncomputable def math_IsInf.says (N : Nat) : List Say := [math_Abs.S N]
noncomputable def math_IsInf.call (N : Nat) : CallK := callBy (math_IsInf.says N)
noncomputable def math_IsInf.qt (N : Nat) : FuncId → List PV → Sig → Cl := qtBy (math_IsInf.says N)
noncomputable def math_IsInf (N : Nat) (f : Nat) (sign : Int) : Option ((Bool × Unit) × Unit) :=
  ofFn Try.prog math_IsInf.call math_IsInf.qt math_IsInf.H N Try.f123 [.one (.sh .flt), ak_i] [] [ak_b] [] [⟨[], [], [], []⟩] (f, (sign, ())) ()
noncomputable def math_IsInf.S (N : Nat) : Say := ⟨false, 123, [.one (.sh .flt), ak_i], [], [ak_b], [], fun a s => math_IsInf N a.1 a.2.1⟩
set_option maxRecDepth 100000 in
theorem math_IsInf.eq (N : Nat) (f : Nat) (sign : Int) : math_IsInf N f sign =
 sel (decide (sign = 0))
  (
  andK (math_Abs N f) fun u1 =>
  some (((fGt u1.1.1 9218868437227405311), ()), ()))
  (
  sel (decide (sign < 0))
   (
   some (((fGt (fNeg f) 9218868437227405311), ()), ()))
   (
   some (((fGt f 9218868437227405311), ()), ()))) := by kernel_rfl
set_option maxRecDepth 100000 in
theorem math_IsInf.say (N : Nat) : SayOk Try.prog (math_IsInf.S N) := sayOk_mk (N := N) (H := math_IsInf.H) (preps := [⟨[], [], [], []⟩]) (l := math_IsInf.says) (fn := Try.f123) (c := bodyOf Try.f123)
  (by kernel_rfl) (by kernel_rfl) (by kernel_rfl) (by kernel_rfl) (by kernel_rfl) (by kernel_rfl) (by kernel_rfl)
  (fun N => SayAll.cons (math_Abs.say N) (SayAll.nil)) (fun a s => by kernel_rfl)

/-! ### math.cbrt: function 92 -/
noncomputable def math_cbrt.H : Hints := hintsOf [(5000001, .join [⟨.normal, [0], [8], [ak_b], [], [⟨[], [], [], []⟩]⟩]),
  (7, .join [⟨.normal, [], [0, 3], [.one (.sh .flt), ak_b], [], [⟨[], [], [], []⟩]⟩]),
  (12, .join [⟨.normal, [0, 3], [4], [.one (.sh .flt)], [], [⟨[], [], [], []⟩]⟩]),
  (14, .join [⟨.normal, [0, 3, 4], [6], [.one (.sh .flt)], [], [⟨[], [], [], []⟩]⟩]),
  (15, .join [⟨.normal, [0, 3], [4], [.one (.sh .flt)], [], [⟨[], [], [], []⟩]⟩]),
  (17, .join [⟨.normal, [0, 3, 4], [6], [.one (.sh .flt)], [], [⟨[], [], [], []⟩]⟩]),
  (18, .join [⟨.normal, [3, 4], [5], [.one (.sh .flt)], [], [⟨[], [], [], []⟩]⟩]),
  (19, .join [⟨.normal, [3, 4, 5], [7], [.one (.sh .flt)], [], [⟨[], [], [], []⟩]⟩]),
  (20, .join [⟨.normal, [3, 4], [5], [.one (.sh .flt)], [], [⟨[], [], [], []⟩]⟩]),
  (21, .join [⟨.normal, [3], [4], [.one (.sh .flt)], [], [⟨[], [], [], []⟩]⟩]),
  (8000007, .alts [25, 28]),
  (8000011, .alts [35, 38]),
  (8000015, .alts [58, 61])]
noncomputable def math_cbrt.says (N : Nat) : List Say := [math_IsNaN.S N, math_IsInf.S N]
noncomputable def math_cbrt.call (N : Nat) : CallK := callBy (math_cbrt.says N)
noncomputable def math_cbrt.qt (N : Nat) : FuncId → List PV → Sig → Cl := qtBy (math_cbrt.says N)
noncomputable def math_cbrt (N : Nat) (G : Nat) : Option ((Nat × Unit) × Unit) :=
  ofFn Try.prog math_cbrt.call math_cbrt.qt math_cbrt.H N Try.f92 [.one (.sh .flt)] [] [.one (.sh .flt)] [] [⟨[], [], [], []⟩] (G, ()) ()
noncomputable def math_cbrt.S (N : Nat) : Say := ⟨false, 92, [.one (.sh .flt)], [], [.one (.sh .flt)], [], fun a s => math_cbrt N a.1⟩
set_option maxRecDepth 100000 in
theorem math_cbrt.eq (N : Nat) (G : Nat) : math_cbrt N G =
 andK (α := ((Bool × Unit) × Unit)) (
  sel (fEq G 0)
   (
   some (((true, ()), ())))
   (
   andK (math_IsNaN N G) fun u1 =>
   sel u1.1.1
    (
    some (((true, ()), ())))
    (
    andK (math_IsInf N G 0) fun u2 =>
    some (((u2.1.1, ()), ()))))) fun j3 =>
 sel j3.1.1
  (
  some ((G, ()), ()))
  (
  andK (α := ((Nat × (Bool × Unit)) × Unit)) (
   sel (fLt G 0)
    (
    some ((((fNeg G), (true, ())), ())))
    (
    some (((G, (false, ())), ())))) fun j4 =>
  andK (α := ((Nat × Unit) × Unit)) (
   sel (fLt j4.1.1 4503599627370496)
    (
    chk (fArOk .mul 4850376798678024192 j4.1.1) (
    some ((((fB (IntKind.u64.wrap ((IntKind.u64.wrap (Int.tdiv ((fAr .mul 4850376798678024192 j4.1.1) : Int) 3)) + 2990241250352824320))), ()), ()))))
    (
    some ((((fB (IntKind.u64.wrap ((IntKind.u64.wrap (Int.tdiv (j4.1.1 : Int) 3)) + 3071306043645493248))), ()), ())))) fun j5 =>
  chk (fArOk .mul j5.1.1 j5.1.1) (
  chk (fArOk .quo (fAr .mul j5.1.1 j5.1.1) j4.1.1) (
  andK (α := ((Nat × Unit) × Unit)) (
   chk (fArOk .mul (fAr .quo (fAr .mul j5.1.1 j5.1.1) j4.1.1) j5.1.1) (
   chk (fArOk .add 4603064841997850097 (fAr .mul (fAr .quo (fAr .mul j5.1.1 j5.1.1) j4.1.1) j5.1.1)) (
   some ((((fAr .add 4603064841997850097 (fAr .mul (fAr .quo (fAr .mul j5.1.1 j5.1.1) j4.1.1) j5.1.1)), ()), ()))))) fun j6 =>
  andK (α := ((Nat × Unit) × Unit)) (
   chk (fArOk .add j6.1.1 4609048195788499471) (
   chk (fArOk .quo 13827900089180538932 j6.1.1) (
   chk (fArOk .add (fAr .add j6.1.1 4609048195788499471) (fAr .quo 13827900089180538932 j6.1.1)) (
   chk (fArOk .quo 4609916747145206638 (fAr .add (fAr .add j6.1.1 4609048195788499471) (fAr .quo 13827900089180538932 j6.1.1))) (
   chk (fArOk .add 4600105333671292343 (fAr .quo 4609916747145206638 (fAr .add (fAr .add j6.1.1 4609048195788499471) (fAr .quo 13827900089180538932 j6.1.1)))) (
   chk (fArOk .mul j5.1.1 (fAr .add 4600105333671292343 (fAr .quo 4609916747145206638 (fAr .add (fAr .add j6.1.1 4609048195788499471) (fAr .quo 13827900089180538932 j6.1.1))))) (
   some ((((fAr .mul j5.1.1 (fAr .add 4600105333671292343 (fAr .quo 4609916747145206638 (fAr .add (fAr .add j6.1.1 4609048195788499471) (fAr .quo 13827900089180538932 j6.1.1))))), ()), ()))))))))) fun j7 =>
  andK (α := ((Nat × Unit) × Unit)) (
   chk (fArOk .mul (fB (IntKind.u64.wrap ((Go.bits .and .u64 (j7.1.1 : Int) 18446744072635809792) + 1073741824))) (fB (IntKind.u64.wrap ((Go.bits .and .u64 (j7.1.1 : Int) 18446744072635809792) + 1073741824)))) (
   some ((((fAr .mul (fB (IntKind.u64.wrap ((Go.bits .and .u64 (j7.1.1 : Int) 18446744072635809792) + 1073741824))) (fB (IntKind.u64.wrap ((Go.bits .and .u64 (j7.1.1 : Int) 18446744072635809792) + 1073741824)))), ()), ())))) fun j8 =>
  andK (α := ((Nat × Unit) × Unit)) (
   chk (fArOk .quo j4.1.1 j8.1.1) (
   some ((((fAr .quo j4.1.1 j8.1.1), ()), ())))) fun j9 =>
  andK (α := ((Nat × Unit) × Unit)) (
   chk (fArOk .add (fB (IntKind.u64.wrap ((Go.bits .and .u64 (j7.1.1 : Int) 18446744072635809792) + 1073741824))) (fB (IntKind.u64.wrap ((Go.bits .and .u64 (j7.1.1 : Int) 18446744072635809792) + 1073741824)))) (
   some ((((fAr .add (fB (IntKind.u64.wrap ((Go.bits .and .u64 (j7.1.1 : Int) 18446744072635809792) + 1073741824))) (fB (IntKind.u64.wrap ((Go.bits .and .u64 (j7.1.1 : Int) 18446744072635809792) + 1073741824)))), ()), ())))) fun j10 =>
  andK (α := ((Nat × Unit) × Unit)) (
   chk (fArOk .sub j9.1.1 (fB (IntKind.u64.wrap ((Go.bits .and .u64 (j7.1.1 : Int) 18446744072635809792) + 1073741824)))) (
   chk (fArOk .add j10.1.1 j9.1.1) (
   chk (fArOk .quo (fAr .sub j9.1.1 (fB (IntKind.u64.wrap ((Go.bits .and .u64 (j7.1.1 : Int) 18446744072635809792) + 1073741824)))) (fAr .add j10.1.1 j9.1.1)) (
   some ((((fAr .quo (fAr .sub j9.1.1 (fB (IntKind.u64.wrap ((Go.bits .and .u64 (j7.1.1 : Int) 18446744072635809792) + 1073741824)))) (fAr .add j10.1.1 j9.1.1)), ()), ())))))) fun j11 =>
  andK (α := ((Nat × Unit) × Unit)) (
   chk (fArOk .mul (fB (IntKind.u64.wrap ((Go.bits .and .u64 (j7.1.1 : Int) 18446744072635809792) + 1073741824))) j11.1.1) (
   chk (fArOk .add (fB (IntKind.u64.wrap ((Go.bits .and .u64 (j7.1.1 : Int) 18446744072635809792) + 1073741824))) (fAr .mul (fB (IntKind.u64.wrap ((Go.bits .and .u64 (j7.1.1 : Int) 18446744072635809792) + 1073741824))) j11.1.1)) (
   some ((((fAr .add (fB (IntKind.u64.wrap ((Go.bits .and .u64 (j7.1.1 : Int) 18446744072635809792) + 1073741824))) (fAr .mul (fB (IntKind.u64.wrap ((Go.bits .and .u64 (j7.1.1 : Int) 18446744072635809792) + 1073741824))) j11.1.1)), ()), ()))))) fun j12 =>
  sel j4.1.2.1
   (
   some (((fNeg j12.1.1), ()), ()))
   (
   some ((j12.1.1, ()), ()))))) := by kernel_rfl
set_option maxRecDepth 100000 in
theorem math_cbrt.say (N : Nat) : SayOk Try.prog (math_cbrt.S N) := sayOk_mk (N := N) (H := math_cbrt.H) (preps := [⟨[], [], [], []⟩]) (l := math_cbrt.says) (fn := Try.f92) (c := bodyOf Try.f92)
  (by kernel_rfl) (by kernel_rfl) (by kernel_rfl) (by kernel_rfl) (by kernel_rfl) (by kernel_rfl) (by kernel_rfl)
  (fun N => SayAll.cons (math_IsNaN.say N) (SayAll.cons (math_IsInf.say N) (SayAll.nil))) (fun a s => by kernel_rfl)

/-! ### math.Cbrt: function 49 -/
noncomputable def math_Cbrt.H : Hints := hintsOf []
noncomputable def math_Cbrt.says (N : Nat) : List Say := [math_cbrt.S N]
noncomputable def math_Cbrt.call (N : Nat) : CallK := callBy (math_Cbrt.says N)
noncomputable def math_Cbrt.qt (N : Nat) : FuncId → List PV → Sig → Cl := qtBy (math_Cbrt.says N)
noncomputable def math_Cbrt (N : Nat) (x : Nat) : Option ((Nat × Unit) × Unit) :=
  ofFn Try.prog math_Cbrt.call math_Cbrt.qt math_Cbrt.H N Try.f49 [.one (.sh .flt)] [] [.one (.sh .flt)] [] [⟨[], [], [], []⟩] (x, ()) ()
noncomputable def math_Cbrt.S (N : Nat) : Say := ⟨false, 49, [.one (.sh .flt)], [], [.one (.sh .flt)], [], fun a s => math_Cbrt N a.1⟩
set_option maxRecDepth 100000 in
theorem math_Cbrt.eq (N : Nat) (x : Nat) : math_Cbrt N x =
 andK (math_cbrt N x) fun u1 =>
 some ((u1.1.1, ()), ()) := by kernel_rfl
set_option maxRecDepth 100000 in
theorem math_Cbrt.say (N : Nat) : SayOk Try.prog (math_Cbrt.S N) := sayOk_mk (N := N) (H := math_Cbrt.H) (preps := [⟨[], [], [], []⟩]) (l := math_Cbrt.says) (fn := Try.f49) (c := bodyOf Try.f49)
  (by kernel_rfl) (by kernel_rfl) (by kernel_rfl) (by kernel_rfl) (by kernel_rfl) (by kernel_rfl) (by kernel_rfl)
  (fun N => SayAll.cons (math_cbrt.say N) (SayAll.nil)) (fun a s => by kernel_rfl)

/-! ### loop.example/g00206/impl.behindPoint: function 48 -/
noncomputable def impl_behindPoint_2.H : Hints := hintsOf [(2000003, .loop ⟨.normal, [1, 11], [5, 10, 12], [.one (.own 1), .one (.own 0), ak_i], [.rows .flt, .rows (.int .u32)], [⟨[(5, (.int .u32))], [], [], [1]⟩, ⟨[], [], [], [1]⟩]⟩ [⟨(.exit 0), [], [5], [.one (.own 1)], [.rows .flt, .rows (.int .u32)], [⟨[], [], [], [1]⟩]⟩])]
noncomputable def impl_behindPoint_2.says (N : Nat) : List Say := [impl_primes.S N, math_Cbrt.S N]
noncomputable def impl_behindPoint_2.call (N : Nat) : CallK := callBy (impl_behindPoint_2.says N)
noncomputable def impl_behindPoint_2.qt (N : Nat) : FuncId → List PV → Sig → Cl := qtBy (impl_behindPoint_2.says N)
noncomputable def impl_behindPoint_2.l0.hd : Alt := ⟨.normal, [1, 11], [5, 10, 12], [.one (.own 1), .one (.own 0), ak_i], [.rows .flt, .rows (.int .u32)], [⟨[(5, (.int .u32))], [], [], [1]⟩, ⟨[], [], [], [1]⟩]⟩
noncomputable def impl_behindPoint_2.l0.outs : List Alt := [⟨(.exit 0), [], [5], [.one (.own 1)], [.rows .flt, .rows (.int .u32)], [⟨[], [], [], [1]⟩]⟩]
noncomputable def impl_behindPoint_2.l0 (N : Nat) (t11 : Int) (t12 : Int) (p0 : (List Nat)) (p1 : (List Int)) : Option ((Unit × Unit) × ((List Nat) × ((List Int) × Unit))) :=
  loopK Try.prog impl_behindPoint_2.call impl_behindPoint_2.qt impl_behindPoint_2.H (codeAt (bodyOf Try.f48) [1, 1, 0, 1, 0, 0]) 1 impl_behindPoint_2.l0.hd impl_behindPoint_2.l0.outs [(1, .fn 49 []), (11, .v (.int .i64 t11))] N (((), ((), (t12, ()))), (p0, (p1, ())))
noncomputable def impl_behindPoint_2 (N : Nat) (many : Int) : Option ((Unit × Unit) × ((List Int) × Unit)) :=
  ofFn Try.prog impl_behindPoint_2.call impl_behindPoint_2.qt impl_behindPoint_2.H N Try.f48 [ak_i, .fn 49 []] [] [.one (.own 0)] [.rows (.int .u32)] [⟨[], [], [], [1]⟩] (many, ((), ())) ()
noncomputable def impl_behindPoint_2.S (N : Nat) : Say := ⟨false, 48, [ak_i, .fn 49 []], [], [.one (.own 0)], [.rows (.int .u32)], fun a s => impl_behindPoint_2 N a.1⟩
set_option maxRecDepth 100000 in
theorem impl_behindPoint_2.l0.eq (N : Nat) (t11 : Int) (t12 : Int) (p0 : (List Nat)) (p1 : (List Int)) : impl_behindPoint_2.l0 (N + 1) t11 t12 p0 p1 =
 sel (decide (t12 < t11))
  (
  chk ((decide (0 ≤ t12)) && (decide (t12 < (p0.length : Int)))) (
  andK (math_Cbrt N (p0.getD (Int.toNat t12) 0)) fun u2 =>
  chk (fArOk .mul u2.1.1 4751297606875873280) (
  chk (fToOk .u64 (fAr .mul u2.1.1 4751297606875873280)) (
  chk (decide (p1.length + 1 < most)) (
  impl_behindPoint_2.l0 N t11 (IntKind.i64.wrap (t12 + 1)) p0 (p1 ++ [(IntKind.u32.wrap (fToI .u64 (fAr .mul u2.1.1 4751297606875873280)))]))))))
  (
  some ((((), ()), (p0, (p1, ()))))) := by kernel_rfl
set_option maxRecDepth 100000 in
theorem impl_behindPoint_2.eq (N : Nat) (many : Int) : impl_behindPoint_2 N many =
 andK (impl_primes N many) fun u1 =>
 andK (impl_behindPoint_2.l0 N (u1.2.1.length : Int) 0 u1.2.1 []) fun l3 =>
 some (((), ()), (l3.2.2.1, ())) := by kernel_rfl
set_option maxRecDepth 100000 in
theorem impl_behindPoint_2.say (N : Nat) : SayOk Try.prog (impl_behindPoint_2.S N) := sayOk_mk (N := N) (H := impl_behindPoint_2.H) (preps := [⟨[], [], [], [1]⟩]) (l := impl_behindPoint_2.says) (fn := Try.f48) (c := bodyOf Try.f48)
  (by kernel_rfl) (by kernel_rfl) (by kernel_rfl) (by kernel_rfl) (by kernel_rfl) (by kernel_rfl) (by kernel_rfl)
  (fun N => SayAll.cons (impl_primes.say N) (SayAll.cons (math_Cbrt.say N) (SayAll.nil))) (fun a s => by kernel_rfl)

/-! ### loop.example/g00206/impl.RoundWords: function 19 -/
noncomputable def impl_RoundWords.H : Hints := hintsOf []
noncomputable def impl_RoundWords.says (N : Nat) : List Say := [impl_behindPoint_2.S N]
noncomputable def impl_RoundWords.call (N : Nat) : CallK := callBy (impl_RoundWords.says N)
noncomputable def impl_RoundWords.qt (N : Nat) : FuncId → List PV → Sig → Cl := qtBy (impl_RoundWords.says N)
noncomputable def impl_RoundWords (N : Nat) : Option ((Unit × Unit) × ((List Int) × Unit)) :=
  ofFn Try.prog impl_RoundWords.call impl_RoundWords.qt impl_RoundWords.H N Try.f19 [] [] [.one (.own 0)] [.rows (.int .u32)] [⟨[], [], [], [0]⟩] () ()
noncomputable def impl_RoundWords.S (N : Nat) : Say := ⟨false, 19, [], [], [.one (.own 0)], [.rows (.int .u32)], fun a s => impl_RoundWords N⟩
set_option maxRecDepth 100000 in
theorem impl_RoundWords.eq (N : Nat) : impl_RoundWords N =
 andK (impl_behindPoint_2 N 64) fun u1 =>
 some (((), ()), (u1.2.1, ())) := by kernel_rfl
set_option maxRecDepth 100000 in
theorem impl_RoundWords.say (N : Nat) : SayOk Try.prog (impl_RoundWords.S N) := sayOk_mk (N := N) (H := impl_RoundWords.H) (preps := [⟨[], [], [], [0]⟩]) (l := impl_RoundWords.says) (fn := Try.f19) (c := bodyOf Try.f19)
  (by kernel_rfl) (by kernel_rfl) (by kernel_rfl) (by kernel_rfl) (by kernel_rfl) (by kernel_rfl) (by kernel_rfl)
  (fun N => SayAll.cons (impl_behindPoint_2.say N) (SayAll.nil)) (fun a s => by kernel_rfl)

/-! ### loop.example/g00206/impl.numberOf: function 88 -/
noncomputable def impl_numberOf.H : Hints := hintsOf [(2000003, .loop ⟨.normal, [0, 6], [3, 7], [.one (.sh (.int .u64)), ak_i], [], [⟨[], [], [], []⟩]⟩ [⟨(.exit 0), [], [3], [.one (.sh (.int .u64))], [], [⟨[], [], [], []⟩]⟩])]
noncomputable def impl_numberOf.says (N : Nat) : List Say := []
noncomputable def impl_numberOf.call (N : Nat) : CallK := callBy (impl_numberOf.says N)
noncomputable def impl_numberOf.qt (N : Nat) : FuncId → List PV → Sig → Cl := qtBy (impl_numberOf.says N)
noncomputable def impl_numberOf.l0.hd : Alt := ⟨.normal, [0, 6], [3, 7], [.one (.sh (.int .u64)), ak_i], [], [⟨[], [], [], []⟩]⟩
noncomputable def impl_numberOf.l0.outs : List Alt := [⟨(.exit 0), [], [3], [.one (.sh (.int .u64))], [], [⟨[], [], [], []⟩]⟩]
noncomputable def impl_numberOf.l0 (N : Nat) (s1 : ByteArray) (t6 : Int) (n : Int) (t7 : Int) : Option ((Int × Unit) × Unit) :=
  loopK Try.prog impl_numberOf.call impl_numberOf.qt impl_numberOf.H (codeAt (bodyOf Try.f88) [1, 1, 0, 1, 0, 0]) 0 impl_numberOf.l0.hd impl_numberOf.l0.outs [(0, .v (.string s1)), (6, .v (.int .i64 t6))] N ((n, (t7, ())), ())
noncomputable def impl_numberOf (N : Nat) (s : ByteArray) : Option ((Int × Unit) × Unit) :=
  ofFn Try.prog impl_numberOf.call impl_numberOf.qt impl_numberOf.H N Try.f88 [ak_s] [] [.one (.sh (.int .u64))] [] [⟨[], [], [], []⟩] (s, ()) ()
noncomputable def impl_numberOf.S (N : Nat) : Say := ⟨false, 88, [ak_s], [], [.one (.sh (.int .u64))], [], fun a s => impl_numberOf N a.1⟩
set_option maxRecDepth 100000 in
theorem impl_numberOf.l0.eq (N : Nat) (s1 : ByteArray) (t6 : Int) (n : Int) (t7 : Int) : impl_numberOf.l0 (N + 1) s1 t6 n t7 =
 sel (decide (t7 < t6))
  (
  chk ((decide (0 ≤ t7)) && (decide (t7 < (s1.size : Int)))) (
  impl_numberOf.l0 N s1 t6 (Go.bits .or .u64 (shlI .u64 n 8) (IntKind.u64.wrap ((bytesL s1).getD (Int.toNat t7) 0))) (IntKind.i64.wrap (t7 + 1))))
  (
  some (((n, ()), ()))) := by kernel_rfl
set_option maxRecDepth 100000 in
theorem impl_numberOf.eq (N : Nat) (s : ByteArray) : impl_numberOf N s =
 andK (impl_numberOf.l0 N s (s.size : Int) 0 0) fun l1 =>
 some ((l1.1.1, ()), ()) := by kernel_rfl
set_option maxRecDepth 100000 in
theorem impl_numberOf.say (N : Nat) : SayOk Try.prog (impl_numberOf.S N) := sayOk_mk (N := N) (H := impl_numberOf.H) (preps := [⟨[], [], [], []⟩]) (l := impl_numberOf.says) (fn := Try.f88) (c := bodyOf Try.f88)
  (by kernel_rfl) (by kernel_rfl) (by kernel_rfl) (by kernel_rfl) (by kernel_rfl) (by kernel_rfl) (by kernel_rfl)
  (fun N => SayAll.nil) (fun a s => by kernel_rfl)

/-! ### math/bits.RotateLeft32: function 121 -/
noncomputable def math_bits_RotateLeft32.H : Hints := hintsOf []
noncomputable def math_bits_RotateLeft32.says (N : Nat) : List Say := []
noncomputable def math_bits_RotateLeft32.call (N : Nat) : CallK := callBy (math_bits_RotateLeft32.says N)
noncomputable def math_bits_RotateLeft32.qt (N : Nat) : FuncId → List PV → Sig → Cl := qtBy (math_bits_RotateLeft32.says N)
noncomputable def math_bits_RotateLeft32 (N : Nat) (x : Int) (k : Int) : Option ((Int × Unit) × Unit) :=
  ofFn Try.prog math_bits_RotateLeft32.call math_bits_RotateLeft32.qt math_bits_RotateLeft32.H N Try.f121 [.one (.sh (.int .u32)), ak_i] [] [.one (.sh (.int .u32))] [] [⟨[], [], [], []⟩] (x, (k, ())) ()
noncomputable def math_bits_RotateLeft32.S (N : Nat) : Say := ⟨false, 121, [.one (.sh (.int .u32)), ak_i], [], [.one (.sh (.int .u32))], [], fun a s => math_bits_RotateLeft32 N a.1 a.2.1⟩
set_option maxRecDepth 100000 in
theorem math_bits_RotateLeft32.eq (N : Nat) (x : Int) (k : Int) : math_bits_RotateLeft32 N x k =
 chk (decide (0 ≤ (Go.bits .and .u64 (IntKind.u64.wrap k) 31))) (
 chk (decide (0 ≤ (IntKind.u64.wrap (32 - (Go.bits .and .u64 (IntKind.u64.wrap k) 31))))) (
 some (((Go.bits .or .u32 (shlI .u32 x (Go.bits .and .u64 (IntKind.u64.wrap k) 31)) (shrI .u32 x (IntKind.u64.wrap (32 - (Go.bits .and .u64 (IntKind.u64.wrap k) 31))))), ()), ()))) := by kernel_rfl
set_option maxRecDepth 100000 in
theorem math_bits_RotateLeft32.say (N : Nat) : SayOk Try.prog (math_bits_RotateLeft32.S N) := sayOk_mk (N := N) (H := math_bits_RotateLeft32.H) (preps := [⟨[], [], [], []⟩]) (l := math_bits_RotateLeft32.says) (fn := Try.f121) (c := bodyOf Try.f121)
  (by kernel_rfl) (by kernel_rfl) (by kernel_rfl) (by kernel_rfl) (by kernel_rfl) (by kernel_rfl) (by kernel_rfl)
  (fun N => SayAll.nil) (fun a s => by kernel_rfl)

/-! ### loop.example/g00206/impl.right: function 89 -/
noncomputable def impl_right.H : Hints := hintsOf []
noncomputable def impl_right.says (N : Nat) : List Say := [math_bits_RotateLeft32.S N]
noncomputable def impl_right.call (N : Nat) : CallK := callBy (impl_right.says N)
noncomputable def impl_right.qt (N : Nat) : FuncId → List PV → Sig → Cl := qtBy (impl_right.says N)
noncomputable def impl_right (N : Nat) (w : Int) (byv : Int) : Option ((Int × Unit) × Unit) :=
  ofFn Try.prog impl_right.call impl_right.qt impl_right.H N Try.f89 [.one (.sh (.int .u32)), ak_i] [] [.one (.sh (.int .u32))] [] [⟨[], [], [], []⟩] (w, (byv, ())) ()
noncomputable def impl_right.S (N : Nat) : Say := ⟨false, 89, [.one (.sh (.int .u32)), ak_i], [], [.one (.sh (.int .u32))], [], fun a s => impl_right N a.1 a.2.1⟩
set_option maxRecDepth 100000 in
theorem impl_right.eq (N : Nat) (w : Int) (byv : Int) : impl_right N w byv =
 andK (math_bits_RotateLeft32 N w (IntKind.i64.wrap (0 - byv))) fun u1 =>
 some ((u1.1.1, ()), ()) := by kernel_rfl
set_option maxRecDepth 100000 in
theorem impl_right.say (N : Nat) : SayOk Try.prog (impl_right.S N) := sayOk_mk (N := N) (H := impl_right.H) (preps := [⟨[], [], [], []⟩]) (l := impl_right.says) (fn := Try.f89) (c := bodyOf Try.f89)
  (by kernel_rfl) (by kernel_rfl) (by kernel_rfl) (by kernel_rfl) (by kernel_rfl) (by kernel_rfl) (by kernel_rfl)
  (fun N => SayAll.cons (math_bits_RotateLeft32.say N) (SayAll.nil)) (fun a s => by kernel_rfl)

/-! ### loop.example/g00206/impl.hashFrom: function 47 -/
noncomputable def impl_hashFrom.H : Hints := hintsOf [(9, .join [⟨.normal, [0, 1, 2, 22], [7], [.one (.apl 0 0 64)], [.rows (.int .u32)], [⟨[], [], [], []⟩]⟩]),
  (2000003, .loop ⟨.normal, [0, 1, 2], [7, 22], [.one (.apl 0 0 64), ak_i], [.rows (.int .u32)], [⟨[], [], [], []⟩]⟩ [⟨(.exit 0), [0, 2], [7], [.one (.apl 0 0 64)], [.rows (.int .u32)], [⟨[], [], [], []⟩]⟩]),
  (2000012, .loop ⟨.normal, [0, 2, 79], [11, 80], [.one (.apl 1 0 8), ak_i], [.rows (.int .u32), .rows (.int .u32)], [⟨[], [], [], []⟩]⟩ [⟨(.exit 2), [0], [11], [.one (.apl 1 0 8)], [.rows (.int .u32), .rows (.int .u32)], [⟨[], [], [], []⟩]⟩]),
  (2000021, .loop ⟨.normal, [0, 163], [18, 164], [.one (.own 2), ak_i], [.rows (.int .u32), .rows (.int .u32), .rows (.int .u32)], [⟨[(18, (.int .u32))], [], [], [2]⟩, ⟨[], [], [], [2]⟩]⟩ [⟨(.exit 4), [], [18], [.one (.own 2)], [.rows (.int .u32), .rows (.int .u32), .rows (.int .u32)], [⟨[], [], [], [2]⟩]⟩])]
noncomputable def impl_hashFrom.says (N : Nat) : List Say := [impl_numberOf.S N, impl_right.S N]
noncomputable def impl_hashFrom.call (N : Nat) : CallK := callBy (impl_hashFrom.says N)
noncomputable def impl_hashFrom.qt (N : Nat) : FuncId → List PV → Sig → Cl := qtBy (impl_hashFrom.says N)
noncomputable def impl_hashFrom.l0.hd : Alt := ⟨.normal, [0, 1, 2], [7, 22], [.one (.apl 0 0 64), ak_i], [.rows (.int .u32)], [⟨[], [], [], []⟩]⟩
noncomputable def impl_hashFrom.l0.outs : List Alt := [⟨(.exit 0), [0, 2], [7], [.one (.apl 0 0 64)], [.rows (.int .u32)], [⟨[], [], [], []⟩]⟩]
noncomputable def impl_hashFrom.l0 (N : Nat) (G1 : (List Int)) (o1 : ByteArray) (t1 : (List Int)) (t22 : Int) (p0 : (List Int)) : Option ((Unit × Unit) × ((List Int) × Unit)) :=
  loopK Try.prog impl_hashFrom.call impl_hashFrom.qt impl_hashFrom.H (codeAt (bodyOf Try.f47) [1, 1, 0, 1, 0, 0]) 1 impl_hashFrom.l0.hd impl_hashFrom.l0.outs [(0, .rows false (.int .u32) G1), (1, .v (.string o1)), (2, .rows false (.int .u32) t1)] N (((), (t22, ())), (p0, ()))
noncomputable def impl_hashFrom.l1.hd : Alt := ⟨.normal, [0, 2, 79], [11, 80], [.one (.apl 1 0 8), ak_i], [.rows (.int .u32), .rows (.int .u32)], [⟨[], [], [], []⟩]⟩
noncomputable def impl_hashFrom.l1.outs : List Alt := [⟨(.exit 2), [0], [11], [.one (.apl 1 0 8)], [.rows (.int .u32), .rows (.int .u32)], [⟨[], [], [], []⟩]⟩]
noncomputable def impl_hashFrom.l1 (N : Nat) (G2 : (List Int)) (t2 : (List Int)) (t79 : (List Int)) (t80 : Int) (p01 : (List Int)) (p1 : (List Int)) : Option ((Unit × Unit) × ((List Int) × ((List Int) × Unit))) :=
  loopK Try.prog impl_hashFrom.call impl_hashFrom.qt impl_hashFrom.H (codeAt (bodyOf Try.f47) [1, 1, 1, 1, 0, 1, 0, 0]) 2 impl_hashFrom.l1.hd impl_hashFrom.l1.outs [(0, .rows false (.int .u32) G2), (2, .rows false (.int .u32) t2), (79, .arr .u32 t79)] N (((), (t80, ())), (p01, (p1, ())))
noncomputable def impl_hashFrom.l2.hd : Alt := ⟨.normal, [0, 163], [18, 164], [.one (.own 2), ak_i], [.rows (.int .u32), .rows (.int .u32), .rows (.int .u32)], [⟨[(18, (.int .u32))], [], [], [2]⟩, ⟨[], [], [], [2]⟩]⟩
noncomputable def impl_hashFrom.l2.outs : List Alt := [⟨(.exit 4), [], [18], [.one (.own 2)], [.rows (.int .u32), .rows (.int .u32), .rows (.int .u32)], [⟨[], [], [], [2]⟩]⟩]
noncomputable def impl_hashFrom.l2 (N : Nat) (G3 : (List Int)) (t163 : (List Int)) (t164 : Int) (p02 : (List Int)) (p11 : (List Int)) (p2 : (List Int)) : Option ((Unit × Unit) × ((List Int) × ((List Int) × ((List Int) × Unit)))) :=
  loopK Try.prog impl_hashFrom.call impl_hashFrom.qt impl_hashFrom.H (codeAt (bodyOf Try.f47) [1, 1, 1, 1, 1, 1, 0, 1, 0, 0]) 2 impl_hashFrom.l2.hd impl_hashFrom.l2.outs [(0, .rows false (.int .u32) G3), (163, .arr .u32 t163)] N (((), (t164, ())), (p02, (p11, (p2, ()))))
noncomputable def impl_hashFrom (N : Nat) (G : (List Int)) (o : ByteArray) (t : (List Int)) : Option ((Unit × Unit) × ((List Int) × Unit)) :=
  ofFn Try.prog impl_hashFrom.call impl_hashFrom.qt impl_hashFrom.H N Try.f47 [.one (.sh (.rows (.int .u32))), ak_s, .one (.sh (.rows (.int .u32)))] [] [.one (.own 0)] [.rows (.int .u32)] [⟨[], [], [], [2]⟩] (G, (o, (t, ()))) ()
noncomputable def impl_hashFrom.S (N : Nat) : Say := ⟨false, 47, [.one (.sh (.rows (.int .u32))), ak_s, .one (.sh (.rows (.int .u32)))], [], [.one (.own 0)], [.rows (.int .u32)], fun a s => impl_hashFrom N a.1 a.2.1 a.2.2.1⟩
set_option maxRecDepth 100000 in
theorem impl_hashFrom.l2.eq (N : Nat) (G3 : (List Int)) (t163 : (List Int)) (t164 : Int) (p02 : (List Int)) (p11 : (List Int)) (p2 : (List Int)) : impl_hashFrom.l2 (N + 1) G3 t163 t164 p02 p11 p2 =
 sel (decide (t164 < 8))
  (
  chk ((decide (0 ≤ t164)) && ((decide (t164 < 8)) && (decide (t164 < (t163.length : Int))))) (
  chk ((decide (0 ≤ t164)) && (decide (t164 < (G3.length : Int)))) (
  chk (decide (p2.length + 1 < most)) (
  impl_hashFrom.l2 N G3 t163 (IntKind.i64.wrap (t164 + 1)) p02 p11 (p2 ++ [(IntKind.u32.wrap ((G3.getD (Int.toNat t164) 0) + (t163.getD (Int.toNat t164) 0)))])))))
  (
  some ((((), ()), (p02, (p11, (p2, ())))))) := by kernel_rfl
set_option maxRecDepth 100000 in
theorem impl_hashFrom.l1.eq (N : Nat) (G2 : (List Int)) (t2 : (List Int)) (t79 : (List Int)) (t80 : Int) (p01 : (List Int)) (p1 : (List Int)) : impl_hashFrom.l1 (N + 1) G2 t2 t79 t80 p01 p1 =
 sel (decide (t80 < 64))
  (
  chk ((decide (0 ≤ t80)) && ((decide (t80 < 64)) && (decide (t80 < (t79.length : Int))))) (
  andK (impl_right N (p1.getD 4 0) 6) fun u8 =>
  andK (impl_right N (p1.getD 4 0) 11) fun u9 =>
  andK (impl_right N (p1.getD 4 0) 25) fun u10 =>
  chk ((decide (0 ≤ t80)) && (decide (t80 < (t2.length : Int)))) (
  andK (impl_right N (p1.getD 0 0) 2) fun u11 =>
  andK (impl_right N (p1.getD 0 0) 13) fun u12 =>
  andK (impl_right N (p1.getD 0 0) 22) fun u13 =>
  chk ((decide (p1.length = 8)) && true) (
  impl_hashFrom.l1 N G2 t2 t79 (IntKind.i64.wrap (t80 + 1)) p01 [(IntKind.u32.wrap ((IntKind.u32.wrap ((IntKind.u32.wrap ((IntKind.u32.wrap ((IntKind.u32.wrap ((p1.getD 7 0) + (Go.bits .xor .u32 (Go.bits .xor .u32 u8.1.1 u9.1.1) u10.1.1))) + (Go.bits .xor .u32 (Go.bits .and .u32 (p1.getD 4 0) (p1.getD 5 0)) (Go.bits .and .u32 (Go.bits .xor .u32 4294967295 (p1.getD 4 0)) (p1.getD 6 0))))) + (t2.getD (Int.toNat t80) 0))) + (t79.getD (Int.toNat t80) 0))) + (IntKind.u32.wrap ((Go.bits .xor .u32 (Go.bits .xor .u32 u11.1.1 u12.1.1) u13.1.1) + (Go.bits .xor .u32 (Go.bits .xor .u32 (Go.bits .and .u32 (p1.getD 0 0) (p1.getD 1 0)) (Go.bits .and .u32 (p1.getD 0 0) (p1.getD 2 0))) (Go.bits .and .u32 (p1.getD 1 0) (p1.getD 2 0))))))), (p1.getD 0 0), (p1.getD 1 0), (p1.getD 2 0), (IntKind.u32.wrap ((p1.getD 3 0) + (IntKind.u32.wrap ((IntKind.u32.wrap ((IntKind.u32.wrap ((IntKind.u32.wrap ((p1.getD 7 0) + (Go.bits .xor .u32 (Go.bits .xor .u32 u8.1.1 u9.1.1) u10.1.1))) + (Go.bits .xor .u32 (Go.bits .and .u32 (p1.getD 4 0) (p1.getD 5 0)) (Go.bits .and .u32 (Go.bits .xor .u32 4294967295 (p1.getD 4 0)) (p1.getD 6 0))))) + (t2.getD (Int.toNat t80) 0))) + (t79.getD (Int.toNat t80) 0))))), (p1.getD 4 0), (p1.getD 5 0), (p1.getD 6 0)]))))
  (
  some ((((), ()), (p01, (p1, ()))))) := by kernel_rfl
set_option maxRecDepth 100000 in
theorem impl_hashFrom.l0.eq (N : Nat) (G1 : (List Int)) (o1 : ByteArray) (t1 : (List Int)) (t22 : Int) (p0 : (List Int)) : impl_hashFrom.l0 (N + 1) G1 o1 t1 t22 p0 =
 sel (decide (t22 < 64))
  (
  andK (α := ((Unit × Unit) × ((List Int) × Unit))) (
   sel (decide (t22 < 16))
    (
    chk ((decide (0 ≤ (IntKind.i64.wrap (4 * t22)))) && ((decide ((IntKind.i64.wrap (4 * t22)) ≤ (IntKind.i64.wrap ((IntKind.i64.wrap (4 * t22)) + 4)))) && (decide ((IntKind.i64.wrap ((IntKind.i64.wrap (4 * t22)) + 4)) ≤ (o1.size : Int))))) (
    andK (impl_numberOf N (o1.extract (Int.toNat (IntKind.i64.wrap (4 * t22))) (Int.toNat (IntKind.i64.wrap ((IntKind.i64.wrap (4 * t22)) + 4))))) fun u1 =>
    chk ((decide (0 ≤ t22)) && (decide (t22 < 64))) (
    some ((((), ()), ((p0.set (0 + (Int.toNat t22)) (IntKind.u32.wrap u1.1.1)), ()))))))
    (
    chk ((decide (0 ≤ (IntKind.i64.wrap (t22 - 15)))) && (decide ((IntKind.i64.wrap (t22 - 15)) < 64))) (
    chk ((decide (0 ≤ (IntKind.i64.wrap (t22 - 2)))) && (decide ((IntKind.i64.wrap (t22 - 2)) < 64))) (
    chk ((decide (0 ≤ (IntKind.i64.wrap (t22 - 16)))) && (decide ((IntKind.i64.wrap (t22 - 16)) < 64))) (
    andK (impl_right N (p0.getD (0 + (Int.toNat (IntKind.i64.wrap (t22 - 15)))) 0) 7) fun u2 =>
    andK (impl_right N (p0.getD (0 + (Int.toNat (IntKind.i64.wrap (t22 - 15)))) 0) 18) fun u3 =>
    chk ((decide (0 ≤ (IntKind.i64.wrap (t22 - 7)))) && (decide ((IntKind.i64.wrap (t22 - 7)) < 64))) (
    andK (impl_right N (p0.getD (0 + (Int.toNat (IntKind.i64.wrap (t22 - 2)))) 0) 17) fun u4 =>
    andK (impl_right N (p0.getD (0 + (Int.toNat (IntKind.i64.wrap (t22 - 2)))) 0) 19) fun u5 =>
    chk ((decide (0 ≤ t22)) && (decide (t22 < 64))) (
    some ((((), ()), ((p0.set (0 + (Int.toNat t22)) (IntKind.u32.wrap ((IntKind.u32.wrap ((IntKind.u32.wrap ((p0.getD (0 + (Int.toNat (IntKind.i64.wrap (t22 - 16)))) 0) + (Go.bits .xor .u32 (Go.bits .xor .u32 u2.1.1 u3.1.1) (shrI .u32 (p0.getD (0 + (Int.toNat (IntKind.i64.wrap (t22 - 15)))) 0) 3)))) + (p0.getD (0 + (Int.toNat (IntKind.i64.wrap (t22 - 7)))) 0))) + (Go.bits .xor .u32 (Go.bits .xor .u32 u4.1.1 u5.1.1) (shrI .u32 (p0.getD (0 + (Int.toNat (IntKind.i64.wrap (t22 - 2)))) 0) 10))))), ())))))))))) fun j6 =>
  impl_hashFrom.l0 N G1 o1 t1 (IntKind.i64.wrap (t22 + 1)) j6.2.1)
  (
  some ((((), ()), (p0, ())))) := by kernel_rfl
set_option maxRecDepth 100000 in
theorem impl_hashFrom.eq (N : Nat) (G : (List Int)) (o : ByteArray) (t : (List Int)) : impl_hashFrom N G o t =
 chk ((decide ((List.replicate 64 (0 : Int)).length = 64)) && true) (
 andK (impl_hashFrom.l0 N G o t 0 [0, 0, 0, 0, 0, 0, 0, 0, 0, 0, 0, 0, 0, 0, 0, 0, 0, 0, 0, 0, 0, 0, 0, 0, 0, 0, 0, 0, 0, 0, 0, 0, 0, 0, 0, 0, 0, 0, 0, 0, 0, 0, 0, 0, 0, 0, 0, 0, 0, 0, 0, 0, 0, 0, 0, 0, 0, 0, 0, 0, 0, 0, 0, 0]) fun l7 =>
 chk (decide (8 ≤ G.length)) (
 chk ((decide ((List.replicate 8 (0 : Int)).length = 8)) && (decide ((G.take 8).length = 8))) (
 andK (impl_hashFrom.l1 N G t ((l7.2.1.drop 0).take 64) 0 l7.2.1 (G.take 8)) fun l14 =>
 andK (impl_hashFrom.l2 N G ((l14.2.2.1.drop 0).take 8) 0 l14.2.1 l14.2.2.1 []) fun l15 =>
 some (((), ()), (l15.2.2.2.1, ()))))) := by kernel_rfl
set_option maxRecDepth 100000 in
theorem impl_hashFrom.say (N : Nat) : SayOk Try.prog (impl_hashFrom.S N) := sayOk_mk (N := N) (H := impl_hashFrom.H) (preps := [⟨[], [], [], [2]⟩]) (l := impl_hashFrom.says) (fn := Try.f47) (c := bodyOf Try.f47)
  (by kernel_rfl) (by kernel_rfl) (by kernel_rfl) (by kernel_rfl) (by kernel_rfl) (by kernel_rfl) (by kernel_rfl)
  (fun N => SayAll.cons (impl_numberOf.say N) (SayAll.cons (impl_right.say N) (SayAll.nil))) (fun a s => by kernel_rfl)
noncomputable def impl_hashFrom.SB (N : Nat) : Say := impl_hashFrom.S N |>.lent
theorem impl_hashFrom.sayB (N : Nat) : SayOk Try.prog (impl_hashFrom.SB N) := (impl_hashFrom.say N).lent

/-! ### (*strings.Builder).copyCheck: function 116 -/
noncomputable def strings_Builder_copyCheck.H : Hints := hintsOf [(8000001, .alts [10])]
noncomputable def strings_Builder_copyCheck.says (N : Nat) : List Say := []
noncomputable def strings_Builder_copyCheck.call (N : Nat) : CallK := callBy (strings_Builder_copyCheck.says N)
noncomputable def strings_Builder_copyCheck.qt (N : Nat) : FuncId → List PV → Sig → Cl := qtBy (strings_Builder_copyCheck.says N)
noncomputable def strings_Builder_copyCheck (N : Nat) (p0_0 : Bool) (p1 : (List Int)) : Option (Unit × ((Bool × (Unit × Unit)) × ((List Int) × Unit))) :=
  ofFn Try.prog strings_Builder_copyCheck.call strings_Builder_copyCheck.qt strings_Builder_copyCheck.H N Try.f116 [.one (.ptr 0 0)] [.cells [.bp 0 94 5, .ot 1 5], .rows (.int .u8)] [] [.cells [.bp 0 94 5, .ot 1 5], .rows (.int .u8) true] [⟨[], [], [], []⟩] ((), ()) ((p0_0, ((), ())), (p1, ()))
noncomputable def strings_Builder_copyCheck.S (N : Nat) : Say := ⟨false, 116, [.one (.ptr 0 0)], [.cells [.bp 0 94 5, .ot 1 5], .rows (.int .u8)], [], [.cells [.bp 0 94 5, .ot 1 5], .rows (.int .u8) true], fun a s => strings_Builder_copyCheck N s.1.1 s.2.1⟩
set_option maxRecDepth 100000 in
theorem strings_Builder_copyCheck.eq (N : Nat) (p0_0 : Bool) (p1 : (List Int)) : strings_Builder_copyCheck N p0_0 p1 =
 sel (!p0_0)
  (
  some ((), ((true, ((), ())), (p1, ()))))
  (
  sel (!p0_0)
   (
   none)
   (
   some ((), ((p0_0, ((), ())), (p1, ()))))) := by kernel_rfl
set_option maxRecDepth 100000 in
theorem strings_Builder_copyCheck.say (N : Nat) : SayOk Try.prog (strings_Builder_copyCheck.S N) := sayOk_mk (N := N) (H := strings_Builder_copyCheck.H) (preps := [⟨[], [], [], []⟩]) (l := strings_Builder_copyCheck.says) (fn := Try.f116) (c := bodyOf Try.f116)
  (by kernel_rfl) (by kernel_rfl) (by kernel_rfl) (by kernel_rfl) (by kernel_rfl) (by kernel_rfl) (by kernel_rfl)
  (fun N => SayAll.nil) (fun a s => by kernel_rfl)

/-! ### (*strings.Builder).WriteString: function 83 -/
noncomputable def strings_Builder_WriteString.H : Hints := hintsOf []
noncomputable def strings_Builder_WriteString.says (N : Nat) : List Say := [strings_Builder_copyCheck.S N]
noncomputable def strings_Builder_WriteString.call (N : Nat) : CallK := callBy (strings_Builder_WriteString.says N)
noncomputable def strings_Builder_WriteString.qt (N : Nat) : FuncId → List PV → Sig → Cl := qtBy (strings_Builder_WriteString.says N)
noncomputable def strings_Builder_WriteString (N : Nat) (s : ByteArray) (p0_0 : Bool) (p1 : (List Int)) : Option ((Int × (Unit × Unit)) × ((Bool × (Unit × Unit)) × ((List Int) × Unit))) :=
  ofFn Try.prog strings_Builder_WriteString.call strings_Builder_WriteString.qt strings_Builder_WriteString.H N Try.f83 [.one (.ptr 0 0), ak_s] [.cells [.bp 0 94 5, .ot 1 5], .rows (.int .u8)] [ak_i, .any] [.cells [.bp 0 94 5, .ot 1 5], .rows (.int .u8)] [⟨[], [], [], []⟩] ((), (s, ())) ((p0_0, ((), ())), (p1, ()))
noncomputable def strings_Builder_WriteString.S (N : Nat) : Say := ⟨false, 83, [.one (.ptr 0 0), ak_s], [.cells [.bp 0 94 5, .ot 1 5], .rows (.int .u8)], [ak_i, .any], [.cells [.bp 0 94 5, .ot 1 5], .rows (.int .u8)], fun a s => strings_Builder_WriteString N a.2.1 s.1.1 s.2.1⟩
set_option maxRecDepth 100000 in
theorem strings_Builder_WriteString.eq (N : Nat) (s : ByteArray) (p0_0 : Bool) (p1 : (List Int)) : strings_Builder_WriteString N s p0_0 p1 =
 andK (strings_Builder_copyCheck N p0_0 p1) fun u1 =>
 chk ((decide (0 < (bytesL s).length)) && (decide (u1.2.2.1.length + (bytesL s).length < most))) (
 some (((s.size : Int), ((), ())), ((u1.2.1.1, ((), ())), ((u1.2.2.1 ++ (bytesL s)), ())))) := by kernel_rfl
set_option maxRecDepth 100000 in
theorem strings_Builder_WriteString.say (N : Nat) : SayOk Try.prog (strings_Builder_WriteString.S N) := sayOk_mk (N := N) (H := strings_Builder_WriteString.H) (preps := [⟨[], [], [], []⟩]) (l := strings_Builder_WriteString.says) (fn := Try.f83) (c := bodyOf Try.f83)
  (by kernel_rfl) (by kernel_rfl) (by kernel_rfl) (by kernel_rfl) (by kernel_rfl) (by kernel_rfl) (by kernel_rfl)
  (fun N => SayAll.cons (strings_Builder_copyCheck.say N) (SayAll.nil)) (fun a s => by kernel_rfl)

/-! ### (*strings.Builder).String: function 84 -/
noncomputable def strings_Builder_String.H : Hints := hintsOf []
noncomputable def strings_Builder_String.says (N : Nat) : List Say := []
noncomputable def strings_Builder_String.call (N : Nat) : CallK := callBy (strings_Builder_String.says N)
noncomputable def strings_Builder_String.qt (N : Nat) : FuncId → List PV → Sig → Cl := qtBy (strings_Builder_String.says N)
noncomputable def strings_Builder_String (N : Nat) (p0_0 : Bool) (p1 : (List Int)) : Option ((ByteArray × Unit) × ((Bool × (Unit × Unit)) × (Unit × Unit))) :=
  ofFn Try.prog strings_Builder_String.call strings_Builder_String.qt strings_Builder_String.H N Try.f84 [.one (.ptr 0 0)] [.cells [.bp 0 94 5, .ot 1 5], .rows (.int .u8)] [ak_s] [.cells [.bp 0 94 5, .any], .gone] [⟨[], [], [], []⟩] ((), ()) ((p0_0, ((), ())), (p1, ()))
noncomputable def strings_Builder_String.S (N : Nat) : Say := ⟨false, 84, [.one (.ptr 0 0)], [.cells [.bp 0 94 5, .ot 1 5], .rows (.int .u8)], [ak_s], [.cells [.bp 0 94 5, .any], .gone], fun a s => strings_Builder_String N s.1.1 s.2.1⟩
set_option maxRecDepth 100000 in
theorem strings_Builder_String.eq (N : Nat) (p0_0 : Bool) (p1 : (List Int)) : strings_Builder_String N p0_0 p1 =
 chk (decide (0 < p1.length)) (
 chk ((decide ((p1.length : Int) = (p1.length : Int))) && ((decide (0 < p1.length)) && (decide (p1.length ≤ 9223372036854775807)))) (
 some (((strL p1), ()), ((p0_0, ((), ())), ((), ()))))) := by kernel_rfl
set_option maxRecDepth 100000 in
theorem strings_Builder_String.say (N : Nat) : SayOk Try.prog (strings_Builder_String.S N) := sayOk_mk (N := N) (H := strings_Builder_String.H) (preps := [⟨[], [], [], []⟩]) (l := strings_Builder_String.says) (fn := Try.f84) (c := bodyOf Try.f84)
  (by kernel_rfl) (by kernel_rfl) (by kernel_rfl) (by kernel_rfl) (by kernel_rfl) (by kernel_rfl) (by kernel_rfl)
  (fun N => SayAll.nil) (fun a s => by kernel_rfl)

/-! ### loop.example/g00206/impl.sha: function 44 -/
noncomputable def impl_sha.H : Hints := hintsOf [(2000006, .loop ⟨.normal, [0], [4, 5, 6], [.one (.sh (.rows (.int .u32))), .one (.own 1), ak_i], [.gone, .rows (.int .u32)], [⟨[], [], [0], []⟩, ⟨[], [], [2], []⟩]⟩ [⟨(.exit 0), [], [4], [.one (.sh (.rows (.int .u32)))], [.gone, .rows (.int .u32)], [⟨[], [], [], []⟩]⟩]),
  (2000011, .loop ⟨.normal, [44, 45], [7, 46], [.one (.ptr 2 0), ak_i], [.gone, .rows (.int .u32), .cells [.bp 2 94 5, .ot 3 5], .rows (.int .u8)], [⟨[], [(2, (1, (.int .u8)))], [], [3]⟩, ⟨[], [], [], [3]⟩]⟩ [⟨(.exit 2), [], [7], [.one (.ptr 2 0)], [.gone, .rows (.int .u32), .cells [.bp 2 94 5, .ot 3 5], .rows (.int .u8)], [⟨[], [], [], [3]⟩]⟩])]
noncomputable def impl_sha.says (N : Nat) : List Say := [strings_Repeat.S N, impl_bigEndian.S N, impl_firstState.S N, impl_RoundWords.S N, impl_hashFrom.SB N, strings_Builder_WriteString.S N, strings_Builder_String.S N]
noncomputable def impl_sha.call (N : Nat) : CallK := callBy (impl_sha.says N)
noncomputable def impl_sha.qt (N : Nat) : FuncId → List PV → Sig → Cl := qtBy (impl_sha.says N)
noncomputable def impl_sha.l0.hd : Alt := ⟨.normal, [0], [4, 5, 6], [.one (.sh (.rows (.int .u32))), .one (.own 1), ak_i], [.gone, .rows (.int .u32)], [⟨[], [], [0], []⟩, ⟨[], [], [2], []⟩]⟩
noncomputable def impl_sha.l0.outs : List Alt := [⟨(.exit 0), [], [4], [.one (.sh (.rows (.int .u32)))], [.gone, .rows (.int .u32)], [⟨[], [], [], []⟩]⟩]
noncomputable def impl_sha.l0 (N : Nat) (s1 : ByteArray) (state : (List Int)) (i : Int) (p1 : (List Int)) : Option (((List Int) × Unit) × (Unit × ((List Int) × Unit))) :=
  loopK Try.prog impl_sha.call impl_sha.qt impl_sha.H (codeAt (bodyOf Try.f44) [1, 1, 1, 1, 1, 0, 1, 0, 0]) 2 impl_sha.l0.hd impl_sha.l0.outs [(0, .v (.string s1))] N ((state, ((), (i, ()))), ((), (p1, ())))
noncomputable def impl_sha.l1.hd : Alt := ⟨.normal, [44, 45], [7, 46], [.one (.ptr 2 0), ak_i], [.gone, .rows (.int .u32), .cells [.bp 2 94 5, .ot 3 5], .rows (.int .u8)], [⟨[], [(2, (1, (.int .u8)))], [], [3]⟩, ⟨[], [], [], [3]⟩]⟩
noncomputable def impl_sha.l1.outs : List Alt := [⟨(.exit 2), [], [7], [.one (.ptr 2 0)], [.gone, .rows (.int .u32), .cells [.bp 2 94 5, .ot 3 5], .rows (.int .u8)], [⟨[], [], [], [3]⟩]⟩]
noncomputable def impl_sha.l1 (N : Nat) (t44 : (List Int)) (t45 : Int) (t46 : Int) (p11 : (List Int)) (p2_0 : Bool) (p3 : (List Int)) : Option ((Unit × Unit) × (Unit × ((List Int) × ((Bool × (Unit × Unit)) × ((List Int) × Unit))))) :=
  loopK Try.prog impl_sha.call impl_sha.qt impl_sha.H (codeAt (bodyOf Try.f44) [1, 1, 1, 1, 1, 1, 1, 0, 1, 0, 0]) 3 impl_sha.l1.hd impl_sha.l1.outs [(44, .rows false (.int .u32) t44), (45, .v (.int .i64 t45))] N (((), (t46, ())), ((), (p11, ((p2_0, ((), ())), (p3, ())))))
noncomputable def impl_sha (N : Nat) (s : ByteArray) : Option ((ByteArray × Unit) × Unit) :=
  ofFn Try.prog impl_sha.call impl_sha.qt impl_sha.H N Try.f44 [ak_s] [] [ak_s] [] [⟨[], [], [], []⟩] (s, ()) ()
noncomputable def impl_sha.S (N : Nat) : Say := ⟨false, 44, [ak_s], [], [ak_s], [], fun a s => impl_sha N a.1⟩
set_option maxRecDepth 100000 in
theorem impl_sha.l1.eq (N : Nat) (t44 : (List Int)) (t45 : Int) (t46 : Int) (p11 : (List Int)) (p2_0 : Bool) (p3 : (List Int)) : impl_sha.l1 (N + 1) t44 t45 t46 p11 p2_0 p3 =
 sel (decide (t46 < t45))
  (
  chk ((decide (0 ≤ t46)) && (decide (t46 < (t44.length : Int)))) (
  andK (impl_bigEndian N (IntKind.u64.wrap (t44.getD (Int.toNat t46) 0)) 4) fun u7 =>
  andK (strings_Builder_WriteString N u7.1.1 p2_0 p3) fun u8 =>
  impl_sha.l1 N t44 t45 (IntKind.i64.wrap (t46 + 1)) p11 u8.2.1.1 u8.2.2.1))
  (
  some ((((), ()), ((), (p11, ((p2_0, ((), ())), (p3, ()))))))) := by kernel_rfl
set_option maxRecDepth 100000 in
theorem impl_sha.l0.eq (N : Nat) (s1 : ByteArray) (state : (List Int)) (i : Int) (p1 : (List Int)) : impl_sha.l0 (N + 1) s1 state i p1 =
 sel (decide (i < (s1.size : Int)))
  (
  chk ((decide (0 ≤ i)) && ((decide (i ≤ (IntKind.i64.wrap (i + 64)))) && (decide ((IntKind.i64.wrap (i + 64)) ≤ (s1.size : Int))))) (
  andK (impl_hashFrom N state (s1.extract (Int.toNat i) (Int.toNat (IntKind.i64.wrap (i + 64)))) p1) fun u5 =>
  impl_sha.l0 N s1 u5.2.1 (IntKind.i64.wrap (i + 64)) p1))
  (
  some (((state, ()), ((), (p1, ()))))) := by kernel_rfl
set_option maxRecDepth 100000 in
theorem impl_sha.eq (N : Nat) (s : ByteArray) : impl_sha N s =
 chk (decide (s.size + 1 ≤ 9223372036854775807)) (
 andK (strings_Repeat N (⟨#[0]⟩ : ByteArray) (Int.tmod (IntKind.i64.wrap (120 - (Int.tmod ((s ++ (⟨#[128]⟩ : ByteArray)).size : Int) 64))) 64)) fun u1 =>
 andK (impl_bigEndian N (IntKind.u64.wrap (IntKind.i64.wrap (8 * (s.size : Int)))) 8) fun u2 =>
 chk (decide (u1.1.1.size + u2.1.1.size ≤ 9223372036854775807)) (
 chk (decide ((s ++ (⟨#[128]⟩ : ByteArray)).size + (u1.1.1 ++ u2.1.1).size ≤ 9223372036854775807)) (
 andK (impl_firstState N) fun u3 =>
 andK (impl_RoundWords N) fun u4 =>
 andK (impl_sha.l0 N ((s ++ (⟨#[128]⟩ : ByteArray)) ++ (u1.1.1 ++ u2.1.1)) u3.2.1 0 u4.2.1) fun l6 =>
 andK (impl_sha.l1 N l6.1.1 (l6.1.1.length : Int) 0 l6.2.2.1 false []) fun l9 =>
 andK (strings_Builder_String N l9.2.2.2.1.1 l9.2.2.2.2.1) fun u10 =>
 some ((u10.1.1, ()), ())))) := by kernel_rfl
set_option maxRecDepth 100000 in
theorem impl_sha.say (N : Nat) : SayOk Try.prog (impl_sha.S N) := sayOk_mk (N := N) (H := impl_sha.H) (preps := [⟨[], [], [], []⟩]) (l := impl_sha.says) (fn := Try.f44) (c := bodyOf Try.f44)
  (by kernel_rfl) (by kernel_rfl) (by kernel_rfl) (by kernel_rfl) (by kernel_rfl) (by kernel_rfl) (by kernel_rfl)
  (fun N => SayAll.cons (strings_Repeat.say N) (SayAll.cons (impl_bigEndian.say N) (SayAll.cons (impl_firstState.say N) (SayAll.cons (impl_RoundWords.say N) (SayAll.cons (impl_hashFrom.sayB N) (SayAll.cons (strings_Builder_WriteString.say N) (SayAll.cons (strings_Builder_String.say N) (SayAll.nil)))))))) (fun a s => by kernel_rfl)

/-! ### loop.example/g00206/impl.padded: function 93 -/
noncomputable def impl_padded.H : Hints := hintsOf [(2000003, .loop ⟨.normal, [1, 10], [5, 11], [.one (.own 0), ak_i], [.rows (.int .u8)], [⟨[], [], [], []⟩]⟩ [⟨(.exit 0), [], [5], [.one (.own 0)], [.rows (.int .u8)], [⟨[], [], [], []⟩]⟩])]
noncomputable def impl_padded.says (N : Nat) : List Say := []
noncomputable def impl_padded.call (N : Nat) : CallK := callBy (impl_padded.says N)
noncomputable def impl_padded.qt (N : Nat) : FuncId → List PV → Sig → Cl := qtBy (impl_padded.says N)
noncomputable def impl_padded.l0.hd : Alt := ⟨.normal, [1, 10], [5, 11], [.one (.own 0), ak_i], [.rows (.int .u8)], [⟨[], [], [], []⟩]⟩
noncomputable def impl_padded.l0.outs : List Alt := [⟨(.exit 0), [], [5], [.one (.own 0)], [.rows (.int .u8)], [⟨[], [], [], []⟩]⟩]
noncomputable def impl_padded.l0 (N : Nat) (byv1 : Int) (t10 : Int) (t11 : Int) (p0 : (List Int)) : Option ((Unit × Unit) × ((List Int) × Unit)) :=
  loopK Try.prog impl_padded.call impl_padded.qt impl_padded.H (codeAt (bodyOf Try.f93) [1, 1, 0, 1, 0, 0]) 1 impl_padded.l0.hd impl_padded.l0.outs [(1, .v (.int .u8 byv1)), (10, .v (.int .i64 t10))] N (((), (t11, ())), (p0, ()))
noncomputable def impl_padded (N : Nat) (key : ByteArray) (byv : Int) : Option ((ByteArray × Unit) × Unit) :=
  ofFn Try.prog impl_padded.call impl_padded.qt impl_padded.H N Try.f93 [ak_s, .one (.sh (.int .u8))] [] [ak_s] [] [⟨[], [], [], []⟩] (key, (byv, ())) ()
noncomputable def impl_padded.S (N : Nat) : Say := ⟨false, 93, [ak_s, .one (.sh (.int .u8))], [], [ak_s], [], fun a s => impl_padded N a.1 a.2.1⟩
set_option maxRecDepth 100000 in
theorem impl_padded.l0.eq (N : Nat) (byv1 : Int) (t10 : Int) (t11 : Int) (p0 : (List Int)) : impl_padded.l0 (N + 1) byv1 t10 t11 p0 =
 sel (decide (t11 < t10))
  (
  chk ((decide (0 ≤ t11)) && (decide (t11 < (p0.length : Int)))) (
  chk ((decide (0 ≤ t11)) && (decide (t11 < (p0.length : Int)))) (
  impl_padded.l0 N byv1 t10 (IntKind.i64.wrap (t11 + 1)) (p0.set (Int.toNat t11) (Go.bits .xor .u8 (p0.getD (Int.toNat t11) 0) byv1)))))
  (
  some ((((), ()), (p0, ())))) := by kernel_rfl
set_option maxRecDepth 100000 in
theorem impl_padded.eq (N : Nat) (key : ByteArray) (byv : Int) : impl_padded N key byv =
 andK (impl_padded.l0 N byv ((bytesL key).length : Int) 0 (bytesL key)) fun l1 =>
 some (((strL l1.2.1), ()), ()) := by kernel_rfl
set_option maxRecDepth 100000 in
theorem impl_padded.say (N : Nat) : SayOk Try.prog (impl_padded.S N) := sayOk_mk (N := N) (H := impl_padded.H) (preps := [⟨[], [], [], []⟩]) (l := impl_padded.says) (fn := Try.f93) (c := bodyOf Try.f93)
  (by kernel_rfl) (by kernel_rfl) (by kernel_rfl) (by kernel_rfl) (by kernel_rfl) (by kernel_rfl) (by kernel_rfl)
  (fun N => SayAll.nil) (fun a s => by kernel_rfl)

/-! ### loop.example/g00206/impl.hmac: function 50 -/
noncomputable def impl_hmac.H : Hints := hintsOf [(3, .join [⟨.normal, [1], [0], [ak_s], [], [⟨[], [], [], []⟩]⟩])]
noncomputable def impl_hmac.says (N : Nat) : List Say := [impl_sha.S N, strings_Repeat.S N, impl_padded.S N]
noncomputable def impl_hmac.call (N : Nat) : CallK := callBy (impl_hmac.says N)
noncomputable def impl_hmac.qt (N : Nat) : FuncId → List PV → Sig → Cl := qtBy (impl_hmac.says N)
noncomputable def impl_hmac (N : Nat) (key : ByteArray) (s : ByteArray) : Option ((ByteArray × Unit) × Unit) :=
  ofFn Try.prog impl_hmac.call impl_hmac.qt impl_hmac.H N Try.f50 [ak_s, ak_s] [] [ak_s] [] [⟨[], [], [], []⟩] (key, (s, ())) ()
noncomputable def impl_hmac.S (N : Nat) : Say := ⟨false, 50, [ak_s, ak_s], [], [ak_s], [], fun a s => impl_hmac N a.1 a.2.1⟩
set_option maxRecDepth 100000 in
theorem impl_hmac.eq (N : Nat) (key : ByteArray) (s : ByteArray) : impl_hmac N key s =
 andK (α := ((ByteArray × Unit) × Unit)) (
  sel (decide (64 < (key.size : Int)))
   (
   andK (impl_sha N key) fun u1 =>
   some (((u1.1.1, ()), ())))
   (
   some (((key, ()), ())))) fun j2 =>
 andK (strings_Repeat N (⟨#[0]⟩ : ByteArray) (IntKind.i64.wrap (64 - (j2.1.1.size : Int)))) fun u3 =>
 chk (decide (j2.1.1.size + u3.1.1.size ≤ 9223372036854775807)) (
 andK (impl_padded N (j2.1.1 ++ u3.1.1) 92) fun u4 =>
 andK (impl_padded N (j2.1.1 ++ u3.1.1) 54) fun u5 =>
 chk (decide (u5.1.1.size + s.size ≤ 9223372036854775807)) (
 andK (impl_sha N (u5.1.1 ++ s)) fun u6 =>
 chk (decide (u4.1.1.size + u6.1.1.size ≤ 9223372036854775807)) (
 andK (impl_sha N (u4.1.1 ++ u6.1.1)) fun u7 =>
 some ((u7.1.1, ()), ())))) := by kernel_rfl
set_option maxRecDepth 100000 in
theorem impl_hmac.say (N : Nat) : SayOk Try.prog (impl_hmac.S N) := sayOk_mk (N := N) (H := impl_hmac.H) (preps := [⟨[], [], [], []⟩]) (l := impl_hmac.says) (fn := Try.f50) (c := bodyOf Try.f50)
  (by kernel_rfl) (by kernel_rfl) (by kernel_rfl) (by kernel_rfl) (by kernel_rfl) (by kernel_rfl) (by kernel_rfl)
  (fun N => SayAll.cons (impl_sha.say N) (SayAll.cons (strings_Repeat.say N) (SayAll.cons (impl_padded.say N) (SayAll.nil)))) (fun a s => by kernel_rfl)

/-! ### loop.example/g00206/impl.HkdfExpand: function 30 -/
noncomputable def impl_HkdfExpand.H : Hints := hintsOf [(5000001, .join [⟨.normal, [0, 1, 2], [23], [ak_b], [], [⟨[], [], [], []⟩]⟩]),
  (2000005, .loop ⟨.normal, [0, 1, 2], [8, 9, 10], [ak_s, ak_s, ak_i], [], [⟨[], [], [], []⟩]⟩ [⟨(.exit 0), [2], [8], [ak_s], [], [⟨[], [], [], []⟩]⟩])]
noncomputable def impl_HkdfExpand.says (N : Nat) : List Say := [impl_in.S N, impl_bigEndian.S N, impl_hmac.S N]
noncomputable def impl_HkdfExpand.call (N : Nat) : CallK := callBy (impl_HkdfExpand.says N)
noncomputable def impl_HkdfExpand.qt (N : Nat) : FuncId → List PV → Sig → Cl := qtBy (impl_HkdfExpand.says N)
noncomputable def impl_HkdfExpand.l0.hd : Alt := ⟨.normal, [0, 1, 2], [8, 9, 10], [ak_s, ak_s, ak_i], [], [⟨[], [], [], []⟩]⟩
noncomputable def impl_HkdfExpand.l0.outs : List Alt := [⟨(.exit 0), [2], [8], [ak_s], [], [⟨[], [], [], []⟩]⟩]
noncomputable def impl_HkdfExpand.l0 (N : Nat) (secret1 : ByteArray) (info1 : ByteArray) (n1 : Int) (out : ByteArray) (last : ByteArray) (i : Int) : Option ((ByteArray × Unit) × Unit) :=
  loopK Try.prog impl_HkdfExpand.call impl_HkdfExpand.qt impl_HkdfExpand.H (codeAt (bodyOf Try.f30) [1, 1, 1, 0, 1, 0, 0]) 0 impl_HkdfExpand.l0.hd impl_HkdfExpand.l0.outs [(0, .v (.string secret1)), (1, .v (.string info1)), (2, .v (.int .i64 n1))] N ((out, (last, (i, ()))), ())
noncomputable def impl_HkdfExpand (N : Nat) (secret : ByteArray) (info : ByteArray) (n : Int) : Option ((ByteArray × (Bool × Unit)) × Unit) :=
  ofFn Try.prog impl_HkdfExpand.call impl_HkdfExpand.qt impl_HkdfExpand.H N Try.f30 [ak_s, ak_s, ak_i] [] [ak_s, ak_b] [] [⟨[], [], [], []⟩] (secret, (info, (n, ()))) ()
noncomputable def impl_HkdfExpand.S (N : Nat) : Say := ⟨false, 30, [ak_s, ak_s, ak_i], [], [ak_s, ak_b], [], fun a s => impl_HkdfExpand N a.1 a.2.1 a.2.2.1⟩
set_option maxRecDepth 100000 in
theorem impl_HkdfExpand.l0.eq (N : Nat) (secret1 : ByteArray) (info1 : ByteArray) (n1 : Int) (out : ByteArray) (last : ByteArray) (i : Int) : impl_HkdfExpand.l0 (N + 1) secret1 info1 n1 out last i =
 sel (decide ((out.size : Int) < n1))
  (
  chk (decide (last.size + info1.size ≤ 9223372036854775807)) (
  andK (impl_bigEndian N (IntKind.u64.wrap i) 1) fun u3 =>
  chk (decide ((last ++ info1).size + u3.1.1.size ≤ 9223372036854775807)) (
  andK (impl_hmac N secret1 ((last ++ info1) ++ u3.1.1)) fun u4 =>
  chk (decide (out.size + u4.1.1.size ≤ 9223372036854775807)) (
  impl_HkdfExpand.l0 N secret1 info1 n1 (out ++ u4.1.1) u4.1.1 (IntKind.i64.wrap (i + 1))))))
  (
  some (((out, ()), ()))) := by kernel_rfl
set_option maxRecDepth 100000 in
theorem impl_HkdfExpand.eq (N : Nat) (secret : ByteArray) (info : ByteArray) (n : Int) : impl_HkdfExpand N secret info n =
 andK (α := ((Bool × Unit) × Unit)) (
  andK (impl_in N n 0 255) fun u1 =>
  sel (!u1.1.1)
   (
   some (((true, ()), ())))
   (
   sel (decide (500 < (secret.size : Int)))
    (
    some (((true, ()), ())))
    (
    some ((((decide (500 < (info.size : Int))), ()), ()))))) fun j2 =>
 sel j2.1.1
  (
  some (((⟨#[]⟩ : ByteArray), (false, ())), ()))
  (
  andK (impl_HkdfExpand.l0 N secret info n (⟨#[]⟩ : ByteArray) (⟨#[]⟩ : ByteArray) 1) fun l5 =>
  chk ((decide (0 ≤ n)) && (decide (n ≤ (l5.1.1.size : Int)))) (
  some (((l5.1.1.extract 0 (Int.toNat n)), (true, ())), ()))) := by kernel_rfl
set_option maxRecDepth 100000 in
theorem impl_HkdfExpand.say (N : Nat) : SayOk Try.prog (impl_HkdfExpand.S N) := sayOk_mk (N := N) (H := impl_HkdfExpand.H) (preps := [⟨[], [], [], []⟩]) (l := impl_HkdfExpand.says) (fn := Try.f30) (c := bodyOf Try.f30)
  (by kernel_rfl) (by kernel_rfl) (by kernel_rfl) (by kernel_rfl) (by kernel_rfl) (by kernel_rfl) (by kernel_rfl)
  (fun N => SayAll.cons (impl_in.say N) (SayAll.cons (impl_bigEndian.say N) (SayAll.cons (impl_hmac.say N) (SayAll.nil)))) (fun a s => by kernel_rfl)

/-! ### loop.example/g00206/spec.l1In: function 56 -/
noncomputable def spec_l1In.H : Hints := hintsOf []
noncomputable def spec_l1In.says (N : Nat) : List Say := []
noncomputable def spec_l1In.call (N : Nat) : CallK := callBy (spec_l1In.says N)
noncomputable def spec_l1In.qt (N : Nat) : FuncId → List PV → Sig → Cl := qtBy (spec_l1In.says N)
noncomputable def spec_l1In (N : Nat) (n : Int) (lo : Int) (hi : Int) : Option ((Bool × Unit) × Unit) :=
  ofFn Try.prog spec_l1In.call spec_l1In.qt spec_l1In.H N Try.f56 [ak_i, ak_i, ak_i] [] [ak_b] [] [⟨[], [], [], []⟩] (n, (lo, (hi, ()))) ()
noncomputable def spec_l1In.S (N : Nat) : Say := ⟨false, 56, [ak_i, ak_i, ak_i], [], [ak_b], [], fun a s => spec_l1In N a.1 a.2.1 a.2.2.1⟩
set_option maxRecDepth 100000 in
theorem spec_l1In.eq (N : Nat) (n : Int) (lo : Int) (hi : Int) : spec_l1In N n lo hi =
 sel (decide (lo ≤ n))
  (
  some (((decide (n ≤ hi)), ()), ()))
  (
  some ((false, ()), ())) := by kernel_rfl
set_option maxRecDepth 100000 in
theorem spec_l1In.say (N : Nat) : SayOk Try.prog (spec_l1In.S N) := sayOk_mk (N := N) (H := spec_l1In.H) (preps := [⟨[], [], [], []⟩]) (l := spec_l1In.says) (fn := Try.f56) (c := bodyOf Try.f56)
  (by kernel_rfl) (by kernel_rfl) (by kernel_rfl) (by kernel_rfl) (by kernel_rfl) (by kernel_rfl) (by kernel_rfl)
  (fun N => SayAll.nil) (fun a s => by kernel_rfl)

/-! ### loop.example/g00206/spec.l4Primes: function 117 -/
noncomputable def spec_l4Primes.H : Hints := hintsOf [(5000009, .join [⟨.normal, [0, 4, 15, 16], [3, 5, 14], [.one (.own 0), ak_b, .one (.own 0)], [.rows (.int .i64)], [⟨[], [], [], []⟩]⟩]),
  (2000007, .loop ⟨.normal, [0, 4, 15], [3, 5, 14, 16], [.one (.own 0), ak_b, .one (.own 0), ak_i], [.rows (.int .i64)], [⟨[], [], [], []⟩]⟩ [⟨(.exit 2), [0, 4], [3, 5], [.one (.own 0), ak_b], [.rows (.int .i64)], [⟨[], [], [], []⟩]⟩]),
  (4, .join [⟨.normal, [0, 4], [3], [.one (.own 0)], [.rows (.int .i64)], [⟨[], [], [], []⟩]⟩]),
  (2000003, .loop ⟨.normal, [0], [3, 4], [.one (.own 0), ak_i], [.rows (.int .i64)], [⟨[(3, (.int .i64))], [], [], [0]⟩, ⟨[], [], [], [0]⟩]⟩ [⟨(.exit 0), [], [3], [.one (.own 0)], [.rows (.int .i64)], [⟨[], [], [], [0]⟩]⟩])]
noncomputable def spec_l4Primes.says (N : Nat) : List Say := []
noncomputable def spec_l4Primes.call (N : Nat) : CallK := callBy (spec_l4Primes.says N)
noncomputable def spec_l4Primes.qt (N : Nat) : FuncId → List PV → Sig → Cl := qtBy (spec_l4Primes.says N)
noncomputable def spec_l4Primes.l0.hd : Alt := ⟨.normal, [0], [3, 4], [.one (.own 0), ak_i], [.rows (.int .i64)], [⟨[(3, (.int .i64))], [], [], [0]⟩, ⟨[], [], [], [0]⟩]⟩
noncomputable def spec_l4Primes.l0.outs : List Alt := [⟨(.exit 0), [], [3], [.one (.own 0)], [.rows (.int .i64)], [⟨[], [], [], [0]⟩]⟩]
noncomputable def spec_l4Primes.l0 (N : Nat) (n1 : Int) (p : Int) (p0 : (List Int)) : Option ((Unit × Unit) × ((List Int) × Unit)) :=
  loopK Try.prog spec_l4Primes.call spec_l4Primes.qt spec_l4Primes.H (codeAt (bodyOf Try.f117) [1, 1, 0, 1, 0, 0]) 0 spec_l4Primes.l0.hd spec_l4Primes.l0.outs [(0, .v (.int .i64 n1))] N (((), (p, ())), (p0, ()))
noncomputable def spec_l4Primes.l1.hd : Alt := ⟨.normal, [0, 4, 15], [3, 5, 14, 16], [.one (.own 0), ak_b, .one (.own 0), ak_i], [.rows (.int .i64)], [⟨[], [], [], []⟩]⟩
noncomputable def spec_l4Primes.l1.outs : List Alt := [⟨(.exit 2), [0, 4], [3, 5], [.one (.own 0), ak_b], [.rows (.int .i64)], [⟨[], [], [], []⟩]⟩]
noncomputable def spec_l4Primes.l1 (N : Nat) (n2 : Int) (p1 : Int) (t15 : Int) (prime : Bool) (t16 : Int) (p01 : (List Int)) : Option ((Unit × (Bool × Unit)) × ((List Int) × Unit)) :=
  loopK Try.prog spec_l4Primes.call spec_l4Primes.qt spec_l4Primes.H (codeAt (bodyOf Try.f117) [1, 1, 0, 1, 0, 0, 1, 0, 0, 1, 0, 1, 0, 0]) 1 spec_l4Primes.l1.hd spec_l4Primes.l1.outs [(0, .v (.int .i64 n2)), (4, .v (.int .i64 p1)), (15, .v (.int .i64 t15))] N (((), (prime, ((), (t16, ())))), (p01, ()))
noncomputable def spec_l4Primes (N : Nat) (n : Int) : Option ((Unit × Unit) × ((List Int) × Unit)) :=
  ofFn Try.prog spec_l4Primes.call spec_l4Primes.qt spec_l4Primes.H N Try.f117 [ak_i] [] [.one (.own 0)] [.rows (.int .i64)] [⟨[], [], [], [0]⟩] (n, ()) ()
noncomputable def spec_l4Primes.S (N : Nat) : Say := ⟨false, 117, [ak_i], [], [.one (.own 0)], [.rows (.int .i64)], fun a s => spec_l4Primes N a.1⟩
set_option maxRecDepth 100000 in
theorem spec_l4Primes.l1.eq (N : Nat) (n2 : Int) (p1 : Int) (t15 : Int) (prime : Bool) (t16 : Int) (p01 : (List Int)) : spec_l4Primes.l1 (N + 1) n2 p1 t15 prime t16 p01 =
 sel (decide (t16 < t15))
  (
  chk ((decide (0 ≤ t16)) && (decide (t16 < (p01.length : Int)))) (
  andK (α := ((Unit × (Bool × (Unit × Unit))) × ((List Int) × Unit))) (
   sel prime
    (
    chk ((p01.getD (Int.toNat t16) 0) != 0) (
    some ((((), ((!(decide ((Int.tmod p1 (p01.getD (Int.toNat t16) 0)) = 0))), ((), ()))), (p01, ())))))
    (
    some ((((), (false, ((), ()))), (p01, ()))))) fun j1 =>
  spec_l4Primes.l1 N n2 p1 t15 j1.1.2.1 (IntKind.i64.wrap (t16 + 1)) j1.2.1))
  (
  some ((((), (prime, ())), (p01, ())))) := by kernel_rfl
set_option maxRecDepth 100000 in
theorem spec_l4Primes.l0.eq (N : Nat) (n1 : Int) (p : Int) (p0 : (List Int)) : spec_l4Primes.l0 (N + 1) n1 p p0 =
 sel (decide ((p0.length : Int) < n1))
  (
  andK (α := ((Unit × Unit) × ((List Int) × Unit))) (
   andK (spec_l4Primes.l1 N n1 p (p0.length : Int) true 0 p0) fun l2 =>
   sel l2.1.2.1
    (
    chk (decide (l2.2.1.length + 1 < most)) (
    some ((((), ()), ((l2.2.1 ++ [p]), ())))))
    (
    some ((((), ()), (l2.2.1, ()))))) fun j3 =>
  spec_l4Primes.l0 N n1 (IntKind.i64.wrap (p + 1)) j3.2.1)
  (
  some ((((), ()), (p0, ())))) := by kernel_rfl
set_option maxRecDepth 100000 in
theorem spec_l4Primes.eq (N : Nat) (n : Int) : spec_l4Primes N n =
 andK (spec_l4Primes.l0 N n 2 []) fun l4 =>
 some (((), ()), (l4.2.1, ())) := by kernel_rfl
set_option maxRecDepth 100000 in
theorem spec_l4Primes.say (N : Nat) : SayOk Try.prog (spec_l4Primes.S N) := sayOk_mk (N := N) (H := spec_l4Primes.H) (preps := [⟨[], [], [], [0]⟩]) (l := spec_l4Primes.says) (fn := Try.f117) (c := bodyOf Try.f117)
  (by kernel_rfl) (by kernel_rfl) (by kernel_rfl) (by kernel_rfl) (by kernel_rfl) (by kernel_rfl) (by kernel_rfl)
  (fun N => SayAll.nil) (fun a s => by kernel_rfl)

/-! ### loop.example/g00206/spec.l4Times: function 142 -/
noncomputable def spec_l4Times.H : Hints := hintsOf [(2000007, .loop ⟨.normal, [0, 6, 7, 22, 23, 24, 29, 30], [5, 8, 31], [.one (.own 0), .one (.sh (.int .u64)), ak_i], [.rows (.int .u32)], [⟨[], [], [], []⟩]⟩ [⟨(.exit 2), [0, 6, 22, 23, 24], [5, 8], [.one (.own 0), .one (.sh (.int .u64))], [.rows (.int .u32)], [⟨[], [], [], []⟩]⟩]),
  (2000003, .loop ⟨.normal, [0, 22, 23], [5, 24], [.one (.own 0), ak_i], [.rows (.int .u32)], [⟨[], [], [], []⟩]⟩ [⟨(.exit 0), [], [5], [.one (.own 0)], [.rows (.int .u32)], [⟨[], [], [], []⟩]⟩])]
noncomputable def spec_l4Times.says (N : Nat) : List Say := []
noncomputable def spec_l4Times.call (N : Nat) : CallK := callBy (spec_l4Times.says N)
noncomputable def spec_l4Times.qt (N : Nat) : FuncId → List PV → Sig → Cl := qtBy (spec_l4Times.says N)
noncomputable def spec_l4Times.l0.hd : Alt := ⟨.normal, [0, 22, 23], [5, 24], [.one (.own 0), ak_i], [.rows (.int .u32)], [⟨[], [], [], []⟩]⟩
noncomputable def spec_l4Times.l0.outs : List Alt := [⟨(.exit 0), [], [5], [.one (.own 0)], [.rows (.int .u32)], [⟨[], [], [], []⟩]⟩]
noncomputable def spec_l4Times.l0 (N : Nat) (G1 : (List Int)) (t22 : (List Int)) (t24 : Int) (p0 : (List Int)) : Option ((Unit × Unit) × ((List Int) × Unit)) :=
  loopK Try.prog spec_l4Times.call spec_l4Times.qt spec_l4Times.H (codeAt (bodyOf Try.f142) [1, 1, 0, 1, 0, 0]) 1 spec_l4Times.l0.hd spec_l4Times.l0.outs [(0, .rows false (.int .u32) G1), (22, .rows true (.int .u64) t22), (23, .v (.int .i64 2))] N (((), (t24, ())), (p0, ()))
noncomputable def spec_l4Times.l1.hd : Alt := ⟨.normal, [0, 6, 7, 22, 23, 24, 29, 30], [5, 8, 31], [.one (.own 0), .one (.sh (.int .u64)), ak_i], [.rows (.int .u32)], [⟨[], [], [], []⟩]⟩
noncomputable def spec_l4Times.l1.outs : List Alt := [⟨(.exit 2), [0, 6, 22, 23, 24], [5, 8], [.one (.own 0), .one (.sh (.int .u64))], [.rows (.int .u32)], [⟨[], [], [], []⟩]⟩]
noncomputable def spec_l4Times.l1 (N : Nat) (G2 : (List Int)) (e : Int) (t : Int) (t221 : (List Int)) (t241 : Int) (t29 : (List Int)) (t30 : Int) (t1 : Int) (t31 : Int) (p01 : (List Int)) : Option ((Unit × (Int × Unit)) × ((List Int) × Unit)) :=
  loopK Try.prog spec_l4Times.call spec_l4Times.qt spec_l4Times.H (codeAt (bodyOf Try.f142) [1, 1, 0, 1, 0, 0, 1, 1, 0, 0, 1, 1, 0, 1, 0, 0]) 1 spec_l4Times.l1.hd spec_l4Times.l1.outs [(0, .rows false (.int .u32) G2), (6, .v (.int .i64 e)), (7, .v (.int .u64 t)), (22, .rows true (.int .u64) t221), (23, .v (.int .i64 2)), (24, .v (.int .i64 t241)), (29, .rows false (.int .u32) t29), (30, .v (.int .i64 t30))] N (((), (t1, (t31, ()))), (p01, ()))
noncomputable def spec_l4Times (N : Nat) (G : (List Int)) (o : Int) : Option ((Unit × Unit) × ((List Int) × Unit)) :=
  ofFn Try.prog spec_l4Times.call spec_l4Times.qt spec_l4Times.H N Try.f142 [.one (.sh (.rows (.int .u32))), ak_i] [] [.one (.own 0)] [.rows (.int .u32)] [⟨[], [], [], [0]⟩] (G, (o, ())) ()
noncomputable def spec_l4Times.S (N : Nat) : Say := ⟨false, 142, [.one (.sh (.rows (.int .u32))), ak_i], [], [.one (.own 0)], [.rows (.int .u32)], fun a s => spec_l4Times N a.1 a.2.1⟩
set_option maxRecDepth 100000 in
theorem spec_l4Times.l1.eq (N : Nat) (G2 : (List Int)) (e : Int) (t : Int) (t221 : (List Int)) (t241 : Int) (t29 : (List Int)) (t30 : Int) (t1 : Int) (t31 : Int) (p01 : (List Int)) : spec_l4Times.l1 (N + 1) G2 e t t221 t241 t29 t30 t1 t31 p01 =
 sel (decide (t31 < t30))
  (
  chk ((decide (0 ≤ t31)) && (decide (t31 < (t29.length : Int)))) (
  chk ((decide (0 ≤ (IntKind.i64.wrap (t31 + e)))) && (decide ((IntKind.i64.wrap (t31 + e)) < (p01.length : Int)))) (
  chk ((decide (0 ≤ (IntKind.i64.wrap (t31 + e)))) && (decide ((IntKind.i64.wrap (t31 + e)) < (p01.length : Int)))) (
  spec_l4Times.l1 N G2 e t t221 t241 t29 t30 (shrI .u64 (IntKind.u64.wrap ((IntKind.u64.wrap ((IntKind.u64.wrap ((IntKind.u64.wrap (t29.getD (Int.toNat t31) 0)) * t)) + (IntKind.u64.wrap (p01.getD (Int.toNat (IntKind.i64.wrap (t31 + e))) 0)))) + t1)) 32) (IntKind.i64.wrap (t31 + 1)) (p01.set (Int.toNat (IntKind.i64.wrap (t31 + e))) (IntKind.u32.wrap (IntKind.u64.wrap ((IntKind.u64.wrap ((IntKind.u64.wrap ((IntKind.u64.wrap (t29.getD (Int.toNat t31) 0)) * t)) + (IntKind.u64.wrap (p01.getD (Int.toNat (IntKind.i64.wrap (t31 + e))) 0)))) + t1))))))))
  (
  some ((((), (t1, ())), (p01, ())))) := by kernel_rfl
set_option maxRecDepth 100000 in
theorem spec_l4Times.l0.eq (N : Nat) (G1 : (List Int)) (t22 : (List Int)) (t24 : Int) (p0 : (List Int)) : spec_l4Times.l0 (N + 1) G1 t22 t24 p0 =
 sel (decide (t24 < 2))
  (
  chk ((decide (0 ≤ t24)) && (decide (t24 < (t22.length : Int)))) (
  andK (spec_l4Times.l1 N G1 t24 (t22.getD (Int.toNat t24) 0) t22 t24 G1 (G1.length : Int) 0 0 p0) fun l1 =>
  chk ((decide (0 ≤ (IntKind.i64.wrap ((G1.length : Int) + t24)))) && (decide ((IntKind.i64.wrap ((G1.length : Int) + t24)) < (l1.2.1.length : Int)))) (
  chk ((decide (0 ≤ (IntKind.i64.wrap ((G1.length : Int) + t24)))) && (decide ((IntKind.i64.wrap ((G1.length : Int) + t24)) < (l1.2.1.length : Int)))) (
  spec_l4Times.l0 N G1 t22 (IntKind.i64.wrap (t24 + 1)) (l1.2.1.set (Int.toNat (IntKind.i64.wrap ((G1.length : Int) + t24))) (IntKind.u32.wrap ((l1.2.1.getD (Int.toNat (IntKind.i64.wrap ((G1.length : Int) + t24))) 0) + (IntKind.u32.wrap l1.1.2.1))))))))
  (
  some ((((), ()), (p0, ())))) := by kernel_rfl
set_option maxRecDepth 100000 in
theorem spec_l4Times.eq (N : Nat) (G : (List Int)) (o : Int) : spec_l4Times N G o =
 chk ((decide (0 ≤ (IntKind.i64.wrap ((G.length : Int) + 2)))) && ((smallI (IntKind.i64.wrap ((G.length : Int) + 2))) && (decide ((IntKind.i64.wrap ((G.length : Int) + 2)) = (IntKind.i64.wrap ((G.length : Int) + 2)))))) (
 andK (spec_l4Times.l0 N G [(Go.bits .and .u64 (IntKind.u64.wrap o) 4294967295), (shrI .u64 (IntKind.u64.wrap o) 32)] 0 (List.replicate (Int.toNat (IntKind.i64.wrap ((G.length : Int) + 2))) (0 : Int))) fun l2 =>
 some (((), ()), (l2.2.1, ()))) := by kernel_rfl
set_option maxRecDepth 100000 in
theorem spec_l4Times.say (N : Nat) : SayOk Try.prog (spec_l4Times.S N) := sayOk_mk (N := N) (H := spec_l4Times.H) (preps := [⟨[], [], [], [0]⟩]) (l := spec_l4Times.says) (fn := Try.f142) (c := bodyOf Try.f142)
  (by kernel_rfl) (by kernel_rfl) (by kernel_rfl) (by kernel_rfl) (by kernel_rfl) (by kernel_rfl) (by kernel_rfl)
  (fun N => SayAll.nil) (fun a s => by kernel_rfl)
noncomputable def spec_l4Times.SB (N : Nat) : Say := spec_l4Times.S N |>.lent
theorem spec_l4Times.sayB (N : Nat) : SayOk Try.prog (spec_l4Times.SB N) := (spec_l4Times.say N).lent

/-! ### loop.example/g00206/spec.l4Fits: function 136 -/
noncomputable def spec_l4Fits.H : Hints := hintsOf [(2000003, .loop ⟨.normal, [0, 1, 2], [7, 8], [.one (.own 1), ak_i], [.gone, .rows (.int .u32)], [⟨[], [], [], [0]⟩, ⟨[], [], [], [2]⟩]⟩ [⟨(.exit 0), [1, 2], [7], [.one (.own 1)], [.gone, .rows (.int .u32)], [⟨[], [], [], [1]⟩]⟩]),
  (2000008, .loop ⟨.normal, [], [7, 9], [.one (.own 1), .one (.own 2)], [.gone, .rows (.int .u32), .rows (.int .u32)], [⟨[], [], [], []⟩]⟩ [⟨(.exit 2), [], [7, 9], [.one (.own 1), .one (.own 2)], [.gone, .rows (.int .u32), .rows (.int .u32)], [⟨[], [], [], []⟩]⟩]),
  (16, .join [⟨.normal, [10], [7, 9, 11], [.one (.own 1), .one (.own 2), .one (.sh (.int .u32))], [.gone, .rows (.int .u32), .rows (.int .u32)], [⟨[], [], [], []⟩]⟩]),
  (2000011, .loop ⟨.normal, [], [7, 9, 10], [.one (.own 1), .one (.own 2), ak_i], [.gone, .rows (.int .u32), .rows (.int .u32)], [⟨[], [], [], []⟩]⟩ [⟨.ret, [], [6], [ak_b], [.gone, .rows (.int .u32), .rows (.int .u32)], [⟨[], [], [], []⟩]⟩, ⟨(.exit 4), [], [], [], [.gone, .rows (.int .u32), .rows (.int .u32)], [⟨[], [], [], []⟩]⟩]),
  (8000001, .alts [12]),
  (8000009, .alts [35])]
noncomputable def spec_l4Fits.says (N : Nat) : List Say := [spec_l4Times.SB N]
noncomputable def spec_l4Fits.call (N : Nat) : CallK := callBy (spec_l4Fits.says N)
noncomputable def spec_l4Fits.qt (N : Nat) : FuncId → List PV → Sig → Cl := qtBy (spec_l4Fits.says N)
noncomputable def spec_l4Fits.l0.hd : Alt := ⟨.normal, [0, 1, 2], [7, 8], [.one (.own 1), ak_i], [.gone, .rows (.int .u32)], [⟨[], [], [], [0]⟩, ⟨[], [], [], [2]⟩]⟩
noncomputable def spec_l4Fits.l0.outs : List Alt := [⟨(.exit 0), [1, 2], [7], [.one (.own 1)], [.gone, .rows (.int .u32)], [⟨[], [], [], [1]⟩]⟩]
noncomputable def spec_l4Fits.l0 (N : Nat) (m1 : Int) (p1 : Int) (power1 : Int) (k : Int) (p11 : (List Int)) : Option ((Unit × Unit) × (Unit × ((List Int) × Unit))) :=
  loopK Try.prog spec_l4Fits.call spec_l4Fits.qt spec_l4Fits.H (codeAt (bodyOf Try.f136) [1, 1, 0, 1, 0, 0]) 1 spec_l4Fits.l0.hd spec_l4Fits.l0.outs [(0, .v (.int .i64 m1)), (1, .v (.int .i64 p1)), (2, .v (.int .i64 power1))] N (((), (k, ())), ((), (p11, ())))
noncomputable def spec_l4Fits.l1.hd : Alt := ⟨.normal, [], [7, 9], [.one (.own 1), .one (.own 2)], [.gone, .rows (.int .u32), .rows (.int .u32)], [⟨[], [], [], []⟩]⟩
noncomputable def spec_l4Fits.l1.outs : List Alt := [⟨(.exit 2), [], [7, 9], [.one (.own 1), .one (.own 2)], [.gone, .rows (.int .u32), .rows (.int .u32)], [⟨[], [], [], []⟩]⟩]
noncomputable def spec_l4Fits.l1 (N : Nat) (p12 : (List Int)) (p2 : (List Int)) : Option ((Unit × (Unit × Unit)) × (Unit × ((List Int) × ((List Int) × Unit)))) :=
  loopK Try.prog spec_l4Fits.call spec_l4Fits.qt spec_l4Fits.H (codeAt (bodyOf Try.f136) [1, 1, 1, 1, 1, 0, 0, 0]) 3 spec_l4Fits.l1.hd spec_l4Fits.l1.outs [] N (((), ((), ())), ((), (p12, (p2, ()))))
noncomputable def spec_l4Fits.l2.hd : Alt := ⟨.normal, [], [7, 9, 10], [.one (.own 1), .one (.own 2), ak_i], [.gone, .rows (.int .u32), .rows (.int .u32)], [⟨[], [], [], []⟩]⟩
noncomputable def spec_l4Fits.l2.outs : List Alt := [⟨.ret, [], [6], [ak_b], [.gone, .rows (.int .u32), .rows (.int .u32)], [⟨[], [], [], []⟩]⟩, ⟨(.exit 4), [], [], [], [.gone, .rows (.int .u32), .rows (.int .u32)], [⟨[], [], [], []⟩]⟩]
noncomputable def spec_l4Fits.l2 (N : Nat) (i : Int) (p13 : (List Int)) (p21 : (List Int)) : Option (((Bool × Unit) × (Unit × ((List Int) × ((List Int) × Unit)))) ⊕ (Unit × (Unit × ((List Int) × ((List Int) × Unit))))) :=
  loopK Try.prog spec_l4Fits.call spec_l4Fits.qt spec_l4Fits.H (codeAt (bodyOf Try.f136) [1, 1, 1, 1, 1, 1, 0, 1, 0, 0]) 3 spec_l4Fits.l2.hd spec_l4Fits.l2.outs [] N (((), ((), (i, ()))), ((), (p13, (p21, ()))))
noncomputable def spec_l4Fits (N : Nat) (m : Int) (p : Int) (power : Int) : Option ((Bool × Unit) × Unit) :=
  ofFn Try.prog spec_l4Fits.call spec_l4Fits.qt spec_l4Fits.H N Try.f136 [ak_i, ak_i, ak_i] [] [ak_b] [] [⟨[], [], [], []⟩] (m, (p, (power, ()))) ()
noncomputable def spec_l4Fits.S (N : Nat) : Say := ⟨false, 136, [ak_i, ak_i, ak_i], [], [ak_b], [], fun a s => spec_l4Fits N a.1 a.2.1 a.2.2.1⟩
set_option maxRecDepth 100000 in
theorem spec_l4Fits.l2.eq (N : Nat) (i : Int) (p13 : (List Int)) (p21 : (List Int)) : spec_l4Fits.l2 (N + 1) i p13 p21 =
 sel (decide (0 ≤ i))
  (
  andK (α := ((Unit × (Unit × (Int × Unit))) × (Unit × ((List Int) × ((List Int) × Unit))))) (
   sel (decide (i < (p21.length : Int)))
    (
    chk ((decide (0 ≤ i)) && (decide (i < (p21.length : Int)))) (
    some ((((), ((), ((p21.getD (Int.toNat i) 0), ()))), ((), (p13, (p21, ())))))))
    (
    some ((((), ((), (0, ()))), ((), (p13, (p21, ()))))))) fun j4 =>
  chk ((decide (0 ≤ i)) && (decide (i < (j4.2.2.1.length : Int)))) (
  sel (!(decide ((j4.2.2.1.getD (Int.toNat i) 0) = j4.1.2.2.1)))
   (
   chk ((decide (0 ≤ i)) && (decide (i < (j4.2.2.1.length : Int)))) (
   some (.inl (((decide ((j4.2.2.1.getD (Int.toNat i) 0) < j4.1.2.2.1)), ()), ((), (j4.2.2.1, (j4.2.2.2.1, ())))))))
   (
   spec_l4Fits.l2 N (IntKind.i64.wrap (i - 1)) j4.2.2.1 j4.2.2.2.1)))
  (
  some (.inr (((), ((), (p13, (p21, ()))))))) := by kernel_rfl
set_option maxRecDepth 100000 in
theorem spec_l4Fits.l1.eq (N : Nat) (p12 : (List Int)) (p2 : (List Int)) : spec_l4Fits.l1 (N + 1) p12 p2 =
 sel (decide ((p12.length : Int) < (p2.length : Int)))
  (
  chk (decide (p12.length + 1 < most)) (
  spec_l4Fits.l1 N (p12 ++ [0]) p2))
  (
  some ((((), ((), ())), ((), (p12, (p2, ())))))) := by kernel_rfl
set_option maxRecDepth 100000 in
theorem spec_l4Fits.l0.eq (N : Nat) (m1 : Int) (p1 : Int) (power1 : Int) (k : Int) (p11 : (List Int)) : spec_l4Fits.l0 (N + 1) m1 p1 power1 k p11 =
 sel (decide (k < power1))
  (
  andK (spec_l4Times N p11 m1) fun u1 =>
  spec_l4Fits.l0 N m1 p1 power1 (IntKind.i64.wrap (k + 1)) u1.2.1)
  (
  some ((((), ()), ((), (p11, ()))))) := by kernel_rfl
set_option maxRecDepth 100000 in
theorem spec_l4Fits.eq (N : Nat) (m : Int) (p : Int) (power : Int) : spec_l4Fits N m p power =
 andK (spec_l4Fits.l0 N m p power 0 [1]) fun l2 =>
 chk ((decide (0 ≤ (IntKind.i64.wrap (power + 1)))) && ((smallI (IntKind.i64.wrap (power + 1))) && (decide ((IntKind.i64.wrap (power + 1)) = (IntKind.i64.wrap (power + 1)))))) (
 chk ((decide (0 ≤ power)) && (decide (power < ((List.replicate (Int.toNat (IntKind.i64.wrap (power + 1))) (0 : Int)).length : Int)))) (
 andK (spec_l4Fits.l1 N l2.2.2.1 ((List.replicate (Int.toNat (IntKind.i64.wrap (power + 1))) (0 : Int)).set (Int.toNat power) (IntKind.u32.wrap p))) fun l3 =>
 andK (spec_l4Fits.l2 N (IntKind.i64.wrap ((l3.2.2.1.length : Int) - 1)) l3.2.2.1 l3.2.2.2.1) fun l5 =>
 orK l5 (fun x6 =>
  some ((x6.1.1, ()), ()))
  (fun x7 =>
  some ((true, ()), ())))) := by kernel_rfl
set_option maxRecDepth 100000 in
theorem spec_l4Fits.say (N : Nat) : SayOk Try.prog (spec_l4Fits.S N) := sayOk_mk (N := N) (H := spec_l4Fits.H) (preps := [⟨[], [], [], []⟩]) (l := spec_l4Fits.says) (fn := Try.f136) (c := bodyOf Try.f136)
  (by kernel_rfl) (by kernel_rfl) (by kernel_rfl) (by kernel_rfl) (by kernel_rfl) (by kernel_rfl) (by kernel_rfl)
  (fun N => SayAll.cons (spec_l4Times.sayB N) (SayAll.nil)) (fun a s => by kernel_rfl)

/-! ### loop.example/g00206/spec.l4Root: function 118 -/
noncomputable def spec_l4Root.H : Hints := hintsOf [(4, .join [⟨.normal, [0, 1, 6], [5], [ak_i], [], [⟨[], [], [], []⟩]⟩]),
  (2000003, .loop ⟨.normal, [0, 1], [5, 6], [ak_i, ak_i], [], [⟨[], [], [], []⟩]⟩ [⟨(.exit 0), [], [5], [ak_i], [], [⟨[], [], [], []⟩]⟩])]
noncomputable def spec_l4Root.says (N : Nat) : List Say := [spec_l4Fits.S N]
noncomputable def spec_l4Root.call (N : Nat) : CallK := callBy (spec_l4Root.says N)
noncomputable def spec_l4Root.qt (N : Nat) : FuncId → List PV → Sig → Cl := qtBy (spec_l4Root.says N)
noncomputable def spec_l4Root.l0.hd : Alt := ⟨.normal, [0, 1], [5, 6], [ak_i, ak_i], [], [⟨[], [], [], []⟩]⟩
noncomputable def spec_l4Root.l0.outs : List Alt := [⟨(.exit 0), [], [5], [ak_i], [], [⟨[], [], [], []⟩]⟩]
noncomputable def spec_l4Root.l0 (N : Nat) (p1 : Int) (power1 : Int) (n : Int) (bit : Int) : Option ((Int × Unit) × Unit) :=
  loopK Try.prog spec_l4Root.call spec_l4Root.qt spec_l4Root.H (codeAt (bodyOf Try.f118) [1, 1, 0, 1, 0, 0]) 0 spec_l4Root.l0.hd spec_l4Root.l0.outs [(0, .v (.int .i64 p1)), (1, .v (.int .i64 power1))] N ((n, (bit, ())), ())
noncomputable def spec_l4Root (N : Nat) (p : Int) (power : Int) : Option ((Int × Unit) × Unit) :=
  ofFn Try.prog spec_l4Root.call spec_l4Root.qt spec_l4Root.H N Try.f118 [ak_i, ak_i] [] [.one (.sh (.int .u32))] [] [⟨[], [], [], []⟩] (p, (power, ())) ()
noncomputable def spec_l4Root.S (N : Nat) : Say := ⟨false, 118, [ak_i, ak_i], [], [.one (.sh (.int .u32))], [], fun a s => spec_l4Root N a.1 a.2.1⟩
set_option maxRecDepth 100000 in
theorem spec_l4Root.l0.eq (N : Nat) (p1 : Int) (power1 : Int) (n : Int) (bit : Int) : spec_l4Root.l0 (N + 1) p1 power1 n bit =
 sel (decide (0 ≤ bit))
  (
  andK (α := ((Int × Unit) × Unit)) (
   chk (decide (0 ≤ (IntKind.u64.wrap bit))) (
   andK (spec_l4Fits N (Go.bits .or .i64 n (shlI .i64 1 (IntKind.u64.wrap bit))) p1 power1) fun u1 =>
   sel u1.1.1
    (
    some ((((Go.bits .or .i64 n (shlI .i64 1 (IntKind.u64.wrap bit))), ()), ())))
    (
    some (((n, ()), ()))))) fun j2 =>
  spec_l4Root.l0 N p1 power1 j2.1.1 (IntKind.i64.wrap (bit - 1)))
  (
  some (((n, ()), ()))) := by kernel_rfl
set_option maxRecDepth 100000 in
theorem spec_l4Root.eq (N : Nat) (p : Int) (power : Int) : spec_l4Root N p power =
 andK (spec_l4Root.l0 N p power 0 36) fun l3 =>
 some (((IntKind.u32.wrap l3.1.1), ()), ()) := by kernel_rfl
set_option maxRecDepth 100000 in
theorem spec_l4Root.say (N : Nat) : SayOk Try.prog (spec_l4Root.S N) := sayOk_mk (N := N) (H := spec_l4Root.H) (preps := [⟨[], [], [], []⟩]) (l := spec_l4Root.says) (fn := Try.f118) (c := bodyOf Try.f118)
  (by kernel_rfl) (by kernel_rfl) (by kernel_rfl) (by kernel_rfl) (by kernel_rfl) (by kernel_rfl) (by kernel_rfl)
  (fun N => SayAll.cons (spec_l4Fits.say N) (SayAll.nil)) (fun a s => by kernel_rfl)

/-! ### loop.example/g00206/spec.l4Words: function 85 -/
noncomputable def spec_l4Words.H : Hints := hintsOf [(2000003, .loop ⟨.normal, [1, 10], [5, 9, 11], [.one (.own 1), .one (.own 0), ak_i], [.rows (.int .i64), .rows (.int .u32)], [⟨[(5, (.int .u32))], [], [], [1]⟩, ⟨[], [], [], [1]⟩]⟩ [⟨(.exit 0), [], [5], [.one (.own 1)], [.rows (.int .i64), .rows (.int .u32)], [⟨[], [], [], [1]⟩]⟩])]
noncomputable def spec_l4Words.says (N : Nat) : List Say := [spec_l4Primes.S N, spec_l4Root.S N]
noncomputable def spec_l4Words.call (N : Nat) : CallK := callBy (spec_l4Words.says N)
noncomputable def spec_l4Words.qt (N : Nat) : FuncId → List PV → Sig → Cl := qtBy (spec_l4Words.says N)
noncomputable def spec_l4Words.l0.hd : Alt := ⟨.normal, [1, 10], [5, 9, 11], [.one (.own 1), .one (.own 0), ak_i], [.rows (.int .i64), .rows (.int .u32)], [⟨[(5, (.int .u32))], [], [], [1]⟩, ⟨[], [], [], [1]⟩]⟩
noncomputable def spec_l4Words.l0.outs : List Alt := [⟨(.exit 0), [], [5], [.one (.own 1)], [.rows (.int .i64), .rows (.int .u32)], [⟨[], [], [], [1]⟩]⟩]
noncomputable def spec_l4Words.l0 (N : Nat) (power1 : Int) (t10 : Int) (t11 : Int) (p0 : (List Int)) (p1 : (List Int)) : Option ((Unit × Unit) × ((List Int) × ((List Int) × Unit))) :=
  loopK Try.prog spec_l4Words.call spec_l4Words.qt spec_l4Words.H (codeAt (bodyOf Try.f85) [1, 1, 0, 1, 0, 0]) 1 spec_l4Words.l0.hd spec_l4Words.l0.outs [(1, .v (.int .i64 power1)), (10, .v (.int .i64 t10))] N (((), ((), (t11, ()))), (p0, (p1, ())))
noncomputable def spec_l4Words (N : Nat) (n : Int) (power : Int) : Option ((Unit × Unit) × ((List Int) × Unit)) :=
  ofFn Try.prog spec_l4Words.call spec_l4Words.qt spec_l4Words.H N Try.f85 [ak_i, ak_i] [] [.one (.own 0)] [.rows (.int .u32)] [⟨[], [], [], [1]⟩] (n, (power, ())) ()
noncomputable def spec_l4Words.S (N : Nat) : Say := ⟨false, 85, [ak_i, ak_i], [], [.one (.own 0)], [.rows (.int .u32)], fun a s => spec_l4Words N a.1 a.2.1⟩
set_option maxRecDepth 100000 in
theorem spec_l4Words.l0.eq (N : Nat) (power1 : Int) (t10 : Int) (t11 : Int) (p0 : (List Int)) (p1 : (List Int)) : spec_l4Words.l0 (N + 1) power1 t10 t11 p0 p1 =
 sel (decide (t11 < t10))
  (
  chk ((decide (0 ≤ t11)) && (decide (t11 < (p0.length : Int)))) (
  andK (spec_l4Root N (p0.getD (Int.toNat t11) 0) power1) fun u2 =>
  chk (decide (p1.length + 1 < most)) (
  spec_l4Words.l0 N power1 t10 (IntKind.i64.wrap (t11 + 1)) p0 (p1 ++ [u2.1.1]))))
  (
  some ((((), ()), (p0, (p1, ()))))) := by kernel_rfl
set_option maxRecDepth 100000 in
theorem spec_l4Words.eq (N : Nat) (n : Int) (power : Int) : spec_l4Words N n power =
 andK (spec_l4Primes N n) fun u1 =>
 andK (spec_l4Words.l0 N power (u1.2.1.length : Int) 0 u1.2.1 []) fun l3 =>
 some (((), ()), (l3.2.2.1, ())) := by kernel_rfl
set_option maxRecDepth 100000 in
theorem spec_l4Words.say (N : Nat) : SayOk Try.prog (spec_l4Words.S N) := sayOk_mk (N := N) (H := spec_l4Words.H) (preps := [⟨[], [], [], [1]⟩]) (l := spec_l4Words.says) (fn := Try.f85) (c := bodyOf Try.f85)
  (by kernel_rfl) (by kernel_rfl) (by kernel_rfl) (by kernel_rfl) (by kernel_rfl) (by kernel_rfl) (by kernel_rfl)
  (fun N => SayAll.cons (spec_l4Primes.say N) (SayAll.cons (spec_l4Root.say N) (SayAll.nil))) (fun a s => by kernel_rfl)

/-! ### loop.example/g00206/spec.l1Fixed: function 86 -/
noncomputable def spec_l1Fixed.H : Hints := hintsOf [(2000003, .loop ⟨.normal, [0], [5, 6], [.one (.own 0), ak_i], [.rows (.int .u8)], [⟨[(5, (.int .u8))], [], [], [0]⟩, ⟨[], [], [], [0]⟩]⟩ [⟨(.exit 0), [], [5], [.one (.own 0)], [.rows (.int .u8)], [⟨[], [], [], [0]⟩]⟩])]
noncomputable def spec_l1Fixed.says (N : Nat) : List Say := []
noncomputable def spec_l1Fixed.call (N : Nat) : CallK := callBy (spec_l1Fixed.says N)
noncomputable def spec_l1Fixed.qt (N : Nat) : FuncId → List PV → Sig → Cl := qtBy (spec_l1Fixed.says N)
noncomputable def spec_l1Fixed.l0.hd : Alt := ⟨.normal, [0], [5, 6], [.one (.own 0), ak_i], [.rows (.int .u8)], [⟨[(5, (.int .u8))], [], [], [0]⟩, ⟨[], [], [], [0]⟩]⟩
noncomputable def spec_l1Fixed.l0.outs : List Alt := [⟨(.exit 0), [], [5], [.one (.own 0)], [.rows (.int .u8)], [⟨[], [], [], [0]⟩]⟩]
noncomputable def spec_l1Fixed.l0 (N : Nat) (n1 : Int) (k : Int) (p0 : (List Int)) : Option ((Unit × Unit) × ((List Int) × Unit)) :=
  loopK Try.prog spec_l1Fixed.call spec_l1Fixed.qt spec_l1Fixed.H (codeAt (bodyOf Try.f86) [1, 1, 0, 1, 0, 0]) 0 spec_l1Fixed.l0.hd spec_l1Fixed.l0.outs [(0, .v (.int .i64 n1))] N (((), (k, ())), (p0, ()))
noncomputable def spec_l1Fixed (N : Nat) (n : Int) (many : Int) : Option ((ByteArray × Unit) × Unit) :=
  ofFn Try.prog spec_l1Fixed.call spec_l1Fixed.qt spec_l1Fixed.H N Try.f86 [ak_i, ak_i] [] [ak_s] [] [⟨[], [], [], []⟩] (n, (many, ())) ()
noncomputable def spec_l1Fixed.S (N : Nat) : Say := ⟨false, 86, [ak_i, ak_i], [], [ak_s], [], fun a s => spec_l1Fixed N a.1 a.2.1⟩
set_option maxRecDepth 100000 in
theorem spec_l1Fixed.l0.eq (N : Nat) (n1 : Int) (k : Int) (p0 : (List Int)) : spec_l1Fixed.l0 (N + 1) n1 k p0 =
 sel (decide (0 ≤ k))
  (
  chk (decide (0 ≤ (IntKind.u64.wrap (IntKind.i64.wrap (8 * k))))) (
  chk (decide (p0.length + 1 < most)) (
  spec_l1Fixed.l0 N n1 (IntKind.i64.wrap (k - 1)) (p0 ++ [(IntKind.u8.wrap (shrI .i64 n1 (IntKind.u64.wrap (IntKind.i64.wrap (8 * k)))))]))))
  (
  some ((((), ()), (p0, ())))) := by kernel_rfl
set_option maxRecDepth 100000 in
theorem spec_l1Fixed.eq (N : Nat) (n : Int) (many : Int) : spec_l1Fixed N n many =
 andK (spec_l1Fixed.l0 N n (IntKind.i64.wrap (many - 1)) []) fun l1 =>
 some (((strL l1.2.1), ()), ()) := by kernel_rfl
set_option maxRecDepth 100000 in
theorem spec_l1Fixed.say (N : Nat) : SayOk Try.prog (spec_l1Fixed.S N) := sayOk_mk (N := N) (H := spec_l1Fixed.H) (preps := [⟨[], [], [], []⟩]) (l := spec_l1Fixed.says) (fn := Try.f86) (c := bodyOf Try.f86)
  (by kernel_rfl) (by kernel_rfl) (by kernel_rfl) (by kernel_rfl) (by kernel_rfl) (by kernel_rfl) (by kernel_rfl)
  (fun N => SayAll.nil) (fun a s => by kernel_rfl)

/-! ### loop.example/g00206/spec.l1Big: function 119 -/
noncomputable def spec_l1Big.H : Hints := hintsOf [(2000003, .loop ⟨.normal, [0], [3, 4], [ak_i, ak_i], [], [⟨[], [], [], []⟩]⟩ [⟨(.exit 0), [], [3], [ak_i], [], [⟨[], [], [], []⟩]⟩])]
noncomputable def spec_l1Big.says (N : Nat) : List Say := []
noncomputable def spec_l1Big.call (N : Nat) : CallK := callBy (spec_l1Big.says N)
noncomputable def spec_l1Big.qt (N : Nat) : FuncId → List PV → Sig → Cl := qtBy (spec_l1Big.says N)
noncomputable def spec_l1Big.l0.hd : Alt := ⟨.normal, [0], [3, 4], [ak_i, ak_i], [], [⟨[], [], [], []⟩]⟩
noncomputable def spec_l1Big.l0.outs : List Alt := [⟨(.exit 0), [], [3], [ak_i], [], [⟨[], [], [], []⟩]⟩]
noncomputable def spec_l1Big.l0 (N : Nat) (s1 : ByteArray) (n : Int) (i : Int) : Option ((Int × Unit) × Unit) :=
  loopK Try.prog spec_l1Big.call spec_l1Big.qt spec_l1Big.H (codeAt (bodyOf Try.f119) [1, 1, 0, 1, 0, 0]) 0 spec_l1Big.l0.hd spec_l1Big.l0.outs [(0, .v (.string s1))] N ((n, (i, ())), ())
noncomputable def spec_l1Big (N : Nat) (s : ByteArray) : Option ((Int × Unit) × Unit) :=
  ofFn Try.prog spec_l1Big.call spec_l1Big.qt spec_l1Big.H N Try.f119 [ak_s] [] [ak_i] [] [⟨[], [], [], []⟩] (s, ()) ()
noncomputable def spec_l1Big.S (N : Nat) : Say := ⟨false, 119, [ak_s], [], [ak_i], [], fun a s => spec_l1Big N a.1⟩
set_option maxRecDepth 100000 in
theorem spec_l1Big.l0.eq (N : Nat) (s1 : ByteArray) (n : Int) (i : Int) : spec_l1Big.l0 (N + 1) s1 n i =
 sel (decide (i < (s1.size : Int)))
  (
  chk ((decide (0 ≤ i)) && (decide (i < (s1.size : Int)))) (
  spec_l1Big.l0 N s1 (Go.bits .or .i64 (shlI .i64 n 8) (IntKind.i64.wrap ((bytesL s1).getD (Int.toNat i) 0))) (IntKind.i64.wrap (i + 1))))
  (
  some (((n, ()), ()))) := by kernel_rfl
set_option maxRecDepth 100000 in
theorem spec_l1Big.eq (N : Nat) (s : ByteArray) : spec_l1Big N s =
 andK (spec_l1Big.l0 N s 0 0) fun l1 =>
 some ((l1.1.1, ()), ()) := by kernel_rfl
set_option maxRecDepth 100000 in
theorem spec_l1Big.say (N : Nat) : SayOk Try.prog (spec_l1Big.S N) := sayOk_mk (N := N) (H := spec_l1Big.H) (preps := [⟨[], [], [], []⟩]) (l := spec_l1Big.says) (fn := Try.f119) (c := bodyOf Try.f119)
  (by kernel_rfl) (by kernel_rfl) (by kernel_rfl) (by kernel_rfl) (by kernel_rfl) (by kernel_rfl) (by kernel_rfl)
  (fun N => SayAll.nil) (fun a s => by kernel_rfl)

/-! ### loop.example/g00206/spec.l4Right: function 120 -/
noncomputable def spec_l4Right.H : Hints := hintsOf []
noncomputable def spec_l4Right.says (N : Nat) : List Say := []
noncomputable def spec_l4Right.call (N : Nat) : CallK := callBy (spec_l4Right.says N)
noncomputable def spec_l4Right.qt (N : Nat) : FuncId → List PV → Sig → Cl := qtBy (spec_l4Right.says N)
noncomputable def spec_l4Right (N : Nat) (x : Int) (n : Int) : Option ((Int × Unit) × Unit) :=
  ofFn Try.prog spec_l4Right.call spec_l4Right.qt spec_l4Right.H N Try.f120 [.one (.sh (.int .u32)), .one (.sh (.int .u64))] [] [.one (.sh (.int .u32))] [] [⟨[], [], [], []⟩] (x, (n, ())) ()
noncomputable def spec_l4Right.S (N : Nat) : Say := ⟨false, 120, [.one (.sh (.int .u32)), .one (.sh (.int .u64))], [], [.one (.sh (.int .u32))], [], fun a s => spec_l4Right N a.1 a.2.1⟩
set_option maxRecDepth 100000 in
theorem spec_l4Right.eq (N : Nat) (x : Int) (n : Int) : spec_l4Right N x n =
 chk (decide (0 ≤ n)) (
 chk (decide (0 ≤ (IntKind.u64.wrap (32 - n)))) (
 some (((Go.bits .or .u32 (shrI .u32 x n) (shlI .u32 x (IntKind.u64.wrap (32 - n)))), ()), ()))) := by kernel_rfl
set_option maxRecDepth 100000 in
theorem spec_l4Right.say (N : Nat) : SayOk Try.prog (spec_l4Right.S N) := sayOk_mk (N := N) (H := spec_l4Right.H) (preps := [⟨[], [], [], []⟩]) (l := spec_l4Right.says) (fn := Try.f120) (c := bodyOf Try.f120)
  (by kernel_rfl) (by kernel_rfl) (by kernel_rfl) (by kernel_rfl) (by kernel_rfl) (by kernel_rfl) (by kernel_rfl)
  (fun N => SayAll.nil) (fun a s => by kernel_rfl)

/-! ### loop.example/g00206/spec.l4Round: function 87 -/
noncomputable def spec_l4Round.H : Hints := hintsOf [(4, .join [⟨.normal, [0, 1, 2, 8], [7], [.one (.own 0)], [.rows (.int .u32)], [⟨[], [], [], []⟩]⟩]),
  (2000003, .loop ⟨.normal, [0, 1, 2], [7, 8], [.one (.own 0), ak_i], [.rows (.int .u32)], [⟨[(7, (.int .u32))], [], [], [0]⟩, ⟨[], [], [], [0]⟩]⟩ [⟨(.exit 0), [0, 1], [7], [.one (.own 0)], [.rows (.int .u32)], [⟨[], [], [], [0]⟩]⟩]),
  (2000012, .loop ⟨.normal, [0, 1], [7, 11, 12], [.one (.own 0), .one (.own 2), ak_i], [.rows (.int .u32), .gone, .rows (.int .u32)], [⟨[], [], [], [1]⟩, ⟨[], [], [], [3]⟩]⟩ [⟨(.exit 2), [0], [11], [.one (.own 2)], [.rows (.int .u32), .gone, .rows (.int .u32)], [⟨[], [], [], [2]⟩]⟩]),
  (2000020, .loop ⟨.normal, [0, 178], [11, 179], [.one (.own 2), ak_i], [.rows (.int .u32), .gone, .rows (.int .u32)], [⟨[], [], [], []⟩]⟩ [⟨(.exit 4), [], [11], [.one (.own 2)], [.rows (.int .u32), .gone, .rows (.int .u32)], [⟨[], [], [], []⟩]⟩]),
  (8000006, .alts [34]),
  (8000009, .alts [76]),
  (8000010, .alts [78]),
  (8000018, .alts [176])]
noncomputable def spec_l4Round.says (N : Nat) : List Say := [spec_l1Big.S N, spec_l4Right.S N]
noncomputable def spec_l4Round.call (N : Nat) : CallK := callBy (spec_l4Round.says N)
noncomputable def spec_l4Round.qt (N : Nat) : FuncId → List PV → Sig → Cl := qtBy (spec_l4Round.says N)
noncomputable def spec_l4Round.l0.hd : Alt := ⟨.normal, [0, 1, 2], [7, 8], [.one (.own 0), ak_i], [.rows (.int .u32)], [⟨[(7, (.int .u32))], [], [], [0]⟩, ⟨[], [], [], [0]⟩]⟩
noncomputable def spec_l4Round.l0.outs : List Alt := [⟨(.exit 0), [0, 1], [7], [.one (.own 0)], [.rows (.int .u32)], [⟨[], [], [], [0]⟩]⟩]
noncomputable def spec_l4Round.l0 (N : Nat) (G1 : (List Int)) (o1 : (List Int)) (t1 : ByteArray) (t2 : Int) (p0 : (List Int)) : Option ((Unit × Unit) × ((List Int) × Unit)) :=
  loopK Try.prog spec_l4Round.call spec_l4Round.qt spec_l4Round.H (codeAt (bodyOf Try.f87) [1, 1, 0, 1, 0, 0]) 0 spec_l4Round.l0.hd spec_l4Round.l0.outs [(0, .rows false (.int .u32) G1), (1, .rows false (.int .u32) o1), (2, .v (.string t1))] N (((), (t2, ())), (p0, ()))
noncomputable def spec_l4Round.l1.hd : Alt := ⟨.normal, [0, 1], [7, 11, 12], [.one (.own 0), .one (.own 2), ak_i], [.rows (.int .u32), .gone, .rows (.int .u32)], [⟨[], [], [], [1]⟩, ⟨[], [], [], [3]⟩]⟩
noncomputable def spec_l4Round.l1.outs : List Alt := [⟨(.exit 2), [0], [11], [.one (.own 2)], [.rows (.int .u32), .gone, .rows (.int .u32)], [⟨[], [], [], [2]⟩]⟩]
noncomputable def spec_l4Round.l1 (N : Nat) (G2 : (List Int)) (o2 : (List Int)) (r : Int) (p01 : (List Int)) (p2 : (List Int)) : Option ((Unit × Unit) × ((List Int) × (Unit × ((List Int) × Unit)))) :=
  loopK Try.prog spec_l4Round.call spec_l4Round.qt spec_l4Round.H (codeAt (bodyOf Try.f87) [1, 1, 1, 1, 0, 1, 0, 0]) 2 spec_l4Round.l1.hd spec_l4Round.l1.outs [(0, .rows false (.int .u32) G2), (1, .rows false (.int .u32) o2)] N (((), ((), (r, ()))), (p01, ((), (p2, ()))))
noncomputable def spec_l4Round.l2.hd : Alt := ⟨.normal, [0, 178], [11, 179], [.one (.own 2), ak_i], [.rows (.int .u32), .gone, .rows (.int .u32)], [⟨[], [], [], []⟩]⟩
noncomputable def spec_l4Round.l2.outs : List Alt := [⟨(.exit 4), [], [11], [.one (.own 2)], [.rows (.int .u32), .gone, .rows (.int .u32)], [⟨[], [], [], []⟩]⟩]
noncomputable def spec_l4Round.l2 (N : Nat) (G3 : (List Int)) (t178 : Int) (t179 : Int) (p02 : (List Int)) (p21 : (List Int)) : Option ((Unit × Unit) × ((List Int) × (Unit × ((List Int) × Unit)))) :=
  loopK Try.prog spec_l4Round.call spec_l4Round.qt spec_l4Round.H (codeAt (bodyOf Try.f87) [1, 1, 1, 1, 1, 0, 1, 0, 0]) 3 spec_l4Round.l2.hd spec_l4Round.l2.outs [(0, .rows false (.int .u32) G3), (178, .v (.int .i64 t178))] N (((), (t179, ())), (p02, ((), (p21, ()))))
noncomputable def spec_l4Round (N : Nat) (G : (List Int)) (o : (List Int)) (t : ByteArray) : Option ((Unit × Unit) × ((List Int) × Unit)) :=
  ofFn Try.prog spec_l4Round.call spec_l4Round.qt spec_l4Round.H N Try.f87 [.one (.sh (.rows (.int .u32))), .one (.sh (.rows (.int .u32))), ak_s] [] [.one (.own 0)] [.rows (.int .u32)] [⟨[], [], [], [2]⟩] (G, (o, (t, ()))) ()
noncomputable def spec_l4Round.S (N : Nat) : Say := ⟨false, 87, [.one (.sh (.rows (.int .u32))), .one (.sh (.rows (.int .u32))), ak_s], [], [.one (.own 0)], [.rows (.int .u32)], fun a s => spec_l4Round N a.1 a.2.1 a.2.2.1⟩
set_option maxRecDepth 100000 in
theorem spec_l4Round.l2.eq (N : Nat) (G3 : (List Int)) (t178 : Int) (t179 : Int) (p02 : (List Int)) (p21 : (List Int)) : spec_l4Round.l2 (N + 1) G3 t178 t179 p02 p21 =
 sel (decide (t179 < t178))
  (
  chk ((decide (0 ≤ t179)) && (decide (t179 < (p21.length : Int)))) (
  chk ((decide (0 ≤ t179)) && (decide (t179 < (G3.length : Int)))) (
  chk ((decide (0 ≤ t179)) && (decide (t179 < (p21.length : Int)))) (
  spec_l4Round.l2 N G3 t178 (IntKind.i64.wrap (t179 + 1)) p02 (p21.set (Int.toNat t179) (IntKind.u32.wrap ((p21.getD (Int.toNat t179) 0) + (G3.getD (Int.toNat t179) 0))))))))
  (
  some ((((), ()), (p02, ((), (p21, ())))))) := by kernel_rfl
set_option maxRecDepth 100000 in
theorem spec_l4Round.l1.eq (N : Nat) (G2 : (List Int)) (o2 : (List Int)) (r : Int) (p01 : (List Int)) (p2 : (List Int)) : spec_l4Round.l1 (N + 1) G2 o2 r p01 p2 =
 sel (decide (r < 64))
  (
  chk (decide (4 < (p2.length : Int))) (
  chk (decide (0 < (p2.length : Int))) (
  chk (decide (7 < (p2.length : Int))) (
  andK (spec_l4Right N (p2.getD 4 0) 6) fun u8 =>
  andK (spec_l4Right N (p2.getD 4 0) 11) fun u9 =>
  andK (spec_l4Right N (p2.getD 4 0) 25) fun u10 =>
  chk (decide (5 < (p2.length : Int))) (
  chk (decide (6 < (p2.length : Int))) (
  chk ((decide (0 ≤ r)) && (decide (r < (o2.length : Int)))) (
  chk ((decide (0 ≤ r)) && (decide (r < (p01.length : Int)))) (
  andK (spec_l4Right N (p2.getD 0 0) 2) fun u11 =>
  andK (spec_l4Right N (p2.getD 0 0) 13) fun u12 =>
  andK (spec_l4Right N (p2.getD 0 0) 22) fun u13 =>
  chk (decide (1 < (p2.length : Int))) (
  chk (decide (2 < (p2.length : Int))) (
  chk (decide (1 < (p2.length : Int))) (
  chk (decide (2 < (p2.length : Int))) (
  chk (decide (1 < (p2.length : Int))) (
  chk (decide (2 < (p2.length : Int))) (
  chk (decide (3 < (p2.length : Int))) (
  chk (decide (5 < (p2.length : Int))) (
  chk (decide (6 < (p2.length : Int))) (
  spec_l4Round.l1 N G2 o2 (IntKind.i64.wrap (r + 1)) p01 [(IntKind.u32.wrap ((IntKind.u32.wrap ((IntKind.u32.wrap ((IntKind.u32.wrap ((IntKind.u32.wrap ((p2.getD 7 0) + (Go.bits .xor .u32 (Go.bits .xor .u32 u8.1.1 u9.1.1) u10.1.1))) + (Go.bits .xor .u32 (Go.bits .and .u32 (p2.getD 4 0) (p2.getD 5 0)) (Go.bits .and .u32 (Go.bits .xor .u32 4294967295 (p2.getD 4 0)) (p2.getD 6 0))))) + (o2.getD (Int.toNat r) 0))) + (p01.getD (Int.toNat r) 0))) + (IntKind.u32.wrap ((Go.bits .xor .u32 (Go.bits .xor .u32 u11.1.1 u12.1.1) u13.1.1) + (Go.bits .xor .u32 (Go.bits .xor .u32 (Go.bits .and .u32 (p2.getD 0 0) (p2.getD 1 0)) (Go.bits .and .u32 (p2.getD 0 0) (p2.getD 2 0))) (Go.bits .and .u32 (p2.getD 1 0) (p2.getD 2 0))))))), (p2.getD 0 0), (p2.getD 1 0), (p2.getD 2 0), (IntKind.u32.wrap ((p2.getD 3 0) + (IntKind.u32.wrap ((IntKind.u32.wrap ((IntKind.u32.wrap ((IntKind.u32.wrap ((p2.getD 7 0) + (Go.bits .xor .u32 (Go.bits .xor .u32 u8.1.1 u9.1.1) u10.1.1))) + (Go.bits .xor .u32 (Go.bits .and .u32 (p2.getD 4 0) (p2.getD 5 0)) (Go.bits .and .u32 (Go.bits .xor .u32 4294967295 (p2.getD 4 0)) (p2.getD 6 0))))) + (o2.getD (Int.toNat r) 0))) + (p01.getD (Int.toNat r) 0))))), (p2.getD 4 0), (p2.getD 5 0), (p2.getD 6 0)])))))))))))))))))
  (
  some ((((), ()), (p01, ((), (p2, ())))))) := by kernel_rfl
set_option maxRecDepth 100000 in
theorem spec_l4Round.l0.eq (N : Nat) (G1 : (List Int)) (o1 : (List Int)) (t1 : ByteArray) (t2 : Int) (p0 : (List Int)) : spec_l4Round.l0 (N + 1) G1 o1 t1 t2 p0 =
 sel (decide (t2 < 64))
  (
  andK (α := ((Unit × Unit) × ((List Int) × Unit))) (
   sel (decide (t2 < 16))
    (
    chk ((decide (0 ≤ (IntKind.i64.wrap (4 * t2)))) && ((decide ((IntKind.i64.wrap (4 * t2)) ≤ (IntKind.i64.wrap ((IntKind.i64.wrap (4 * t2)) + 4)))) && (decide ((IntKind.i64.wrap ((IntKind.i64.wrap (4 * t2)) + 4)) ≤ (t1.size : Int))))) (
    andK (spec_l1Big N (t1.extract (Int.toNat (IntKind.i64.wrap (4 * t2))) (Int.toNat (IntKind.i64.wrap ((IntKind.i64.wrap (4 * t2)) + 4))))) fun u1 =>
    chk (decide (p0.length + 1 < most)) (
    some ((((), ()), ((p0 ++ [(IntKind.u32.wrap u1.1.1)]), ()))))))
    (
    chk ((decide (0 ≤ (IntKind.i64.wrap (t2 - 15)))) && (decide ((IntKind.i64.wrap (t2 - 15)) < (p0.length : Int)))) (
    chk ((decide (0 ≤ (IntKind.i64.wrap (t2 - 2)))) && (decide ((IntKind.i64.wrap (t2 - 2)) < (p0.length : Int)))) (
    chk ((decide (0 ≤ (IntKind.i64.wrap (t2 - 16)))) && (decide ((IntKind.i64.wrap (t2 - 16)) < (p0.length : Int)))) (
    andK (spec_l4Right N (p0.getD (Int.toNat (IntKind.i64.wrap (t2 - 15))) 0) 7) fun u2 =>
    andK (spec_l4Right N (p0.getD (Int.toNat (IntKind.i64.wrap (t2 - 15))) 0) 18) fun u3 =>
    chk ((decide (0 ≤ (IntKind.i64.wrap (t2 - 7)))) && (decide ((IntKind.i64.wrap (t2 - 7)) < (p0.length : Int)))) (
    andK (spec_l4Right N (p0.getD (Int.toNat (IntKind.i64.wrap (t2 - 2))) 0) 17) fun u4 =>
    andK (spec_l4Right N (p0.getD (Int.toNat (IntKind.i64.wrap (t2 - 2))) 0) 19) fun u5 =>
    chk (decide (p0.length + 1 < most)) (
    some ((((), ()), ((p0 ++ [(IntKind.u32.wrap ((IntKind.u32.wrap ((IntKind.u32.wrap ((p0.getD (Int.toNat (IntKind.i64.wrap (t2 - 16))) 0) + (Go.bits .xor .u32 (Go.bits .xor .u32 u2.1.1 u3.1.1) (shrI .u32 (p0.getD (Int.toNat (IntKind.i64.wrap (t2 - 15))) 0) 3)))) + (p0.getD (Int.toNat (IntKind.i64.wrap (t2 - 7))) 0))) + (Go.bits .xor .u32 (Go.bits .xor .u32 u4.1.1 u5.1.1) (shrI .u32 (p0.getD (Int.toNat (IntKind.i64.wrap (t2 - 2))) 0) 10))))]), ())))))))))) fun j6 =>
  spec_l4Round.l0 N G1 o1 t1 (IntKind.i64.wrap (t2 + 1)) j6.2.1)
  (
  some ((((), ()), (p0, ())))) := by kernel_rfl
set_option maxRecDepth 100000 in
theorem spec_l4Round.eq (N : Nat) (G : (List Int)) (o : (List Int)) (t : ByteArray) : spec_l4Round N G o t =
 andK (spec_l4Round.l0 N G o t 0 []) fun l7 =>
 chk (decide (0 + G.length < most)) (
 andK (spec_l4Round.l1 N G o 0 l7.2.1 ([] ++ G)) fun l14 =>
 andK (spec_l4Round.l2 N G (l14.2.2.2.1.length : Int) 0 l14.2.1 l14.2.2.2.1) fun l15 =>
 some (((), ()), (l15.2.2.2.1, ()))) := by kernel_rfl
set_option maxRecDepth 100000 in
theorem spec_l4Round.say (N : Nat) : SayOk Try.prog (spec_l4Round.S N) := sayOk_mk (N := N) (H := spec_l4Round.H) (preps := [⟨[], [], [], [2]⟩]) (l := spec_l4Round.says) (fn := Try.f87) (c := bodyOf Try.f87)
  (by kernel_rfl) (by kernel_rfl) (by kernel_rfl) (by kernel_rfl) (by kernel_rfl) (by kernel_rfl) (by kernel_rfl)
  (fun N => SayAll.cons (spec_l1Big.say N) (SayAll.cons (spec_l4Right.say N) (SayAll.nil))) (fun a s => by kernel_rfl)
noncomputable def spec_l4Round.SB (N : Nat) : Say := spec_l4Round.S N |>.lent
theorem spec_l4Round.sayB (N : Nat) : SayOk Try.prog (spec_l4Round.SB N) := (spec_l4Round.say N).lent

/-! ### loop.example/g00206/spec.l4New: function 45 -/
noncomputable def spec_l4New_2.H : Hints := hintsOf []
noncomputable def spec_l4New_2.says (N : Nat) : List Say := [spec_l4Words.S N]
noncomputable def spec_l4New_2.call (N : Nat) : CallK := callBy (spec_l4New_2.says N)
noncomputable def spec_l4New_2.qt (N : Nat) : FuncId → List PV → Sig → Cl := qtBy (spec_l4New_2.says N)
noncomputable def spec_l4New_2 (N : Nat) : Option ((Unit × Unit) × (((List Int) × ((List Int) × Unit)) × Unit)) :=
  ofFn Try.prog spec_l4New_2.call spec_l4New_2.qt spec_l4New_2.H N Try.f45 [] [] [.one (.ptr 0 0)] [.cells [.sh (.rows (.int .u32)), .sh (.rows (.int .u32))]] [⟨[], [], [0, 1], [2]⟩] () ()
noncomputable def spec_l4New_2.S (N : Nat) : Say := ⟨false, 45, [], [], [.one (.ptr 0 0)], [.cells [.sh (.rows (.int .u32)), .sh (.rows (.int .u32))]], fun a s => spec_l4New_2 N⟩
set_option maxRecDepth 100000 in
theorem spec_l4New_2.eq (N : Nat) : spec_l4New_2 N =
 andK (spec_l4Words N 64 3) fun u1 =>
 andK (spec_l4Words N 8 2) fun u2 =>
 some (((), ()), ((u1.2.1, (u2.2.1, ())), ())) := by kernel_rfl
set_option maxRecDepth 100000 in
theorem spec_l4New_2.say (N : Nat) : SayOk Try.prog (spec_l4New_2.S N) := sayOk_mk (N := N) (H := spec_l4New_2.H) (preps := [⟨[], [], [0, 1], [2]⟩]) (l := spec_l4New_2.says) (fn := Try.f45) (c := bodyOf Try.f45)
  (by kernel_rfl) (by kernel_rfl) (by kernel_rfl) (by kernel_rfl) (by kernel_rfl) (by kernel_rfl) (by kernel_rfl)
  (fun N => SayAll.cons (spec_l4Words.say N) (SayAll.nil)) (fun a s => by kernel_rfl)

/-! ### (*loop.example/g00206/spec.l4H).sum: function 46 -/
noncomputable def spec_l4H_sum_2.H : Hints := hintsOf [(2000003, .loop ⟨.normal, [5], [0, 1], [.one (.ptr 0 0), ak_s], [.cells [.sh (.rows (.int .u32)), .sh (.rows (.int .u32))]], [⟨[], [], [], []⟩]⟩ [⟨(.exit 0), [5], [0, 1], [.one (.ptr 0 0), ak_s], [.cells [.sh (.rows (.int .u32)), .sh (.rows (.int .u32))]], [⟨[], [], [], []⟩]⟩]),
  (2000008, .loop ⟨.normal, [1], [0, 6, 7], [.one (.ptr 0 0), .one (.sh (.rows (.int .u32))), ak_i], [.cells [.sh (.rows (.int .u32)), .sh (.rows (.int .u32))]], [⟨[], [], [], []⟩, ⟨[], [], [1], []⟩]⟩ [⟨(.exit 2), [], [6], [.one (.sh (.rows (.int .u32)))], [.cells [.sh (.rows (.int .u32)), .sh (.rows (.int .u32))]], [⟨[], [], [], []⟩]⟩]),
  (2000013, .loop ⟨.normal, [47, 48], [8, 49], [ak_s, ak_i], [.cells [.sh (.rows (.int .u32)), .sh (.rows (.int .u32))]], [⟨[], [], [], []⟩]⟩ [⟨(.exit 4), [], [8], [ak_s], [.cells [.sh (.rows (.int .u32)), .sh (.rows (.int .u32))]], [⟨[], [], [], []⟩]⟩])]
noncomputable def spec_l4H_sum_2.says (N : Nat) : List Say := [spec_l1Fixed.S N, spec_l4Round.S N]
noncomputable def spec_l4H_sum_2.call (N : Nat) : CallK := callBy (spec_l4H_sum_2.says N)
noncomputable def spec_l4H_sum_2.qt (N : Nat) : FuncId → List PV → Sig → Cl := qtBy (spec_l4H_sum_2.says N)
noncomputable def spec_l4H_sum_2.l0.hd : Alt := ⟨.normal, [5], [0, 1], [.one (.ptr 0 0), ak_s], [.cells [.sh (.rows (.int .u32)), .sh (.rows (.int .u32))]], [⟨[], [], [], []⟩]⟩
noncomputable def spec_l4H_sum_2.l0.outs : List Alt := [⟨(.exit 0), [5], [0, 1], [.one (.ptr 0 0), ak_s], [.cells [.sh (.rows (.int .u32)), .sh (.rows (.int .u32))]], [⟨[], [], [], []⟩]⟩]
noncomputable def spec_l4H_sum_2.l0 (N : Nat) (n : Int) (s1 : ByteArray) (p0_01 : (List Int)) (p0_11 : (List Int)) : Option ((Unit × (ByteArray × Unit)) × (((List Int) × ((List Int) × Unit)) × Unit)) :=
  loopK Try.prog spec_l4H_sum_2.call spec_l4H_sum_2.qt spec_l4H_sum_2.H (codeAt (bodyOf Try.f46) [1, 1, 1, 0, 0, 0]) 1 spec_l4H_sum_2.l0.hd spec_l4H_sum_2.l0.outs [(5, .v (.int .i64 n))] N (((), (s1, ())), ((p0_01, (p0_11, ())), ()))
noncomputable def spec_l4H_sum_2.l1.hd : Alt := ⟨.normal, [1], [0, 6, 7], [.one (.ptr 0 0), .one (.sh (.rows (.int .u32))), ak_i], [.cells [.sh (.rows (.int .u32)), .sh (.rows (.int .u32))]], [⟨[], [], [], []⟩, ⟨[], [], [1], []⟩]⟩
noncomputable def spec_l4H_sum_2.l1.outs : List Alt := [⟨(.exit 2), [], [6], [.one (.sh (.rows (.int .u32)))], [.cells [.sh (.rows (.int .u32)), .sh (.rows (.int .u32))]], [⟨[], [], [], []⟩]⟩]
noncomputable def spec_l4H_sum_2.l1 (N : Nat) (s2 : ByteArray) (state : (List Int)) (atv : Int) (p0_02 : (List Int)) (p0_12 : (List Int)) : Option (((List Int) × Unit) × (((List Int) × ((List Int) × Unit)) × Unit)) :=
  loopK Try.prog spec_l4H_sum_2.call spec_l4H_sum_2.qt spec_l4H_sum_2.H (codeAt (bodyOf Try.f46) [1, 1, 1, 1, 1, 1, 0, 1, 0, 0]) 1 spec_l4H_sum_2.l1.hd spec_l4H_sum_2.l1.outs [(1, .v (.string s2))] N (((), (state, (atv, ()))), ((p0_02, (p0_12, ())), ()))
noncomputable def spec_l4H_sum_2.l2.hd : Alt := ⟨.normal, [47, 48], [8, 49], [ak_s, ak_i], [.cells [.sh (.rows (.int .u32)), .sh (.rows (.int .u32))]], [⟨[], [], [], []⟩]⟩
noncomputable def spec_l4H_sum_2.l2.outs : List Alt := [⟨(.exit 4), [], [8], [ak_s], [.cells [.sh (.rows (.int .u32)), .sh (.rows (.int .u32))]], [⟨[], [], [], []⟩]⟩]
noncomputable def spec_l4H_sum_2.l2 (N : Nat) (t47 : (List Int)) (t48 : Int) (out : ByteArray) (t49 : Int) (p0_03 : (List Int)) (p0_13 : (List Int)) : Option ((ByteArray × Unit) × (((List Int) × ((List Int) × Unit)) × Unit)) :=
  loopK Try.prog spec_l4H_sum_2.call spec_l4H_sum_2.qt spec_l4H_sum_2.H (codeAt (bodyOf Try.f46) [1, 1, 1, 1, 1, 1, 1, 1, 0, 1, 0, 0]) 1 spec_l4H_sum_2.l2.hd spec_l4H_sum_2.l2.outs [(47, .rows false (.int .u32) t47), (48, .v (.int .i64 t48))] N ((out, (t49, ())), ((p0_03, (p0_13, ())), ()))
noncomputable def spec_l4H_sum_2 (N : Nat) (s : ByteArray) (p0_0 : (List Int)) (p0_1 : (List Int)) : Option ((ByteArray × Unit) × (((List Int) × ((List Int) × Unit)) × Unit)) :=
  ofFn Try.prog spec_l4H_sum_2.call spec_l4H_sum_2.qt spec_l4H_sum_2.H N Try.f46 [.one (.ptr 0 0), ak_s] [.cells [.sh (.rows (.int .u32)), .sh (.rows (.int .u32))]] [ak_s] [.cells [.sh (.rows (.int .u32)), .sh (.rows (.int .u32))]] [⟨[], [], [], []⟩] ((), (s, ())) ((p0_0, (p0_1, ())), ())
noncomputable def spec_l4H_sum_2.S (N : Nat) : Say := ⟨false, 46, [.one (.ptr 0 0), ak_s], [.cells [.sh (.rows (.int .u32)), .sh (.rows (.int .u32))]], [ak_s], [.cells [.sh (.rows (.int .u32)), .sh (.rows (.int .u32))]], fun a s => spec_l4H_sum_2 N a.2.1 s.1.1 s.1.2.1⟩
set_option maxRecDepth 100000 in
theorem spec_l4H_sum_2.l2.eq (N : Nat) (t47 : (List Int)) (t48 : Int) (out : ByteArray) (t49 : Int) (p0_03 : (List Int)) (p0_13 : (List Int)) : spec_l4H_sum_2.l2 (N + 1) t47 t48 out t49 p0_03 p0_13 =
 sel (decide (t49 < t48))
  (
  chk ((decide (0 ≤ t49)) && (decide (t49 < (t47.length : Int)))) (
  andK (spec_l1Fixed N (IntKind.i64.wrap (t47.getD (Int.toNat t49) 0)) 4) fun u5 =>
  chk (decide (out.size + u5.1.1.size ≤ 9223372036854775807)) (
  spec_l4H_sum_2.l2 N t47 t48 (out ++ u5.1.1) (IntKind.i64.wrap (t49 + 1)) p0_03 p0_13)))
  (
  some (((out, ()), ((p0_03, (p0_13, ())), ())))) := by kernel_rfl
set_option maxRecDepth 100000 in
theorem spec_l4H_sum_2.l1.eq (N : Nat) (s2 : ByteArray) (state : (List Int)) (atv : Int) (p0_02 : (List Int)) (p0_12 : (List Int)) : spec_l4H_sum_2.l1 (N + 1) s2 state atv p0_02 p0_12 =
 sel (decide (atv < (s2.size : Int)))
  (
  chk ((decide (0 ≤ atv)) && ((decide (atv ≤ (IntKind.i64.wrap (atv + 64)))) && (decide ((IntKind.i64.wrap (atv + 64)) ≤ (s2.size : Int))))) (
  andK (spec_l4Round N state p0_02 (s2.extract (Int.toNat atv) (Int.toNat (IntKind.i64.wrap (atv + 64))))) fun u3 =>
  spec_l4H_sum_2.l1 N s2 u3.2.1 (IntKind.i64.wrap (atv + 64)) p0_02 p0_12))
  (
  some (((state, ()), ((p0_02, (p0_12, ())), ())))) := by kernel_rfl
set_option maxRecDepth 100000 in
theorem spec_l4H_sum_2.l0.eq (N : Nat) (n : Int) (s1 : ByteArray) (p0_01 : (List Int)) (p0_11 : (List Int)) : spec_l4H_sum_2.l0 (N + 1) n s1 p0_01 p0_11 =
 sel (!(decide ((Int.tmod (s1.size : Int) 64) = 56)))
  (
  chk (decide (s1.size + 1 ≤ 9223372036854775807)) (
  spec_l4H_sum_2.l0 N n (s1 ++ (⟨#[0]⟩ : ByteArray)) p0_01 p0_11))
  (
  some ((((), (s1, ())), ((p0_01, (p0_11, ())), ())))) := by kernel_rfl
set_option maxRecDepth 100000 in
theorem spec_l4H_sum_2.eq (N : Nat) (s : ByteArray) (p0_0 : (List Int)) (p0_1 : (List Int)) : spec_l4H_sum_2 N s p0_0 p0_1 =
 chk (decide (s.size + 1 ≤ 9223372036854775807)) (
 andK (spec_l4H_sum_2.l0 N (s.size : Int) (s ++ (⟨#[128]⟩ : ByteArray)) p0_0 p0_1) fun l1 =>
 andK (spec_l1Fixed N (IntKind.i64.wrap (8 * (s.size : Int))) 8) fun u2 =>
 chk (decide (l1.1.2.1.size + u2.1.1.size ≤ 9223372036854775807)) (
 andK (spec_l4H_sum_2.l1 N (l1.1.2.1 ++ u2.1.1) l1.2.1.2.1 0 l1.2.1.1 l1.2.1.2.1) fun l4 =>
 andK (spec_l4H_sum_2.l2 N l4.1.1 (l4.1.1.length : Int) (⟨#[]⟩ : ByteArray) 0 l4.2.1.1 l4.2.1.2.1) fun l6 =>
 some ((l6.1.1, ()), ((l6.2.1.1, (l6.2.1.2.1, ())), ())))) := by kernel_rfl
set_option maxRecDepth 100000 in
theorem spec_l4H_sum_2.say (N : Nat) : SayOk Try.prog (spec_l4H_sum_2.S N) := sayOk_mk (N := N) (H := spec_l4H_sum_2.H) (preps := [⟨[], [], [], []⟩]) (l := spec_l4H_sum_2.says) (fn := Try.f46) (c := bodyOf Try.f46)
  (by kernel_rfl) (by kernel_rfl) (by kernel_rfl) (by kernel_rfl) (by kernel_rfl) (by kernel_rfl) (by kernel_rfl)
  (fun N => SayAll.cons (spec_l1Fixed.say N) (SayAll.cons (spec_l4Round.say N) (SayAll.nil))) (fun a s => by kernel_rfl)

/-! ### (*loop.example/g00206/spec.l4H).hmac: function 51 -/
noncomputable def spec_l4H_hmac.H : Hints := hintsOf [(3, .join [⟨.normal, [2], [0, 1], [.one (.ptr 0 0), ak_s], [.cells [.sh (.rows (.int .u32)), .sh (.rows (.int .u32))]], [⟨[], [], [], []⟩]⟩]),
  (2000008, .loop ⟨.normal, [2, 25], [0, 8, 9, 24, 26], [.one (.ptr 0 0), .one (.own 2), .one (.own 3), .one (.own 1), ak_i], [.cells [.sh (.rows (.int .u32)), .sh (.rows (.int .u32))], .rows (.int .u8), .rows (.int .u8), .rows (.int .u8)], [⟨[], [], [], []⟩]⟩ [⟨(.exit 0), [2], [0, 8, 9], [.one (.ptr 0 0), .one (.own 2), .one (.own 3)], [.cells [.sh (.rows (.int .u32)), .sh (.rows (.int .u32))], .rows (.int .u8), .rows (.int .u8), .rows (.int .u8)], [⟨[], [], [], []⟩]⟩])]
noncomputable def spec_l4H_hmac.says (N : Nat) : List Say := [spec_l4H_sum_2.S N]
noncomputable def spec_l4H_hmac.call (N : Nat) : CallK := callBy (spec_l4H_hmac.says N)
noncomputable def spec_l4H_hmac.qt (N : Nat) : FuncId → List PV → Sig → Cl := qtBy (spec_l4H_hmac.says N)
noncomputable def spec_l4H_hmac.l0.hd : Alt := ⟨.normal, [2, 25], [0, 8, 9, 24, 26], [.one (.ptr 0 0), .one (.own 2), .one (.own 3), .one (.own 1), ak_i], [.cells [.sh (.rows (.int .u32)), .sh (.rows (.int .u32))], .rows (.int .u8), .rows (.int .u8), .rows (.int .u8)], [⟨[], [], [], []⟩]⟩
noncomputable def spec_l4H_hmac.l0.outs : List Alt := [⟨(.exit 0), [2], [0, 8, 9], [.one (.ptr 0 0), .one (.own 2), .one (.own 3)], [.cells [.sh (.rows (.int .u32)), .sh (.rows (.int .u32))], .rows (.int .u8), .rows (.int .u8), .rows (.int .u8)], [⟨[], [], [], []⟩]⟩]
noncomputable def spec_l4H_hmac.l0 (N : Nat) (s1 : ByteArray) (t25 : Int) (t26 : Int) (p0_01 : (List Int)) (p0_11 : (List Int)) (p1 : (List Int)) (p2 : (List Int)) (p3 : (List Int)) : Option ((Unit × (Unit × (Unit × Unit))) × (((List Int) × ((List Int) × Unit)) × ((List Int) × ((List Int) × ((List Int) × Unit))))) :=
  loopK Try.prog spec_l4H_hmac.call spec_l4H_hmac.qt spec_l4H_hmac.H (codeAt (bodyOf Try.f51) [1, 1, 1, 1, 1, 1, 0, 1, 0, 0]) 4 spec_l4H_hmac.l0.hd spec_l4H_hmac.l0.outs [(2, .v (.string s1)), (25, .v (.int .i64 t25))] N (((), ((), ((), ((), (t26, ()))))), ((p0_01, (p0_11, ())), (p1, (p2, (p3, ())))))
noncomputable def spec_l4H_hmac (N : Nat) (key : ByteArray) (s : ByteArray) (p0_0 : (List Int)) (p0_1 : (List Int)) : Option ((ByteArray × Unit) × (((List Int) × ((List Int) × Unit)) × Unit)) :=
  ofFn Try.prog spec_l4H_hmac.call spec_l4H_hmac.qt spec_l4H_hmac.H N Try.f51 [.one (.ptr 0 0), ak_s, ak_s] [.cells [.sh (.rows (.int .u32)), .sh (.rows (.int .u32))]] [ak_s] [.cells [.sh (.rows (.int .u32)), .sh (.rows (.int .u32))]] [⟨[], [], [], []⟩] ((), (key, (s, ()))) ((p0_0, (p0_1, ())), ())
noncomputable def spec_l4H_hmac.S (N : Nat) : Say := ⟨false, 51, [.one (.ptr 0 0), ak_s, ak_s], [.cells [.sh (.rows (.int .u32)), .sh (.rows (.int .u32))]], [ak_s], [.cells [.sh (.rows (.int .u32)), .sh (.rows (.int .u32))]], fun a s => spec_l4H_hmac N a.2.1 a.2.2.1 s.1.1 s.1.2.1⟩
set_option maxRecDepth 100000 in
theorem spec_l4H_hmac.l0.eq (N : Nat) (s1 : ByteArray) (t25 : Int) (t26 : Int) (p0_01 : (List Int)) (p0_11 : (List Int)) (p1 : (List Int)) (p2 : (List Int)) (p3 : (List Int)) : spec_l4H_hmac.l0 (N + 1) s1 t25 t26 p0_01 p0_11 p1 p2 p3 =
 sel (decide (t26 < t25))
  (
  chk ((decide (0 ≤ t26)) && (decide (t26 < (p1.length : Int)))) (
  chk ((decide (0 ≤ t26)) && (decide (t26 < (p2.length : Int)))) (
  chk ((decide (0 ≤ t26)) && (decide (t26 < (p3.length : Int)))) (
  spec_l4H_hmac.l0 N s1 t25 (IntKind.i64.wrap (t26 + 1)) p0_01 p0_11 p1 (p2.set (Int.toNat t26) (Go.bits .xor .u8 (p1.getD (Int.toNat t26) 0) 54)) (p3.set (Int.toNat t26) (Go.bits .xor .u8 (p1.getD (Int.toNat t26) 0) 92))))))
  (
  some ((((), ((), ((), ()))), ((p0_01, (p0_11, ())), (p1, (p2, (p3, ()))))))) := by kernel_rfl
set_option maxRecDepth 100000 in
theorem spec_l4H_hmac.eq (N : Nat) (key : ByteArray) (s : ByteArray) (p0_0 : (List Int)) (p0_1 : (List Int)) : spec_l4H_hmac N key s p0_0 p0_1 =
 andK (α := ((Unit × (ByteArray × Unit)) × (((List Int) × ((List Int) × Unit)) × Unit))) (
  sel (decide (64 < (key.size : Int)))
   (
   andK (spec_l4H_sum_2 N key p0_0 p0_1) fun u1 =>
   some ((((), (u1.1.1, ())), ((u1.2.1.1, (u1.2.1.2.1, ())), ()))))
   (
   some ((((), (key, ())), ((p0_0, (p0_1, ())), ()))))) fun j2 =>
 andK (spec_l4H_hmac.l0 N s ((((bytesL j2.1.2.1).take (min (bytesL j2.1.2.1).length (List.replicate 64 (0 : Int)).length)) ++ ((List.replicate 64 (0 : Int)).drop (min (bytesL j2.1.2.1).length (List.replicate 64 (0 : Int)).length))).length : Int) 0 j2.2.1.1 j2.2.1.2.1 (((bytesL j2.1.2.1).take (min (bytesL j2.1.2.1).length (List.replicate 64 (0 : Int)).length)) ++ ((List.replicate 64 (0 : Int)).drop (min (bytesL j2.1.2.1).length (List.replicate 64 (0 : Int)).length))) (List.replicate 64 (0 : Int)) (List.replicate 64 (0 : Int))) fun l3 =>
 chk (decide ((strL l3.2.2.2.1).size + s.size ≤ 9223372036854775807)) (
 andK (spec_l4H_sum_2 N ((strL l3.2.2.2.1) ++ s) l3.2.1.1 l3.2.1.2.1) fun u4 =>
 chk (decide ((strL l3.2.2.2.2.1).size + u4.1.1.size ≤ 9223372036854775807)) (
 andK (spec_l4H_sum_2 N ((strL l3.2.2.2.2.1) ++ u4.1.1) u4.2.1.1 u4.2.1.2.1) fun u5 =>
 some ((u5.1.1, ()), ((u5.2.1.1, (u5.2.1.2.1, ())), ())))) := by kernel_rfl
set_option maxRecDepth 100000 in
theorem spec_l4H_hmac.say (N : Nat) : SayOk Try.prog (spec_l4H_hmac.S N) := sayOk_mk (N := N) (H := spec_l4H_hmac.H) (preps := [⟨[], [], [], []⟩]) (l := spec_l4H_hmac.says) (fn := Try.f51) (c := bodyOf Try.f51)
  (by kernel_rfl) (by kernel_rfl) (by kernel_rfl) (by kernel_rfl) (by kernel_rfl) (by kernel_rfl) (by kernel_rfl)
  (fun N => SayAll.cons (spec_l4H_sum_2.say N) (SayAll.nil)) (fun a s => by kernel_rfl)

/-! ### (*loop.example/g00206/spec.l4H).expand: function 67 -/
noncomputable def spec_l4H_expand.H : Hints := hintsOf [(2000004, .loop ⟨.normal, [1, 2, 3], [0, 9, 10, 11], [.one (.ptr 0 0), ak_s, ak_s, ak_i], [.cells [.sh (.rows (.int .u32)), .sh (.rows (.int .u32))]], [⟨[], [], [], []⟩]⟩ [⟨(.exit 0), [3], [9], [ak_s], [.cells [.sh (.rows (.int .u32)), .sh (.rows (.int .u32))]], [⟨[], [], [], []⟩]⟩])]
noncomputable def spec_l4H_expand.says (N : Nat) : List Say := [spec_l1Fixed.S N, spec_l4H_hmac.S N]
noncomputable def spec_l4H_expand.call (N : Nat) : CallK := callBy (spec_l4H_expand.says N)
noncomputable def spec_l4H_expand.qt (N : Nat) : FuncId → List PV → Sig → Cl := qtBy (spec_l4H_expand.says N)
noncomputable def spec_l4H_expand.l0.hd : Alt := ⟨.normal, [1, 2, 3], [0, 9, 10, 11], [.one (.ptr 0 0), ak_s, ak_s, ak_i], [.cells [.sh (.rows (.int .u32)), .sh (.rows (.int .u32))]], [⟨[], [], [], []⟩]⟩
noncomputable def spec_l4H_expand.l0.outs : List Alt := [⟨(.exit 0), [3], [9], [ak_s], [.cells [.sh (.rows (.int .u32)), .sh (.rows (.int .u32))]], [⟨[], [], [], []⟩]⟩]
noncomputable def spec_l4H_expand.l0 (N : Nat) (secret1 : ByteArray) (info1 : ByteArray) (n1 : Int) (out : ByteArray) (t : ByteArray) (i : Int) (p0_01 : (List Int)) (p0_11 : (List Int)) : Option ((ByteArray × Unit) × (((List Int) × ((List Int) × Unit)) × Unit)) :=
  loopK Try.prog spec_l4H_expand.call spec_l4H_expand.qt spec_l4H_expand.H (codeAt (bodyOf Try.f67) [1, 1, 1, 0, 1, 0, 0]) 1 spec_l4H_expand.l0.hd spec_l4H_expand.l0.outs [(1, .v (.string secret1)), (2, .v (.string info1)), (3, .v (.int .i64 n1))] N (((), (out, (t, (i, ())))), ((p0_01, (p0_11, ())), ()))
noncomputable def spec_l4H_expand (N : Nat) (secret : ByteArray) (info : ByteArray) (n : Int) (p0_0 : (List Int)) (p0_1 : (List Int)) : Option ((ByteArray × Unit) × (((List Int) × ((List Int) × Unit)) × Unit)) :=
  ofFn Try.prog spec_l4H_expand.call spec_l4H_expand.qt spec_l4H_expand.H N Try.f67 [.one (.ptr 0 0), ak_s, ak_s, ak_i] [.cells [.sh (.rows (.int .u32)), .sh (.rows (.int .u32))]] [ak_s] [.cells [.sh (.rows (.int .u32)), .sh (.rows (.int .u32))]] [⟨[], [], [], []⟩] ((), (secret, (info, (n, ())))) ((p0_0, (p0_1, ())), ())
noncomputable def spec_l4H_expand.S (N : Nat) : Say := ⟨false, 67, [.one (.ptr 0 0), ak_s, ak_s, ak_i], [.cells [.sh (.rows (.int .u32)), .sh (.rows (.int .u32))]], [ak_s], [.cells [.sh (.rows (.int .u32)), .sh (.rows (.int .u32))]], fun a s => spec_l4H_expand N a.2.1 a.2.2.1 a.2.2.2.1 s.1.1 s.1.2.1⟩
set_option maxRecDepth 100000 in
theorem spec_l4H_expand.l0.eq (N : Nat) (secret1 : ByteArray) (info1 : ByteArray) (n1 : Int) (out : ByteArray) (t : ByteArray) (i : Int) (p0_01 : (List Int)) (p0_11 : (List Int)) : spec_l4H_expand.l0 (N + 1) secret1 info1 n1 out t i p0_01 p0_11 =
 sel (decide ((out.size : Int) < n1))
  (
  chk (decide (t.size + info1.size ≤ 9223372036854775807)) (
  andK (spec_l1Fixed N i 1) fun u1 =>
  chk (decide ((t ++ info1).size + u1.1.1.size ≤ 9223372036854775807)) (
  andK (spec_l4H_hmac N secret1 ((t ++ info1) ++ u1.1.1) p0_01 p0_11) fun u2 =>
  chk (decide (out.size + u2.1.1.size ≤ 9223372036854775807)) (
  spec_l4H_expand.l0 N secret1 info1 n1 (out ++ u2.1.1) u2.1.1 (IntKind.i64.wrap (i + 1)) u2.2.1.1 u2.2.1.2.1))))
  (
  some (((out, ()), ((p0_01, (p0_11, ())), ())))) := by kernel_rfl
set_option maxRecDepth 100000 in
theorem spec_l4H_expand.eq (N : Nat) (secret : ByteArray) (info : ByteArray) (n : Int) (p0_0 : (List Int)) (p0_1 : (List Int)) : spec_l4H_expand N secret info n p0_0 p0_1 =
 andK (spec_l4H_expand.l0 N secret info n (⟨#[]⟩ : ByteArray) (⟨#[]⟩ : ByteArray) 1 p0_0 p0_1) fun l3 =>
 chk ((decide (0 ≤ n)) && (decide (n ≤ (l3.1.1.size : Int)))) (
 some (((l3.1.1.extract 0 (Int.toNat n)), ()), ((l3.2.1.1, (l3.2.1.2.1, ())), ()))) := by kernel_rfl
set_option maxRecDepth 100000 in
theorem spec_l4H_expand.say (N : Nat) : SayOk Try.prog (spec_l4H_expand.S N) := sayOk_mk (N := N) (H := spec_l4H_expand.H) (preps := [⟨[], [], [], []⟩]) (l := spec_l4H_expand.says) (fn := Try.f67) (c := bodyOf Try.f67)
  (by kernel_rfl) (by kernel_rfl) (by kernel_rfl) (by kernel_rfl) (by kernel_rfl) (by kernel_rfl) (by kernel_rfl)
  (fun N => SayAll.cons (spec_l1Fixed.say N) (SayAll.cons (spec_l4H_hmac.say N) (SayAll.nil))) (fun a s => by kernel_rfl)

/-! ### loop.example/g00206/spec.HkdfExpand: function 31 -/
noncomputable def spec_HkdfExpand.H : Hints := hintsOf [(5000001, .join [⟨.normal, [0, 1, 2], [20], [ak_b], [], [⟨[], [], [], []⟩]⟩])]
noncomputable def spec_HkdfExpand.says (N : Nat) : List Say := [spec_l1In.S N, spec_l4New_2.S N, spec_l4H_expand.S N]
noncomputable def spec_HkdfExpand.call (N : Nat) : CallK := callBy (spec_HkdfExpand.says N)
noncomputable def spec_HkdfExpand.qt (N : Nat) : FuncId → List PV → Sig → Cl := qtBy (spec_HkdfExpand.says N)
noncomputable def spec_HkdfExpand (N : Nat) (secret : ByteArray) (info : ByteArray) (n : Int) : Option ((ByteArray × (Bool × Unit)) × Unit) :=
  ofFn Try.prog spec_HkdfExpand.call spec_HkdfExpand.qt spec_HkdfExpand.H N Try.f31 [ak_s, ak_s, ak_i] [] [ak_s, ak_b] [] [⟨[], [], [], []⟩] (secret, (info, (n, ()))) ()
noncomputable def spec_HkdfExpand.S (N : Nat) : Say := ⟨false, 31, [ak_s, ak_s, ak_i], [], [ak_s, ak_b], [], fun a s => spec_HkdfExpand N a.1 a.2.1 a.2.2.1⟩
set_option maxRecDepth 100000 in
theorem spec_HkdfExpand.eq (N : Nat) (secret : ByteArray) (info : ByteArray) (n : Int) : spec_HkdfExpand N secret info n =
 andK (α := ((Bool × Unit) × Unit)) (
  sel (decide (500 < (secret.size : Int)))
   (
   some (((true, ()), ())))
   (
   sel (decide (500 < (info.size : Int)))
    (
    some (((true, ()), ())))
    (
    andK (spec_l1In N n 0 255) fun u1 =>
    some ((((!u1.1.1), ()), ()))))) fun j2 =>
 sel j2.1.1
  (
  some (((⟨#[]⟩ : ByteArray), (false, ())), ()))
  (
  andK (spec_l4New_2 N) fun u3 =>
  andK (spec_l4H_expand N secret info n u3.2.1.1 u3.2.1.2.1) fun u4 =>
  some ((u4.1.1, (true, ())), ())) := by kernel_rfl
set_option maxRecDepth 100000 in
theorem spec_HkdfExpand.say (N : Nat) : SayOk Try.prog (spec_HkdfExpand.S N) := sayOk_mk (N := N) (H := spec_HkdfExpand.H) (preps := [⟨[], [], [], []⟩]) (l := spec_HkdfExpand.says) (fn := Try.f31) (c := bodyOf Try.f31)
  (by kernel_rfl) (by kernel_rfl) (by kernel_rfl) (by kernel_rfl) (by kernel_rfl) (by kernel_rfl) (by kernel_rfl)
  (fun N => SayAll.cons (spec_l1In.say N) (SayAll.cons (spec_l4New_2.say N) (SayAll.cons (spec_l4H_expand.say N) (SayAll.nil)))) (fun a s => by kernel_rfl)

/-! ### loop.example/g00206/laws.numberOf: function 14 -/
noncomputable def laws_numberOf.H : Hints := hintsOf [(2000003, .loop ⟨.normal, [6, 7], [3, 8], [ak_i, ak_i], [], [⟨[], [], [], []⟩]⟩ [⟨(.exit 0), [], [3], [ak_i], [], [⟨[], [], [], []⟩]⟩])]
noncomputable def laws_numberOf.says (N : Nat) : List Say := []
noncomputable def laws_numberOf.call (N : Nat) : CallK := callBy (laws_numberOf.says N)
noncomputable def laws_numberOf.qt (N : Nat) : FuncId → List PV → Sig → Cl := qtBy (laws_numberOf.says N)
noncomputable def laws_numberOf.l0.hd : Alt := ⟨.normal, [6, 7], [3, 8], [ak_i, ak_i], [], [⟨[], [], [], []⟩]⟩
noncomputable def laws_numberOf.l0.outs : List Alt := [⟨(.exit 0), [], [3], [ak_i], [], [⟨[], [], [], []⟩]⟩]
noncomputable def laws_numberOf.l0 (N : Nat) (t6 : (List Int)) (t7 : Int) (n : Int) (t8 : Int) : Option ((Int × Unit) × Unit) :=
  loopK Try.prog laws_numberOf.call laws_numberOf.qt laws_numberOf.H (codeAt (bodyOf Try.f14) [1, 1, 0, 1, 0, 0]) 0 laws_numberOf.l0.hd laws_numberOf.l0.outs [(6, .rows false (.int .u8) t6), (7, .v (.int .i64 t7))] N ((n, (t8, ())), ())
noncomputable def laws_numberOf (N : Nat) (b : (List Int)) : Option ((Int × Unit) × Unit) :=
  ofFn Try.prog laws_numberOf.call laws_numberOf.qt laws_numberOf.H N Try.f14 [.one (.sh (.rows (.int .u8)))] [] [ak_i] [] [⟨[], [], [], []⟩] (b, ()) ()
noncomputable def laws_numberOf.S (N : Nat) : Say := ⟨false, 14, [.one (.sh (.rows (.int .u8)))], [], [ak_i], [], fun a s => laws_numberOf N a.1⟩
set_option maxRecDepth 100000 in
theorem laws_numberOf.l0.eq (N : Nat) (t6 : (List Int)) (t7 : Int) (n : Int) (t8 : Int) : laws_numberOf.l0 (N + 1) t6 t7 n t8 =
 sel (decide (t8 < t7))
  (
  chk ((decide (0 ≤ t8)) && (decide (t8 < (t6.length : Int)))) (
  laws_numberOf.l0 N t6 t7 (Int.tmod (IntKind.i64.wrap ((IntKind.i64.wrap (31 * n)) + (IntKind.i64.wrap (t6.getD (Int.toNat t8) 0)))) 1000003) (IntKind.i64.wrap (t8 + 1))))
  (
  some (((n, ()), ()))) := by kernel_rfl
set_option maxRecDepth 100000 in
theorem laws_numberOf.eq (N : Nat) (b : (List Int)) : laws_numberOf N b =
 andK (laws_numberOf.l0 N b (b.length : Int) 0 0) fun l1 =>
 some ((l1.1.1, ()), ()) := by kernel_rfl
set_option maxRecDepth 100000 in
theorem laws_numberOf.say (N : Nat) : SayOk Try.prog (laws_numberOf.S N) := sayOk_mk (N := N) (H := laws_numberOf.H) (preps := [⟨[], [], [], []⟩]) (l := laws_numberOf.says) (fn := Try.f14) (c := bodyOf Try.f14)
  (by kernel_rfl) (by kernel_rfl) (by kernel_rfl) (by kernel_rfl) (by kernel_rfl) (by kernel_rfl) (by kernel_rfl)
  (fun N => SayAll.nil) (fun a s => by kernel_rfl)

/-! ### (*loop.example/g00206/spec.l1Cur).id: function 68 -/
noncomputable def spec_l1Cur_id.H : Hints := hintsOf [(4, .join [⟨.normal, [], [0, 3], [.one (.ptr 0 0), ak_i], [.cells [.sh (.rows (.int .u8)), ck_i, .sh (.int .u64)]], [⟨[], [], [], []⟩]⟩])]
noncomputable def spec_l1Cur_id.says (N : Nat) : List Say := [spec_l1Cur_pick.S N, spec_l1Cur_one.S N, spec_l1Cur_among.S N, spec_l1Cur_sizedBytes.S N]
noncomputable def spec_l1Cur_id.call (N : Nat) : CallK := callBy (spec_l1Cur_id.says N)
noncomputable def spec_l1Cur_id.qt (N : Nat) : FuncId → List PV → Sig → Cl := qtBy (spec_l1Cur_id.says N)
noncomputable def spec_l1Cur_id (N : Nat) (p0_0 : (List Int)) (p0_1 : Int) (p0_2 : Int) : Option ((ByteArray × Unit) × (((List Int) × (Int × (Int × Unit))) × Unit)) :=
  ofFn Try.prog spec_l1Cur_id.call spec_l1Cur_id.qt spec_l1Cur_id.H N Try.f68 [.one (.ptr 0 0)] [.cells [.sh (.rows (.int .u8)), ck_i, .sh (.int .u64)]] [ak_s] [.cells [.sh (.rows (.int .u8)), ck_i, .sh (.int .u64)]] [⟨[], [], [], []⟩] ((), ()) ((p0_0, (p0_1, (p0_2, ()))), ())
noncomputable def spec_l1Cur_id.S (N : Nat) : Say := ⟨false, 68, [.one (.ptr 0 0)], [.cells [.sh (.rows (.int .u8)), ck_i, .sh (.int .u64)]], [ak_s], [.cells [.sh (.rows (.int .u8)), ck_i, .sh (.int .u64)]], fun a s => spec_l1Cur_id N s.1.1 s.1.2.1 s.1.2.2.1⟩
set_option maxRecDepth 100000 in
theorem spec_l1Cur_id.eq (N : Nat) (p0_0 : (List Int)) (p0_1 : Int) (p0_2 : Int) : spec_l1Cur_id N p0_0 p0_1 p0_2 =
 andK (spec_l1Cur_pick N 10 p0_0 p0_1 p0_2) fun u1 =>
 andK (α := ((Unit × (Int × Unit)) × (((List Int) × (Int × (Int × Unit))) × Unit))) (
  andK (spec_l1Cur_one N 12 u1.2.1.1 u1.2.1.2.1 u1.2.1.2.2.1) fun u2 =>
  sel u2.1.1
   (
   andK (spec_l1Cur_among N [20, 21, 0] u2.2.1.1 u2.2.1.2.1 u2.2.1.2.2.1) fun u3 =>
   some ((((), (u3.1.1, ())), ((u3.2.1.1, (u3.2.1.2.1, (u3.2.1.2.2.1, ()))), ()))))
   (
   some ((((), (u1.1.1, ())), ((u2.2.1.1, (u2.2.1.2.1, (u2.2.1.2.2.1, ()))), ()))))) fun j4 =>
 andK (spec_l1Cur_sizedBytes N j4.1.2.1 j4.2.1.1 j4.2.1.2.1 j4.2.1.2.2.1) fun u5 =>
 some (((strL u5.2.2.1), ()), ((u5.2.1.1, (u5.2.1.2.1, (u5.2.1.2.2.1, ()))), ())) := by kernel_rfl
set_option maxRecDepth 100000 in
theorem spec_l1Cur_id.say (N : Nat) : SayOk Try.prog (spec_l1Cur_id.S N) := sayOk_mk (N := N) (H := spec_l1Cur_id.H) (preps := [⟨[], [], [], []⟩]) (l := spec_l1Cur_id.says) (fn := Try.f68) (c := bodyOf Try.f68)
  (by kernel_rfl) (by kernel_rfl) (by kernel_rfl) (by kernel_rfl) (by kernel_rfl) (by kernel_rfl) (by kernel_rfl)
  (fun N => SayAll.cons (spec_l1Cur_pick.say N) (SayAll.cons (spec_l1Cur_one.say N) (SayAll.cons (spec_l1Cur_among.say N) (SayAll.cons (spec_l1Cur_sizedBytes.say N) (SayAll.nil))))) (fun a s => by kernel_rfl)

/-! ### loop.example/g00206/spec.DrawInitialSecrets: function 32 -/
noncomputable def spec_DrawInitialSecrets.H : Hints := hintsOf []
noncomputable def spec_DrawInitialSecrets.says (N : Nat) : List Say := [spec_l1Cur_id.S N]
noncomputable def spec_DrawInitialSecrets.call (N : Nat) : CallK := callBy (spec_DrawInitialSecrets.says N)
noncomputable def spec_DrawInitialSecrets.qt (N : Nat) : FuncId → List PV → Sig → Cl := qtBy (spec_DrawInitialSecrets.says N)
noncomputable def spec_DrawInitialSecrets (N : Nat) (code : (List Int)) : Option ((ByteArray × Unit) × Unit) :=
  ofFn Try.prog spec_DrawInitialSecrets.call spec_DrawInitialSecrets.qt spec_DrawInitialSecrets.H N Try.f32 [.one (.sh (.rows (.int .u8)))] [] [ak_s] [] [⟨[], [], [], []⟩] (code, ()) ()
noncomputable def spec_DrawInitialSecrets.S (N : Nat) : Say := ⟨false, 32, [.one (.sh (.rows (.int .u8)))], [], [ak_s], [], fun a s => spec_DrawInitialSecrets N a.1⟩
set_option maxRecDepth 100000 in
theorem spec_DrawInitialSecrets.eq (N : Nat) (code : (List Int)) : spec_DrawInitialSecrets N code =
 andK (spec_l1Cur_id N code 0 0) fun u1 =>
 some ((u1.1.1, ()), ()) := by kernel_rfl
set_option maxRecDepth 100000 in
theorem spec_DrawInitialSecrets.say (N : Nat) : SayOk Try.prog (spec_DrawInitialSecrets.S N) := sayOk_mk (N := N) (H := spec_DrawInitialSecrets.H) (preps := [⟨[], [], [], []⟩]) (l := spec_DrawInitialSecrets.says) (fn := Try.f32) (c := bodyOf Try.f32)
  (by kernel_rfl) (by kernel_rfl) (by kernel_rfl) (by kernel_rfl) (by kernel_rfl) (by kernel_rfl) (by kernel_rfl)
  (fun N => SayAll.cons (spec_l1Cur_id.say N) (SayAll.nil)) (fun a s => by kernel_rfl)

/-! ### internal/stringslite.IndexByte: function 126 -/
noncomputable def internal_stringslite_IndexByte.H : Hints := hintsOf [(8000001, .alts [7])]
noncomputable def internal_stringslite_IndexByte.says (N : Nat) : List Say := []
noncomputable def internal_stringslite_IndexByte.call (N : Nat) : CallK := callBy (internal_stringslite_IndexByte.says N)
noncomputable def internal_stringslite_IndexByte.qt (N : Nat) : FuncId → List PV → Sig → Cl := qtBy (internal_stringslite_IndexByte.says N)
noncomputable def internal_stringslite_IndexByte (N : Nat) (s : ByteArray) (c : Int) : Option ((Int × Unit) × Unit) :=
  ofFn Try.prog internal_stringslite_IndexByte.call internal_stringslite_IndexByte.qt internal_stringslite_IndexByte.H N Try.f126 [ak_s, .one (.sh (.int .u8))] [] [ak_i] [] [⟨[], [], [], []⟩] (s, (c, ())) ()
noncomputable def internal_stringslite_IndexByte.S (N : Nat) : Say := ⟨false, 126, [ak_s, .one (.sh (.int .u8))], [], [ak_i], [], fun a s => internal_stringslite_IndexByte N a.1 a.2.1⟩
set_option maxRecDepth 100000 in
theorem internal_stringslite_IndexByte.eq (N : Nat) (s : ByteArray) (c : Int) : internal_stringslite_IndexByte N s c =
 some (((ixB s c), ()), ()) := by kernel_rfl
set_option maxRecDepth 100000 in
theorem internal_stringslite_IndexByte.say (N : Nat) : SayOk Try.prog (internal_stringslite_IndexByte.S N) := sayOk_mk (N := N) (H := internal_stringslite_IndexByte.H) (preps := [⟨[], [], [], []⟩]) (l := internal_stringslite_IndexByte.says) (fn := Try.f126) (c := bodyOf Try.f126)
  (by kernel_rfl) (by kernel_rfl) (by kernel_rfl) (by kernel_rfl) (by kernel_rfl) (by kernel_rfl) (by kernel_rfl)
  (fun N => SayAll.nil) (fun a s => by kernel_rfl)

/-! ### strings.IndexByte: function 94 -/
noncomputable def strings_IndexByte.H : Hints := hintsOf []
noncomputable def strings_IndexByte.says (N : Nat) : List Say := [internal_stringslite_IndexByte.S N]
noncomputable def strings_IndexByte.call (N : Nat) : CallK := callBy (strings_IndexByte.says N)
noncomputable def strings_IndexByte.qt (N : Nat) : FuncId → List PV → Sig → Cl := qtBy (strings_IndexByte.says N)
noncomputable def strings_IndexByte (N : Nat) (s : ByteArray) (c : Int) : Option ((Int × Unit) × Unit) :=
  ofFn Try.prog strings_IndexByte.call strings_IndexByte.qt strings_IndexByte.H N Try.f94 [ak_s, .one (.sh (.int .u8))] [] [ak_i] [] [⟨[], [], [], []⟩] (s, (c, ())) ()
noncomputable def strings_IndexByte.S (N : Nat) : Say := ⟨false, 94, [ak_s, .one (.sh (.int .u8))], [], [ak_i], [], fun a s => strings_IndexByte N a.1 a.2.1⟩
set_option maxRecDepth 100000 in
theorem strings_IndexByte.eq (N : Nat) (s : ByteArray) (c : Int) : strings_IndexByte N s c =
 andK (internal_stringslite_IndexByte N s c) fun u1 =>
 some ((u1.1.1, ()), ()) := by kernel_rfl
set_option maxRecDepth 100000 in
theorem strings_IndexByte.say (N : Nat) : SayOk Try.prog (strings_IndexByte.S N) := sayOk_mk (N := N) (H := strings_IndexByte.H) (preps := [⟨[], [], [], []⟩]) (l := strings_IndexByte.says) (fn := Try.f94) (c := bodyOf Try.f94)
  (by kernel_rfl) (by kernel_rfl) (by kernel_rfl) (by kernel_rfl) (by kernel_rfl) (by kernel_rfl) (by kernel_rfl)
  (fun N => SayAll.cons (internal_stringslite_IndexByte.say N) (SayAll.nil)) (fun a s => by kernel_rfl)

/-! ### loop.example/g00206/impl.ReadHex: function 53 -/
noncomputable def impl_ReadHex.H : Hints := hintsOf [(5000001, .join [⟨.normal, [0], [16], [ak_b], [], [⟨[], [], [], []⟩]⟩]),
  (5000008, .join [⟨.normal, [0, 5, 6, 7], [4, 38], [.one (.own 0), ak_b], [.rows (.int .u8)], [⟨[], [], [], []⟩]⟩]),
  (2000005, .loop ⟨.normal, [0], [4, 5], [.one (.own 0), ak_i], [.rows (.int .u8)], [⟨[(4, (.int .u8))], [], [], [0]⟩, ⟨[], [], [], [0]⟩]⟩ [⟨.ret, [], [2, 3], [ak_s, ak_b], [], [⟨[], [], [], []⟩]⟩, ⟨(.exit 0), [], [4], [.one (.own 0)], [.rows (.int .u8)], [⟨[], [], [], [0]⟩]⟩])]
noncomputable def impl_ReadHex.says (N : Nat) : List Say := [strings_IndexByte.S N]
noncomputable def impl_ReadHex.call (N : Nat) : CallK := callBy (impl_ReadHex.says N)
noncomputable def impl_ReadHex.qt (N : Nat) : FuncId → List PV → Sig → Cl := qtBy (impl_ReadHex.says N)
noncomputable def impl_ReadHex.l0.hd : Alt := ⟨.normal, [0], [4, 5], [.one (.own 0), ak_i], [.rows (.int .u8)], [⟨[(4, (.int .u8))], [], [], [0]⟩, ⟨[], [], [], [0]⟩]⟩
noncomputable def impl_ReadHex.l0.outs : List Alt := [⟨.ret, [], [2, 3], [ak_s, ak_b], [], [⟨[], [], [], []⟩]⟩, ⟨(.exit 0), [], [4], [.one (.own 0)], [.rows (.int .u8)], [⟨[], [], [], [0]⟩]⟩]
noncomputable def impl_ReadHex.l0 (N : Nat) (s1 : ByteArray) (i : Int) (p0 : (List Int)) : Option (((ByteArray × (Bool × Unit)) × Unit) ⊕ ((Unit × Unit) × ((List Int) × Unit))) :=
  loopK Try.prog impl_ReadHex.call impl_ReadHex.qt impl_ReadHex.H (codeAt (bodyOf Try.f53) [1, 1, 1, 0, 1, 0, 0]) 0 impl_ReadHex.l0.hd impl_ReadHex.l0.outs [(0, .v (.string s1))] N (((), (i, ())), (p0, ()))
noncomputable def impl_ReadHex (N : Nat) (s : ByteArray) : Option ((ByteArray × (Bool × Unit)) × Unit) :=
  ofFn Try.prog impl_ReadHex.call impl_ReadHex.qt impl_ReadHex.H N Try.f53 [ak_s] [] [ak_s, ak_b] [] [⟨[], [], [], []⟩] (s, ()) ()
noncomputable def impl_ReadHex.S (N : Nat) : Say := ⟨false, 53, [ak_s], [], [ak_s, ak_b], [], fun a s => impl_ReadHex N a.1⟩
set_option maxRecDepth 100000 in
theorem impl_ReadHex.l0.eq (N : Nat) (s1 : ByteArray) (i : Int) (p0 : (List Int)) : impl_ReadHex.l0 (N + 1) s1 i p0 =
 sel (decide (i < (s1.size : Int)))
  (
  chk ((decide (0 ≤ i)) && (decide (i < (s1.size : Int)))) (
  andK (strings_IndexByte N (⟨#[48, 49, 50, 51, 52, 53, 54, 55, 56, 57, 97, 98, 99, 100, 101, 102]⟩ : ByteArray) ((bytesL s1).getD (Int.toNat i) 0)) fun u2 =>
  chk ((decide (0 ≤ (IntKind.i64.wrap (i + 1)))) && (decide ((IntKind.i64.wrap (i + 1)) < (s1.size : Int)))) (
  andK (strings_IndexByte N (⟨#[48, 49, 50, 51, 52, 53, 54, 55, 56, 57, 97, 98, 99, 100, 101, 102]⟩ : ByteArray) ((bytesL s1).getD (Int.toNat (IntKind.i64.wrap (i + 1))) 0)) fun u3 =>
  andK (α := ((Unit × (Bool × Unit)) × ((List Int) × Unit))) (
   sel (decide (u2.1.1 < 0))
    (
    some ((((), (true, ())), (p0, ()))))
    (
    some ((((), ((decide (u3.1.1 < 0)), ())), (p0, ()))))) fun j4 =>
  sel j4.1.2.1
   (
   some (.inl (((⟨#[]⟩ : ByteArray), (false, ())), ())))
   (
   chk (decide (j4.2.1.length + 1 < most)) (
   impl_ReadHex.l0 N s1 (IntKind.i64.wrap (i + 2)) (j4.2.1 ++ [(IntKind.u8.wrap (IntKind.i64.wrap ((IntKind.i64.wrap (16 * u2.1.1)) + u3.1.1)))]))))))
  (
  some (.inr ((((), ()), (p0, ()))))) := by kernel_rfl
set_option maxRecDepth 100000 in
theorem impl_ReadHex.eq (N : Nat) (s : ByteArray) : impl_ReadHex N s =
 andK (α := ((Bool × Unit) × Unit)) (
  sel (!(decide ((Int.tmod (s.size : Int) 2) = 0)))
   (
   some (((true, ()), ())))
   (
   some ((((decide (3000 < (s.size : Int))), ()), ())))) fun j1 =>
 sel j1.1.1
  (
  some (((⟨#[]⟩ : ByteArray), (false, ())), ()))
  (
  andK (impl_ReadHex.l0 N s 0 []) fun l5 =>
  orK l5 (fun x6 =>
   some ((x6.1.1, (x6.1.2.1, ())), ()))
   (fun x7 =>
   some (((strL x7.2.1), (true, ())), ()))) := by kernel_rfl
set_option maxRecDepth 100000 in
theorem impl_ReadHex.say (N : Nat) : SayOk Try.prog (impl_ReadHex.S N) := sayOk_mk (N := N) (H := impl_ReadHex.H) (preps := [⟨[], [], [], []⟩]) (l := impl_ReadHex.says) (fn := Try.f53) (c := bodyOf Try.f53)
  (by kernel_rfl) (by kernel_rfl) (by kernel_rfl) (by kernel_rfl) (by kernel_rfl) (by kernel_rfl) (by kernel_rfl)
  (fun N => SayAll.cons (strings_IndexByte.say N) (SayAll.nil)) (fun a s => by kernel_rfl)

/-! ### loop.example/g00206/impl.byteCounted: function 95 -/
noncomputable def impl_byteCounted.H : Hints := hintsOf []
noncomputable def impl_byteCounted.says (N : Nat) : List Say := [impl_bigEndian.S N]
noncomputable def impl_byteCounted.call (N : Nat) : CallK := callBy (impl_byteCounted.says N)
noncomputable def impl_byteCounted.qt (N : Nat) : FuncId → List PV → Sig → Cl := qtBy (impl_byteCounted.says N)
noncomputable def impl_byteCounted (N : Nat) (s : ByteArray) : Option ((ByteArray × Unit) × Unit) :=
  ofFn Try.prog impl_byteCounted.call impl_byteCounted.qt impl_byteCounted.H N Try.f95 [ak_s] [] [ak_s] [] [⟨[], [], [], []⟩] (s, ()) ()
noncomputable def impl_byteCounted.S (N : Nat) : Say := ⟨false, 95, [ak_s], [], [ak_s], [], fun a s => impl_byteCounted N a.1⟩
set_option maxRecDepth 100000 in
theorem impl_byteCounted.eq (N : Nat) (s : ByteArray) : impl_byteCounted N s =
 andK (impl_bigEndian N (IntKind.u64.wrap (s.size : Int)) 1) fun u1 =>
 chk (decide (u1.1.1.size + s.size ≤ 9223372036854775807)) (
 some (((u1.1.1 ++ s), ()), ())) := by kernel_rfl
set_option maxRecDepth 100000 in
theorem impl_byteCounted.say (N : Nat) : SayOk Try.prog (impl_byteCounted.S N) := sayOk_mk (N := N) (H := impl_byteCounted.H) (preps := [⟨[], [], [], []⟩]) (l := impl_byteCounted.says) (fn := Try.f95) (c := bodyOf Try.f95)
  (by kernel_rfl) (by kernel_rfl) (by kernel_rfl) (by kernel_rfl) (by kernel_rfl) (by kernel_rfl) (by kernel_rfl)
  (fun N => SayAll.cons (impl_bigEndian.say N) (SayAll.nil)) (fun a s => by kernel_rfl)

/-! ### loop.example/g00206/impl.ExpandLabel: function 54 -/
noncomputable def impl_ExpandLabel.H : Hints := hintsOf [(5000001, .join [⟨.normal, [0, 1, 2], [15], [ak_b], [], [⟨[], [], [], []⟩]⟩])]
noncomputable def impl_ExpandLabel.says (N : Nat) : List Say := [impl_in.S N, impl_bigEndian.S N, impl_byteCounted.S N, impl_HkdfExpand.S N]
noncomputable def impl_ExpandLabel.call (N : Nat) : CallK := callBy (impl_ExpandLabel.says N)
noncomputable def impl_ExpandLabel.qt (N : Nat) : FuncId → List PV → Sig → Cl := qtBy (impl_ExpandLabel.says N)
noncomputable def impl_ExpandLabel (N : Nat) (secret : ByteArray) (label : ByteArray) (n : Int) : Option ((ByteArray × (Bool × Unit)) × Unit) :=
  ofFn Try.prog impl_ExpandLabel.call impl_ExpandLabel.qt impl_ExpandLabel.H N Try.f54 [ak_s, ak_s, ak_i] [] [ak_s, ak_b] [] [⟨[], [], [], []⟩] (secret, (label, (n, ()))) ()
noncomputable def impl_ExpandLabel.S (N : Nat) : Say := ⟨false, 54, [ak_s, ak_s, ak_i], [], [ak_s, ak_b], [], fun a s => impl_ExpandLabel N a.1 a.2.1 a.2.2.1⟩
set_option maxRecDepth 100000 in
theorem impl_ExpandLabel.eq (N : Nat) (secret : ByteArray) (label : ByteArray) (n : Int) : impl_ExpandLabel N secret label n =
 andK (α := ((Bool × Unit) × Unit)) (
  sel (decide (40 < (label.size : Int)))
   (
   some (((true, ()), ())))
   (
   andK (impl_in N n 0 255) fun u1 =>
   some ((((!u1.1.1), ()), ())))) fun j2 =>
 sel j2.1.1
  (
  some (((⟨#[]⟩ : ByteArray), (false, ())), ()))
  (
  andK (impl_bigEndian N (IntKind.u64.wrap n) 2) fun u3 =>
  chk (decide (6 + label.size ≤ 9223372036854775807)) (
  andK (impl_byteCounted N ((⟨#[116, 108, 115, 49, 51, 32]⟩ : ByteArray) ++ label)) fun u4 =>
  chk (decide (u3.1.1.size + u4.1.1.size ≤ 9223372036854775807)) (
  chk (decide ((u3.1.1 ++ u4.1.1).size + 1 ≤ 9223372036854775807)) (
  andK (impl_HkdfExpand N secret ((u3.1.1 ++ u4.1.1) ++ (⟨#[0]⟩ : ByteArray)) n) fun u5 =>
  some ((u5.1.1, (u5.1.2.1, ())), ()))))) := by kernel_rfl
set_option maxRecDepth 100000 in
theorem impl_ExpandLabel.say (N : Nat) : SayOk Try.prog (impl_ExpandLabel.S N) := sayOk_mk (N := N) (H := impl_ExpandLabel.H) (preps := [⟨[], [], [], []⟩]) (l := impl_ExpandLabel.says) (fn := Try.f54) (c := bodyOf Try.f54)
  (by kernel_rfl) (by kernel_rfl) (by kernel_rfl) (by kernel_rfl) (by kernel_rfl) (by kernel_rfl) (by kernel_rfl)
  (fun N => SayAll.cons (impl_in.say N) (SayAll.cons (impl_bigEndian.say N) (SayAll.cons (impl_byteCounted.say N) (SayAll.cons (impl_HkdfExpand.say N) (SayAll.nil))))) (fun a s => by kernel_rfl)

/-! ### loop.example/g00206/impl.InitialSecrets: function 24 -/
noncomputable def impl_InitialSecrets.H : Hints := hintsOf []
noncomputable def impl_InitialSecrets.says (N : Nat) : List Say := [impl_ReadHex.S N, impl_hmac.S N, impl_ExpandLabel.S N]
noncomputable def impl_InitialSecrets.call (N : Nat) : CallK := callBy (impl_InitialSecrets.says N)
noncomputable def impl_InitialSecrets.qt (N : Nat) : FuncId → List PV → Sig → Cl := qtBy (impl_InitialSecrets.says N)
noncomputable def impl_InitialSecrets (N : Nat) (idv : ByteArray) : Option ((ByteArray × (ByteArray × (Bool × Unit))) × Unit) :=
  ofFn Try.prog impl_InitialSecrets.call impl_InitialSecrets.qt impl_InitialSecrets.H N Try.f24 [ak_s] [] [ak_s, ak_s, ak_b] [] [⟨[], [], [], []⟩] (idv, ()) ()
noncomputable def impl_InitialSecrets.S (N : Nat) : Say := ⟨false, 24, [ak_s], [], [ak_s, ak_s, ak_b], [], fun a s => impl_InitialSecrets N a.1⟩
set_option maxRecDepth 100000 in
theorem impl_InitialSecrets.eq (N : Nat) (idv : ByteArray) : impl_InitialSecrets N idv =
 sel (decide (20 < (idv.size : Int)))
  (
  some (((⟨#[]⟩ : ByteArray), ((⟨#[]⟩ : ByteArray), (false, ()))), ()))
  (
  andK (impl_ReadHex N (⟨#[51, 56, 55, 54, 50, 99, 102, 55, 102, 53, 53, 57, 51, 52, 98, 51, 52, 100, 49, 55, 57, 97, 101, 54, 97, 52, 99, 56, 48, 99, 97, 100, 99, 99, 98, 98, 55, 102, 48, 97]⟩ : ByteArray)) fun u1 =>
  andK (impl_hmac N u1.1.1 idv) fun u2 =>
  andK (impl_ExpandLabel N u2.1.1 (⟨#[99, 108, 105, 101, 110, 116, 32, 105, 110]⟩ : ByteArray) 32) fun u3 =>
  andK (impl_ExpandLabel N u2.1.1 (⟨#[115, 101, 114, 118, 101, 114, 32, 105, 110]⟩ : ByteArray) 32) fun u4 =>
  some ((u3.1.1, (u4.1.1, (true, ()))), ())) := by kernel_rfl
set_option maxRecDepth 100000 in
theorem impl_InitialSecrets.say (N : Nat) : SayOk Try.prog (impl_InitialSecrets.S N) := sayOk_mk (N := N) (H := impl_InitialSecrets.H) (preps := [⟨[], [], [], []⟩]) (l := impl_InitialSecrets.says) (fn := Try.f24) (c := bodyOf Try.f24)
  (by kernel_rfl) (by kernel_rfl) (by kernel_rfl) (by kernel_rfl) (by kernel_rfl) (by kernel_rfl) (by kernel_rfl)
  (fun N => SayAll.cons (impl_ReadHex.say N) (SayAll.cons (impl_hmac.say N) (SayAll.cons (impl_ExpandLabel.say N) (SayAll.nil)))) (fun a s => by kernel_rfl)

/-! ### (*loop.example/g00206/spec.l4H).label: function 52 -/
noncomputable def spec_l4H_label.H : Hints := hintsOf []
noncomputable def spec_l4H_label.says (N : Nat) : List Say := [spec_l1Fixed.S N, spec_l4H_expand.S N]
noncomputable def spec_l4H_label.call (N : Nat) : CallK := callBy (spec_l4H_label.says N)
noncomputable def spec_l4H_label.qt (N : Nat) : FuncId → List PV → Sig → Cl := qtBy (spec_l4H_label.says N)
noncomputable def spec_l4H_label (N : Nat) (secret : ByteArray) (label : ByteArray) (n : Int) (p0_0 : (List Int)) (p0_1 : (List Int)) : Option ((ByteArray × Unit) × (((List Int) × ((List Int) × Unit)) × Unit)) :=
  ofFn Try.prog spec_l4H_label.call spec_l4H_label.qt spec_l4H_label.H N Try.f52 [.one (.ptr 0 0), ak_s, ak_s, ak_i] [.cells [.sh (.rows (.int .u32)), .sh (.rows (.int .u32))]] [ak_s] [.cells [.sh (.rows (.int .u32)), .sh (.rows (.int .u32))]] [⟨[], [], [], []⟩] ((), (secret, (label, (n, ())))) ((p0_0, (p0_1, ())), ())
noncomputable def spec_l4H_label.S (N : Nat) : Say := ⟨false, 52, [.one (.ptr 0 0), ak_s, ak_s, ak_i], [.cells [.sh (.rows (.int .u32)), .sh (.rows (.int .u32))]], [ak_s], [.cells [.sh (.rows (.int .u32)), .sh (.rows (.int .u32))]], fun a s => spec_l4H_label N a.2.1 a.2.2.1 a.2.2.2.1 s.1.1 s.1.2.1⟩
set_option maxRecDepth 100000 in
theorem spec_l4H_label.eq (N : Nat) (secret : ByteArray) (label : ByteArray) (n : Int) (p0_0 : (List Int)) (p0_1 : (List Int)) : spec_l4H_label N secret label n p0_0 p0_1 =
 chk (decide (6 + label.size ≤ 9223372036854775807)) (
 andK (spec_l1Fixed N n 2) fun u1 =>
 andK (spec_l1Fixed N (((⟨#[116, 108, 115, 49, 51, 32]⟩ : ByteArray) ++ label).size : Int) 1) fun u2 =>
 chk (decide (u1.1.1.size + u2.1.1.size ≤ 9223372036854775807)) (
 chk (decide ((u1.1.1 ++ u2.1.1).size + ((⟨#[116, 108, 115, 49, 51, 32]⟩ : ByteArray) ++ label).size ≤ 9223372036854775807)) (
 chk (decide (((u1.1.1 ++ u2.1.1) ++ ((⟨#[116, 108, 115, 49, 51, 32]⟩ : ByteArray) ++ label)).size + 1 ≤ 9223372036854775807)) (
 andK (spec_l4H_expand N secret (((u1.1.1 ++ u2.1.1) ++ ((⟨#[116, 108, 115, 49, 51, 32]⟩ : ByteArray) ++ label)) ++ (⟨#[0]⟩ : ByteArray)) n p0_0 p0_1) fun u3 =>
 some ((u3.1.1, ()), ((u3.2.1.1, (u3.2.1.2.1, ())), ())))))) := by kernel_rfl
set_option maxRecDepth 100000 in
theorem spec_l4H_label.say (N : Nat) : SayOk Try.prog (spec_l4H_label.S N) := sayOk_mk (N := N) (H := spec_l4H_label.H) (preps := [⟨[], [], [], []⟩]) (l := spec_l4H_label.says) (fn := Try.f52) (c := bodyOf Try.f52)
  (by kernel_rfl) (by kernel_rfl) (by kernel_rfl) (by kernel_rfl) (by kernel_rfl) (by kernel_rfl) (by kernel_rfl)
  (fun N => SayAll.cons (spec_l1Fixed.say N) (SayAll.cons (spec_l4H_expand.say N) (SayAll.nil))) (fun a s => by kernel_rfl)

/-! ### loop.example/g00206/spec.InitialSecrets: function 23 -/
noncomputable def spec_InitialSecrets.H : Hints := hintsOf []
noncomputable def spec_InitialSecrets.says (N : Nat) : List Say := [spec_l4New_2.S N, spec_l4H_hmac.S N, spec_l4H_label.S N]
noncomputable def spec_InitialSecrets.call (N : Nat) : CallK := callBy (spec_InitialSecrets.says N)
noncomputable def spec_InitialSecrets.qt (N : Nat) : FuncId → List PV → Sig → Cl := qtBy (spec_InitialSecrets.says N)
noncomputable def spec_InitialSecrets (N : Nat) (idv : ByteArray) : Option ((ByteArray × (ByteArray × (Bool × Unit))) × Unit) :=
  ofFn Try.prog spec_InitialSecrets.call spec_InitialSecrets.qt spec_InitialSecrets.H N Try.f23 [ak_s] [] [ak_s, ak_s, ak_b] [] [⟨[], [], [], []⟩] (idv, ()) ()
noncomputable def spec_InitialSecrets.S (N : Nat) : Say := ⟨false, 23, [ak_s], [], [ak_s, ak_s, ak_b], [], fun a s => spec_InitialSecrets N a.1⟩
set_option maxRecDepth 100000 in
theorem spec_InitialSecrets.eq (N : Nat) (idv : ByteArray) : spec_InitialSecrets N idv =
 sel (decide (20 < (idv.size : Int)))
  (
  some (((⟨#[]⟩ : ByteArray), ((⟨#[]⟩ : ByteArray), (false, ()))), ()))
  (
  andK (spec_l4New_2 N) fun u1 =>
  andK (spec_l4H_hmac N (⟨#[56, 118, 44, 247, 245, 89, 52, 179, 77, 23, 154, 230, 164, 200, 12, 173, 204, 187, 127, 10]⟩ : ByteArray) idv u1.2.1.1 u1.2.1.2.1) fun u2 =>
  andK (spec_l4H_label N u2.1.1 (⟨#[99, 108, 105, 101, 110, 116, 32, 105, 110]⟩ : ByteArray) 32 u2.2.1.1 u2.2.1.2.1) fun u3 =>
  andK (spec_l4H_label N u2.1.1 (⟨#[115, 101, 114, 118, 101, 114, 32, 105, 110]⟩ : ByteArray) 32 u3.2.1.1 u3.2.1.2.1) fun u4 =>
  some ((u3.1.1, (u4.1.1, (true, ()))), ())) := by kernel_rfl
set_option maxRecDepth 100000 in
theorem spec_InitialSecrets.say (N : Nat) : SayOk Try.prog (spec_InitialSecrets.S N) := sayOk_mk (N := N) (H := spec_InitialSecrets.H) (preps := [⟨[], [], [], []⟩]) (l := spec_InitialSecrets.says) (fn := Try.f23) (c := bodyOf Try.f23)
  (by kernel_rfl) (by kernel_rfl) (by kernel_rfl) (by kernel_rfl) (by kernel_rfl) (by kernel_rfl) (by kernel_rfl)
  (fun N => SayAll.cons (spec_l4New_2.say N) (SayAll.cons (spec_l4H_hmac.say N) (SayAll.cons (spec_l4H_label.say N) (SayAll.nil)))) (fun a s => by kernel_rfl)

/-! ### loop.example/g00206/laws.FnDerived: function 8 -/
noncomputable def laws_FnDerived.H : Hints := hintsOf [(5000006, .join [⟨.normal, [1, 5, 6, 7, 8, 9], [55], [ak_b], [], [⟨[], [], [], []⟩]⟩]),
  (5000011, .join [⟨.normal, [1], [83], [ak_b], [], [⟨[], [], [], []⟩]⟩]),
  (13, .join [⟨.ret, [], [4], [ak_b], [], [⟨[], [], [], []⟩]⟩, ⟨.normal, [1], [], [], [], [⟨[], [], [], []⟩]⟩]),
  (5000016, .join [⟨.normal, [16, 17, 18], [110], [ak_b], [], [⟨[], [], [], []⟩]⟩])]
noncomputable def laws_FnDerived.says (N : Nat) : List Say := [spec_DrawHkdfExpand.S N, impl_HkdfExpand.S N, spec_HkdfExpand.S N, laws_numberOf.S N, spec_DrawInitialSecrets.S N, impl_InitialSecrets.S N, spec_InitialSecrets.S N]
noncomputable def laws_FnDerived.call (N : Nat) : CallK := callBy (laws_FnDerived.says N)
noncomputable def laws_FnDerived.qt (N : Nat) : FuncId → List PV → Sig → Cl := qtBy (laws_FnDerived.says N)
noncomputable def laws_FnDerived (N : Nat) (G : (List Int)) (o : (List Int)) : Option ((Bool × Unit) × Unit) :=
  ofFn Try.prog laws_FnDerived.call laws_FnDerived.qt laws_FnDerived.H N Try.f8 [.one (.sh (.rows (.int .u8))), .one (.sh (.rows (.int .u8)))] [] [ak_b] [] [⟨[], [], [], []⟩] (G, (o, ())) ()
noncomputable def laws_FnDerived.S (N : Nat) : Say := ⟨false, 8, [.one (.sh (.rows (.int .u8))), .one (.sh (.rows (.int .u8)))], [], [ak_b], [], fun a s => laws_FnDerived N a.1 a.2.1⟩
set_option maxRecDepth 100000 in
theorem laws_FnDerived.eq (N : Nat) (G : (List Int)) (o : (List Int)) : laws_FnDerived N G o =
 sel (decide (1048576 < (IntKind.i64.wrap ((G.length : Int) + (o.length : Int)))))
  (
  some ((true, ()), ()))
  (
  andK (spec_DrawHkdfExpand N G) fun u1 =>
  andK (impl_HkdfExpand N u1.1.1 u1.1.2.1 u1.1.2.2.1) fun u2 =>
  andK (spec_HkdfExpand N u1.1.1 u1.1.2.1 u1.1.2.2.1) fun u3 =>
  andK (α := ((Bool × Unit) × Unit)) (
   sel (!(u2.1.2.1 == u3.1.2.1))
    (
    some (((true, ()), ())))
    (
    some ((((!(decide (u2.1.1 = u3.1.1))), ()), ())))) fun j4 =>
  sel j4.1.1
   (
   some ((false, ()), ()))
   (
   andK (α := (((Bool × Unit) × Unit) ⊕ (Unit × Unit))) (
    sel u2.1.2.1
     (
     andK (laws_numberOf N o) fun u5 =>
     chk ((IntKind.i64.wrap (u1.1.2.2.1 + 1)) != 0) (
     andK (impl_HkdfExpand N u1.1.1 u1.1.2.1 (Int.tmod u5.1.1 (IntKind.i64.wrap (u1.1.2.2.1 + 1)))) fun u6 =>
     andK (α := ((Bool × Unit) × Unit)) (
      sel (!u6.1.2.1)
       (
       some (((true, ()), ())))
       (
       sel (!(decide ((u2.1.1.size : Int) = u1.1.2.2.1)))
        (
        some (((true, ()), ())))
        (
        chk ((decide (0 ≤ (Int.tmod u5.1.1 (IntKind.i64.wrap (u1.1.2.2.1 + 1))))) && (decide ((Int.tmod u5.1.1 (IntKind.i64.wrap (u1.1.2.2.1 + 1))) ≤ (u2.1.1.size : Int)))) (
        some ((((!(decide (u6.1.1 = (u2.1.1.extract 0 (Int.toNat (Int.tmod u5.1.1 (IntKind.i64.wrap (u1.1.2.2.1 + 1)))))))), ()), ())))))) fun j7 =>
     sel j7.1.1
      (
      some (.inl ((false, ()), ())))
      (
      some (.inr (((), ()))))))
     (
     some (.inr (((), ()))))) fun j8 =>
   orK j8 (fun x9 =>
    some ((x9.1.1, ()), ()))
    (fun x10 =>
    andK (spec_DrawInitialSecrets N o) fun u11 =>
    andK (impl_InitialSecrets N u11.1.1) fun u12 =>
    andK (spec_InitialSecrets N u11.1.1) fun u13 =>
    andK (α := ((Bool × Unit) × Unit)) (
     sel (!(u12.1.2.2.1 == u13.1.2.2.1))
      (
      some (((true, ()), ())))
      (
      sel (!(decide (u12.1.1 = u13.1.1)))
       (
       some (((true, ()), ())))
       (
       some ((((!(decide (u12.1.2.1 = u13.1.2.1))), ()), ()))))) fun j14 =>
    sel j14.1.1
     (
     some ((false, ()), ()))
     (
     sel (!u12.1.2.2.1)
      (
      some ((true, ()), ()))
      (
      sel (decide ((u12.1.1.size : Int) = 32))
       (
       some (((decide ((u12.1.2.1.size : Int) = 32)), ()), ()))
       (
       some ((false, ()), ()))))))) := by kernel_rfl
set_option maxRecDepth 100000 in
theorem laws_FnDerived.say (N : Nat) : SayOk Try.prog (laws_FnDerived.S N) := sayOk_mk (N := N) (H := laws_FnDerived.H) (preps := [⟨[], [], [], []⟩]) (l := laws_FnDerived.says) (fn := Try.f8) (c := bodyOf Try.f8)
  (by kernel_rfl) (by kernel_rfl) (by kernel_rfl) (by kernel_rfl) (by kernel_rfl) (by kernel_rfl) (by kernel_rfl)
  (fun N => SayAll.cons (spec_DrawHkdfExpand.say N) (SayAll.cons (impl_HkdfExpand.say N) (SayAll.cons (spec_HkdfExpand.say N) (SayAll.cons (laws_numberOf.say N) (SayAll.cons (spec_DrawInitialSecrets.say N) (SayAll.cons (impl_InitialSecrets.say N) (SayAll.cons (spec_InitialSecrets.say N) (SayAll.nil)))))))) (fun a s => by kernel_rfl)

end Go.Proofs.Ytknoemdkfhkkhaa.GFnDerived
