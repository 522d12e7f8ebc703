-- Written by a program of this session out of the translation; Lean checks it.
import Derived.Test.YtdmnpmhdindabaaPmLaw
import Derived.Test.YtdmnpmhdindabaaProg
import Derived.Test.YtdmnpmhdindabaaShelf
set_option linter.unusedVariables false
namespace Go.Proofs.Ytdmnpmhdindabaa.GFnCapsules
open Go Go.Proofs Go.Proofs.YtdmnpmhdindabaaPM

/-! ### (*loop.example/g00206/spec.l1Cur).next: function 41 -/
noncomputable def spec_l1Cur_next.H : Hints := hintsOf [(4, .join [⟨.normal, [], [0, 3], [.one (.ptr 0 0), ak_i], [.cells [.sh (.rows (.int .u8)), ck_i, .sh (.int .u64)]], [⟨[], [], [], []⟩]⟩])]
noncomputable def spec_l1Cur_next.says (N : Nat) : List Say := []
noncomputable def spec_l1Cur_next.call (N : Nat) : CallK := callBy (spec_l1Cur_next.says N)
noncomputable def spec_l1Cur_next.qt (N : Nat) : FuncId → List PV → Sig → Cl := qtBy (spec_l1Cur_next.says N)
noncomputable def spec_l1Cur_next (N : Nat) (p0_0 : (List Int)) (p0_1 : Int) (p0_2 : Int) : Option ((Int × Unit) × (((List Int) × (Int × (Int × Unit))) × Unit)) :=
  ofFn Try.prog spec_l1Cur_next.call spec_l1Cur_next.qt spec_l1Cur_next.H N Try.f41 [.one (.ptr 0 0)] [.cells [.sh (.rows (.int .u8)), ck_i, .sh (.int .u64)]] [ak_i] [.cells [.sh (.rows (.int .u8)), ck_i, .sh (.int .u64)]] [⟨[], [], [], []⟩] ((), ()) ((p0_0, (p0_1, (p0_2, ()))), ())
noncomputable def spec_l1Cur_next.S (N : Nat) : Say := ⟨false, 41, [.one (.ptr 0 0)], [.cells [.sh (.rows (.int .u8)), ck_i, .sh (.int .u64)]], [ak_i], [.cells [.sh (.rows (.int .u8)), ck_i, .sh (.int .u64)]], fun a s => spec_l1Cur_next N s.1.1 s.1.2.1 s.1.2.2.1⟩
set_option maxRecDepth 100000 in
theorem spec_l1Cur_next.eq (N : Nat) (p0_0 : (List Int)) (p0_1 : Int) (p0_2 : Int) : spec_l1Cur_next N p0_0 p0_1 p0_2 =
 andK (α := ((Unit × (Int × Unit)) × (((List Int) × (Int × (Int × Unit))) × Unit))) (
  sel (decide (p0_1 < (p0_0.length : Int)))
   (
   chk ((decide (0 ≤ p0_1)) && (decide (p0_1 < (p0_0.length : Int)))) (
   some ((((), ((IntKind.i64.wrap (p0_0.getD (Int.toNat p0_1) 0)), ())), ((p0_0, (p0_1, (p0_2, ()))), ())))))
   (
   some ((((), (0, ())), ((p0_0, (p0_1, (p0_2, ()))), ()))))) fun j1 =>
 sel (decide ((IntKind.i64.wrap (j1.2.1.2.1 + 1)) ≤ (j1.2.1.1.length : Int)))
  (
  some ((j1.1.2.1, ()), ((j1.2.1.1, ((IntKind.i64.wrap (j1.2.1.2.1 + 1)), ((IntKind.u64.wrap ((IntKind.u64.wrap ((IntKind.u64.wrap (j1.2.1.2.2.1 * 6364136223846793005)) + (IntKind.u64.wrap j1.1.2.1))) + 1442695040888963407)), ()))), ())))
  (
  some (((IntKind.i64.wrap (Go.bits .and .u64 (shrI .u64 (IntKind.u64.wrap ((IntKind.u64.wrap ((IntKind.u64.wrap (j1.2.1.2.2.1 * 6364136223846793005)) + (IntKind.u64.wrap j1.1.2.1))) + 1442695040888963407)) 40) 255)), ()), ((j1.2.1.1, ((IntKind.i64.wrap (j1.2.1.2.1 + 1)), ((IntKind.u64.wrap ((IntKind.u64.wrap ((IntKind.u64.wrap (j1.2.1.2.2.1 * 6364136223846793005)) + (IntKind.u64.wrap j1.1.2.1))) + 1442695040888963407)), ()))), ()))) := by kernel_rfl
set_option maxRecDepth 100000 in
theorem spec_l1Cur_next.say (N : Nat) : SayOk Try.prog (spec_l1Cur_next.S N) := sayOk_mk (N := N) (H := spec_l1Cur_next.H) (preps := [⟨[], [], [], []⟩]) (l := spec_l1Cur_next.says) (fn := Try.f41) (c := bodyOf Try.f41)
  (by kernel_rfl) (by kernel_rfl) (by kernel_rfl) (by kernel_rfl) (by kernel_rfl) (by kernel_rfl) (by kernel_rfl)
  (fun N => SayAll.nil) (fun a s => by kernel_rfl)

/-! ### (*loop.example/g00206/spec.l1Cur).pick: function 25 -/
noncomputable def spec_l1Cur_pick.H : Hints := hintsOf []
noncomputable def spec_l1Cur_pick.says (N : Nat) : List Say := [spec_l1Cur_next.S N]
noncomputable def spec_l1Cur_pick.call (N : Nat) : CallK := callBy (spec_l1Cur_pick.says N)
noncomputable def spec_l1Cur_pick.qt (N : Nat) : FuncId → List PV → Sig → Cl := qtBy (spec_l1Cur_pick.says N)
noncomputable def spec_l1Cur_pick (N : Nat) (n : Int) (p0_0 : (List Int)) (p0_1 : Int) (p0_2 : Int) : Option ((Int × Unit) × (((List Int) × (Int × (Int × Unit))) × Unit)) :=
  ofFn Try.prog spec_l1Cur_pick.call spec_l1Cur_pick.qt spec_l1Cur_pick.H N Try.f25 [.one (.ptr 0 0), ak_i] [.cells [.sh (.rows (.int .u8)), ck_i, .sh (.int .u64)]] [ak_i] [.cells [.sh (.rows (.int .u8)), ck_i, .sh (.int .u64)]] [⟨[], [], [], []⟩] ((), (n, ())) ((p0_0, (p0_1, (p0_2, ()))), ())
noncomputable def spec_l1Cur_pick.S (N : Nat) : Say := ⟨false, 25, [.one (.ptr 0 0), ak_i], [.cells [.sh (.rows (.int .u8)), ck_i, .sh (.int .u64)]], [ak_i], [.cells [.sh (.rows (.int .u8)), ck_i, .sh (.int .u64)]], fun a s => spec_l1Cur_pick N a.2.1 s.1.1 s.1.2.1 s.1.2.2.1⟩
set_option maxRecDepth 100000 in
theorem spec_l1Cur_pick.eq (N : Nat) (n : Int) (p0_0 : (List Int)) (p0_1 : Int) (p0_2 : Int) : spec_l1Cur_pick N n p0_0 p0_1 p0_2 =
 sel (decide (n ≤ 1))
  (
  some ((0, ()), ((p0_0, (p0_1, (p0_2, ()))), ())))
  (
  andK (spec_l1Cur_next N p0_0 p0_1 p0_2) fun u1 =>
  sel (decide (200 < n))
   (
   andK (spec_l1Cur_next N u1.2.1.1 u1.2.1.2.1 u1.2.1.2.2.1) fun u2 =>
   chk (n != 0) (
   some (((Int.tmod (IntKind.i64.wrap ((IntKind.i64.wrap (u1.1.1 * 256)) + u2.1.1)) n), ()), ((u2.2.1.1, (u2.2.1.2.1, (u2.2.1.2.2.1, ()))), ()))))
   (
   chk (n != 0) (
   some (((Int.tmod u1.1.1 n), ()), ((u1.2.1.1, (u1.2.1.2.1, (u1.2.1.2.2.1, ()))), ()))))) := by kernel_rfl
set_option maxRecDepth 100000 in
theorem spec_l1Cur_pick.say (N : Nat) : SayOk Try.prog (spec_l1Cur_pick.S N) := sayOk_mk (N := N) (H := spec_l1Cur_pick.H) (preps := [⟨[], [], [], []⟩]) (l := spec_l1Cur_pick.says) (fn := Try.f25) (c := bodyOf Try.f25)
  (by kernel_rfl) (by kernel_rfl) (by kernel_rfl) (by kernel_rfl) (by kernel_rfl) (by kernel_rfl) (by kernel_rfl)
  (fun N => SayAll.cons (spec_l1Cur_next.say N) (SayAll.nil)) (fun a s => by kernel_rfl)

/-! ### (*loop.example/g00206/spec.l1Cur).one: function 26 -/
noncomputable def spec_l1Cur_one.H : Hints := hintsOf []
noncomputable def spec_l1Cur_one.says (N : Nat) : List Say := [spec_l1Cur_pick.S N]
noncomputable def spec_l1Cur_one.call (N : Nat) : CallK := callBy (spec_l1Cur_one.says N)
noncomputable def spec_l1Cur_one.qt (N : Nat) : FuncId → List PV → Sig → Cl := qtBy (spec_l1Cur_one.says N)
noncomputable def spec_l1Cur_one (N : Nat) (n : Int) (p0_0 : (List Int)) (p0_1 : Int) (p0_2 : Int) : Option ((Bool × Unit) × (((List Int) × (Int × (Int × Unit))) × Unit)) :=
  ofFn Try.prog spec_l1Cur_one.call spec_l1Cur_one.qt spec_l1Cur_one.H N Try.f26 [.one (.ptr 0 0), ak_i] [.cells [.sh (.rows (.int .u8)), ck_i, .sh (.int .u64)]] [ak_b] [.cells [.sh (.rows (.int .u8)), ck_i, .sh (.int .u64)]] [⟨[], [], [], []⟩] ((), (n, ())) ((p0_0, (p0_1, (p0_2, ()))), ())
noncomputable def spec_l1Cur_one.S (N : Nat) : Say := ⟨false, 26, [.one (.ptr 0 0), ak_i], [.cells [.sh (.rows (.int .u8)), ck_i, .sh (.int .u64)]], [ak_b], [.cells [.sh (.rows (.int .u8)), ck_i, .sh (.int .u64)]], fun a s => spec_l1Cur_one N a.2.1 s.1.1 s.1.2.1 s.1.2.2.1⟩
set_option maxRecDepth 100000 in
theorem spec_l1Cur_one.eq (N : Nat) (n : Int) (p0_0 : (List Int)) (p0_1 : Int) (p0_2 : Int) : spec_l1Cur_one N n p0_0 p0_1 p0_2 =
 andK (spec_l1Cur_pick N n p0_0 p0_1 p0_2) fun u1 =>
 some (((decide (u1.1.1 = 0)), ()), ((u1.2.1.1, (u1.2.1.2.1, (u1.2.1.2.2.1, ()))), ())) := by kernel_rfl
set_option maxRecDepth 100000 in
theorem spec_l1Cur_one.say (N : Nat) : SayOk Try.prog (spec_l1Cur_one.S N) := sayOk_mk (N := N) (H := spec_l1Cur_one.H) (preps := [⟨[], [], [], []⟩]) (l := spec_l1Cur_one.says) (fn := Try.f26) (c := bodyOf Try.f26)
  (by kernel_rfl) (by kernel_rfl) (by kernel_rfl) (by kernel_rfl) (by kernel_rfl) (by kernel_rfl) (by kernel_rfl)
  (fun N => SayAll.cons (spec_l1Cur_pick.say N) (SayAll.nil)) (fun a s => by kernel_rfl)

/-! ### (*loop.example/g00206/spec.l1Cur).among: function 29 -/
noncomputable def spec_l1Cur_among.H : Hints := hintsOf []
noncomputable def spec_l1Cur_among.says (N : Nat) : List Say := [spec_l1Cur_pick.S N]
noncomputable def spec_l1Cur_among.call (N : Nat) : CallK := callBy (spec_l1Cur_among.says N)
noncomputable def spec_l1Cur_among.qt (N : Nat) : FuncId → List PV → Sig → Cl := qtBy (spec_l1Cur_among.says N)
noncomputable def spec_l1Cur_among (N : Nat) (list : (List Int)) (p0_0 : (List Int)) (p0_1 : Int) (p0_2 : Int) : Option ((Int × Unit) × (((List Int) × (Int × (Int × Unit))) × Unit)) :=
  ofFn Try.prog spec_l1Cur_among.call spec_l1Cur_among.qt spec_l1Cur_among.H N Try.f29 [.one (.ptr 0 0), .one (.sh (.rows (.int .i64)))] [.cells [.sh (.rows (.int .u8)), ck_i, .sh (.int .u64)]] [ak_i] [.cells [.sh (.rows (.int .u8)), ck_i, .sh (.int .u64)]] [⟨[], [], [], []⟩] ((), (list, ())) ((p0_0, (p0_1, (p0_2, ()))), ())
noncomputable def spec_l1Cur_among.S (N : Nat) : Say := ⟨false, 29, [.one (.ptr 0 0), .one (.sh (.rows (.int .i64)))], [.cells [.sh (.rows (.int .u8)), ck_i, .sh (.int .u64)]], [ak_i], [.cells [.sh (.rows (.int .u8)), ck_i, .sh (.int .u64)]], fun a s => spec_l1Cur_among N a.2.1 s.1.1 s.1.2.1 s.1.2.2.1⟩
set_option maxRecDepth 100000 in
theorem spec_l1Cur_among.eq (N : Nat) (list : (List Int)) (p0_0 : (List Int)) (p0_1 : Int) (p0_2 : Int) : spec_l1Cur_among N list p0_0 p0_1 p0_2 =
 andK (spec_l1Cur_pick N (list.length : Int) p0_0 p0_1 p0_2) fun u1 =>
 chk ((decide (0 ≤ u1.1.1)) && (decide (u1.1.1 < (list.length : Int)))) (
 some (((list.getD (Int.toNat u1.1.1) 0), ()), ((u1.2.1.1, (u1.2.1.2.1, (u1.2.1.2.2.1, ()))), ()))) := by kernel_rfl
set_option maxRecDepth 100000 in
theorem spec_l1Cur_among.say (N : Nat) : SayOk Try.prog (spec_l1Cur_among.S N) := sayOk_mk (N := N) (H := spec_l1Cur_among.H) (preps := [⟨[], [], [], []⟩]) (l := spec_l1Cur_among.says) (fn := Try.f29) (c := bodyOf Try.f29)
  (by kernel_rfl) (by kernel_rfl) (by kernel_rfl) (by kernel_rfl) (by kernel_rfl) (by kernel_rfl) (by kernel_rfl)
  (fun N => SayAll.cons (spec_l1Cur_pick.say N) (SayAll.nil)) (fun a s => by kernel_rfl)

/-! ### (*loop.example/g00206/spec.l1Cur).sizedBytes: function 46 -/
noncomputable def spec_l1Cur_sizedBytes.H : Hints := hintsOf [(2000003, .loop ⟨.normal, [10], [0, 5, 11], [.one (.ptr 0 0), .one (.own 1), ak_i], [.cells [.sh (.rows (.int .u8)), ck_i, .sh (.int .u64)], .rows (.int .u8)], [⟨[], [], [], []⟩]⟩ [⟨(.exit 0), [], [5], [.one (.own 1)], [.cells [.sh (.rows (.int .u8)), ck_i, .sh (.int .u64)], .rows (.int .u8)], [⟨[], [], [], []⟩]⟩])]
noncomputable def spec_l1Cur_sizedBytes.says (N : Nat) : List Say := [spec_l1Cur_pick.S N]
noncomputable def spec_l1Cur_sizedBytes.call (N : Nat) : CallK := callBy (spec_l1Cur_sizedBytes.says N)
noncomputable def spec_l1Cur_sizedBytes.qt (N : Nat) : FuncId → List PV → Sig → Cl := qtBy (spec_l1Cur_sizedBytes.says N)
noncomputable def spec_l1Cur_sizedBytes.l0.hd : Alt := ⟨.normal, [10], [0, 5, 11], [.one (.ptr 0 0), .one (.own 1), ak_i], [.cells [.sh (.rows (.int .u8)), ck_i, .sh (.int .u64)], .rows (.int .u8)], [⟨[], [], [], []⟩]⟩
noncomputable def spec_l1Cur_sizedBytes.l0.outs : List Alt := [⟨(.exit 0), [], [5], [.one (.own 1)], [.cells [.sh (.rows (.int .u8)), ck_i, .sh (.int .u64)], .rows (.int .u8)], [⟨[], [], [], []⟩]⟩]
noncomputable def spec_l1Cur_sizedBytes.l0 (N : Nat) (t10 : Int) (t11 : Int) (p0_01 : (List Int)) (p0_11 : Int) (p0_21 : Int) (p1 : (List Int)) : Option ((Unit × Unit) × (((List Int) × (Int × (Int × Unit))) × ((List Int) × Unit))) :=
  loopK Try.prog spec_l1Cur_sizedBytes.call spec_l1Cur_sizedBytes.qt spec_l1Cur_sizedBytes.H (codeAt (bodyOf Try.f46) [1, 1, 0, 1, 0, 0]) 2 spec_l1Cur_sizedBytes.l0.hd spec_l1Cur_sizedBytes.l0.outs [(10, .v (.int .i64 t10))] N (((), ((), (t11, ()))), ((p0_01, (p0_11, (p0_21, ()))), (p1, ())))
noncomputable def spec_l1Cur_sizedBytes (N : Nat) (n : Int) (p0_0 : (List Int)) (p0_1 : Int) (p0_2 : Int) : Option ((Unit × Unit) × (((List Int) × (Int × (Int × Unit))) × ((List Int) × Unit))) :=
  ofFn Try.prog spec_l1Cur_sizedBytes.call spec_l1Cur_sizedBytes.qt spec_l1Cur_sizedBytes.H N Try.f46 [.one (.ptr 0 0), ak_i] [.cells [.sh (.rows (.int .u8)), ck_i, .sh (.int .u64)]] [.one (.own 1)] [.cells [.sh (.rows (.int .u8)), ck_i, .sh (.int .u64)], .rows (.int .u8)] [⟨[], [], [], [1]⟩] ((), (n, ())) ((p0_0, (p0_1, (p0_2, ()))), ())
noncomputable def spec_l1Cur_sizedBytes.S (N : Nat) : Say := ⟨false, 46, [.one (.ptr 0 0), ak_i], [.cells [.sh (.rows (.int .u8)), ck_i, .sh (.int .u64)]], [.one (.own 1)], [.cells [.sh (.rows (.int .u8)), ck_i, .sh (.int .u64)], .rows (.int .u8)], fun a s => spec_l1Cur_sizedBytes N a.2.1 s.1.1 s.1.2.1 s.1.2.2.1⟩
set_option maxRecDepth 100000 in
theorem spec_l1Cur_sizedBytes.l0.eq (N : Nat) (t10 : Int) (t11 : Int) (p0_01 : (List Int)) (p0_11 : Int) (p0_21 : Int) (p1 : (List Int)) : spec_l1Cur_sizedBytes.l0 (N + 1) t10 t11 p0_01 p0_11 p0_21 p1 =
 sel (decide (t11 < t10))
  (
  andK (spec_l1Cur_pick N 256 p0_01 p0_11 p0_21) fun u1 =>
  chk ((decide (0 ≤ t11)) && (decide (t11 < (p1.length : Int)))) (
  spec_l1Cur_sizedBytes.l0 N t10 (IntKind.i64.wrap (t11 + 1)) u1.2.1.1 u1.2.1.2.1 u1.2.1.2.2.1 (p1.set (Int.toNat t11) (IntKind.u8.wrap u1.1.1))))
  (
  some ((((), ()), ((p0_01, (p0_11, (p0_21, ()))), (p1, ()))))) := by kernel_rfl
set_option maxRecDepth 100000 in
theorem spec_l1Cur_sizedBytes.eq (N : Nat) (n : Int) (p0_0 : (List Int)) (p0_1 : Int) (p0_2 : Int) : spec_l1Cur_sizedBytes N n p0_0 p0_1 p0_2 =
 chk ((decide (0 ≤ n)) && ((smallI n) && (decide (n = n)))) (
 andK (spec_l1Cur_sizedBytes.l0 N ((List.replicate (Int.toNat n) (0 : Int)).length : Int) 0 p0_0 p0_1 p0_2 (List.replicate (Int.toNat n) (0 : Int))) fun l2 =>
 some (((), ()), ((l2.2.1.1, (l2.2.1.2.1, (l2.2.1.2.2.1, ()))), (l2.2.2.1, ())))) := by kernel_rfl
set_option maxRecDepth 100000 in
theorem spec_l1Cur_sizedBytes.say (N : Nat) : SayOk Try.prog (spec_l1Cur_sizedBytes.S N) := sayOk_mk (N := N) (H := spec_l1Cur_sizedBytes.H) (preps := [⟨[], [], [], [1]⟩]) (l := spec_l1Cur_sizedBytes.says) (fn := Try.f46) (c := bodyOf Try.f46)
  (by kernel_rfl) (by kernel_rfl) (by kernel_rfl) (by kernel_rfl) (by kernel_rfl) (by kernel_rfl) (by kernel_rfl)
  (fun N => SayAll.cons (spec_l1Cur_pick.say N) (SayAll.nil)) (fun a s => by kernel_rfl)

/-! ### (*loop.example/g00206/spec.l1Cur).short: function 30 -/
noncomputable def spec_l1Cur_short.H : Hints := hintsOf [(4, .join [⟨.normal, [], [0, 3], [.one (.ptr 0 0), ak_i], [.cells [.sh (.rows (.int .u8)), ck_i, .sh (.int .u64)]], [⟨[], [], [], []⟩]⟩])]
noncomputable def spec_l1Cur_short.says (N : Nat) : List Say := [spec_l1Cur_pick.S N, spec_l1Cur_one.S N, spec_l1Cur_among.S N, spec_l1Cur_sizedBytes.S N]
noncomputable def spec_l1Cur_short.call (N : Nat) : CallK := callBy (spec_l1Cur_short.says N)
noncomputable def spec_l1Cur_short.qt (N : Nat) : FuncId → List PV → Sig → Cl := qtBy (spec_l1Cur_short.says N)
noncomputable def spec_l1Cur_short (N : Nat) (p0_0 : (List Int)) (p0_1 : Int) (p0_2 : Int) : Option ((ByteArray × Unit) × (((List Int) × (Int × (Int × Unit))) × Unit)) :=
  ofFn Try.prog spec_l1Cur_short.call spec_l1Cur_short.qt spec_l1Cur_short.H N Try.f30 [.one (.ptr 0 0)] [.cells [.sh (.rows (.int .u8)), ck_i, .sh (.int .u64)]] [ak_s] [.cells [.sh (.rows (.int .u8)), ck_i, .sh (.int .u64)]] [⟨[], [], [], []⟩] ((), ()) ((p0_0, (p0_1, (p0_2, ()))), ())
noncomputable def spec_l1Cur_short.S (N : Nat) : Say := ⟨false, 30, [.one (.ptr 0 0)], [.cells [.sh (.rows (.int .u8)), ck_i, .sh (.int .u64)]], [ak_s], [.cells [.sh (.rows (.int .u8)), ck_i, .sh (.int .u64)]], fun a s => spec_l1Cur_short N s.1.1 s.1.2.1 s.1.2.2.1⟩
set_option maxRecDepth 100000 in
theorem spec_l1Cur_short.eq (N : Nat) (p0_0 : (List Int)) (p0_1 : Int) (p0_2 : Int) : spec_l1Cur_short N p0_0 p0_1 p0_2 =
 andK (spec_l1Cur_pick N 40 p0_0 p0_1 p0_2) fun u1 =>
 andK (α := ((Unit × (Int × Unit)) × (((List Int) × (Int × (Int × Unit))) × Unit))) (
  andK (spec_l1Cur_one N 8 u1.2.1.1 u1.2.1.2.1 u1.2.1.2.2.1) fun u2 =>
  sel u2.1.1
   (
   andK (spec_l1Cur_among N [0, 15, 16, 17, 32] u2.2.1.1 u2.2.1.2.1 u2.2.1.2.2.1) fun u3 =>
   some ((((), (u3.1.1, ())), ((u3.2.1.1, (u3.2.1.2.1, (u3.2.1.2.2.1, ()))), ()))))
   (
   some ((((), (u1.1.1, ())), ((u2.2.1.1, (u2.2.1.2.1, (u2.2.1.2.2.1, ()))), ()))))) fun j4 =>
 andK (spec_l1Cur_sizedBytes N j4.1.2.1 j4.2.1.1 j4.2.1.2.1 j4.2.1.2.2.1) fun u5 =>
 some (((strL u5.2.2.1), ()), ((u5.2.1.1, (u5.2.1.2.1, (u5.2.1.2.2.1, ()))), ())) := by kernel_rfl
set_option maxRecDepth 100000 in
theorem spec_l1Cur_short.say (N : Nat) : SayOk Try.prog (spec_l1Cur_short.S N) := sayOk_mk (N := N) (H := spec_l1Cur_short.H) (preps := [⟨[], [], [], []⟩]) (l := spec_l1Cur_short.says) (fn := Try.f30) (c := bodyOf Try.f30)
  (by kernel_rfl) (by kernel_rfl) (by kernel_rfl) (by kernel_rfl) (by kernel_rfl) (by kernel_rfl) (by kernel_rfl)
  (fun N => SayAll.cons (spec_l1Cur_pick.say N) (SayAll.cons (spec_l1Cur_one.say N) (SayAll.cons (spec_l1Cur_among.say N) (SayAll.cons (spec_l1Cur_sizedBytes.say N) (SayAll.nil))))) (fun a s => by kernel_rfl)

/-! ### (*loop.example/g00206/spec.l1Cur).capsules: function 12 -/
noncomputable def spec_l1Cur_capsules.H : Hints := hintsOf [(5, .join [⟨.normal, [3], [0, 4], [.one (.ptr 0 0), ak_i], [.cells [.sh (.rows (.int .u8)), ck_i, .sh (.int .u64)]], [⟨[], [], [], []⟩]⟩]),
  (13, .join [⟨.normal, [4], [0, 3, 5], [.one (.ptr 0 0), .one (.own 1), .one (.ptr 2 0)], [.cells [.sh (.rows (.int .u8)), ck_i, .sh (.int .u64)], .rows (.pair (.int .i64) .str), .cells [ck_i, ck_s]], [⟨[], [], [], []⟩]⟩]),
  (2000005, .loop ⟨.normal, [], [0, 3, 4], [.one (.ptr 0 0), .one (.own 1), ak_i], [.cells [.sh (.rows (.int .u8)), ck_i, .sh (.int .u64)], .rows (.pair (.int .i64) .str)], [⟨[(3, (.pair (.int .i64) .str))], [], [], [1]⟩, ⟨[], [], [], [1]⟩]⟩ [⟨(.exit 0), [], [3], [.one (.own 1)], [.cells [.sh (.rows (.int .u8)), ck_i, .sh (.int .u64)], .rows (.pair (.int .i64) .str)], [⟨[], [], [], [1]⟩]⟩])]
noncomputable def spec_l1Cur_capsules.says (N : Nat) : List Say := [spec_l1Cur_pick.S N, spec_l1Cur_one.S N, spec_l1Cur_among.S N, spec_l1Cur_short.S N]
noncomputable def spec_l1Cur_capsules.call (N : Nat) : CallK := callBy (spec_l1Cur_capsules.says N)
noncomputable def spec_l1Cur_capsules.qt (N : Nat) : FuncId → List PV → Sig → Cl := qtBy (spec_l1Cur_capsules.says N)
noncomputable def spec_l1Cur_capsules.l0.hd : Alt := ⟨.normal, [], [0, 3, 4], [.one (.ptr 0 0), .one (.own 1), ak_i], [.cells [.sh (.rows (.int .u8)), ck_i, .sh (.int .u64)], .rows (.pair (.int .i64) .str)], [⟨[(3, (.pair (.int .i64) .str))], [], [], [1]⟩, ⟨[], [], [], [1]⟩]⟩
noncomputable def spec_l1Cur_capsules.l0.outs : List Alt := [⟨(.exit 0), [], [3], [.one (.own 1)], [.cells [.sh (.rows (.int .u8)), ck_i, .sh (.int .u64)], .rows (.pair (.int .i64) .str)], [⟨[], [], [], [1]⟩]⟩]
noncomputable def spec_l1Cur_capsules.l0 (N : Nat) (n : Int) (p0_01 : (List Int)) (p0_11 : Int) (p0_21 : Int) (p1 : (List (Int × ByteArray))) : Option ((Unit × Unit) × (((List Int) × (Int × (Int × Unit))) × ((List (Int × ByteArray)) × Unit))) :=
  loopK Try.prog spec_l1Cur_capsules.call spec_l1Cur_capsules.qt spec_l1Cur_capsules.H (codeAt (bodyOf Try.f12) [1, 1, 1, 1, 0, 0, 0]) 1 spec_l1Cur_capsules.l0.hd spec_l1Cur_capsules.l0.outs [] N (((), ((), (n, ()))), ((p0_01, (p0_11, (p0_21, ()))), (p1, ())))
noncomputable def spec_l1Cur_capsules (N : Nat) (p0_0 : (List Int)) (p0_1 : Int) (p0_2 : Int) : Option ((Unit × Unit) × (((List Int) × (Int × (Int × Unit))) × ((List (Int × ByteArray)) × Unit))) :=
  ofFn Try.prog spec_l1Cur_capsules.call spec_l1Cur_capsules.qt spec_l1Cur_capsules.H N Try.f12 [.one (.ptr 0 0)] [.cells [.sh (.rows (.int .u8)), ck_i, .sh (.int .u64)]] [.one (.own 1)] [.cells [.sh (.rows (.int .u8)), ck_i, .sh (.int .u64)], .rows (.pair (.int .i64) .str)] [⟨[], [], [], [1]⟩] ((), ()) ((p0_0, (p0_1, (p0_2, ()))), ())
noncomputable def spec_l1Cur_capsules.S (N : Nat) : Say := ⟨false, 12, [.one (.ptr 0 0)], [.cells [.sh (.rows (.int .u8)), ck_i, .sh (.int .u64)]], [.one (.own 1)], [.cells [.sh (.rows (.int .u8)), ck_i, .sh (.int .u64)], .rows (.pair (.int .i64) .str)], fun a s => spec_l1Cur_capsules N s.1.1 s.1.2.1 s.1.2.2.1⟩
set_option maxRecDepth 100000 in
theorem spec_l1Cur_capsules.l0.eq (N : Nat) (n : Int) (p0_01 : (List Int)) (p0_11 : Int) (p0_21 : Int) (p1 : (List (Int × ByteArray))) : spec_l1Cur_capsules.l0 (N + 1) n p0_01 p0_11 p0_21 p1 =
 sel (decide (0 < n))
  (
  andK (spec_l1Cur_among N [0, 0, 1, 2, 41, 70000] p0_01 p0_11 p0_21) fun u5 =>
  andK (spec_l1Cur_short N u5.2.1.1 u5.2.1.2.1 u5.2.1.2.2.1) fun u6 =>
  andK (α := ((Unit × (Unit × (Unit × Unit))) × (((List Int) × (Int × (Int × Unit))) × ((List (Int × ByteArray)) × ((Int × (ByteArray × Unit)) × Unit))))) (
   andK (spec_l1Cur_pick N 30 u6.2.1.1 u6.2.1.2.1 u6.2.1.2.2.1) fun u7 =>
   sel (decide (u7.1.1 = 0))
    (
    andK (spec_l1Cur_pick N 2 u7.2.1.1 u7.2.1.2.1 u7.2.1.2.2.1) fun u8 =>
    chk ((decide (0 ≤ (IntKind.i64.wrap (200 + u8.1.1)))) && ((smallI (IntKind.i64.wrap (200 + u8.1.1))) && (decide ((IntKind.i64.wrap (200 + u8.1.1)) = (IntKind.i64.wrap (200 + u8.1.1)))))) (
    some ((((), ((), ((), ()))), ((u8.2.1.1, (u8.2.1.2.1, (u8.2.1.2.2.1, ()))), (p1, ((u5.1.1, ((strL (List.replicate (Int.toNat (IntKind.i64.wrap (200 + u8.1.1))) (0 : Int))), ())), ())))))))
    (
    sel (decide (u7.1.1 = 1))
     (
     andK (spec_l1Cur_among N [(-1), 4611686018427387903, 4611686018427387904] u7.2.1.1 u7.2.1.2.1 u7.2.1.2.2.1) fun u9 =>
     some ((((), ((), ((), ()))), ((u9.2.1.1, (u9.2.1.2.1, (u9.2.1.2.2.1, ()))), (p1, ((u9.1.1, (u6.1.1, ())), ()))))))
     (
     some ((((), ((), ((), ()))), ((u7.2.1.1, (u7.2.1.2.1, (u7.2.1.2.2.1, ()))), (p1, ((u5.1.1, (u6.1.1, ())), ())))))))) fun j10 =>
  chk (decide (j10.2.2.1.length + 1 < most)) (
  spec_l1Cur_capsules.l0 N (IntKind.i64.wrap (n - 1)) j10.2.1.1 j10.2.1.2.1 j10.2.1.2.2.1 (j10.2.2.1 ++ [(j10.2.2.2.1.1, j10.2.2.2.1.2.1)])))
  (
  some ((((), ()), ((p0_01, (p0_11, (p0_21, ()))), (p1, ()))))) := by kernel_rfl
set_option maxRecDepth 100000 in
theorem spec_l1Cur_capsules.eq (N : Nat) (p0_0 : (List Int)) (p0_1 : Int) (p0_2 : Int) : spec_l1Cur_capsules N p0_0 p0_1 p0_2 =
 andK (spec_l1Cur_pick N 5 p0_0 p0_1 p0_2) fun u1 =>
 andK (α := ((Unit × (Int × Unit)) × (((List Int) × (Int × (Int × Unit))) × Unit))) (
  andK (spec_l1Cur_one N 30 u1.2.1.1 u1.2.1.2.1 u1.2.1.2.2.1) fun u2 =>
  sel u2.1.1
   (
   andK (spec_l1Cur_pick N 2 u2.2.1.1 u2.2.1.2.1 u2.2.1.2.2.1) fun u3 =>
   some ((((), ((IntKind.i64.wrap (30 + u3.1.1)), ())), ((u3.2.1.1, (u3.2.1.2.1, (u3.2.1.2.2.1, ()))), ()))))
   (
   some ((((), (u1.1.1, ())), ((u2.2.1.1, (u2.2.1.2.1, (u2.2.1.2.2.1, ()))), ()))))) fun j4 =>
 andK (spec_l1Cur_capsules.l0 N j4.1.2.1 j4.2.1.1 j4.2.1.2.1 j4.2.1.2.2.1 []) fun l11 =>
 some (((), ()), ((l11.2.1.1, (l11.2.1.2.1, (l11.2.1.2.2.1, ()))), (l11.2.2.1, ()))) := by kernel_rfl
set_option maxRecDepth 100000 in
theorem spec_l1Cur_capsules.say (N : Nat) : SayOk Try.prog (spec_l1Cur_capsules.S N) := sayOk_mk (N := N) (H := spec_l1Cur_capsules.H) (preps := [⟨[], [], [], [1]⟩]) (l := spec_l1Cur_capsules.says) (fn := Try.f12) (c := bodyOf Try.f12)
  (by kernel_rfl) (by kernel_rfl) (by kernel_rfl) (by kernel_rfl) (by kernel_rfl) (by kernel_rfl) (by kernel_rfl)
  (fun N => SayAll.cons (spec_l1Cur_pick.say N) (SayAll.cons (spec_l1Cur_one.say N) (SayAll.cons (spec_l1Cur_among.say N) (SayAll.cons (spec_l1Cur_short.say N) (SayAll.nil))))) (fun a s => by kernel_rfl)

/-! ### loop.example/g00206/spec.DrawCapsulesBytes: function 4 -/
noncomputable def spec_DrawCapsulesBytes.H : Hints := hintsOf []
noncomputable def spec_DrawCapsulesBytes.says (N : Nat) : List Say := [spec_l1Cur_capsules.S N]
noncomputable def spec_DrawCapsulesBytes.call (N : Nat) : CallK := callBy (spec_DrawCapsulesBytes.says N)
noncomputable def spec_DrawCapsulesBytes.qt (N : Nat) : FuncId → List PV → Sig → Cl := qtBy (spec_DrawCapsulesBytes.says N)
noncomputable def spec_DrawCapsulesBytes (N : Nat) (code : (List Int)) : Option ((Unit × Unit) × ((List (Int × ByteArray)) × Unit)) :=
  ofFn Try.prog spec_DrawCapsulesBytes.call spec_DrawCapsulesBytes.qt spec_DrawCapsulesBytes.H N Try.f4 [.one (.sh (.rows (.int .u8)))] [] [.one (.own 0)] [.rows (.pair (.int .i64) .str)] [⟨[], [], [], [1]⟩] (code, ()) ()
noncomputable def spec_DrawCapsulesBytes.S (N : Nat) : Say := ⟨false, 4, [.one (.sh (.rows (.int .u8)))], [], [.one (.own 0)], [.rows (.pair (.int .i64) .str)], fun a s => spec_DrawCapsulesBytes N a.1⟩
set_option maxRecDepth 100000 in
theorem spec_DrawCapsulesBytes.eq (N : Nat) (code : (List Int)) : spec_DrawCapsulesBytes N code =
 andK (spec_l1Cur_capsules N code 0 0) fun u1 =>
 some (((), ()), (u1.2.2.1, ())) := by kernel_rfl
set_option maxRecDepth 100000 in
theorem spec_DrawCapsulesBytes.say (N : Nat) : SayOk Try.prog (spec_DrawCapsulesBytes.S N) := sayOk_mk (N := N) (H := spec_DrawCapsulesBytes.H) (preps := [⟨[], [], [], [1]⟩]) (l := spec_DrawCapsulesBytes.says) (fn := Try.f4) (c := bodyOf Try.f4)
  (by kernel_rfl) (by kernel_rfl) (by kernel_rfl) (by kernel_rfl) (by kernel_rfl) (by kernel_rfl) (by kernel_rfl)
  (fun N => SayAll.cons (spec_l1Cur_capsules.say N) (SayAll.nil)) (fun a s => by kernel_rfl)

/-! ### loop.example/g00206/impl.in: function 23 -/
noncomputable def impl_in.H : Hints := hintsOf []
noncomputable def impl_in.says (N : Nat) : List Say := []
noncomputable def impl_in.call (N : Nat) : CallK := callBy (impl_in.says N)
noncomputable def impl_in.qt (N : Nat) : FuncId → List PV → Sig → Cl := qtBy (impl_in.says N)
noncomputable def impl_in (N : Nat) (n : Int) (low : Int) (high : Int) : Option ((Bool × Unit) × Unit) :=
  ofFn Try.prog impl_in.call impl_in.qt impl_in.H N Try.f23 [ak_i, ak_i, ak_i] [] [ak_b] [] [⟨[], [], [], []⟩] (n, (low, (high, ()))) ()
noncomputable def impl_in.S (N : Nat) : Say := ⟨false, 23, [ak_i, ak_i, ak_i], [], [ak_b], [], fun a s => impl_in N a.1 a.2.1 a.2.2.1⟩
set_option maxRecDepth 100000 in
theorem impl_in.eq (N : Nat) (n : Int) (low : Int) (high : Int) : impl_in N n low high =
 sel (decide (low ≤ n))
  (
  some (((decide (n ≤ high)), ()), ()))
  (
  some ((false, ()), ())) := by kernel_rfl
set_option maxRecDepth 100000 in
theorem impl_in.say (N : Nat) : SayOk Try.prog (impl_in.S N) := sayOk_mk (N := N) (H := impl_in.H) (preps := [⟨[], [], [], []⟩]) (l := impl_in.says) (fn := Try.f23) (c := bodyOf Try.f23)
  (by kernel_rfl) (by kernel_rfl) (by kernel_rfl) (by kernel_rfl) (by kernel_rfl) (by kernel_rfl) (by kernel_rfl)
  (fun N => SayAll.nil) (fun a s => by kernel_rfl)

/-! ### loop.example/g00206/impl.isVarint: function 33 -/
noncomputable def impl_isVarint.H : Hints := hintsOf []
noncomputable def impl_isVarint.says (N : Nat) : List Say := [impl_in.S N]
noncomputable def impl_isVarint.call (N : Nat) : CallK := callBy (impl_isVarint.says N)
noncomputable def impl_isVarint.qt (N : Nat) : FuncId → List PV → Sig → Cl := qtBy (impl_isVarint.says N)
noncomputable def impl_isVarint (N : Nat) (n : Int) : Option ((Bool × Unit) × Unit) :=
  ofFn Try.prog impl_isVarint.call impl_isVarint.qt impl_isVarint.H N Try.f33 [ak_i] [] [ak_b] [] [⟨[], [], [], []⟩] (n, ()) ()
noncomputable def impl_isVarint.S (N : Nat) : Say := ⟨false, 33, [ak_i], [], [ak_b], [], fun a s => impl_isVarint N a.1⟩
set_option maxRecDepth 100000 in
theorem impl_isVarint.eq (N : Nat) (n : Int) : impl_isVarint N n =
 andK (impl_in N n 0 4611686018427387903) fun u1 =>
 some ((u1.1.1, ()), ()) := by kernel_rfl
set_option maxRecDepth 100000 in
theorem impl_isVarint.say (N : Nat) : SayOk Try.prog (impl_isVarint.S N) := sayOk_mk (N := N) (H := impl_isVarint.H) (preps := [⟨[], [], [], []⟩]) (l := impl_isVarint.says) (fn := Try.f33) (c := bodyOf Try.f33)
  (by kernel_rfl) (by kernel_rfl) (by kernel_rfl) (by kernel_rfl) (by kernel_rfl) (by kernel_rfl) (by kernel_rfl)
  (fun N => SayAll.cons (impl_in.say N) (SayAll.nil)) (fun a s => by kernel_rfl)

/-! ### loop.example/g00206/impl.capsulesOk$1: function 32 -/
noncomputable def impl_capsulesOk_1.H : Hints := hintsOf []
noncomputable def impl_capsulesOk_1.says (N : Nat) : List Say := [impl_isVarint.S N]
noncomputable def impl_capsulesOk_1.call (N : Nat) : CallK := callBy (impl_capsulesOk_1.says N)
noncomputable def impl_capsulesOk_1.qt (N : Nat) : FuncId → List PV → Sig → Cl := qtBy (impl_capsulesOk_1.says N)
noncomputable def impl_capsulesOk_1 (N : Nat) (c_0 : Int) (c_1 : ByteArray) : Option ((Bool × Unit) × Unit) :=
  ofFn Try.prog impl_capsulesOk_1.call impl_capsulesOk_1.qt impl_capsulesOk_1.H N Try.f32 [.agg [ck_i, ck_s]] [] [ak_b] [] [⟨[], [], [], []⟩] ((c_0, (c_1, ())), ()) ()
noncomputable def impl_capsulesOk_1.S (N : Nat) : Say := ⟨false, 32, [.agg [ck_i, ck_s]], [], [ak_b], [], fun a s => impl_capsulesOk_1 N a.1.1 a.1.2.1⟩
set_option maxRecDepth 100000 in
theorem impl_capsulesOk_1.eq (N : Nat) (c_0 : Int) (c_1 : ByteArray) : impl_capsulesOk_1 N c_0 c_1 =
 andK (impl_isVarint N c_0) fun u1 =>
 sel (!u1.1.1)
  (
  some ((true, ()), ()))
  (
  some (((decide (200 < (c_1.size : Int))), ()), ())) := by kernel_rfl
set_option maxRecDepth 100000 in
theorem impl_capsulesOk_1.say (N : Nat) : SayOk Try.prog (impl_capsulesOk_1.S N) := sayOk_mk (N := N) (H := impl_capsulesOk_1.H) (preps := [⟨[], [], [], []⟩]) (l := impl_capsulesOk_1.says) (fn := Try.f32) (c := bodyOf Try.f32)
  (by kernel_rfl) (by kernel_rfl) (by kernel_rfl) (by kernel_rfl) (by kernel_rfl) (by kernel_rfl) (by kernel_rfl)
  (fun N => SayAll.cons (impl_isVarint.say N) (SayAll.nil)) (fun a s => by kernel_rfl)

/-! ### slices.IndexFunc[[]loop.example/g00206/impl.Capsule,loop.example/g00206/impl.Capsule]: function 39 -/
noncomputable def slices_IndexFuncimpl_Capsule_impl_Capsule.H : Hints := hintsOf [(2000002, .loop ⟨.normal, [0, 1, 7], [8], [ak_i], [], [⟨[], [], [], []⟩]⟩ [⟨.ret, [], [4], [ak_i], [], [⟨[], [], [], []⟩]⟩, ⟨(.exit 0), [], [], [], [], [⟨[], [], [], []⟩]⟩])]
noncomputable def slices_IndexFuncimpl_Capsule_impl_Capsule.says (N : Nat) : List Say := [impl_capsulesOk_1.S N]
noncomputable def slices_IndexFuncimpl_Capsule_impl_Capsule.call (N : Nat) : CallK := callBy (slices_IndexFuncimpl_Capsule_impl_Capsule.says N)
noncomputable def slices_IndexFuncimpl_Capsule_impl_Capsule.qt (N : Nat) : FuncId → List PV → Sig → Cl := qtBy (slices_IndexFuncimpl_Capsule_impl_Capsule.says N)
noncomputable def slices_IndexFuncimpl_Capsule_impl_Capsule.l0.hd : Alt := ⟨.normal, [0, 1, 7], [8], [ak_i], [], [⟨[], [], [], []⟩]⟩
noncomputable def slices_IndexFuncimpl_Capsule_impl_Capsule.l0.outs : List Alt := [⟨.ret, [], [4], [ak_i], [], [⟨[], [], [], []⟩]⟩, ⟨(.exit 0), [], [], [], [], [⟨[], [], [], []⟩]⟩]
noncomputable def slices_IndexFuncimpl_Capsule_impl_Capsule.l0 (N : Nat) (s1 : (List (Int × ByteArray))) (t7 : Int) (t8 : Int) : Option (((Int × Unit) × Unit) ⊕ (Unit × Unit)) :=
  loopK Try.prog slices_IndexFuncimpl_Capsule_impl_Capsule.call slices_IndexFuncimpl_Capsule_impl_Capsule.qt slices_IndexFuncimpl_Capsule_impl_Capsule.H (codeAt (bodyOf Try.f39) [1, 0, 1, 0, 0]) 0 slices_IndexFuncimpl_Capsule_impl_Capsule.l0.hd slices_IndexFuncimpl_Capsule_impl_Capsule.l0.outs [(0, .rows false (.pair (.int .i64) .str) s1), (1, .fn 32 []), (7, .v (.int .i64 t7))] N ((t8, ()), ())
noncomputable def slices_IndexFuncimpl_Capsule_impl_Capsule (N : Nat) (s : (List (Int × ByteArray))) : Option ((Int × Unit) × Unit) :=
  ofFn Try.prog slices_IndexFuncimpl_Capsule_impl_Capsule.call slices_IndexFuncimpl_Capsule_impl_Capsule.qt slices_IndexFuncimpl_Capsule_impl_Capsule.H N Try.f39 [.one (.sh (.rows (.pair (.int .i64) .str))), .fn 32 []] [] [ak_i] [] [⟨[], [], [], []⟩] (s, ((), ())) ()
noncomputable def slices_IndexFuncimpl_Capsule_impl_Capsule.S (N : Nat) : Say := ⟨false, 39, [.one (.sh (.rows (.pair (.int .i64) .str))), .fn 32 []], [], [ak_i], [], fun a s => slices_IndexFuncimpl_Capsule_impl_Capsule N a.1⟩
set_option maxRecDepth 100000 in
theorem slices_IndexFuncimpl_Capsule_impl_Capsule.l0.eq (N : Nat) (s1 : (List (Int × ByteArray))) (t7 : Int) (t8 : Int) : slices_IndexFuncimpl_Capsule_impl_Capsule.l0 (N + 1) s1 t7 t8 =
 sel (decide (t8 < t7))
  (
  chk ((decide (0 ≤ t8)) && (decide (t8 < (s1.length : Int)))) (
  andK (impl_capsulesOk_1 N (rdS (.pair (.int .i64) .str) s1 (Int.toNat t8)).1 (rdS (.pair (.int .i64) .str) s1 (Int.toNat t8)).2) fun u1 =>
  sel u1.1.1
   (
   some (.inl ((t8, ()), ())))
   (
   slices_IndexFuncimpl_Capsule_impl_Capsule.l0 N s1 t7 (IntKind.i64.wrap (t8 + 1)))))
  (
  some (.inr (((), ())))) := by kernel_rfl
set_option maxRecDepth 100000 in
theorem slices_IndexFuncimpl_Capsule_impl_Capsule.eq (N : Nat) (s : (List (Int × ByteArray))) : slices_IndexFuncimpl_Capsule_impl_Capsule N s =
 andK (slices_IndexFuncimpl_Capsule_impl_Capsule.l0 N s (s.length : Int) 0) fun l2 =>
 orK l2 (fun x3 =>
  some ((x3.1.1, ()), ()))
  (fun x4 =>
  some (((-1), ()), ())) := by kernel_rfl
set_option maxRecDepth 100000 in
theorem slices_IndexFuncimpl_Capsule_impl_Capsule.say (N : Nat) : SayOk Try.prog (slices_IndexFuncimpl_Capsule_impl_Capsule.S N) := sayOk_mk (N := N) (H := slices_IndexFuncimpl_Capsule_impl_Capsule.H) (preps := [⟨[], [], [], []⟩]) (l := slices_IndexFuncimpl_Capsule_impl_Capsule.says) (fn := Try.f39) (c := bodyOf Try.f39)
  (by kernel_rfl) (by kernel_rfl) (by kernel_rfl) (by kernel_rfl) (by kernel_rfl) (by kernel_rfl) (by kernel_rfl)
  (fun N => SayAll.cons (impl_capsulesOk_1.say N) (SayAll.nil)) (fun a s => by kernel_rfl)

/-! ### slices.ContainsFunc[[]loop.example/g00206/impl.Capsule,loop.example/g00206/impl.Capsule]: function 31 -/
noncomputable def slices_ContainsFuncimpl_Capsule_impl_Capsule.H : Hints := hintsOf []
noncomputable def slices_ContainsFuncimpl_Capsule_impl_Capsule.says (N : Nat) : List Say := [slices_IndexFuncimpl_Capsule_impl_Capsule.S N]
noncomputable def slices_ContainsFuncimpl_Capsule_impl_Capsule.call (N : Nat) : CallK := callBy (slices_ContainsFuncimpl_Capsule_impl_Capsule.says N)
noncomputable def slices_ContainsFuncimpl_Capsule_impl_Capsule.qt (N : Nat) : FuncId → List PV → Sig → Cl := qtBy (slices_ContainsFuncimpl_Capsule_impl_Capsule.says N)
noncomputable def slices_ContainsFuncimpl_Capsule_impl_Capsule (N : Nat) (s : (List (Int × ByteArray))) : Option ((Bool × Unit) × Unit) :=
  ofFn Try.prog slices_ContainsFuncimpl_Capsule_impl_Capsule.call slices_ContainsFuncimpl_Capsule_impl_Capsule.qt slices_ContainsFuncimpl_Capsule_impl_Capsule.H N Try.f31 [.one (.sh (.rows (.pair (.int .i64) .str))), .fn 32 []] [] [ak_b] [] [⟨[], [], [], []⟩] (s, ((), ())) ()
noncomputable def slices_ContainsFuncimpl_Capsule_impl_Capsule.S (N : Nat) : Say := ⟨false, 31, [.one (.sh (.rows (.pair (.int .i64) .str))), .fn 32 []], [], [ak_b], [], fun a s => slices_ContainsFuncimpl_Capsule_impl_Capsule N a.1⟩
set_option maxRecDepth 100000 in
theorem slices_ContainsFuncimpl_Capsule_impl_Capsule.eq (N : Nat) (s : (List (Int × ByteArray))) : slices_ContainsFuncimpl_Capsule_impl_Capsule N s =
 andK (slices_IndexFuncimpl_Capsule_impl_Capsule N s) fun u1 =>
 some (((decide (0 ≤ u1.1.1)), ()), ()) := by kernel_rfl
set_option maxRecDepth 100000 in
theorem slices_ContainsFuncimpl_Capsule_impl_Capsule.say (N : Nat) : SayOk Try.prog (slices_ContainsFuncimpl_Capsule_impl_Capsule.S N) := sayOk_mk (N := N) (H := slices_ContainsFuncimpl_Capsule_impl_Capsule.H) (preps := [⟨[], [], [], []⟩]) (l := slices_ContainsFuncimpl_Capsule_impl_Capsule.says) (fn := Try.f31) (c := bodyOf Try.f31)
  (by kernel_rfl) (by kernel_rfl) (by kernel_rfl) (by kernel_rfl) (by kernel_rfl) (by kernel_rfl) (by kernel_rfl)
  (fun N => SayAll.cons (slices_IndexFuncimpl_Capsule_impl_Capsule.say N) (SayAll.nil)) (fun a s => by kernel_rfl)

/-! ### loop.example/g00206/impl.capsulesOk: function 13 -/
noncomputable def impl_capsulesOk.H : Hints := hintsOf []
noncomputable def impl_capsulesOk.says (N : Nat) : List Say := [slices_ContainsFuncimpl_Capsule_impl_Capsule.S N]
noncomputable def impl_capsulesOk.call (N : Nat) : CallK := callBy (impl_capsulesOk.says N)
noncomputable def impl_capsulesOk.qt (N : Nat) : FuncId → List PV → Sig → Cl := qtBy (impl_capsulesOk.says N)
noncomputable def impl_capsulesOk (N : Nat) (l : (List (Int × ByteArray))) : Option ((Bool × Unit) × Unit) :=
  ofFn Try.prog impl_capsulesOk.call impl_capsulesOk.qt impl_capsulesOk.H N Try.f13 [.one (.sh (.rows (.pair (.int .i64) .str)))] [] [ak_b] [] [⟨[], [], [], []⟩] (l, ()) ()
noncomputable def impl_capsulesOk.S (N : Nat) : Say := ⟨false, 13, [.one (.sh (.rows (.pair (.int .i64) .str)))], [], [ak_b], [], fun a s => impl_capsulesOk N a.1⟩
set_option maxRecDepth 100000 in
theorem impl_capsulesOk.eq (N : Nat) (l : (List (Int × ByteArray))) : impl_capsulesOk N l =
 sel (decide ((l.length : Int) ≤ 30))
  (
  andK (slices_ContainsFuncimpl_Capsule_impl_Capsule N l) fun u1 =>
  some (((!u1.1.1), ()), ()))
  (
  some ((false, ()), ())) := by kernel_rfl
set_option maxRecDepth 100000 in
theorem impl_capsulesOk.say (N : Nat) : SayOk Try.prog (impl_capsulesOk.S N) := sayOk_mk (N := N) (H := impl_capsulesOk.H) (preps := [⟨[], [], [], []⟩]) (l := impl_capsulesOk.says) (fn := Try.f13) (c := bodyOf Try.f13)
  (by kernel_rfl) (by kernel_rfl) (by kernel_rfl) (by kernel_rfl) (by kernel_rfl) (by kernel_rfl) (by kernel_rfl)
  (fun N => SayAll.cons (slices_ContainsFuncimpl_Capsule_impl_Capsule.say N) (SayAll.nil)) (fun a s => by kernel_rfl)

/-! ### loop.example/g00206/impl.varintSize: function 34 -/
noncomputable def impl_varintSize.H : Hints := hintsOf []
noncomputable def impl_varintSize.says (N : Nat) : List Say := []
noncomputable def impl_varintSize.call (N : Nat) : CallK := callBy (impl_varintSize.says N)
noncomputable def impl_varintSize.qt (N : Nat) : FuncId → List PV → Sig → Cl := qtBy (impl_varintSize.says N)
noncomputable def impl_varintSize (N : Nat) (n : Int) : Option ((Int × Unit) × Unit) :=
  ofFn Try.prog impl_varintSize.call impl_varintSize.qt impl_varintSize.H N Try.f34 [ak_i] [] [ak_i] [] [⟨[], [], [], []⟩] (n, ()) ()
noncomputable def impl_varintSize.S (N : Nat) : Say := ⟨false, 34, [ak_i], [], [ak_i], [], fun a s => impl_varintSize N a.1⟩
set_option maxRecDepth 100000 in
theorem impl_varintSize.eq (N : Nat) (n : Int) : impl_varintSize N n =
 sel (decide (n < 64))
  (
  some ((1, ()), ()))
  (
  sel (decide (n < 16384))
   (
   some ((2, ()), ()))
   (
   sel (decide (n < 1073741824))
    (
    some ((4, ()), ()))
    (
    some ((8, ()), ())))) := by kernel_rfl
set_option maxRecDepth 100000 in
theorem impl_varintSize.say (N : Nat) : SayOk Try.prog (impl_varintSize.S N) := sayOk_mk (N := N) (H := impl_varintSize.H) (preps := [⟨[], [], [], []⟩]) (l := impl_varintSize.says) (fn := Try.f34) (c := bodyOf Try.f34)
  (by kernel_rfl) (by kernel_rfl) (by kernel_rfl) (by kernel_rfl) (by kernel_rfl) (by kernel_rfl) (by kernel_rfl)
  (fun N => SayAll.nil) (fun a s => by kernel_rfl)

/-! ### loop.example/g00206/impl.bigEndian: function 35 -/
noncomputable def impl_bigEndian.H : Hints := hintsOf [(2000003, .loop ⟨.normal, [], [0, 5, 6], [.one (.sh (.int .u64)), .one (.own 0), ak_i], [.rows (.int .u8)], [⟨[], [], [], []⟩]⟩ [⟨(.exit 0), [], [5], [.one (.own 0)], [.rows (.int .u8)], [⟨[], [], [], []⟩]⟩])]
noncomputable def impl_bigEndian.says (N : Nat) : List Say := []
noncomputable def impl_bigEndian.call (N : Nat) : CallK := callBy (impl_bigEndian.says N)
noncomputable def impl_bigEndian.qt (N : Nat) : FuncId → List PV → Sig → Cl := qtBy (impl_bigEndian.says N)
noncomputable def impl_bigEndian.l0.hd : Alt := ⟨.normal, [], [0, 5, 6], [.one (.sh (.int .u64)), .one (.own 0), ak_i], [.rows (.int .u8)], [⟨[], [], [], []⟩]⟩
noncomputable def impl_bigEndian.l0.outs : List Alt := [⟨(.exit 0), [], [5], [.one (.own 0)], [.rows (.int .u8)], [⟨[], [], [], []⟩]⟩]
noncomputable def impl_bigEndian.l0 (N : Nat) (n1 : Int) (i : Int) (p0 : (List Int)) : Option ((Unit × Unit) × ((List Int) × Unit)) :=
  loopK Try.prog impl_bigEndian.call impl_bigEndian.qt impl_bigEndian.H (codeAt (bodyOf Try.f35) [1, 1, 0, 1, 0, 0]) 1 impl_bigEndian.l0.hd impl_bigEndian.l0.outs [] N ((n1, ((), (i, ()))), (p0, ()))
noncomputable def impl_bigEndian (N : Nat) (n : Int) (many : Int) : Option ((ByteArray × Unit) × Unit) :=
  ofFn Try.prog impl_bigEndian.call impl_bigEndian.qt impl_bigEndian.H N Try.f35 [.one (.sh (.int .u64)), ak_i] [] [ak_s] [] [⟨[], [], [], []⟩] (n, (many, ())) ()
noncomputable def impl_bigEndian.S (N : Nat) : Say := ⟨false, 35, [.one (.sh (.int .u64)), ak_i], [], [ak_s], [], fun a s => impl_bigEndian N a.1 a.2.1⟩
set_option maxRecDepth 100000 in
theorem impl_bigEndian.l0.eq (N : Nat) (n1 : Int) (i : Int) (p0 : (List Int)) : impl_bigEndian.l0 (N + 1) n1 i p0 =
 sel (decide (0 ≤ i))
  (
  chk ((decide (0 ≤ i)) && (decide (i < (p0.length : Int)))) (
  impl_bigEndian.l0 N (shrI .u64 n1 8) (IntKind.i64.wrap (i - 1)) (p0.set (Int.toNat i) (IntKind.u8.wrap n1))))
  (
  some ((((), ()), (p0, ())))) := by kernel_rfl
set_option maxRecDepth 100000 in
theorem impl_bigEndian.eq (N : Nat) (n : Int) (many : Int) : impl_bigEndian N n many =
 chk ((decide (0 ≤ many)) && ((smallI many) && (decide (many = many)))) (
 andK (impl_bigEndian.l0 N n (IntKind.i64.wrap (many - 1)) (List.replicate (Int.toNat many) (0 : Int))) fun l1 =>
 some (((strL l1.2.1), ()), ())) := by kernel_rfl
set_option maxRecDepth 100000 in
theorem impl_bigEndian.say (N : Nat) : SayOk Try.prog (impl_bigEndian.S N) := sayOk_mk (N := N) (H := impl_bigEndian.H) (preps := [⟨[], [], [], []⟩]) (l := impl_bigEndian.says) (fn := Try.f35) (c := bodyOf Try.f35)
  (by kernel_rfl) (by kernel_rfl) (by kernel_rfl) (by kernel_rfl) (by kernel_rfl) (by kernel_rfl) (by kernel_rfl)
  (fun N => SayAll.nil) (fun a s => by kernel_rfl)

/-! ### loop.example/g00206/impl.varint: function 14 -/
noncomputable def impl_varint.H : Hints := hintsOf []
noncomputable def impl_varint.says (N : Nat) : List Say := [impl_varintSize.S N, impl_bigEndian.S N]
noncomputable def impl_varint.call (N : Nat) : CallK := callBy (impl_varint.says N)
noncomputable def impl_varint.qt (N : Nat) : FuncId → List PV → Sig → Cl := qtBy (impl_varint.says N)
noncomputable def impl_varint (N : Nat) (n : Int) : Option ((ByteArray × Unit) × Unit) :=
  ofFn Try.prog impl_varint.call impl_varint.qt impl_varint.H N Try.f14 [ak_i] [] [ak_s] [] [⟨[], [], [], []⟩] (n, ()) ()
noncomputable def impl_varint.S (N : Nat) : Say := ⟨false, 14, [ak_i], [], [ak_s], [], fun a s => impl_varint N a.1⟩
set_option maxRecDepth 100000 in
theorem impl_varint.eq (N : Nat) (n : Int) : impl_varint N n =
 andK (impl_varintSize N n) fun u1 =>
 chk (hasK u1.1.1 [(8, 3), (4, 2), (2, 1), (1, 0)]) (
 chk (decide (0 ≤ (IntKind.i64.wrap ((IntKind.i64.wrap (8 * u1.1.1)) - 2)))) (
 andK (impl_bigEndian N (Go.bits .or .u64 (IntKind.u64.wrap n) (shlI .u64 (getK u1.1.1 [(8, 3), (4, 2), (2, 1), (1, 0)]) (IntKind.i64.wrap ((IntKind.i64.wrap (8 * u1.1.1)) - 2)))) u1.1.1) fun u2 =>
 some ((u2.1.1, ()), ()))) := by kernel_rfl
set_option maxRecDepth 100000 in
theorem impl_varint.say (N : Nat) : SayOk Try.prog (impl_varint.S N) := sayOk_mk (N := N) (H := impl_varint.H) (preps := [⟨[], [], [], []⟩]) (l := impl_varint.says) (fn := Try.f14) (c := bodyOf Try.f14)
  (by kernel_rfl) (by kernel_rfl) (by kernel_rfl) (by kernel_rfl) (by kernel_rfl) (by kernel_rfl) (by kernel_rfl)
  (fun N => SayAll.cons (impl_varintSize.say N) (SayAll.cons (impl_bigEndian.say N) (SayAll.nil))) (fun a s => by kernel_rfl)

/-! ### loop.example/g00206/impl.counted: function 15 -/
noncomputable def impl_counted.H : Hints := hintsOf []
noncomputable def impl_counted.says (N : Nat) : List Say := [impl_varint.S N]
noncomputable def impl_counted.call (N : Nat) : CallK := callBy (impl_counted.says N)
noncomputable def impl_counted.qt (N : Nat) : FuncId → List PV → Sig → Cl := qtBy (impl_counted.says N)
noncomputable def impl_counted (N : Nat) (s : ByteArray) : Option ((ByteArray × Unit) × Unit) :=
  ofFn Try.prog impl_counted.call impl_counted.qt impl_counted.H N Try.f15 [ak_s] [] [ak_s] [] [⟨[], [], [], []⟩] (s, ()) ()
noncomputable def impl_counted.S (N : Nat) : Say := ⟨false, 15, [ak_s], [], [ak_s], [], fun a s => impl_counted N a.1⟩
set_option maxRecDepth 100000 in
theorem impl_counted.eq (N : Nat) (s : ByteArray) : impl_counted N s =
 andK (impl_varint N (s.size : Int)) fun u1 =>
 chk (decide (u1.1.1.size + s.size ≤ 9223372036854775807)) (
 some (((u1.1.1 ++ s), ()), ())) := by kernel_rfl
set_option maxRecDepth 100000 in
theorem impl_counted.say (N : Nat) : SayOk Try.prog (impl_counted.S N) := sayOk_mk (N := N) (H := impl_counted.H) (preps := [⟨[], [], [], []⟩]) (l := impl_counted.says) (fn := Try.f15) (c := bodyOf Try.f15)
  (by kernel_rfl) (by kernel_rfl) (by kernel_rfl) (by kernel_rfl) (by kernel_rfl) (by kernel_rfl) (by kernel_rfl)
  (fun N => SayAll.cons (impl_varint.say N) (SayAll.nil)) (fun a s => by kernel_rfl)

/-! ### loop.example/g00206/impl.CapsulesBytes: function 5 -/
noncomputable def impl_CapsulesBytes.H : Hints := hintsOf [(2000005, .loop ⟨.normal, [10, 11], [4, 12], [ak_s, ak_i], [], [⟨[], [], [], []⟩]⟩ [⟨(.exit 0), [], [4], [ak_s], [], [⟨[], [], [], []⟩]⟩])]
noncomputable def impl_CapsulesBytes.says (N : Nat) : List Say := [impl_capsulesOk.S N, impl_varint.S N, impl_counted.S N]
noncomputable def impl_CapsulesBytes.call (N : Nat) : CallK := callBy (impl_CapsulesBytes.says N)
noncomputable def impl_CapsulesBytes.qt (N : Nat) : FuncId → List PV → Sig → Cl := qtBy (impl_CapsulesBytes.says N)
noncomputable def impl_CapsulesBytes.l0.hd : Alt := ⟨.normal, [10, 11], [4, 12], [ak_s, ak_i], [], [⟨[], [], [], []⟩]⟩
noncomputable def impl_CapsulesBytes.l0.outs : List Alt := [⟨(.exit 0), [], [4], [ak_s], [], [⟨[], [], [], []⟩]⟩]
noncomputable def impl_CapsulesBytes.l0 (N : Nat) (t10 : (List (Int × ByteArray))) (t11 : Int) (out : ByteArray) (t12 : Int) : Option ((ByteArray × Unit) × Unit) :=
  loopK Try.prog impl_CapsulesBytes.call impl_CapsulesBytes.qt impl_CapsulesBytes.H (codeAt (bodyOf Try.f5) [1, 1, 1, 0, 1, 0, 0]) 0 impl_CapsulesBytes.l0.hd impl_CapsulesBytes.l0.outs [(10, .rows false (.pair (.int .i64) .str) t10), (11, .v (.int .i64 t11))] N ((out, (t12, ())), ())
noncomputable def impl_CapsulesBytes (N : Nat) (l : (List (Int × ByteArray))) : Option ((ByteArray × (Bool × Unit)) × Unit) :=
  ofFn Try.prog impl_CapsulesBytes.call impl_CapsulesBytes.qt impl_CapsulesBytes.H N Try.f5 [.one (.sh (.rows (.pair (.int .i64) .str)))] [] [ak_s, ak_b] [] [⟨[], [], [], []⟩] (l, ()) ()
noncomputable def impl_CapsulesBytes.S (N : Nat) : Say := ⟨false, 5, [.one (.sh (.rows (.pair (.int .i64) .str)))], [], [ak_s, ak_b], [], fun a s => impl_CapsulesBytes N a.1⟩
set_option maxRecDepth 100000 in
theorem impl_CapsulesBytes.l0.eq (N : Nat) (t10 : (List (Int × ByteArray))) (t11 : Int) (out : ByteArray) (t12 : Int) : impl_CapsulesBytes.l0 (N + 1) t10 t11 out t12 =
 sel (decide (t12 < t11))
  (
  chk ((decide (0 ≤ t12)) && (decide (t12 < (t10.length : Int)))) (
  andK (impl_varint N (rdS (.pair (.int .i64) .str) t10 (Int.toNat t12)).1) fun u2 =>
  andK (impl_counted N (rdS (.pair (.int .i64) .str) t10 (Int.toNat t12)).2) fun u3 =>
  chk (decide (u2.1.1.size + u3.1.1.size ≤ 9223372036854775807)) (
  chk (decide (out.size + (u2.1.1 ++ u3.1.1).size ≤ 9223372036854775807)) (
  impl_CapsulesBytes.l0 N t10 t11 (out ++ (u2.1.1 ++ u3.1.1)) (IntKind.i64.wrap (t12 + 1))))))
  (
  some (((out, ()), ()))) := by kernel_rfl
set_option maxRecDepth 100000 in
theorem impl_CapsulesBytes.eq (N : Nat) (l : (List (Int × ByteArray))) : impl_CapsulesBytes N l =
 andK (impl_capsulesOk N l) fun u1 =>
 sel (!u1.1.1)
  (
  some (((⟨#[]⟩ : ByteArray), (false, ())), ()))
  (
  andK (impl_CapsulesBytes.l0 N l (l.length : Int) (⟨#[]⟩ : ByteArray) 0) fun l4 =>
  some ((l4.1.1, (true, ())), ())) := by kernel_rfl
set_option maxRecDepth 100000 in
theorem impl_CapsulesBytes.say (N : Nat) : SayOk Try.prog (impl_CapsulesBytes.S N) := sayOk_mk (N := N) (H := impl_CapsulesBytes.H) (preps := [⟨[], [], [], []⟩]) (l := impl_CapsulesBytes.says) (fn := Try.f5) (c := bodyOf Try.f5)
  (by kernel_rfl) (by kernel_rfl) (by kernel_rfl) (by kernel_rfl) (by kernel_rfl) (by kernel_rfl) (by kernel_rfl)
  (fun N => SayAll.cons (impl_capsulesOk.say N) (SayAll.cons (impl_varint.say N) (SayAll.cons (impl_counted.say N) (SayAll.nil)))) (fun a s => by kernel_rfl)
noncomputable def impl_CapsulesBytes.SB (N : Nat) : Say := impl_CapsulesBytes.S N |>.lent
theorem impl_CapsulesBytes.sayB (N : Nat) : SayOk Try.prog (impl_CapsulesBytes.SB N) := (impl_CapsulesBytes.say N).lent

/-! ### loop.example/g00206/spec.l1In: function 47 -/
noncomputable def spec_l1In.H : Hints := hintsOf []
noncomputable def spec_l1In.says (N : Nat) : List Say := []
noncomputable def spec_l1In.call (N : Nat) : CallK := callBy (spec_l1In.says N)
noncomputable def spec_l1In.qt (N : Nat) : FuncId → List PV → Sig → Cl := qtBy (spec_l1In.says N)
noncomputable def spec_l1In (N : Nat) (n : Int) (lo : Int) (hi : Int) : Option ((Bool × Unit) × Unit) :=
  ofFn Try.prog spec_l1In.call spec_l1In.qt spec_l1In.H N Try.f47 [ak_i, ak_i, ak_i] [] [ak_b] [] [⟨[], [], [], []⟩] (n, (lo, (hi, ()))) ()
noncomputable def spec_l1In.S (N : Nat) : Say := ⟨false, 47, [ak_i, ak_i, ak_i], [], [ak_b], [], fun a s => spec_l1In N a.1 a.2.1 a.2.2.1⟩
set_option maxRecDepth 100000 in
theorem spec_l1In.eq (N : Nat) (n : Int) (lo : Int) (hi : Int) : spec_l1In N n lo hi =
 sel (decide (lo ≤ n))
  (
  some (((decide (n ≤ hi)), ()), ()))
  (
  some ((false, ()), ())) := by kernel_rfl
set_option maxRecDepth 100000 in
theorem spec_l1In.say (N : Nat) : SayOk Try.prog (spec_l1In.S N) := sayOk_mk (N := N) (H := spec_l1In.H) (preps := [⟨[], [], [], []⟩]) (l := spec_l1In.says) (fn := Try.f47) (c := bodyOf Try.f47)
  (by kernel_rfl) (by kernel_rfl) (by kernel_rfl) (by kernel_rfl) (by kernel_rfl) (by kernel_rfl) (by kernel_rfl)
  (fun N => SayAll.nil) (fun a s => by kernel_rfl)

/-! ### loop.example/g00206/spec.l1Known: function 36 -/
noncomputable def spec_l1Known.H : Hints := hintsOf []
noncomputable def spec_l1Known.says (N : Nat) : List Say := [spec_l1In.S N]
noncomputable def spec_l1Known.call (N : Nat) : CallK := callBy (spec_l1Known.says N)
noncomputable def spec_l1Known.qt (N : Nat) : FuncId → List PV → Sig → Cl := qtBy (spec_l1Known.says N)
noncomputable def spec_l1Known (N : Nat) (n : Int) : Option ((Bool × Unit) × Unit) :=
  ofFn Try.prog spec_l1Known.call spec_l1Known.qt spec_l1Known.H N Try.f36 [ak_i] [] [ak_b] [] [⟨[], [], [], []⟩] (n, ()) ()
noncomputable def spec_l1Known.S (N : Nat) : Say := ⟨false, 36, [ak_i], [], [ak_b], [], fun a s => spec_l1Known N a.1⟩
set_option maxRecDepth 100000 in
theorem spec_l1Known.eq (N : Nat) (n : Int) : spec_l1Known N n =
 andK (spec_l1In N n 0 4611686018427387903) fun u1 =>
 some ((u1.1.1, ()), ()) := by kernel_rfl
set_option maxRecDepth 100000 in
theorem spec_l1Known.say (N : Nat) : SayOk Try.prog (spec_l1Known.S N) := sayOk_mk (N := N) (H := spec_l1Known.H) (preps := [⟨[], [], [], []⟩]) (l := spec_l1Known.says) (fn := Try.f36) (c := bodyOf Try.f36)
  (by kernel_rfl) (by kernel_rfl) (by kernel_rfl) (by kernel_rfl) (by kernel_rfl) (by kernel_rfl) (by kernel_rfl)
  (fun N => SayAll.cons (spec_l1In.say N) (SayAll.nil)) (fun a s => by kernel_rfl)

/-! ### loop.example/g00206/spec.l16Good: function 16 -/
noncomputable def spec_l16Good.H : Hints := hintsOf [(5000004, .join [⟨.normal, [0, 5, 6, 7], [20], [ak_b], [.cells [ck_i, ck_s]], [⟨[], [], [], []⟩]⟩]),
  (2000002, .loop ⟨.normal, [0, 5, 6], [7], [ak_i], [], [⟨[], [], [], []⟩]⟩ [⟨.ret, [], [2], [ak_b], [], [⟨[], [], [], []⟩]⟩, ⟨(.exit 0), [0], [], [], [], [⟨[], [], [], []⟩]⟩])]
noncomputable def spec_l16Good.says (N : Nat) : List Say := [spec_l1Known.S N]
noncomputable def spec_l16Good.call (N : Nat) : CallK := callBy (spec_l16Good.says N)
noncomputable def spec_l16Good.qt (N : Nat) : FuncId → List PV → Sig → Cl := qtBy (spec_l16Good.says N)
noncomputable def spec_l16Good.l0.hd : Alt := ⟨.normal, [0, 5, 6], [7], [ak_i], [], [⟨[], [], [], []⟩]⟩
noncomputable def spec_l16Good.l0.outs : List Alt := [⟨.ret, [], [2], [ak_b], [], [⟨[], [], [], []⟩]⟩, ⟨(.exit 0), [0], [], [], [], [⟨[], [], [], []⟩]⟩]
noncomputable def spec_l16Good.l0 (N : Nat) (l1 : (List (Int × ByteArray))) (t5 : (List (Int × ByteArray))) (t6 : Int) (t7 : Int) : Option (((Bool × Unit) × Unit) ⊕ (Unit × Unit)) :=
  loopK Try.prog spec_l16Good.call spec_l16Good.qt spec_l16Good.H (codeAt (bodyOf Try.f16) [1, 0, 1, 0, 0]) 0 spec_l16Good.l0.hd spec_l16Good.l0.outs [(0, .rows false (.pair (.int .i64) .str) l1), (5, .rows false (.pair (.int .i64) .str) t5), (6, .v (.int .i64 t6))] N ((t7, ()), ())
noncomputable def spec_l16Good (N : Nat) (l : (List (Int × ByteArray))) : Option ((Bool × Unit) × Unit) :=
  ofFn Try.prog spec_l16Good.call spec_l16Good.qt spec_l16Good.H N Try.f16 [.one (.sh (.rows (.pair (.int .i64) .str)))] [] [ak_b] [] [⟨[], [], [], []⟩] (l, ()) ()
noncomputable def spec_l16Good.S (N : Nat) : Say := ⟨false, 16, [.one (.sh (.rows (.pair (.int .i64) .str)))], [], [ak_b], [], fun a s => spec_l16Good N a.1⟩
set_option maxRecDepth 100000 in
theorem spec_l16Good.l0.eq (N : Nat) (l1 : (List (Int × ByteArray))) (t5 : (List (Int × ByteArray))) (t6 : Int) (t7 : Int) : spec_l16Good.l0 (N + 1) l1 t5 t6 t7 =
 sel (decide (t7 < t6))
  (
  chk ((decide (0 ≤ t7)) && (decide (t7 < (t5.length : Int)))) (
  andK (α := ((Bool × Unit) × ((Int × (ByteArray × Unit)) × Unit))) (
   andK (spec_l1Known N (rdS (.pair (.int .i64) .str) t5 (Int.toNat t7)).1) fun u1 =>
   sel (!u1.1.1)
    (
    some (((true, ()), (((rdS (.pair (.int .i64) .str) t5 (Int.toNat t7)).1, ((rdS (.pair (.int .i64) .str) t5 (Int.toNat t7)).2, ())), ()))))
    (
    some ((((decide (200 < ((rdS (.pair (.int .i64) .str) t5 (Int.toNat t7)).2.size : Int))), ()), (((rdS (.pair (.int .i64) .str) t5 (Int.toNat t7)).1, ((rdS (.pair (.int .i64) .str) t5 (Int.toNat t7)).2, ())), ()))))) fun j2 =>
  sel j2.1.1
   (
   some (.inl ((false, ()), ())))
   (
   spec_l16Good.l0 N l1 t5 t6 (IntKind.i64.wrap (t7 + 1)))))
  (
  some (.inr (((), ())))) := by kernel_rfl
set_option maxRecDepth 100000 in
theorem spec_l16Good.eq (N : Nat) (l : (List (Int × ByteArray))) : spec_l16Good N l =
 andK (spec_l16Good.l0 N l l (l.length : Int) 0) fun l3 =>
 orK l3 (fun x4 =>
  some ((x4.1.1, ()), ()))
  (fun x5 =>
  some (((decide ((l.length : Int) ≤ 30)), ()), ())) := by kernel_rfl
set_option maxRecDepth 100000 in
theorem spec_l16Good.say (N : Nat) : SayOk Try.prog (spec_l16Good.S N) := sayOk_mk (N := N) (H := spec_l16Good.H) (preps := [⟨[], [], [], []⟩]) (l := spec_l16Good.says) (fn := Try.f16) (c := bodyOf Try.f16)
  (by kernel_rfl) (by kernel_rfl) (by kernel_rfl) (by kernel_rfl) (by kernel_rfl) (by kernel_rfl) (by kernel_rfl)
  (fun N => SayAll.cons (spec_l1Known.say N) (SayAll.nil)) (fun a s => by kernel_rfl)

/-! ### loop.example/g00206/spec.l1Size: function 48 -/
noncomputable def spec_l1Size.H : Hints := hintsOf []
noncomputable def spec_l1Size.says (N : Nat) : List Say := []
noncomputable def spec_l1Size.call (N : Nat) : CallK := callBy (spec_l1Size.says N)
noncomputable def spec_l1Size.qt (N : Nat) : FuncId → List PV → Sig → Cl := qtBy (spec_l1Size.says N)
noncomputable def spec_l1Size (N : Nat) (n : Int) : Option ((Int × Unit) × Unit) :=
  ofFn Try.prog spec_l1Size.call spec_l1Size.qt spec_l1Size.H N Try.f48 [ak_i] [] [ak_i] [] [⟨[], [], [], []⟩] (n, ()) ()
noncomputable def spec_l1Size.S (N : Nat) : Say := ⟨false, 48, [ak_i], [], [ak_i], [], fun a s => spec_l1Size N a.1⟩
set_option maxRecDepth 100000 in
theorem spec_l1Size.eq (N : Nat) (n : Int) : spec_l1Size N n =
 sel (decide (n < 64))
  (
  some ((1, ()), ()))
  (
  sel (decide (n < 16384))
   (
   some ((2, ()), ()))
   (
   sel (decide (n < 1073741824))
    (
    some ((4, ()), ()))
    (
    some ((8, ()), ())))) := by kernel_rfl
set_option maxRecDepth 100000 in
theorem spec_l1Size.say (N : Nat) : SayOk Try.prog (spec_l1Size.S N) := sayOk_mk (N := N) (H := spec_l1Size.H) (preps := [⟨[], [], [], []⟩]) (l := spec_l1Size.says) (fn := Try.f48) (c := bodyOf Try.f48)
  (by kernel_rfl) (by kernel_rfl) (by kernel_rfl) (by kernel_rfl) (by kernel_rfl) (by kernel_rfl) (by kernel_rfl)
  (fun N => SayAll.nil) (fun a s => by kernel_rfl)

/-! ### loop.example/g00206/spec.l1Fixed: function 49 -/
noncomputable def spec_l1Fixed.H : Hints := hintsOf [(2000003, .loop ⟨.normal, [0], [5, 6], [.one (.own 0), ak_i], [.rows (.int .u8)], [⟨[(5, (.int .u8))], [], [], [0]⟩, ⟨[], [], [], [0]⟩]⟩ [⟨(.exit 0), [], [5], [.one (.own 0)], [.rows (.int .u8)], [⟨[], [], [], [0]⟩]⟩])]
noncomputable def spec_l1Fixed.says (N : Nat) : List Say := []
noncomputable def spec_l1Fixed.call (N : Nat) : CallK := callBy (spec_l1Fixed.says N)
noncomputable def spec_l1Fixed.qt (N : Nat) : FuncId → List PV → Sig → Cl := qtBy (spec_l1Fixed.says N)
noncomputable def spec_l1Fixed.l0.hd : Alt := ⟨.normal, [0], [5, 6], [.one (.own 0), ak_i], [.rows (.int .u8)], [⟨[(5, (.int .u8))], [], [], [0]⟩, ⟨[], [], [], [0]⟩]⟩
noncomputable def spec_l1Fixed.l0.outs : List Alt := [⟨(.exit 0), [], [5], [.one (.own 0)], [.rows (.int .u8)], [⟨[], [], [], [0]⟩]⟩]
noncomputable def spec_l1Fixed.l0 (N : Nat) (n1 : Int) (k : Int) (p0 : (List Int)) : Option ((Unit × Unit) × ((List Int) × Unit)) :=
  loopK Try.prog spec_l1Fixed.call spec_l1Fixed.qt spec_l1Fixed.H (codeAt (bodyOf Try.f49) [1, 1, 0, 1, 0, 0]) 0 spec_l1Fixed.l0.hd spec_l1Fixed.l0.outs [(0, .v (.int .i64 n1))] N (((), (k, ())), (p0, ()))
noncomputable def spec_l1Fixed (N : Nat) (n : Int) (many : Int) : Option ((ByteArray × Unit) × Unit) :=
  ofFn Try.prog spec_l1Fixed.call spec_l1Fixed.qt spec_l1Fixed.H N Try.f49 [ak_i, ak_i] [] [ak_s] [] [⟨[], [], [], []⟩] (n, (many, ())) ()
noncomputable def spec_l1Fixed.S (N : Nat) : Say := ⟨false, 49, [ak_i, ak_i], [], [ak_s], [], fun a s => spec_l1Fixed N a.1 a.2.1⟩
set_option maxRecDepth 100000 in
theorem spec_l1Fixed.l0.eq (N : Nat) (n1 : Int) (k : Int) (p0 : (List Int)) : spec_l1Fixed.l0 (N + 1) n1 k p0 =
 sel (decide (0 ≤ k))
  (
  chk (decide (0 ≤ (IntKind.u64.wrap (IntKind.i64.wrap (8 * k))))) (
  chk (decide (p0.length + 1 < most)) (
  spec_l1Fixed.l0 N n1 (IntKind.i64.wrap (k - 1)) (p0 ++ [(IntKind.u8.wrap (shrI .i64 n1 (IntKind.u64.wrap (IntKind.i64.wrap (8 * k)))))]))))
  (
  some ((((), ()), (p0, ())))) := by kernel_rfl
set_option maxRecDepth 100000 in
theorem spec_l1Fixed.eq (N : Nat) (n : Int) (many : Int) : spec_l1Fixed N n many =
 andK (spec_l1Fixed.l0 N n (IntKind.i64.wrap (many - 1)) []) fun l1 =>
 some (((strL l1.2.1), ()), ()) := by kernel_rfl
set_option maxRecDepth 100000 in
theorem spec_l1Fixed.say (N : Nat) : SayOk Try.prog (spec_l1Fixed.S N) := sayOk_mk (N := N) (H := spec_l1Fixed.H) (preps := [⟨[], [], [], []⟩]) (l := spec_l1Fixed.says) (fn := Try.f49) (c := bodyOf Try.f49)
  (by kernel_rfl) (by kernel_rfl) (by kernel_rfl) (by kernel_rfl) (by kernel_rfl) (by kernel_rfl) (by kernel_rfl)
  (fun N => SayAll.nil) (fun a s => by kernel_rfl)

/-! ### loop.example/g00206/spec.l1Var: function 37 -/
noncomputable def spec_l1Var.H : Hints := hintsOf []
noncomputable def spec_l1Var.says (N : Nat) : List Say := [spec_l1Size.S N, spec_l1Fixed.S N]
noncomputable def spec_l1Var.call (N : Nat) : CallK := callBy (spec_l1Var.says N)
noncomputable def spec_l1Var.qt (N : Nat) : FuncId → List PV → Sig → Cl := qtBy (spec_l1Var.says N)
noncomputable def spec_l1Var (N : Nat) (n : Int) : Option ((ByteArray × Unit) × Unit) :=
  ofFn Try.prog spec_l1Var.call spec_l1Var.qt spec_l1Var.H N Try.f37 [ak_i] [] [ak_s] [] [⟨[], [], [], []⟩] (n, ()) ()
noncomputable def spec_l1Var.S (N : Nat) : Say := ⟨false, 37, [ak_i], [], [ak_s], [], fun a s => spec_l1Var N a.1⟩
set_option maxRecDepth 100000 in
theorem spec_l1Var.eq (N : Nat) (n : Int) : spec_l1Var N n =
 andK (spec_l1Size N n) fun u1 =>
 sel (decide (u1.1.1 = 1))
  (
  andK (spec_l1Fixed N n 1) fun u2 =>
  some ((u2.1.1, ()), ()))
  (
  sel (decide (u1.1.1 = 2))
   (
   andK (spec_l1Fixed N (Go.bits .or .i64 n 16384) 2) fun u3 =>
   some ((u3.1.1, ()), ()))
   (
   sel (decide (u1.1.1 = 4))
    (
    andK (spec_l1Fixed N (Go.bits .or .i64 n 2147483648) 4) fun u4 =>
    some ((u4.1.1, ()), ()))
    (
    andK (spec_l1Fixed N (Go.bits .or .i64 n (-4611686018427387904)) 8) fun u5 =>
    some ((u5.1.1, ()), ())))) := by kernel_rfl
set_option maxRecDepth 100000 in
theorem spec_l1Var.say (N : Nat) : SayOk Try.prog (spec_l1Var.S N) := sayOk_mk (N := N) (H := spec_l1Var.H) (preps := [⟨[], [], [], []⟩]) (l := spec_l1Var.says) (fn := Try.f37) (c := bodyOf Try.f37)
  (by kernel_rfl) (by kernel_rfl) (by kernel_rfl) (by kernel_rfl) (by kernel_rfl) (by kernel_rfl) (by kernel_rfl)
  (fun N => SayAll.cons (spec_l1Size.say N) (SayAll.cons (spec_l1Fixed.say N) (SayAll.nil))) (fun a s => by kernel_rfl)

/-! ### loop.example/g00206/spec.l16Bytes: function 17 -/
noncomputable def spec_l16Bytes.H : Hints := hintsOf [(2000003, .loop ⟨.normal, [6, 7], [3, 8], [ak_s, ak_i], [], [⟨[], [], [], []⟩]⟩ [⟨(.exit 0), [], [3], [ak_s], [], [⟨[], [], [], []⟩]⟩])]
noncomputable def spec_l16Bytes.says (N : Nat) : List Say := [spec_l1Var.S N]
noncomputable def spec_l16Bytes.call (N : Nat) : CallK := callBy (spec_l16Bytes.says N)
noncomputable def spec_l16Bytes.qt (N : Nat) : FuncId → List PV → Sig → Cl := qtBy (spec_l16Bytes.says N)
noncomputable def spec_l16Bytes.l0.hd : Alt := ⟨.normal, [6, 7], [3, 8], [ak_s, ak_i], [], [⟨[], [], [], []⟩]⟩
noncomputable def spec_l16Bytes.l0.outs : List Alt := [⟨(.exit 0), [], [3], [ak_s], [], [⟨[], [], [], []⟩]⟩]
noncomputable def spec_l16Bytes.l0 (N : Nat) (t6 : (List (Int × ByteArray))) (t7 : Int) (s : ByteArray) (t8 : Int) : Option ((ByteArray × Unit) × Unit) :=
  loopK Try.prog spec_l16Bytes.call spec_l16Bytes.qt spec_l16Bytes.H (codeAt (bodyOf Try.f17) [1, 1, 0, 1, 0, 0]) 0 spec_l16Bytes.l0.hd spec_l16Bytes.l0.outs [(6, .rows false (.pair (.int .i64) .str) t6), (7, .v (.int .i64 t7))] N ((s, (t8, ())), ())
noncomputable def spec_l16Bytes (N : Nat) (l : (List (Int × ByteArray))) : Option ((ByteArray × Unit) × Unit) :=
  ofFn Try.prog spec_l16Bytes.call spec_l16Bytes.qt spec_l16Bytes.H N Try.f17 [.one (.sh (.rows (.pair (.int .i64) .str)))] [] [ak_s] [] [⟨[], [], [], []⟩] (l, ()) ()
noncomputable def spec_l16Bytes.S (N : Nat) : Say := ⟨false, 17, [.one (.sh (.rows (.pair (.int .i64) .str)))], [], [ak_s], [], fun a s => spec_l16Bytes N a.1⟩
set_option maxRecDepth 100000 in
theorem spec_l16Bytes.l0.eq (N : Nat) (t6 : (List (Int × ByteArray))) (t7 : Int) (s : ByteArray) (t8 : Int) : spec_l16Bytes.l0 (N + 1) t6 t7 s t8 =
 sel (decide (t8 < t7))
  (
  chk ((decide (0 ≤ t8)) && (decide (t8 < (t6.length : Int)))) (
  andK (spec_l1Var N (rdS (.pair (.int .i64) .str) t6 (Int.toNat t8)).1) fun u1 =>
  andK (spec_l1Var N ((rdS (.pair (.int .i64) .str) t6 (Int.toNat t8)).2.size : Int)) fun u2 =>
  chk (decide (u1.1.1.size + u2.1.1.size ≤ 9223372036854775807)) (
  chk (decide ((u1.1.1 ++ u2.1.1).size + (rdS (.pair (.int .i64) .str) t6 (Int.toNat t8)).2.size ≤ 9223372036854775807)) (
  chk (decide (s.size + ((u1.1.1 ++ u2.1.1) ++ (rdS (.pair (.int .i64) .str) t6 (Int.toNat t8)).2).size ≤ 9223372036854775807)) (
  spec_l16Bytes.l0 N t6 t7 (s ++ ((u1.1.1 ++ u2.1.1) ++ (rdS (.pair (.int .i64) .str) t6 (Int.toNat t8)).2)) (IntKind.i64.wrap (t8 + 1)))))))
  (
  some (((s, ()), ()))) := by kernel_rfl
set_option maxRecDepth 100000 in
theorem spec_l16Bytes.eq (N : Nat) (l : (List (Int × ByteArray))) : spec_l16Bytes N l =
 andK (spec_l16Bytes.l0 N l (l.length : Int) (⟨#[]⟩ : ByteArray) 0) fun l3 =>
 some ((l3.1.1, ()), ()) := by kernel_rfl
set_option maxRecDepth 100000 in
theorem spec_l16Bytes.say (N : Nat) : SayOk Try.prog (spec_l16Bytes.S N) := sayOk_mk (N := N) (H := spec_l16Bytes.H) (preps := [⟨[], [], [], []⟩]) (l := spec_l16Bytes.says) (fn := Try.f17) (c := bodyOf Try.f17)
  (by kernel_rfl) (by kernel_rfl) (by kernel_rfl) (by kernel_rfl) (by kernel_rfl) (by kernel_rfl) (by kernel_rfl)
  (fun N => SayAll.cons (spec_l1Var.say N) (SayAll.nil)) (fun a s => by kernel_rfl)

/-! ### loop.example/g00206/spec.CapsulesBytes: function 6 -/
noncomputable def spec_CapsulesBytes.H : Hints := hintsOf []
noncomputable def spec_CapsulesBytes.says (N : Nat) : List Say := [spec_l16Good.S N, spec_l16Bytes.S N]
noncomputable def spec_CapsulesBytes.call (N : Nat) : CallK := callBy (spec_CapsulesBytes.says N)
noncomputable def spec_CapsulesBytes.qt (N : Nat) : FuncId → List PV → Sig → Cl := qtBy (spec_CapsulesBytes.says N)
noncomputable def spec_CapsulesBytes (N : Nat) (l : (List (Int × ByteArray))) : Option ((ByteArray × (Bool × Unit)) × Unit) :=
  ofFn Try.prog spec_CapsulesBytes.call spec_CapsulesBytes.qt spec_CapsulesBytes.H N Try.f6 [.one (.sh (.rows (.pair (.int .i64) .str)))] [] [ak_s, ak_b] [] [⟨[], [], [], []⟩] (l, ()) ()
noncomputable def spec_CapsulesBytes.S (N : Nat) : Say := ⟨false, 6, [.one (.sh (.rows (.pair (.int .i64) .str)))], [], [ak_s, ak_b], [], fun a s => spec_CapsulesBytes N a.1⟩
set_option maxRecDepth 100000 in
theorem spec_CapsulesBytes.eq (N : Nat) (l : (List (Int × ByteArray))) : spec_CapsulesBytes N l =
 andK (spec_l16Good N l) fun u1 =>
 sel (!u1.1.1)
  (
  some (((⟨#[]⟩ : ByteArray), (false, ())), ()))
  (
  andK (spec_l16Bytes N l) fun u2 =>
  some ((u2.1.1, (true, ())), ())) := by kernel_rfl
set_option maxRecDepth 100000 in
theorem spec_CapsulesBytes.say (N : Nat) : SayOk Try.prog (spec_CapsulesBytes.S N) := sayOk_mk (N := N) (H := spec_CapsulesBytes.H) (preps := [⟨[], [], [], []⟩]) (l := spec_CapsulesBytes.says) (fn := Try.f6) (c := bodyOf Try.f6)
  (by kernel_rfl) (by kernel_rfl) (by kernel_rfl) (by kernel_rfl) (by kernel_rfl) (by kernel_rfl) (by kernel_rfl)
  (fun N => SayAll.cons (spec_l16Good.say N) (SayAll.cons (spec_l16Bytes.say N) (SayAll.nil))) (fun a s => by kernel_rfl)
noncomputable def spec_CapsulesBytes.SB (N : Nat) : Say := spec_CapsulesBytes.S N |>.lent
theorem spec_CapsulesBytes.sayB (N : Nat) : SayOk Try.prog (spec_CapsulesBytes.SB N) := (spec_CapsulesBytes.say N).lent

/-! ### loop.example/g00206/impl.numberOf: function 50 -/
noncomputable def impl_numberOf.H : Hints := hintsOf [(2000003, .loop ⟨.normal, [0, 6], [3, 7], [.one (.sh (.int .u64)), ak_i], [], [⟨[], [], [], []⟩]⟩ [⟨(.exit 0), [], [3], [.one (.sh (.int .u64))], [], [⟨[], [], [], []⟩]⟩])]
noncomputable def impl_numberOf.says (N : Nat) : List Say := []
noncomputable def impl_numberOf.call (N : Nat) : CallK := callBy (impl_numberOf.says N)
noncomputable def impl_numberOf.qt (N : Nat) : FuncId → List PV → Sig → Cl := qtBy (impl_numberOf.says N)
noncomputable def impl_numberOf.l0.hd : Alt := ⟨.normal, [0, 6], [3, 7], [.one (.sh (.int .u64)), ak_i], [], [⟨[], [], [], []⟩]⟩
noncomputable def impl_numberOf.l0.outs : List Alt := [⟨(.exit 0), [], [3], [.one (.sh (.int .u64))], [], [⟨[], [], [], []⟩]⟩]
noncomputable def impl_numberOf.l0 (N : Nat) (s1 : ByteArray) (t6 : Int) (n : Int) (t7 : Int) : Option ((Int × Unit) × Unit) :=
  loopK Try.prog impl_numberOf.call impl_numberOf.qt impl_numberOf.H (codeAt (bodyOf Try.f50) [1, 1, 0, 1, 0, 0]) 0 impl_numberOf.l0.hd impl_numberOf.l0.outs [(0, .v (.string s1)), (6, .v (.int .i64 t6))] N ((n, (t7, ())), ())
noncomputable def impl_numberOf (N : Nat) (s : ByteArray) : Option ((Int × Unit) × Unit) :=
  ofFn Try.prog impl_numberOf.call impl_numberOf.qt impl_numberOf.H N Try.f50 [ak_s] [] [.one (.sh (.int .u64))] [] [⟨[], [], [], []⟩] (s, ()) ()
noncomputable def impl_numberOf.S (N : Nat) : Say := ⟨false, 50, [ak_s], [], [.one (.sh (.int .u64))], [], fun a s => impl_numberOf N a.1⟩
set_option maxRecDepth 100000 in
theorem impl_numberOf.l0.eq (N : Nat) (s1 : ByteArray) (t6 : Int) (n : Int) (t7 : Int) : impl_numberOf.l0 (N + 1) s1 t6 n t7 =
 sel (decide (t7 < t6))
  (
  chk ((decide (0 ≤ t7)) && (decide (t7 < (s1.size : Int)))) (
  impl_numberOf.l0 N s1 t6 (Go.bits .or .u64 (shlI .u64 n 8) (IntKind.u64.wrap ((bytesL s1).getD (Int.toNat t7) 0))) (IntKind.i64.wrap (t7 + 1))))
  (
  some (((n, ()), ()))) := by kernel_rfl
set_option maxRecDepth 100000 in
theorem impl_numberOf.eq (N : Nat) (s : ByteArray) : impl_numberOf N s =
 andK (impl_numberOf.l0 N s (s.size : Int) 0 0) fun l1 =>
 some ((l1.1.1, ()), ()) := by kernel_rfl
set_option maxRecDepth 100000 in
theorem impl_numberOf.say (N : Nat) : SayOk Try.prog (impl_numberOf.S N) := sayOk_mk (N := N) (H := impl_numberOf.H) (preps := [⟨[], [], [], []⟩]) (l := impl_numberOf.says) (fn := Try.f50) (c := bodyOf Try.f50)
  (by kernel_rfl) (by kernel_rfl) (by kernel_rfl) (by kernel_rfl) (by kernel_rfl) (by kernel_rfl) (by kernel_rfl)
  (fun N => SayAll.nil) (fun a s => by kernel_rfl)

/-! ### loop.example/g00206/impl.TakeVarint: function 38 -/
noncomputable def impl_TakeVarint.H : Hints := hintsOf []
noncomputable def impl_TakeVarint.says (N : Nat) : List Say := [impl_numberOf.S N]
noncomputable def impl_TakeVarint.call (N : Nat) : CallK := callBy (impl_TakeVarint.says N)
noncomputable def impl_TakeVarint.qt (N : Nat) : FuncId → List PV → Sig → Cl := qtBy (impl_TakeVarint.says N)
noncomputable def impl_TakeVarint (N : Nat) (s : ByteArray) : Option ((Int × (Int × Unit)) × Unit) :=
  ofFn Try.prog impl_TakeVarint.call impl_TakeVarint.qt impl_TakeVarint.H N Try.f38 [ak_s] [] [ak_i, ak_i] [] [⟨[], [], [], []⟩] (s, ()) ()
noncomputable def impl_TakeVarint.S (N : Nat) : Say := ⟨false, 38, [ak_s], [], [ak_i, ak_i], [], fun a s => impl_TakeVarint N a.1⟩
set_option maxRecDepth 100000 in
theorem impl_TakeVarint.eq (N : Nat) (s : ByteArray) : impl_TakeVarint N s =
 sel (decide (s = (⟨#[]⟩ : ByteArray)))
  (
  some ((0, (0, ())), ()))
  (
  chk (decide (0 < (s.size : Int))) (
  chk (decide (0 ≤ (shrI .u8 ((bytesL s).getD 0 0) 6))) (
  sel (decide ((s.size : Int) < (shlI .i64 1 (shrI .u8 ((bytesL s).getD 0 0) 6))))
   (
   some ((0, (0, ())), ()))
   (
   chk ((decide (0 ≤ (shlI .i64 1 (shrI .u8 ((bytesL s).getD 0 0) 6)))) && (decide ((shlI .i64 1 (shrI .u8 ((bytesL s).getD 0 0) 6)) ≤ (s.size : Int)))) (
   andK (impl_numberOf N (s.extract 0 (Int.toNat (shlI .i64 1 (shrI .u8 ((bytesL s).getD 0 0) 6))))) fun u1 =>
   chk (decide (0 ≤ (IntKind.i64.wrap ((IntKind.i64.wrap (8 * (shlI .i64 1 (shrI .u8 ((bytesL s).getD 0 0) 6)))) - 2)))) (
   some (((IntKind.i64.wrap (Go.bits .and .u64 u1.1.1 (IntKind.u64.wrap ((shlI .u64 1 (IntKind.i64.wrap ((IntKind.i64.wrap (8 * (shlI .i64 1 (shrI .u8 ((bytesL s).getD 0 0) 6)))) - 2))) - 1)))), ((shlI .i64 1 (shrI .u8 ((bytesL s).getD 0 0) 6)), ())), ()))))))) := by kernel_rfl
set_option maxRecDepth 100000 in
theorem impl_TakeVarint.say (N : Nat) : SayOk Try.prog (impl_TakeVarint.S N) := sayOk_mk (N := N) (H := impl_TakeVarint.H) (preps := [⟨[], [], [], []⟩]) (l := impl_TakeVarint.says) (fn := Try.f38) (c := bodyOf Try.f38)
  (by kernel_rfl) (by kernel_rfl) (by kernel_rfl) (by kernel_rfl) (by kernel_rfl) (by kernel_rfl) (by kernel_rfl)
  (fun N => SayAll.cons (impl_numberOf.say N) (SayAll.nil)) (fun a s => by kernel_rfl)

/-! ### (*loop.example/g00206/impl.cursor).number: function 18 -/
noncomputable def impl_cursor_number.H : Hints := hintsOf [(4, .join [⟨.normal, [3, 4], [0], [.one (.ptr 0 0)], [.cells [ck_s, ck_b]], [⟨[], [], [], []⟩]⟩])]
noncomputable def impl_cursor_number.says (N : Nat) : List Say := [impl_TakeVarint.S N]
noncomputable def impl_cursor_number.call (N : Nat) : CallK := callBy (impl_cursor_number.says N)
noncomputable def impl_cursor_number.qt (N : Nat) : FuncId → List PV → Sig → Cl := qtBy (impl_cursor_number.says N)
noncomputable def impl_cursor_number (N : Nat) (p0_0 : ByteArray) (p0_1 : Bool) : Option ((Int × Unit) × ((ByteArray × (Bool × Unit)) × Unit)) :=
  ofFn Try.prog impl_cursor_number.call impl_cursor_number.qt impl_cursor_number.H N Try.f18 [.one (.ptr 0 0)] [.cells [ck_s, ck_b]] [ak_i] [.cells [ck_s, ck_b]] [⟨[], [], [], []⟩] ((), ()) ((p0_0, (p0_1, ())), ())
noncomputable def impl_cursor_number.S (N : Nat) : Say := ⟨false, 18, [.one (.ptr 0 0)], [.cells [ck_s, ck_b]], [ak_i], [.cells [ck_s, ck_b]], fun a s => impl_cursor_number N s.1.1 s.1.2.1⟩
set_option maxRecDepth 100000 in
theorem impl_cursor_number.eq (N : Nat) (p0_0 : ByteArray) (p0_1 : Bool) : impl_cursor_number N p0_0 p0_1 =
 andK (impl_TakeVarint N p0_0) fun u1 =>
 andK (α := ((Unit × Unit) × ((ByteArray × (Bool × Unit)) × Unit))) (
  sel (decide (u1.1.2.1 = 0))
   (
   some ((((), ()), ((p0_0, (true, ())), ()))))
   (
   some ((((), ()), ((p0_0, (p0_1, ())), ()))))) fun j2 =>
 chk ((decide (0 ≤ u1.1.2.1)) && ((decide (u1.1.2.1 ≤ (j2.2.1.1.size : Int))) && (decide ((j2.2.1.1.size : Int) ≤ (j2.2.1.1.size : Int))))) (
 some ((u1.1.1, ()), (((j2.2.1.1.extract (Int.toNat u1.1.2.1) (Int.toNat (j2.2.1.1.size : Int))), (j2.2.1.2.1, ())), ()))) := by kernel_rfl
set_option maxRecDepth 100000 in
theorem impl_cursor_number.say (N : Nat) : SayOk Try.prog (impl_cursor_number.S N) := sayOk_mk (N := N) (H := impl_cursor_number.H) (preps := [⟨[], [], [], []⟩]) (l := impl_cursor_number.says) (fn := Try.f18) (c := bodyOf Try.f18)
  (by kernel_rfl) (by kernel_rfl) (by kernel_rfl) (by kernel_rfl) (by kernel_rfl) (by kernel_rfl) (by kernel_rfl)
  (fun N => SayAll.cons (impl_TakeVarint.say N) (SayAll.nil)) (fun a s => by kernel_rfl)

/-! ### (*loop.example/g00206/impl.cursor).take: function 19 -/
noncomputable def impl_cursor_take.H : Hints := hintsOf [(5000001, .join [⟨.normal, [1], [0, 18], [.one (.ptr 0 0), ak_b], [.cells [ck_s, ck_b]], [⟨[], [], [], []⟩]⟩])]
noncomputable def impl_cursor_take.says (N : Nat) : List Say := []
noncomputable def impl_cursor_take.call (N : Nat) : CallK := callBy (impl_cursor_take.says N)
noncomputable def impl_cursor_take.qt (N : Nat) : FuncId → List PV → Sig → Cl := qtBy (impl_cursor_take.says N)
noncomputable def impl_cursor_take (N : Nat) (n : Int) (p0_0 : ByteArray) (p0_1 : Bool) : Option ((ByteArray × Unit) × ((ByteArray × (Bool × Unit)) × Unit)) :=
  ofFn Try.prog impl_cursor_take.call impl_cursor_take.qt impl_cursor_take.H N Try.f19 [.one (.ptr 0 0), ak_i] [.cells [ck_s, ck_b]] [ak_s] [.cells [ck_s, ck_b]] [⟨[], [], [], []⟩] ((), (n, ())) ((p0_0, (p0_1, ())), ())
noncomputable def impl_cursor_take.S (N : Nat) : Say := ⟨false, 19, [.one (.ptr 0 0), ak_i], [.cells [ck_s, ck_b]], [ak_s], [.cells [ck_s, ck_b]], fun a s => impl_cursor_take N a.2.1 s.1.1 s.1.2.1⟩
set_option maxRecDepth 100000 in
theorem impl_cursor_take.eq (N : Nat) (n : Int) (p0_0 : ByteArray) (p0_1 : Bool) : impl_cursor_take N n p0_0 p0_1 =
 andK (α := ((Unit × (Bool × Unit)) × ((ByteArray × (Bool × Unit)) × Unit))) (
  sel p0_1
   (
   some ((((), (true, ())), ((p0_0, (p0_1, ())), ()))))
   (
   some ((((), ((decide ((p0_0.size : Int) < n)), ())), ((p0_0, (p0_1, ())), ()))))) fun j1 =>
 sel j1.1.2.1
  (
  some (((⟨#[]⟩ : ByteArray), ()), ((j1.2.1.1, (true, ())), ())))
  (
  chk ((decide (0 ≤ n)) && (decide (n ≤ (j1.2.1.1.size : Int)))) (
  chk ((decide (0 ≤ n)) && ((decide (n ≤ (j1.2.1.1.size : Int))) && (decide ((j1.2.1.1.size : Int) ≤ (j1.2.1.1.size : Int))))) (
  some (((j1.2.1.1.extract 0 (Int.toNat n)), ()), (((j1.2.1.1.extract (Int.toNat n) (Int.toNat (j1.2.1.1.size : Int))), (j1.2.1.2.1, ())), ()))))) := by kernel_rfl
set_option maxRecDepth 100000 in
theorem impl_cursor_take.say (N : Nat) : SayOk Try.prog (impl_cursor_take.S N) := sayOk_mk (N := N) (H := impl_cursor_take.H) (preps := [⟨[], [], [], []⟩]) (l := impl_cursor_take.says) (fn := Try.f19) (c := bodyOf Try.f19)
  (by kernel_rfl) (by kernel_rfl) (by kernel_rfl) (by kernel_rfl) (by kernel_rfl) (by kernel_rfl) (by kernel_rfl)
  (fun N => SayAll.nil) (fun a s => by kernel_rfl)

/-! ### loop.example/g00206/impl.ReadCapsules: function 7 -/
noncomputable def impl_ReadCapsules.H : Hints := hintsOf [(5000007, .join [⟨.normal, [0, 7, 8, 9], [5, 6, 38], [.one (.own 1), .one (.ptr 0 0), ak_b], [.cells [ck_s, ck_b], .rows (.pair (.int .i64) .str)], [⟨[], [], [], []⟩]⟩]),
  (2000004, .loop ⟨.normal, [0], [5, 6], [.one (.own 1), .one (.ptr 0 0)], [.cells [ck_s, ck_b], .rows (.pair (.int .i64) .str)], [⟨[(5, (.pair (.int .i64) .str))], [], [], [1]⟩, ⟨[], [], [], [1]⟩]⟩ [⟨.ret, [], [2, 3, 4], [.one (.own 1), ak_i, ak_b], [.cells [ck_s, ck_b], .rows (.pair (.int .i64) .str)], [⟨[(2, (.pair (.int .i64) .str))], [], [], [2]⟩, ⟨[], [], [], [1]⟩]⟩])]
noncomputable def impl_ReadCapsules.says (N : Nat) : List Say := [impl_cursor_number.S N, impl_cursor_take.S N]
noncomputable def impl_ReadCapsules.call (N : Nat) : CallK := callBy (impl_ReadCapsules.says N)
noncomputable def impl_ReadCapsules.qt (N : Nat) : FuncId → List PV → Sig → Cl := qtBy (impl_ReadCapsules.says N)
noncomputable def impl_ReadCapsules.l0.hd : Alt := ⟨.normal, [0], [5, 6], [.one (.own 1), .one (.ptr 0 0)], [.cells [ck_s, ck_b], .rows (.pair (.int .i64) .str)], [⟨[(5, (.pair (.int .i64) .str))], [], [], [1]⟩, ⟨[], [], [], [1]⟩]⟩
noncomputable def impl_ReadCapsules.l0.outs : List Alt := [⟨.ret, [], [2, 3, 4], [.one (.own 1), ak_i, ak_b], [.cells [ck_s, ck_b], .rows (.pair (.int .i64) .str)], [⟨[(2, (.pair (.int .i64) .str))], [], [], [2]⟩, ⟨[], [], [], [1]⟩]⟩]
noncomputable def impl_ReadCapsules.l0 (N : Nat) (s1 : ByteArray) (p0_0 : ByteArray) (p0_1 : Bool) (p1 : (List (Int × ByteArray))) : Option ((Unit × (Int × (Bool × Unit))) × ((ByteArray × (Bool × Unit)) × ((List (Int × ByteArray)) × Unit))) :=
  loopK Try.prog impl_ReadCapsules.call impl_ReadCapsules.qt impl_ReadCapsules.H (codeAt (bodyOf Try.f7) [1, 1, 1, 0, 0]) 1 impl_ReadCapsules.l0.hd impl_ReadCapsules.l0.outs [(0, .v (.string s1))] N (((), ((), ())), ((p0_0, (p0_1, ())), (p1, ())))
noncomputable def impl_ReadCapsules (N : Nat) (s : ByteArray) : Option ((Unit × (Int × (Bool × Unit))) × ((List (Int × ByteArray)) × Unit)) :=
  ofFn Try.prog impl_ReadCapsules.call impl_ReadCapsules.qt impl_ReadCapsules.H N Try.f7 [ak_s] [] [.one (.own 0), ak_i, ak_b] [.rows (.pair (.int .i64) .str)] [⟨[(0, (.pair (.int .i64) .str))], [], [], [0]⟩, ⟨[], [], [], [1]⟩] (s, ()) ()
noncomputable def impl_ReadCapsules.S (N : Nat) : Say := ⟨false, 7, [ak_s], [], [.one (.own 0), ak_i, ak_b], [.rows (.pair (.int .i64) .str)], fun a s => impl_ReadCapsules N a.1⟩
set_option maxRecDepth 100000 in
theorem impl_ReadCapsules.l0.eq (N : Nat) (s1 : ByteArray) (p0_0 : ByteArray) (p0_1 : Bool) (p1 : (List (Int × ByteArray))) : impl_ReadCapsules.l0 (N + 1) s1 p0_0 p0_1 p1 =
 andK (impl_cursor_number N p0_0 p0_1) fun u1 =>
 andK (impl_cursor_number N u1.2.1.1 u1.2.1.2.1) fun u2 =>
 andK (α := ((Unit × (Unit × (Bool × Unit))) × ((ByteArray × (Bool × Unit)) × ((List (Int × ByteArray)) × Unit)))) (
  sel (!u2.2.1.2.1)
   (
   some ((((), ((), ((decide (200 < u2.1.1)), ()))), ((u2.2.1.1, (u2.2.1.2.1, ())), (p1, ())))))
   (
   some ((((), ((), (false, ()))), ((u2.2.1.1, (u2.2.1.2.1, ())), (p1, ())))))) fun j3 =>
 sel j3.1.2.2.1
  (
  some ((((), (0, (false, ()))), ((j3.2.1.1, (j3.2.1.2.1, ())), ([], ())))))
  (
  andK (impl_cursor_take N u2.1.1 j3.2.1.1 j3.2.1.2.1) fun u4 =>
  sel u4.2.1.2.1
   (
   some ((((), ((IntKind.i64.wrap ((s1.size : Int) - (p0_0.size : Int))), (true, ()))), ((u4.2.1.1, (u4.2.1.2.1, ())), (j3.2.2.1, ())))))
   (
   chk (decide (j3.2.2.1.length + 1 < most)) (
   sel (decide (30 < ((j3.2.2.1 ++ [(u1.1.1, u4.1.1)]).length : Int)))
    (
    some ((((), (0, (false, ()))), ((u4.2.1.1, (u4.2.1.2.1, ())), ([], ())))))
    (
    impl_ReadCapsules.l0 N s1 u4.2.1.1 u4.2.1.2.1 (j3.2.2.1 ++ [(u1.1.1, u4.1.1)]))))) := by kernel_rfl
set_option maxRecDepth 100000 in
theorem impl_ReadCapsules.eq (N : Nat) (s : ByteArray) : impl_ReadCapsules N s =
 sel (decide (1500 < (s.size : Int)))
  (
  some (((), (0, (false, ()))), ([], ())))
  (
  andK (impl_ReadCapsules.l0 N s s false []) fun l5 =>
  some (((), (l5.1.2.1, (l5.1.2.2.1, ()))), (l5.2.2.1, ()))) := by kernel_rfl
set_option maxRecDepth 100000 in
theorem impl_ReadCapsules.say (N : Nat) : SayOk Try.prog (impl_ReadCapsules.S N) := sayOk_mk (N := N) (H := impl_ReadCapsules.H) (preps := [⟨[(0, (.pair (.int .i64) .str))], [], [], [0]⟩, ⟨[], [], [], [1]⟩]) (l := impl_ReadCapsules.says) (fn := Try.f7) (c := bodyOf Try.f7)
  (by kernel_rfl) (by kernel_rfl) (by kernel_rfl) (by kernel_rfl) (by kernel_rfl) (by kernel_rfl) (by kernel_rfl)
  (fun N => SayAll.cons (impl_cursor_number.say N) (SayAll.cons (impl_cursor_take.say N) (SayAll.nil))) (fun a s => by kernel_rfl)

/-! ### slices.Clone[[]loop.example/g00206/impl.Capsule,loop.example/g00206/impl.Capsule]: function 21 -/
noncomputable def slices_Cloneimpl_Capsule_impl_Capsule (N : Nat) (s : (List (Int × ByteArray))) : Option ((Unit × Unit) × ((List (Int × ByteArray)) × Unit)) := chk (decide (s.length < most)) (some (((), ()), (s, ())))
noncomputable def slices_Cloneimpl_Capsule_impl_Capsule.S (N : Nat) : Say := ⟨false, 21, [.one (.sh (.rows (.pair (.int .i64) .str)))], [], [.one (.own 0)], [.rows (.pair (.int .i64) .str)], fun a s => slices_Cloneimpl_Capsule_impl_Capsule N a.1⟩
theorem slices_Cloneimpl_Capsule_impl_Capsule.eq (N : Nat) (s : (List (Int × ByteArray))) : slices_Cloneimpl_Capsule_impl_Capsule N s =
 chk (decide (s.length < most)) (
 some (((), ()), (s, ()))) := rfl
set_option maxRecDepth 100000 in
theorem slices_Cloneimpl_Capsule_impl_Capsule.say (N : Nat) : SayOk Try.prog (slices_Cloneimpl_Capsule_impl_Capsule.S N) := sayOk_nil (H := hintsOf []) (fn := Try.f21) (c := bodyOf Try.f21) (preps := [⟨[(0, (.pair (.int .i64) .str))], [], [], [0]⟩, ⟨[], [], [], [0]⟩])
  (by kernel_rfl) (by kernel_rfl) (by kernel_rfl) (by kernel_rfl) (by kernel_rfl) (by kernel_rfl) (by kernel_rfl)
  (fun cap => by kernel_rfl) (fun a cap => by kernel_rfl) (fun x xs => by kernel_rfl)

/-! ### loop.example/g00206/impl.KnownCapsules$1: function 22 -/
noncomputable def impl_KnownCapsules_1.H : Hints := hintsOf []
noncomputable def impl_KnownCapsules_1.says (N : Nat) : List Say := [impl_in.S N]
noncomputable def impl_KnownCapsules_1.call (N : Nat) : CallK := callBy (impl_KnownCapsules_1.says N)
noncomputable def impl_KnownCapsules_1.qt (N : Nat) : FuncId → List PV → Sig → Cl := qtBy (impl_KnownCapsules_1.says N)
noncomputable def impl_KnownCapsules_1 (N : Nat) (c_0 : Int) (c_1 : ByteArray) : Option ((Bool × Unit) × Unit) :=
  ofFn Try.prog impl_KnownCapsules_1.call impl_KnownCapsules_1.qt impl_KnownCapsules_1.H N Try.f22 [.agg [ck_i, ck_s]] [] [ak_b] [] [⟨[], [], [], []⟩] ((c_0, (c_1, ())), ()) ()
noncomputable def impl_KnownCapsules_1.S (N : Nat) : Say := ⟨false, 22, [.agg [ck_i, ck_s]], [], [ak_b], [], fun a s => impl_KnownCapsules_1 N a.1.1 a.1.2.1⟩
set_option maxRecDepth 100000 in
theorem impl_KnownCapsules_1.eq (N : Nat) (c_0 : Int) (c_1 : ByteArray) : impl_KnownCapsules_1 N c_0 c_1 =
 andK (impl_in N c_0 0 1) fun u1 =>
 some (((!u1.1.1), ()), ()) := by kernel_rfl
set_option maxRecDepth 100000 in
theorem impl_KnownCapsules_1.say (N : Nat) : SayOk Try.prog (impl_KnownCapsules_1.S N) := sayOk_mk (N := N) (H := impl_KnownCapsules_1.H) (preps := [⟨[], [], [], []⟩]) (l := impl_KnownCapsules_1.says) (fn := Try.f22) (c := bodyOf Try.f22)
  (by kernel_rfl) (by kernel_rfl) (by kernel_rfl) (by kernel_rfl) (by kernel_rfl) (by kernel_rfl) (by kernel_rfl)
  (fun N => SayAll.cons (impl_in.say N) (SayAll.nil)) (fun a s => by kernel_rfl)

/-! ### slices.IndexFunc[[]loop.example/g00206/impl.Capsule,loop.example/g00206/impl.Capsule]: function 39 -/
noncomputable def slices_IndexFuncimpl_Capsule_impl_Capsule_2.H : Hints := hintsOf [(2000002, .loop ⟨.normal, [0, 1, 7], [8], [ak_i], [], [⟨[], [], [], []⟩]⟩ [⟨.ret, [], [4], [ak_i], [], [⟨[], [], [], []⟩]⟩, ⟨(.exit 0), [], [], [], [], [⟨[], [], [], []⟩]⟩])]
noncomputable def slices_IndexFuncimpl_Capsule_impl_Capsule_2.says (N : Nat) : List Say := [impl_KnownCapsules_1.S N]
noncomputable def slices_IndexFuncimpl_Capsule_impl_Capsule_2.call (N : Nat) : CallK := callBy (slices_IndexFuncimpl_Capsule_impl_Capsule_2.says N)
noncomputable def slices_IndexFuncimpl_Capsule_impl_Capsule_2.qt (N : Nat) : FuncId → List PV → Sig → Cl := qtBy (slices_IndexFuncimpl_Capsule_impl_Capsule_2.says N)
noncomputable def slices_IndexFuncimpl_Capsule_impl_Capsule_2.l0.hd : Alt := ⟨.normal, [0, 1, 7], [8], [ak_i], [], [⟨[], [], [], []⟩]⟩
noncomputable def slices_IndexFuncimpl_Capsule_impl_Capsule_2.l0.outs : List Alt := [⟨.ret, [], [4], [ak_i], [], [⟨[], [], [], []⟩]⟩, ⟨(.exit 0), [], [], [], [], [⟨[], [], [], []⟩]⟩]
noncomputable def slices_IndexFuncimpl_Capsule_impl_Capsule_2.l0 (N : Nat) (s1 : (List (Int × ByteArray))) (t7 : Int) (t8 : Int) : Option (((Int × Unit) × Unit) ⊕ (Unit × Unit)) :=
  loopK Try.prog slices_IndexFuncimpl_Capsule_impl_Capsule_2.call slices_IndexFuncimpl_Capsule_impl_Capsule_2.qt slices_IndexFuncimpl_Capsule_impl_Capsule_2.H (codeAt (bodyOf Try.f39) [1, 0, 1, 0, 0]) 0 slices_IndexFuncimpl_Capsule_impl_Capsule_2.l0.hd slices_IndexFuncimpl_Capsule_impl_Capsule_2.l0.outs [(0, .rows false (.pair (.int .i64) .str) s1), (1, .fn 22 []), (7, .v (.int .i64 t7))] N ((t8, ()), ())
noncomputable def slices_IndexFuncimpl_Capsule_impl_Capsule_2 (N : Nat) (s : (List (Int × ByteArray))) : Option ((Int × Unit) × Unit) :=
  ofFn Try.prog slices_IndexFuncimpl_Capsule_impl_Capsule_2.call slices_IndexFuncimpl_Capsule_impl_Capsule_2.qt slices_IndexFuncimpl_Capsule_impl_Capsule_2.H N Try.f39 [.one (.sh (.rows (.pair (.int .i64) .str))), .fn 22 []] [] [ak_i] [] [⟨[], [], [], []⟩] (s, ((), ())) ()
noncomputable def slices_IndexFuncimpl_Capsule_impl_Capsule_2.S (N : Nat) : Say := ⟨false, 39, [.one (.sh (.rows (.pair (.int .i64) .str))), .fn 22 []], [], [ak_i], [], fun a s => slices_IndexFuncimpl_Capsule_impl_Capsule_2 N a.1⟩
set_option maxRecDepth 100000 in
theorem slices_IndexFuncimpl_Capsule_impl_Capsule_2.l0.eq (N : Nat) (s1 : (List (Int × ByteArray))) (t7 : Int) (t8 : Int) : slices_IndexFuncimpl_Capsule_impl_Capsule_2.l0 (N + 1) s1 t7 t8 =
 sel (decide (t8 < t7))
  (
  chk ((decide (0 ≤ t8)) && (decide (t8 < (s1.length : Int)))) (
  andK (impl_KnownCapsules_1 N (rdS (.pair (.int .i64) .str) s1 (Int.toNat t8)).1 (rdS (.pair (.int .i64) .str) s1 (Int.toNat t8)).2) fun u1 =>
  sel u1.1.1
   (
   some (.inl ((t8, ()), ())))
   (
   slices_IndexFuncimpl_Capsule_impl_Capsule_2.l0 N s1 t7 (IntKind.i64.wrap (t8 + 1)))))
  (
  some (.inr (((), ())))) := by kernel_rfl
set_option maxRecDepth 100000 in
theorem slices_IndexFuncimpl_Capsule_impl_Capsule_2.eq (N : Nat) (s : (List (Int × ByteArray))) : slices_IndexFuncimpl_Capsule_impl_Capsule_2 N s =
 andK (slices_IndexFuncimpl_Capsule_impl_Capsule_2.l0 N s (s.length : Int) 0) fun l2 =>
 orK l2 (fun x3 =>
  some ((x3.1.1, ()), ()))
  (fun x4 =>
  some (((-1), ()), ())) := by kernel_rfl
set_option maxRecDepth 100000 in
theorem slices_IndexFuncimpl_Capsule_impl_Capsule_2.say (N : Nat) : SayOk Try.prog (slices_IndexFuncimpl_Capsule_impl_Capsule_2.S N) := sayOk_mk (N := N) (H := slices_IndexFuncimpl_Capsule_impl_Capsule_2.H) (preps := [⟨[], [], [], []⟩]) (l := slices_IndexFuncimpl_Capsule_impl_Capsule_2.says) (fn := Try.f39) (c := bodyOf Try.f39)
  (by kernel_rfl) (by kernel_rfl) (by kernel_rfl) (by kernel_rfl) (by kernel_rfl) (by kernel_rfl) (by kernel_rfl)
  (fun N => SayAll.cons (impl_KnownCapsules_1.say N) (SayAll.nil)) (fun a s => by kernel_rfl)
noncomputable def slices_IndexFuncimpl_Capsule_impl_Capsule_2.SB (N : Nat) : Say := slices_IndexFuncimpl_Capsule_impl_Capsule_2.S N |>.lent
theorem slices_IndexFuncimpl_Capsule_impl_Capsule_2.sayB (N : Nat) : SayOk Try.prog (slices_IndexFuncimpl_Capsule_impl_Capsule_2.SB N) := (slices_IndexFuncimpl_Capsule_impl_Capsule_2.say N).lent

/-! ### slices.DeleteFunc[[]loop.example/g00206/impl.Capsule,loop.example/g00206/impl.Capsule]: function 20 -/
noncomputable def slices_DeleteFuncimpl_Capsule_impl_Capsule.H : Hints := hintsOf [(6, .join [⟨.normal, [1, 6], [0, 5], [.one (.own 0), ak_i], [.rows (.pair (.int .i64) .str) true], [⟨[], [], [], []⟩]⟩]),
  (2000005, .loop ⟨.normal, [1], [0, 5, 6], [.one (.own 0), ak_i, ak_i], [.rows (.pair (.int .i64) .str) true], [⟨[], [], [], []⟩]⟩ [⟨(.exit 0), [], [0, 5], [.one (.own 0), ak_i], [.rows (.pair (.int .i64) .str) true], [⟨[], [], [], []⟩]⟩]),
  (8000012, .alts [41])]
noncomputable def slices_DeleteFuncimpl_Capsule_impl_Capsule.says (N : Nat) : List Say := [slices_IndexFuncimpl_Capsule_impl_Capsule_2.SB N, impl_KnownCapsules_1.S N]
noncomputable def slices_DeleteFuncimpl_Capsule_impl_Capsule.call (N : Nat) : CallK := callBy (slices_DeleteFuncimpl_Capsule_impl_Capsule.says N)
noncomputable def slices_DeleteFuncimpl_Capsule_impl_Capsule.qt (N : Nat) : FuncId → List PV → Sig → Cl := qtBy (slices_DeleteFuncimpl_Capsule_impl_Capsule.says N)
noncomputable def slices_DeleteFuncimpl_Capsule_impl_Capsule.l0.hd : Alt := ⟨.normal, [1], [0, 5, 6], [.one (.own 0), ak_i, ak_i], [.rows (.pair (.int .i64) .str) true], [⟨[], [], [], []⟩]⟩
noncomputable def slices_DeleteFuncimpl_Capsule_impl_Capsule.l0.outs : List Alt := [⟨(.exit 0), [], [0, 5], [.one (.own 0), ak_i], [.rows (.pair (.int .i64) .str) true], [⟨[], [], [], []⟩]⟩]
noncomputable def slices_DeleteFuncimpl_Capsule_impl_Capsule.l0 (N : Nat) (i : Int) (j : Int) (p01 : (List (Int × ByteArray))) : Option ((Unit × (Int × Unit)) × ((List (Int × ByteArray)) × Unit)) :=
  loopK Try.prog slices_DeleteFuncimpl_Capsule_impl_Capsule.call slices_DeleteFuncimpl_Capsule_impl_Capsule.qt slices_DeleteFuncimpl_Capsule_impl_Capsule.H (codeAt (bodyOf Try.f20) [1, 1, 1, 0, 1, 0, 0]) 1 slices_DeleteFuncimpl_Capsule_impl_Capsule.l0.hd slices_DeleteFuncimpl_Capsule_impl_Capsule.l0.outs [(1, .fn 22 [])] N (((), (i, (j, ()))), (p01, ()))
noncomputable def slices_DeleteFuncimpl_Capsule_impl_Capsule (N : Nat) (p0 : (List (Int × ByteArray))) : Option ((Unit × Unit) × ((List (Int × ByteArray)) × Unit)) :=
  ofFn Try.prog slices_DeleteFuncimpl_Capsule_impl_Capsule.call slices_DeleteFuncimpl_Capsule_impl_Capsule.qt slices_DeleteFuncimpl_Capsule_impl_Capsule.H N Try.f20 [.one (.own 0), .fn 22 []] [.rows (.pair (.int .i64) .str)] [.one (.own 0)] [.rows (.pair (.int .i64) .str)] [⟨[], [], [], []⟩] ((), ((), ())) (p0, ())
noncomputable def slices_DeleteFuncimpl_Capsule_impl_Capsule.S (N : Nat) : Say := ⟨false, 20, [.one (.own 0), .fn 22 []], [.rows (.pair (.int .i64) .str)], [.one (.own 0)], [.rows (.pair (.int .i64) .str)], fun a s => slices_DeleteFuncimpl_Capsule_impl_Capsule N s.1⟩
set_option maxRecDepth 100000 in
theorem slices_DeleteFuncimpl_Capsule_impl_Capsule.l0.eq (N : Nat) (i : Int) (j : Int) (p01 : (List (Int × ByteArray))) : slices_DeleteFuncimpl_Capsule_impl_Capsule.l0 (N + 1) i j p01 =
 sel (decide (j < (p01.length : Int)))
  (
  andK (α := ((Unit × (Int × Unit)) × ((List (Int × ByteArray)) × Unit))) (
   chk ((decide (0 ≤ j)) && (decide (j < (p01.length : Int)))) (
   andK (impl_KnownCapsules_1 N (rdS (.pair (.int .i64) .str) p01 (Int.toNat j)).1 (rdS (.pair (.int .i64) .str) p01 (Int.toNat j)).2) fun u2 =>
   sel (!u2.1.1)
    (
    chk ((decide (0 ≤ i)) && (decide (i < (p01.length : Int)))) (
    some ((((), ((IntKind.i64.wrap (i + 1)), ())), ((p01.set (Int.toNat i) ((rdS (.pair (.int .i64) .str) p01 (Int.toNat j)).1, (rdS (.pair (.int .i64) .str) p01 (Int.toNat j)).2)), ())))))
    (
    some ((((), (i, ())), (p01, ())))))) fun j3 =>
  slices_DeleteFuncimpl_Capsule_impl_Capsule.l0 N j3.1.2.1 (IntKind.i64.wrap (j + 1)) j3.2.1)
  (
  some ((((), (i, ())), (p01, ())))) := by kernel_rfl
set_option maxRecDepth 100000 in
theorem slices_DeleteFuncimpl_Capsule_impl_Capsule.eq (N : Nat) (p0 : (List (Int × ByteArray))) : slices_DeleteFuncimpl_Capsule_impl_Capsule N p0 =
 andK (slices_IndexFuncimpl_Capsule_impl_Capsule_2 N p0) fun u1 =>
 sel (decide (u1.1.1 = (-1)))
  (
  some (((), ()), (p0, ())))
  (
  andK (slices_DeleteFuncimpl_Capsule_impl_Capsule.l0 N u1.1.1 (IntKind.i64.wrap (u1.1.1 + 1)) p0) fun l4 =>
  chk ((decide (0 ≤ l4.1.2.1)) && ((decide (l4.1.2.1 ≤ (l4.2.1.length : Int))) && (decide ((l4.2.1.length : Int) ≤ (l4.2.1.length : Int))))) (
  chk ((decide (0 ≤ l4.1.2.1)) && (decide (l4.1.2.1 ≤ (((l4.2.1.take (Int.toNat l4.1.2.1)) ++ ((List.replicate ((Int.toNat (l4.2.1.length : Int)) - (Int.toNat l4.1.2.1)) ((0, (⟨#[]⟩ : ByteArray)) : (Int × ByteArray))) ++ (l4.2.1.drop ((Int.toNat l4.1.2.1) + ((Int.toNat (l4.2.1.length : Int)) - (Int.toNat l4.1.2.1)))))).length : Int)))) (
  some (((), ()), ((((l4.2.1.take (Int.toNat l4.1.2.1)) ++ ((List.replicate ((Int.toNat (l4.2.1.length : Int)) - (Int.toNat l4.1.2.1)) ((0, (⟨#[]⟩ : ByteArray)) : (Int × ByteArray))) ++ (l4.2.1.drop ((Int.toNat l4.1.2.1) + ((Int.toNat (l4.2.1.length : Int)) - (Int.toNat l4.1.2.1)))))).take (Int.toNat l4.1.2.1)), ()))))) := by kernel_rfl
set_option maxRecDepth 100000 in
theorem slices_DeleteFuncimpl_Capsule_impl_Capsule.say (N : Nat) : SayOk Try.prog (slices_DeleteFuncimpl_Capsule_impl_Capsule.S N) := sayOk_mk (N := N) (H := slices_DeleteFuncimpl_Capsule_impl_Capsule.H) (preps := [⟨[], [], [], []⟩]) (l := slices_DeleteFuncimpl_Capsule_impl_Capsule.says) (fn := Try.f20) (c := bodyOf Try.f20)
  (by kernel_rfl) (by kernel_rfl) (by kernel_rfl) (by kernel_rfl) (by kernel_rfl) (by kernel_rfl) (by kernel_rfl)
  (fun N => SayAll.cons (slices_IndexFuncimpl_Capsule_impl_Capsule_2.sayB N) (SayAll.cons (impl_KnownCapsules_1.say N) (SayAll.nil))) (fun a s => by kernel_rfl)

/-! ### loop.example/g00206/impl.KnownCapsules: function 8 -/
noncomputable def impl_KnownCapsules.H : Hints := hintsOf []
noncomputable def impl_KnownCapsules.says (N : Nat) : List Say := [impl_capsulesOk.S N, slices_Cloneimpl_Capsule_impl_Capsule.S N, slices_DeleteFuncimpl_Capsule_impl_Capsule.S N]
noncomputable def impl_KnownCapsules.call (N : Nat) : CallK := callBy (impl_KnownCapsules.says N)
noncomputable def impl_KnownCapsules.qt (N : Nat) : FuncId → List PV → Sig → Cl := qtBy (impl_KnownCapsules.says N)
noncomputable def impl_KnownCapsules (N : Nat) (l : (List (Int × ByteArray))) : Option ((Unit × (Bool × Unit)) × ((List (Int × ByteArray)) × Unit)) :=
  ofFn Try.prog impl_KnownCapsules.call impl_KnownCapsules.qt impl_KnownCapsules.H N Try.f8 [.one (.sh (.rows (.pair (.int .i64) .str)))] [] [.one (.own 0), ak_b] [.rows (.pair (.int .i64) .str)] [⟨[(0, (.pair (.int .i64) .str))], [], [], [0]⟩, ⟨[], [], [], [0]⟩] (l, ()) ()
noncomputable def impl_KnownCapsules.S (N : Nat) : Say := ⟨false, 8, [.one (.sh (.rows (.pair (.int .i64) .str)))], [], [.one (.own 0), ak_b], [.rows (.pair (.int .i64) .str)], fun a s => impl_KnownCapsules N a.1⟩
set_option maxRecDepth 100000 in
theorem impl_KnownCapsules.eq (N : Nat) (l : (List (Int × ByteArray))) : impl_KnownCapsules N l =
 andK (impl_capsulesOk N l) fun u1 =>
 sel (!u1.1.1)
  (
  some (((), (false, ())), ([], ())))
  (
  andK (slices_Cloneimpl_Capsule_impl_Capsule N l) fun u2 =>
  andK (slices_DeleteFuncimpl_Capsule_impl_Capsule N u2.2.1) fun u3 =>
  some (((), (true, ())), (u3.2.1, ()))) := by kernel_rfl
set_option maxRecDepth 100000 in
theorem impl_KnownCapsules.say (N : Nat) : SayOk Try.prog (impl_KnownCapsules.S N) := sayOk_mk (N := N) (H := impl_KnownCapsules.H) (preps := [⟨[(0, (.pair (.int .i64) .str))], [], [], [0]⟩, ⟨[], [], [], [0]⟩]) (l := impl_KnownCapsules.says) (fn := Try.f8) (c := bodyOf Try.f8)
  (by kernel_rfl) (by kernel_rfl) (by kernel_rfl) (by kernel_rfl) (by kernel_rfl) (by kernel_rfl) (by kernel_rfl)
  (fun N => SayAll.cons (impl_capsulesOk.say N) (SayAll.cons (slices_Cloneimpl_Capsule_impl_Capsule.say N) (SayAll.cons (slices_DeleteFuncimpl_Capsule_impl_Capsule.say N) (SayAll.nil)))) (fun a s => by kernel_rfl)
noncomputable def impl_KnownCapsules.SB (N : Nat) : Say := impl_KnownCapsules.S N |>.lent
theorem impl_KnownCapsules.sayB (N : Nat) : SayOk Try.prog (impl_KnownCapsules.SB N) := (impl_KnownCapsules.say N).lent

/-! ### (*loop.example/g00206/spec.l1Cur).spoilt: function 40 -/
noncomputable def spec_l1Cur_spoilt.H : Hints := hintsOf [(5000002, .join [⟨.normal, [1, 2, 7], [0, 18], [.one (.ptr 0 0), ak_b], [.cells [.sh (.rows (.int .u8)), ck_i, .sh (.int .u64)]], [⟨[], [], [], []⟩]⟩]),
  (3, .join [⟨.normal, [2, 7], [0, 1], [.one (.ptr 0 0), ak_s], [.cells [.sh (.rows (.int .u8)), ck_i, .sh (.int .u64)]], [⟨[], [], [], []⟩]⟩]),
  (2000002, .loop ⟨.normal, [2], [0, 1, 7], [.one (.ptr 0 0), ak_s, ak_i], [.cells [.sh (.rows (.int .u8)), ck_i, .sh (.int .u64)]], [⟨[], [], [], []⟩]⟩ [⟨(.exit 0), [], [1], [ak_s], [.cells [.sh (.rows (.int .u8)), ck_i, .sh (.int .u64)]], [⟨[], [], [], []⟩]⟩])]
noncomputable def spec_l1Cur_spoilt.says (N : Nat) : List Say := [spec_l1Cur_pick.S N]
noncomputable def spec_l1Cur_spoilt.call (N : Nat) : CallK := callBy (spec_l1Cur_spoilt.says N)
noncomputable def spec_l1Cur_spoilt.qt (N : Nat) : FuncId → List PV → Sig → Cl := qtBy (spec_l1Cur_spoilt.says N)
noncomputable def spec_l1Cur_spoilt.l0.hd : Alt := ⟨.normal, [2], [0, 1, 7], [.one (.ptr 0 0), ak_s, ak_i], [.cells [.sh (.rows (.int .u8)), ck_i, .sh (.int .u64)]], [⟨[], [], [], []⟩]⟩
noncomputable def spec_l1Cur_spoilt.l0.outs : List Alt := [⟨(.exit 0), [], [1], [ak_s], [.cells [.sh (.rows (.int .u8)), ck_i, .sh (.int .u64)]], [⟨[], [], [], []⟩]⟩]
noncomputable def spec_l1Cur_spoilt.l0 (N : Nat) (t1 : ByteArray) (o1 : ByteArray) (t2 : Int) (p0_01 : (List Int)) (p0_11 : Int) (p0_21 : Int) : Option ((ByteArray × Unit) × (((List Int) × (Int × (Int × Unit))) × Unit)) :=
  loopK Try.prog spec_l1Cur_spoilt.call spec_l1Cur_spoilt.qt spec_l1Cur_spoilt.H (codeAt (bodyOf Try.f40) [1, 0, 1, 0, 0]) 1 spec_l1Cur_spoilt.l0.hd spec_l1Cur_spoilt.l0.outs [(2, .v (.string t1))] N (((), (o1, (t2, ()))), ((p0_01, (p0_11, (p0_21, ()))), ()))
noncomputable def spec_l1Cur_spoilt (N : Nat) (o : ByteArray) (t : ByteArray) (p0_0 : (List Int)) (p0_1 : Int) (p0_2 : Int) : Option ((ByteArray × Unit) × (((List Int) × (Int × (Int × Unit))) × Unit)) :=
  ofFn Try.prog spec_l1Cur_spoilt.call spec_l1Cur_spoilt.qt spec_l1Cur_spoilt.H N Try.f40 [.one (.ptr 0 0), ak_s, ak_s] [.cells [.sh (.rows (.int .u8)), ck_i, .sh (.int .u64)]] [ak_s] [.cells [.sh (.rows (.int .u8)), ck_i, .sh (.int .u64)]] [⟨[], [], [], []⟩] ((), (o, (t, ()))) ((p0_0, (p0_1, (p0_2, ()))), ())
noncomputable def spec_l1Cur_spoilt.S (N : Nat) : Say := ⟨false, 40, [.one (.ptr 0 0), ak_s, ak_s], [.cells [.sh (.rows (.int .u8)), ck_i, .sh (.int .u64)]], [ak_s], [.cells [.sh (.rows (.int .u8)), ck_i, .sh (.int .u64)]], fun a s => spec_l1Cur_spoilt N a.2.1 a.2.2.1 s.1.1 s.1.2.1 s.1.2.2.1⟩
set_option maxRecDepth 100000 in
theorem spec_l1Cur_spoilt.l0.eq (N : Nat) (t1 : ByteArray) (o1 : ByteArray) (t2 : Int) (p0_01 : (List Int)) (p0_11 : Int) (p0_21 : Int) : spec_l1Cur_spoilt.l0 (N + 1) t1 o1 t2 p0_01 p0_11 p0_21 =
 andK (α := ((Unit × (Bool × Unit)) × (((List Int) × (Int × (Int × Unit))) × Unit))) (
  sel (decide (0 < t2))
   (
   some ((((), ((decide (0 < (o1.size : Int))), ())), ((p0_01, (p0_11, (p0_21, ()))), ()))))
   (
   some ((((), (false, ())), ((p0_01, (p0_11, (p0_21, ()))), ()))))) fun j2 =>
 sel j2.1.2.1
  (
  andK (α := ((Unit × (ByteArray × Unit)) × (((List Int) × (Int × (Int × Unit))) × Unit))) (
   andK (spec_l1Cur_pick N (o1.size : Int) j2.2.1.1 j2.2.1.2.1 j2.2.1.2.2.1) fun u3 =>
   andK (spec_l1Cur_pick N (t1.size : Int) u3.2.1.1 u3.2.1.2.1 u3.2.1.2.2.1) fun u4 =>
   chk ((decide (0 ≤ u4.1.1)) && (decide (u4.1.1 < (t1.size : Int)))) (
   andK (spec_l1Cur_pick N 3 u4.2.1.1 u4.2.1.2.1 u4.2.1.2.2.1) fun u5 =>
   sel (decide (u5.1.1 = 0))
    (
    chk ((decide (0 ≤ u3.1.1)) && (decide (u3.1.1 ≤ (o1.size : Int)))) (
    chk (decide ((o1.extract 0 (Int.toNat u3.1.1)).size + (strL [((bytesL t1).getD (Int.toNat u4.1.1) 0)]).size ≤ 9223372036854775807)) (
    chk ((decide (0 ≤ u3.1.1)) && ((decide (u3.1.1 ≤ (o1.size : Int))) && (decide ((o1.size : Int) ≤ (o1.size : Int))))) (
    chk (decide (((o1.extract 0 (Int.toNat u3.1.1)) ++ (strL [((bytesL t1).getD (Int.toNat u4.1.1) 0)])).size + (o1.extract (Int.toNat u3.1.1) (Int.toNat (o1.size : Int))).size ≤ 9223372036854775807)) (
    some ((((), ((((o1.extract 0 (Int.toNat u3.1.1)) ++ (strL [((bytesL t1).getD (Int.toNat u4.1.1) 0)])) ++ (o1.extract (Int.toNat u3.1.1) (Int.toNat (o1.size : Int)))), ())), ((u5.2.1.1, (u5.2.1.2.1, (u5.2.1.2.2.1, ()))), ()))))))))
    (
    sel (decide (u5.1.1 = 1))
     (
     chk ((decide (0 ≤ u3.1.1)) && (decide (u3.1.1 ≤ (o1.size : Int)))) (
     chk (decide ((o1.extract 0 (Int.toNat u3.1.1)).size + (strL [((bytesL t1).getD (Int.toNat u4.1.1) 0)]).size ≤ 9223372036854775807)) (
     chk ((decide (0 ≤ (IntKind.i64.wrap (u3.1.1 + 1)))) && ((decide ((IntKind.i64.wrap (u3.1.1 + 1)) ≤ (o1.size : Int))) && (decide ((o1.size : Int) ≤ (o1.size : Int))))) (
     chk (decide (((o1.extract 0 (Int.toNat u3.1.1)) ++ (strL [((bytesL t1).getD (Int.toNat u4.1.1) 0)])).size + (o1.extract (Int.toNat (IntKind.i64.wrap (u3.1.1 + 1))) (Int.toNat (o1.size : Int))).size ≤ 9223372036854775807)) (
     some ((((), ((((o1.extract 0 (Int.toNat u3.1.1)) ++ (strL [((bytesL t1).getD (Int.toNat u4.1.1) 0)])) ++ (o1.extract (Int.toNat (IntKind.i64.wrap (u3.1.1 + 1))) (Int.toNat (o1.size : Int)))), ())), ((u5.2.1.1, (u5.2.1.2.1, (u5.2.1.2.2.1, ()))), ()))))))))
     (
     chk ((decide (0 ≤ u3.1.1)) && (decide (u3.1.1 ≤ (o1.size : Int)))) (
     chk ((decide (0 ≤ (IntKind.i64.wrap (u3.1.1 + 1)))) && ((decide ((IntKind.i64.wrap (u3.1.1 + 1)) ≤ (o1.size : Int))) && (decide ((o1.size : Int) ≤ (o1.size : Int))))) (
     chk (decide ((o1.extract 0 (Int.toNat u3.1.1)).size + (o1.extract (Int.toNat (IntKind.i64.wrap (u3.1.1 + 1))) (Int.toNat (o1.size : Int))).size ≤ 9223372036854775807)) (
     some ((((), (((o1.extract 0 (Int.toNat u3.1.1)) ++ (o1.extract (Int.toNat (IntKind.i64.wrap (u3.1.1 + 1))) (Int.toNat (o1.size : Int)))), ())), ((u5.2.1.1, (u5.2.1.2.1, (u5.2.1.2.2.1, ()))), ())))))))))) fun j6 =>
  spec_l1Cur_spoilt.l0 N t1 j6.1.2.1 (IntKind.i64.wrap (t2 - 1)) j6.2.1.1 j6.2.1.2.1 j6.2.1.2.2.1)
  (
  some (((o1, ()), ((j2.2.1.1, (j2.2.1.2.1, (j2.2.1.2.2.1, ()))), ())))) := by kernel_rfl
set_option maxRecDepth 100000 in
theorem spec_l1Cur_spoilt.eq (N : Nat) (o : ByteArray) (t : ByteArray) (p0_0 : (List Int)) (p0_1 : Int) (p0_2 : Int) : spec_l1Cur_spoilt N o t p0_0 p0_1 p0_2 =
 andK (spec_l1Cur_pick N 3 p0_0 p0_1 p0_2) fun u1 =>
 andK (spec_l1Cur_spoilt.l0 N t o u1.1.1 u1.2.1.1 u1.2.1.2.1 u1.2.1.2.2.1) fun l7 =>
 some ((l7.1.1, ()), ((l7.2.1.1, (l7.2.1.2.1, (l7.2.1.2.2.1, ()))), ())) := by kernel_rfl
set_option maxRecDepth 100000 in
theorem spec_l1Cur_spoilt.say (N : Nat) : SayOk Try.prog (spec_l1Cur_spoilt.S N) := sayOk_mk (N := N) (H := spec_l1Cur_spoilt.H) (preps := [⟨[], [], [], []⟩]) (l := spec_l1Cur_spoilt.says) (fn := Try.f40) (c := bodyOf Try.f40)
  (by kernel_rfl) (by kernel_rfl) (by kernel_rfl) (by kernel_rfl) (by kernel_rfl) (by kernel_rfl) (by kernel_rfl)
  (fun N => SayAll.cons (spec_l1Cur_pick.say N) (SayAll.nil)) (fun a s => by kernel_rfl)

/-! ### loop.example/g00206/spec.DrawReadCapsules: function 24 -/
noncomputable def spec_DrawReadCapsules.H : Hints := hintsOf [(5000003, .join [⟨.normal, [4], [3, 22], [.one (.ptr 0 0), ak_b], [.cells [.sh (.rows (.int .u8)), ck_i, .sh (.int .u64)], .rows (.pair (.int .i64) .str)], [⟨[], [], [], []⟩]⟩]),
  (5, .join [⟨.normal, [], [3, 4], [.one (.ptr 0 0), ak_s], [.cells [.sh (.rows (.int .u8)), ck_i, .sh (.int .u64)], .rows (.pair (.int .i64) .str)], [⟨[], [], [], []⟩]⟩])]
noncomputable def spec_DrawReadCapsules.says (N : Nat) : List Say := [spec_l1Cur_capsules.S N, spec_CapsulesBytes.SB N, spec_l1Cur_one.S N, spec_l1Cur_pick.S N, spec_l1Cur_spoilt.S N]
noncomputable def spec_DrawReadCapsules.call (N : Nat) : CallK := callBy (spec_DrawReadCapsules.says N)
noncomputable def spec_DrawReadCapsules.qt (N : Nat) : FuncId → List PV → Sig → Cl := qtBy (spec_DrawReadCapsules.says N)
noncomputable def spec_DrawReadCapsules (N : Nat) (code : (List Int)) : Option ((ByteArray × Unit) × Unit) :=
  ofFn Try.prog spec_DrawReadCapsules.call spec_DrawReadCapsules.qt spec_DrawReadCapsules.H N Try.f24 [.one (.sh (.rows (.int .u8)))] [] [ak_s] [] [⟨[], [], [], []⟩] (code, ()) ()
noncomputable def spec_DrawReadCapsules.S (N : Nat) : Say := ⟨false, 24, [.one (.sh (.rows (.int .u8)))], [], [ak_s], [], fun a s => spec_DrawReadCapsules N a.1⟩
set_option maxRecDepth 100000 in
theorem spec_DrawReadCapsules.eq (N : Nat) (code : (List Int)) : spec_DrawReadCapsules N code =
 andK (spec_l1Cur_capsules N code 0 0) fun u1 =>
 andK (spec_CapsulesBytes N u1.2.2.1) fun u2 =>
 andK (α := ((Unit × (ByteArray × Unit)) × (((List Int) × (Int × (Int × Unit))) × ((List (Int × ByteArray)) × Unit)))) (
  andK (α := ((Unit × (Bool × Unit)) × (((List Int) × (Int × (Int × Unit))) × ((List (Int × ByteArray)) × Unit)))) (
   sel (decide (1500 < (u2.1.1.size : Int)))
    (
    andK (spec_l1Cur_one N 4 u1.2.1.1 u1.2.1.2.1 u1.2.1.2.2.1) fun u3 =>
    some ((((), ((!u3.1.1), ())), ((u3.2.1.1, (u3.2.1.2.1, (u3.2.1.2.2.1, ()))), (u1.2.2.1, ())))))
    (
    some ((((), (false, ())), ((u1.2.1.1, (u1.2.1.2.1, (u1.2.1.2.2.1, ()))), (u1.2.2.1, ())))))) fun j4 =>
  sel j4.1.2.1
   (
   chk (decide (200 ≤ (u2.1.1.size : Int))) (
   some ((((), ((u2.1.1.extract 0 200), ())), ((j4.2.1.1, (j4.2.1.2.1, (j4.2.1.2.2.1, ()))), (j4.2.2.1, ()))))))
   (
   some ((((), (u2.1.1, ())), ((j4.2.1.1, (j4.2.1.2.1, (j4.2.1.2.2.1, ()))), (j4.2.2.1, ())))))) fun j5 =>
 andK (spec_l1Cur_pick N 4 j5.2.1.1 j5.2.1.2.1 j5.2.1.2.2.1) fun u6 =>
 sel (decide (u6.1.1 = 0))
  (
  andK (spec_l1Cur_spoilt N j5.1.2.1 (⟨#[0, 5, 64, 201, 255]⟩ : ByteArray) u6.2.1.1 u6.2.1.2.1 u6.2.1.2.2.1) fun u7 =>
  some ((u7.1.1, ()), ()))
  (
  sel (decide (u6.1.1 = 1))
   (
   andK (spec_l1Cur_pick N (IntKind.i64.wrap ((j5.1.2.1.size : Int) + 1)) u6.2.1.1 u6.2.1.2.1 u6.2.1.2.2.1) fun u8 =>
   chk ((decide (0 ≤ u8.1.1)) && (decide (u8.1.1 ≤ (j5.1.2.1.size : Int)))) (
   some (((j5.1.2.1.extract 0 (Int.toNat u8.1.1)), ()), ())))
   (
   some ((j5.1.2.1, ()), ()))) := by kernel_rfl
set_option maxRecDepth 100000 in
theorem spec_DrawReadCapsules.say (N : Nat) : SayOk Try.prog (spec_DrawReadCapsules.S N) := sayOk_mk (N := N) (H := spec_DrawReadCapsules.H) (preps := [⟨[], [], [], []⟩]) (l := spec_DrawReadCapsules.says) (fn := Try.f24) (c := bodyOf Try.f24)
  (by kernel_rfl) (by kernel_rfl) (by kernel_rfl) (by kernel_rfl) (by kernel_rfl) (by kernel_rfl) (by kernel_rfl)
  (fun N => SayAll.cons (spec_l1Cur_capsules.say N) (SayAll.cons (spec_CapsulesBytes.sayB N) (SayAll.cons (spec_l1Cur_one.say N) (SayAll.cons (spec_l1Cur_pick.say N) (SayAll.cons (spec_l1Cur_spoilt.say N) (SayAll.nil)))))) (fun a s => by kernel_rfl)

/-! ### loop.example/g00206/spec.DrawFeedCapsules: function 9 -/
noncomputable def spec_DrawFeedCapsules.H : Hints := hintsOf [(5000004, .join [⟨.normal, [4], [3, 5, 19], [.one (.ptr 0 0), .one (.own 1), ak_b], [.cells [.sh (.rows (.int .u8)), ck_i, .sh (.int .u64)], .rows .str], [⟨[], [], [], []⟩]⟩]),
  (8, .join [⟨.normal, [4], [3, 5, 6], [.one (.ptr 0 0), .one (.own 1), ak_i], [.cells [.sh (.rows (.int .u8)), ck_i, .sh (.int .u64)], .rows .str], [⟨[], [], [], []⟩]⟩]),
  (2000004, .loop ⟨.normal, [], [3, 4, 5], [.one (.ptr 0 0), ak_s, .one (.own 1)], [.cells [.sh (.rows (.int .u8)), ck_i, .sh (.int .u64)], .rows .str], [⟨[(5, .str)], [], [], [1]⟩, ⟨[], [], [], [1]⟩]⟩ [⟨(.exit 0), [], [3, 4, 5], [.one (.ptr 0 0), ak_s, .one (.own 1)], [.cells [.sh (.rows (.int .u8)), ck_i, .sh (.int .u64)], .rows .str], [⟨[], [], [], [1]⟩]⟩])]
noncomputable def spec_DrawFeedCapsules.says (N : Nat) : List Say := [spec_DrawReadCapsules.S N, spec_l1Cur_pick.S N, spec_l1Cur_one.S N]
noncomputable def spec_DrawFeedCapsules.call (N : Nat) : CallK := callBy (spec_DrawFeedCapsules.says N)
noncomputable def spec_DrawFeedCapsules.qt (N : Nat) : FuncId → List PV → Sig → Cl := qtBy (spec_DrawFeedCapsules.says N)
noncomputable def spec_DrawFeedCapsules.l0.hd : Alt := ⟨.normal, [], [3, 4, 5], [.one (.ptr 0 0), ak_s, .one (.own 1)], [.cells [.sh (.rows (.int .u8)), ck_i, .sh (.int .u64)], .rows .str], [⟨[(5, .str)], [], [], [1]⟩, ⟨[], [], [], [1]⟩]⟩
noncomputable def spec_DrawFeedCapsules.l0.outs : List Alt := [⟨(.exit 0), [], [3, 4, 5], [.one (.ptr 0 0), ak_s, .one (.own 1)], [.cells [.sh (.rows (.int .u8)), ck_i, .sh (.int .u64)], .rows .str], [⟨[], [], [], [1]⟩]⟩]
noncomputable def spec_DrawFeedCapsules.l0 (N : Nat) (s : ByteArray) (p0_0 : (List Int)) (p0_1 : Int) (p0_2 : Int) (p1 : (List ByteArray)) : Option ((Unit × (ByteArray × (Unit × Unit))) × (((List Int) × (Int × (Int × Unit))) × ((List ByteArray) × Unit))) :=
  loopK Try.prog spec_DrawFeedCapsules.call spec_DrawFeedCapsules.qt spec_DrawFeedCapsules.H (codeAt (bodyOf Try.f9) [1, 1, 1, 1, 0, 0, 0]) 1 spec_DrawFeedCapsules.l0.hd spec_DrawFeedCapsules.l0.outs [] N (((), (s, ((), ()))), ((p0_0, (p0_1, (p0_2, ()))), (p1, ())))
noncomputable def spec_DrawFeedCapsules (N : Nat) (code : (List Int)) : Option ((Unit × Unit) × ((List ByteArray) × Unit)) :=
  ofFn Try.prog spec_DrawFeedCapsules.call spec_DrawFeedCapsules.qt spec_DrawFeedCapsules.H N Try.f9 [.one (.sh (.rows (.int .u8)))] [] [.one (.own 0)] [.rows .str] [⟨[], [], [], [1]⟩] (code, ()) ()
noncomputable def spec_DrawFeedCapsules.S (N : Nat) : Say := ⟨false, 9, [.one (.sh (.rows (.int .u8)))], [], [.one (.own 0)], [.rows .str], fun a s => spec_DrawFeedCapsules N a.1⟩
set_option maxRecDepth 100000 in
theorem spec_DrawFeedCapsules.l0.eq (N : Nat) (s : ByteArray) (p0_0 : (List Int)) (p0_1 : Int) (p0_2 : Int) (p1 : (List ByteArray)) : spec_DrawFeedCapsules.l0 (N + 1) s p0_0 p0_1 p0_2 p1 =
 andK (α := ((Unit × (Unit × (Bool × Unit))) × (((List Int) × (Int × (Int × Unit))) × ((List ByteArray) × Unit)))) (
  sel (decide (0 < (s.size : Int)))
   (
   some ((((), ((), ((decide ((p1.length : Int) < 40)), ()))), ((p0_0, (p0_1, (p0_2, ()))), (p1, ())))))
   (
   some ((((), ((), (false, ()))), ((p0_0, (p0_1, (p0_2, ()))), (p1, ())))))) fun j2 =>
 sel j2.1.2.2.1
  (
  andK (spec_l1Cur_pick N 40 j2.2.1.1 j2.2.1.2.1 j2.2.1.2.2.1) fun u3 =>
  andK (α := ((Unit × (Unit × (Int × Unit))) × (((List Int) × (Int × (Int × Unit))) × ((List ByteArray) × Unit)))) (
   sel (decide ((s.size : Int) < (IntKind.i64.wrap (1 + u3.1.1))))
    (
    some ((((), ((), ((s.size : Int), ()))), ((u3.2.1.1, (u3.2.1.2.1, (u3.2.1.2.2.1, ()))), (j2.2.2.1, ())))))
    (
    some ((((), ((), ((IntKind.i64.wrap (1 + u3.1.1)), ()))), ((u3.2.1.1, (u3.2.1.2.1, (u3.2.1.2.2.1, ()))), (j2.2.2.1, ())))))) fun j4 =>
  chk ((decide (0 ≤ j4.1.2.2.1)) && (decide (j4.1.2.2.1 ≤ (s.size : Int)))) (
  chk (decide (j4.2.2.1.length + 1 < most)) (
  chk ((decide (0 ≤ j4.1.2.2.1)) && ((decide (j4.1.2.2.1 ≤ (s.size : Int))) && (decide ((s.size : Int) ≤ (s.size : Int))))) (
  spec_DrawFeedCapsules.l0 N (s.extract (Int.toNat j4.1.2.2.1) (Int.toNat (s.size : Int))) j4.2.1.1 j4.2.1.2.1 j4.2.1.2.2.1 (j4.2.2.1 ++ [(s.extract 0 (Int.toNat j4.1.2.2.1))])))))
  (
  some ((((), (s, ((), ()))), ((j2.2.1.1, (j2.2.1.2.1, (j2.2.1.2.2.1, ()))), (j2.2.2.1, ()))))) := by kernel_rfl
set_option maxRecDepth 100000 in
theorem spec_DrawFeedCapsules.eq (N : Nat) (code : (List Int)) : spec_DrawFeedCapsules N code =
 andK (spec_DrawReadCapsules N code) fun u1 =>
 andK (spec_DrawFeedCapsules.l0 N u1.1.1 code 0 0 []) fun l5 =>
 chk (decide (l5.2.2.1.length + 1 < most)) (
 andK (spec_l1Cur_one N 40 l5.2.1.1 l5.2.1.2.1 l5.2.1.2.2.1) fun u6 =>
 sel u6.1.1
  (
  chk (decide ((l5.2.2.1 ++ [l5.1.2.1]).length + (List.replicate 60 ((⟨#[]⟩ : ByteArray) : ByteArray)).length < most)) (
  some (((), ()), (((l5.2.2.1 ++ [l5.1.2.1]) ++ (List.replicate 60 ((⟨#[]⟩ : ByteArray) : ByteArray))), ()))))
  (
  some (((), ()), ((l5.2.2.1 ++ [l5.1.2.1]), ())))) := by kernel_rfl
set_option maxRecDepth 100000 in
theorem spec_DrawFeedCapsules.say (N : Nat) : SayOk Try.prog (spec_DrawFeedCapsules.S N) := sayOk_mk (N := N) (H := spec_DrawFeedCapsules.H) (preps := [⟨[], [], [], [1]⟩]) (l := spec_DrawFeedCapsules.says) (fn := Try.f9) (c := bodyOf Try.f9)
  (by kernel_rfl) (by kernel_rfl) (by kernel_rfl) (by kernel_rfl) (by kernel_rfl) (by kernel_rfl) (by kernel_rfl)
  (fun N => SayAll.cons (spec_DrawReadCapsules.say N) (SayAll.cons (spec_l1Cur_pick.say N) (SayAll.cons (spec_l1Cur_one.say N) (SayAll.nil)))) (fun a s => by kernel_rfl)

/-! ### strings.Join: function 27 -/
noncomputable def strings_Join (N : Nat) (l : (List ByteArray)) (s : ByteArray) : Option ((ByteArray × Unit) × Unit) := joinF l s
noncomputable def strings_Join.S (N : Nat) : Say := joinS 27
theorem strings_Join.eq (N : Nat) (l : (List ByteArray)) (s : ByteArray) : strings_Join N l s =
 chk (decide (l.length ≤ 140737488355328)) (
 chk (decide ((joinL l s).size ≤ 140737488355328)) (
 some (((joinL l s), ()), ()))) := joinF_eq l s
set_option maxRecDepth 100000 in
theorem strings_Join.say (N : Nat) : SayOk Try.prog (strings_Join.S N) := sayOk_join (enters_mk (fn := Try.f27) (c := bodyOf Try.f27) (by kernel_rfl) (by kernel_rfl) (by kernel_rfl)) Try.strings_Join_none Try.strings_Join

/-! ### loop.example/g00206/impl.FeedCapsules: function 10 -/
noncomputable def impl_FeedCapsules.H : Hints := hintsOf []
noncomputable def impl_FeedCapsules.says (N : Nat) : List Say := [strings_Join.S N, impl_ReadCapsules.S N]
noncomputable def impl_FeedCapsules.call (N : Nat) : CallK := callBy (impl_FeedCapsules.says N)
noncomputable def impl_FeedCapsules.qt (N : Nat) : FuncId → List PV → Sig → Cl := qtBy (impl_FeedCapsules.says N)
noncomputable def impl_FeedCapsules (N : Nat) (pieces : (List ByteArray)) : Option ((Unit × (Int × (Bool × Unit))) × ((List (Int × ByteArray)) × Unit)) :=
  ofFn Try.prog impl_FeedCapsules.call impl_FeedCapsules.qt impl_FeedCapsules.H N Try.f10 [.one (.sh (.rows .str))] [] [.one (.own 0), ak_i, ak_b] [.rows (.pair (.int .i64) .str)] [⟨[(0, (.pair (.int .i64) .str))], [], [], [1]⟩, ⟨[], [], [], [0]⟩] (pieces, ()) ()
noncomputable def impl_FeedCapsules.S (N : Nat) : Say := ⟨false, 10, [.one (.sh (.rows .str))], [], [.one (.own 0), ak_i, ak_b], [.rows (.pair (.int .i64) .str)], fun a s => impl_FeedCapsules N a.1⟩
set_option maxRecDepth 100000 in
theorem impl_FeedCapsules.eq (N : Nat) (pieces : (List ByteArray)) : impl_FeedCapsules N pieces =
 andK (strings_Join N pieces (⟨#[]⟩ : ByteArray)) fun u1 =>
 andK (impl_ReadCapsules N u1.1.1) fun u2 =>
 sel (!u2.1.2.2.1)
  (
  some (((), (0, (false, ()))), ([], ())))
  (
  sel (decide (60 < (pieces.length : Int)))
   (
   some (((), (0, (false, ()))), ([], ())))
   (
   some (((), ((IntKind.i64.wrap ((u1.1.1.size : Int) - u2.1.2.1)), (true, ()))), (u2.2.1, ())))) := by kernel_rfl
set_option maxRecDepth 100000 in
theorem impl_FeedCapsules.say (N : Nat) : SayOk Try.prog (impl_FeedCapsules.S N) := sayOk_mk (N := N) (H := impl_FeedCapsules.H) (preps := [⟨[(0, (.pair (.int .i64) .str))], [], [], [1]⟩, ⟨[], [], [], [0]⟩]) (l := impl_FeedCapsules.says) (fn := Try.f10) (c := bodyOf Try.f10)
  (by kernel_rfl) (by kernel_rfl) (by kernel_rfl) (by kernel_rfl) (by kernel_rfl) (by kernel_rfl) (by kernel_rfl)
  (fun N => SayAll.cons (strings_Join.say N) (SayAll.cons (impl_ReadCapsules.say N) (SayAll.nil))) (fun a s => by kernel_rfl)
noncomputable def impl_FeedCapsules.SB (N : Nat) : Say := impl_FeedCapsules.S N |>.lent
theorem impl_FeedCapsules.sayB (N : Nat) : SayOk Try.prog (impl_FeedCapsules.SB N) := (impl_FeedCapsules.say N).lent

/-! ### loop.example/g00206/spec.l1Big: function 53 -/
noncomputable def spec_l1Big.H : Hints := hintsOf [(2000003, .loop ⟨.normal, [0], [3, 4], [ak_i, ak_i], [], [⟨[], [], [], []⟩]⟩ [⟨(.exit 0), [], [3], [ak_i], [], [⟨[], [], [], []⟩]⟩])]
noncomputable def spec_l1Big.says (N : Nat) : List Say := []
noncomputable def spec_l1Big.call (N : Nat) : CallK := callBy (spec_l1Big.says N)
noncomputable def spec_l1Big.qt (N : Nat) : FuncId → List PV → Sig → Cl := qtBy (spec_l1Big.says N)
noncomputable def spec_l1Big.l0.hd : Alt := ⟨.normal, [0], [3, 4], [ak_i, ak_i], [], [⟨[], [], [], []⟩]⟩
noncomputable def spec_l1Big.l0.outs : List Alt := [⟨(.exit 0), [], [3], [ak_i], [], [⟨[], [], [], []⟩]⟩]
noncomputable def spec_l1Big.l0 (N : Nat) (s1 : ByteArray) (n : Int) (i : Int) : Option ((Int × Unit) × Unit) :=
  loopK Try.prog spec_l1Big.call spec_l1Big.qt spec_l1Big.H (codeAt (bodyOf Try.f53) [1, 1, 0, 1, 0, 0]) 0 spec_l1Big.l0.hd spec_l1Big.l0.outs [(0, .v (.string s1))] N ((n, (i, ())), ())
noncomputable def spec_l1Big (N : Nat) (s : ByteArray) : Option ((Int × Unit) × Unit) :=
  ofFn Try.prog spec_l1Big.call spec_l1Big.qt spec_l1Big.H N Try.f53 [ak_s] [] [ak_i] [] [⟨[], [], [], []⟩] (s, ()) ()
noncomputable def spec_l1Big.S (N : Nat) : Say := ⟨false, 53, [ak_s], [], [ak_i], [], fun a s => spec_l1Big N a.1⟩
set_option maxRecDepth 100000 in
theorem spec_l1Big.l0.eq (N : Nat) (s1 : ByteArray) (n : Int) (i : Int) : spec_l1Big.l0 (N + 1) s1 n i =
 sel (decide (i < (s1.size : Int)))
  (
  chk ((decide (0 ≤ i)) && (decide (i < (s1.size : Int)))) (
  spec_l1Big.l0 N s1 (Go.bits .or .i64 (shlI .i64 n 8) (IntKind.i64.wrap ((bytesL s1).getD (Int.toNat i) 0))) (IntKind.i64.wrap (i + 1))))
  (
  some (((n, ()), ()))) := by kernel_rfl
set_option maxRecDepth 100000 in
theorem spec_l1Big.eq (N : Nat) (s : ByteArray) : spec_l1Big N s =
 andK (spec_l1Big.l0 N s 0 0) fun l1 =>
 some ((l1.1.1, ()), ()) := by kernel_rfl
set_option maxRecDepth 100000 in
theorem spec_l1Big.say (N : Nat) : SayOk Try.prog (spec_l1Big.S N) := sayOk_mk (N := N) (H := spec_l1Big.H) (preps := [⟨[], [], [], []⟩]) (l := spec_l1Big.says) (fn := Try.f53) (c := bodyOf Try.f53)
  (by kernel_rfl) (by kernel_rfl) (by kernel_rfl) (by kernel_rfl) (by kernel_rfl) (by kernel_rfl) (by kernel_rfl)
  (fun N => SayAll.nil) (fun a s => by kernel_rfl)

/-! ### loop.example/g00206/spec.l1Take: function 45 -/
noncomputable def spec_l1Take.H : Hints := hintsOf []
noncomputable def spec_l1Take.says (N : Nat) : List Say := [spec_l1Big.S N]
noncomputable def spec_l1Take.call (N : Nat) : CallK := callBy (spec_l1Take.says N)
noncomputable def spec_l1Take.qt (N : Nat) : FuncId → List PV → Sig → Cl := qtBy (spec_l1Take.says N)
noncomputable def spec_l1Take (N : Nat) (s : ByteArray) : Option ((Int × (Int × Unit)) × Unit) :=
  ofFn Try.prog spec_l1Take.call spec_l1Take.qt spec_l1Take.H N Try.f45 [ak_s] [] [ak_i, ak_i] [] [⟨[], [], [], []⟩] (s, ()) ()
noncomputable def spec_l1Take.S (N : Nat) : Say := ⟨false, 45, [ak_s], [], [ak_i, ak_i], [], fun a s => spec_l1Take N a.1⟩
set_option maxRecDepth 100000 in
theorem spec_l1Take.eq (N : Nat) (s : ByteArray) : spec_l1Take N s =
 sel (decide (s = (⟨#[]⟩ : ByteArray)))
  (
  some ((0, (0, ())), ()))
  (
  chk (decide (0 < (s.size : Int))) (
  chk (decide (0 ≤ (IntKind.u64.wrap (shrI .u8 ((bytesL s).getD 0 0) 6)))) (
  sel (decide ((s.size : Int) < (shlI .i64 1 (IntKind.u64.wrap (shrI .u8 ((bytesL s).getD 0 0) 6)))))
   (
   some ((0, (0, ())), ()))
   (
   chk ((decide (0 ≤ (shlI .i64 1 (IntKind.u64.wrap (shrI .u8 ((bytesL s).getD 0 0) 6))))) && (decide ((shlI .i64 1 (IntKind.u64.wrap (shrI .u8 ((bytesL s).getD 0 0) 6))) ≤ (s.size : Int)))) (
   chk (decide (0 < ((bytesL (s.extract 0 (Int.toNat (shlI .i64 1 (IntKind.u64.wrap (shrI .u8 ((bytesL s).getD 0 0) 6)))))).length : Int))) (
   chk (decide (0 < ((bytesL (s.extract 0 (Int.toNat (shlI .i64 1 (IntKind.u64.wrap (shrI .u8 ((bytesL s).getD 0 0) 6)))))).length : Int))) (
   andK (spec_l1Big N (strL ((bytesL (s.extract 0 (Int.toNat (shlI .i64 1 (IntKind.u64.wrap (shrI .u8 ((bytesL s).getD 0 0) 6)))))).set 0 (Go.bits .and .u8 ((bytesL (s.extract 0 (Int.toNat (shlI .i64 1 (IntKind.u64.wrap (shrI .u8 ((bytesL s).getD 0 0) 6)))))).getD 0 0) 63)))) fun u1 =>
   some ((u1.1.1, ((shlI .i64 1 (IntKind.u64.wrap (shrI .u8 ((bytesL s).getD 0 0) 6))), ())), ())))))))) := by kernel_rfl
set_option maxRecDepth 100000 in
theorem spec_l1Take.say (N : Nat) : SayOk Try.prog (spec_l1Take.S N) := sayOk_mk (N := N) (H := spec_l1Take.H) (preps := [⟨[], [], [], []⟩]) (l := spec_l1Take.says) (fn := Try.f45) (c := bodyOf Try.f45)
  (by kernel_rfl) (by kernel_rfl) (by kernel_rfl) (by kernel_rfl) (by kernel_rfl) (by kernel_rfl) (by kernel_rfl)
  (fun N => SayAll.cons (spec_l1Big.say N) (SayAll.nil)) (fun a s => by kernel_rfl)

/-! ### loop.example/g00206/spec.l16Read: function 28 -/
noncomputable def spec_l16Read.H : Hints := hintsOf [(2000003, .loop ⟨.normal, [0], [5, 6], [.one (.own 0), ak_i], [.rows (.pair (.int .i64) .str)], [⟨[(5, (.pair (.int .i64) .str))], [], [], [0]⟩, ⟨[], [], [], [0]⟩]⟩ [⟨.ret, [], [2, 3, 4], [.one (.own 0), ak_i, ak_b], [.rows (.pair (.int .i64) .str)], [⟨[], [], [], [0]⟩, ⟨[(2, (.pair (.int .i64) .str))], [], [], [1]⟩]⟩])]
noncomputable def spec_l16Read.says (N : Nat) : List Say := [spec_l1Take.S N]
noncomputable def spec_l16Read.call (N : Nat) : CallK := callBy (spec_l16Read.says N)
noncomputable def spec_l16Read.qt (N : Nat) : FuncId → List PV → Sig → Cl := qtBy (spec_l16Read.says N)
noncomputable def spec_l16Read.l0.hd : Alt := ⟨.normal, [0], [5, 6], [.one (.own 0), ak_i], [.rows (.pair (.int .i64) .str)], [⟨[(5, (.pair (.int .i64) .str))], [], [], [0]⟩, ⟨[], [], [], [0]⟩]⟩
noncomputable def spec_l16Read.l0.outs : List Alt := [⟨.ret, [], [2, 3, 4], [.one (.own 0), ak_i, ak_b], [.rows (.pair (.int .i64) .str)], [⟨[], [], [], [0]⟩, ⟨[(2, (.pair (.int .i64) .str))], [], [], [1]⟩]⟩]
noncomputable def spec_l16Read.l0 (N : Nat) (G1 : ByteArray) (e : Int) (p0 : (List (Int × ByteArray))) : Option ((Unit × (Int × (Bool × Unit))) × ((List (Int × ByteArray)) × Unit)) :=
  loopK Try.prog spec_l16Read.call spec_l16Read.qt spec_l16Read.H (codeAt (bodyOf Try.f28) [1, 1, 1, 0, 0]) 0 spec_l16Read.l0.hd spec_l16Read.l0.outs [(0, .v (.string G1))] N (((), (e, ())), (p0, ()))
noncomputable def spec_l16Read (N : Nat) (G : ByteArray) : Option ((Unit × (Int × (Bool × Unit))) × ((List (Int × ByteArray)) × Unit)) :=
  ofFn Try.prog spec_l16Read.call spec_l16Read.qt spec_l16Read.H N Try.f28 [ak_s] [] [.one (.own 0), ak_i, ak_b] [.rows (.pair (.int .i64) .str)] [⟨[], [], [], [0]⟩] (G, ()) ()
noncomputable def spec_l16Read.S (N : Nat) : Say := ⟨false, 28, [ak_s], [], [.one (.own 0), ak_i, ak_b], [.rows (.pair (.int .i64) .str)], fun a s => spec_l16Read N a.1⟩
set_option maxRecDepth 100000 in
theorem spec_l16Read.l0.eq (N : Nat) (G1 : ByteArray) (e : Int) (p0 : (List (Int × ByteArray))) : spec_l16Read.l0 (N + 1) G1 e p0 =
 chk ((decide (0 ≤ e)) && ((decide (e ≤ (G1.size : Int))) && (decide ((G1.size : Int) ≤ (G1.size : Int))))) (
 andK (spec_l1Take N (G1.extract (Int.toNat e) (Int.toNat (G1.size : Int)))) fun u1 =>
 sel (decide (u1.1.2.1 = 0))
  (
  some ((((), (e, (true, ()))), (p0, ()))))
  (
  chk ((decide (0 ≤ (IntKind.i64.wrap (e + u1.1.2.1)))) && ((decide ((IntKind.i64.wrap (e + u1.1.2.1)) ≤ (G1.size : Int))) && (decide ((G1.size : Int) ≤ (G1.size : Int))))) (
  andK (spec_l1Take N (G1.extract (Int.toNat (IntKind.i64.wrap (e + u1.1.2.1))) (Int.toNat (G1.size : Int)))) fun u2 =>
  sel (decide (u2.1.2.1 = 0))
   (
   some ((((), (e, (true, ()))), (p0, ()))))
   (
   sel (decide (200 < u2.1.1))
    (
    some ((((), (0, (false, ()))), ([], ()))))
    (
    sel (decide ((IntKind.i64.wrap ((G1.size : Int) - (IntKind.i64.wrap ((IntKind.i64.wrap (e + u1.1.2.1)) + u2.1.2.1)))) < u2.1.1))
     (
     some ((((), (e, (true, ()))), (p0, ()))))
     (
     sel (decide ((p0.length : Int) = 30))
      (
      some ((((), (0, (false, ()))), ([], ()))))
      (
      chk ((decide (0 ≤ (IntKind.i64.wrap ((IntKind.i64.wrap (e + u1.1.2.1)) + u2.1.2.1)))) && ((decide ((IntKind.i64.wrap ((IntKind.i64.wrap (e + u1.1.2.1)) + u2.1.2.1)) ≤ (IntKind.i64.wrap ((IntKind.i64.wrap ((IntKind.i64.wrap (e + u1.1.2.1)) + u2.1.2.1)) + u2.1.1)))) && (decide ((IntKind.i64.wrap ((IntKind.i64.wrap ((IntKind.i64.wrap (e + u1.1.2.1)) + u2.1.2.1)) + u2.1.1)) ≤ (G1.size : Int))))) (
      chk (decide (p0.length + 1 < most)) (
      spec_l16Read.l0 N G1 (IntKind.i64.wrap ((IntKind.i64.wrap ((IntKind.i64.wrap (e + u1.1.2.1)) + u2.1.2.1)) + u2.1.1)) (p0 ++ [(u1.1.1, (G1.extract (Int.toNat (IntKind.i64.wrap ((IntKind.i64.wrap (e + u1.1.2.1)) + u2.1.2.1))) (Int.toNat (IntKind.i64.wrap ((IntKind.i64.wrap ((IntKind.i64.wrap (e + u1.1.2.1)) + u2.1.2.1)) + u2.1.1)))))])))))))))) := by kernel_rfl
set_option maxRecDepth 100000 in
theorem spec_l16Read.eq (N : Nat) (G : ByteArray) : spec_l16Read N G =
 andK (spec_l16Read.l0 N G 0 []) fun l3 =>
 some (((), (l3.1.2.1, (l3.1.2.2.1, ()))), (l3.2.1, ())) := by kernel_rfl
set_option maxRecDepth 100000 in
theorem spec_l16Read.say (N : Nat) : SayOk Try.prog (spec_l16Read.S N) := sayOk_mk (N := N) (H := spec_l16Read.H) (preps := [⟨[], [], [], [0]⟩]) (l := spec_l16Read.says) (fn := Try.f28) (c := bodyOf Try.f28)
  (by kernel_rfl) (by kernel_rfl) (by kernel_rfl) (by kernel_rfl) (by kernel_rfl) (by kernel_rfl) (by kernel_rfl)
  (fun N => SayAll.cons (spec_l1Take.say N) (SayAll.nil)) (fun a s => by kernel_rfl)

/-! ### loop.example/g00206/spec.FeedCapsules: function 11 -/
noncomputable def spec_FeedCapsules.H : Hints := hintsOf [(2000003, .loop ⟨.normal, [0, 11, 12], [5, 13], [ak_s, ak_i], [], [⟨[], [], [], []⟩]⟩ [⟨(.exit 0), [0], [5], [ak_s], [], [⟨[], [], [], []⟩]⟩]),
  (5000007, .join [⟨.normal, [5], [28], [ak_b], [], [⟨[], [], [], []⟩]⟩])]
noncomputable def spec_FeedCapsules.says (N : Nat) : List Say := [spec_l16Read.S N]
noncomputable def spec_FeedCapsules.call (N : Nat) : CallK := callBy (spec_FeedCapsules.says N)
noncomputable def spec_FeedCapsules.qt (N : Nat) : FuncId → List PV → Sig → Cl := qtBy (spec_FeedCapsules.says N)
noncomputable def spec_FeedCapsules.l0.hd : Alt := ⟨.normal, [0, 11, 12], [5, 13], [ak_s, ak_i], [], [⟨[], [], [], []⟩]⟩
noncomputable def spec_FeedCapsules.l0.outs : List Alt := [⟨(.exit 0), [0], [5], [ak_s], [], [⟨[], [], [], []⟩]⟩]
noncomputable def spec_FeedCapsules.l0 (N : Nat) (pieces1 : (List ByteArray)) (t11 : (List ByteArray)) (t12 : Int) (s : ByteArray) (t13 : Int) : Option ((ByteArray × Unit) × Unit) :=
  loopK Try.prog spec_FeedCapsules.call spec_FeedCapsules.qt spec_FeedCapsules.H (codeAt (bodyOf Try.f11) [1, 1, 0, 1, 0, 0]) 0 spec_FeedCapsules.l0.hd spec_FeedCapsules.l0.outs [(0, .rows false .str pieces1), (11, .rows false .str t11), (12, .v (.int .i64 t12))] N ((s, (t13, ())), ())
noncomputable def spec_FeedCapsules (N : Nat) (pieces : (List ByteArray)) : Option ((Unit × (Int × (Bool × Unit))) × ((List (Int × ByteArray)) × Unit)) :=
  ofFn Try.prog spec_FeedCapsules.call spec_FeedCapsules.qt spec_FeedCapsules.H N Try.f11 [.one (.sh (.rows .str))] [] [.one (.own 0), ak_i, ak_b] [.rows (.pair (.int .i64) .str)] [⟨[(0, (.pair (.int .i64) .str))], [], [], [0]⟩, ⟨[(0, (.pair (.int .i64) .str))], [], [], [1]⟩, ⟨[], [], [], [0]⟩] (pieces, ()) ()
noncomputable def spec_FeedCapsules.S (N : Nat) : Say := ⟨false, 11, [.one (.sh (.rows .str))], [], [.one (.own 0), ak_i, ak_b], [.rows (.pair (.int .i64) .str)], fun a s => spec_FeedCapsules N a.1⟩
set_option maxRecDepth 100000 in
theorem spec_FeedCapsules.l0.eq (N : Nat) (pieces1 : (List ByteArray)) (t11 : (List ByteArray)) (t12 : Int) (s : ByteArray) (t13 : Int) : spec_FeedCapsules.l0 (N + 1) pieces1 t11 t12 s t13 =
 sel (decide (t13 < t12))
  (
  chk ((decide (0 ≤ t13)) && (decide (t13 < (t11.length : Int)))) (
  chk (decide (s.size + (t11.getD (Int.toNat t13) (⟨#[]⟩ : ByteArray)).size ≤ 9223372036854775807)) (
  spec_FeedCapsules.l0 N pieces1 t11 t12 (s ++ (t11.getD (Int.toNat t13) (⟨#[]⟩ : ByteArray))) (IntKind.i64.wrap (t13 + 1)))))
  (
  some (((s, ()), ()))) := by kernel_rfl
set_option maxRecDepth 100000 in
theorem spec_FeedCapsules.eq (N : Nat) (pieces : (List ByteArray)) : spec_FeedCapsules N pieces =
 andK (spec_FeedCapsules.l0 N pieces pieces (pieces.length : Int) (⟨#[]⟩ : ByteArray) 0) fun l1 =>
 andK (α := ((Bool × Unit) × Unit)) (
  sel (decide (60 < (pieces.length : Int)))
   (
   some (((true, ()), ())))
   (
   some ((((decide (1500 < (l1.1.1.size : Int))), ()), ())))) fun j2 =>
 sel j2.1.1
  (
  some (((), (0, (false, ()))), ([], ())))
  (
  andK (spec_l16Read N l1.1.1) fun u3 =>
  sel (!u3.1.2.2.1)
   (
   some (((), (0, (false, ()))), ([], ())))
   (
   some (((), ((IntKind.i64.wrap ((l1.1.1.size : Int) - u3.1.2.1)), (true, ()))), (u3.2.1, ())))) := by kernel_rfl
set_option maxRecDepth 100000 in
theorem spec_FeedCapsules.say (N : Nat) : SayOk Try.prog (spec_FeedCapsules.S N) := sayOk_mk (N := N) (H := spec_FeedCapsules.H) (preps := [⟨[(0, (.pair (.int .i64) .str))], [], [], [0]⟩, ⟨[(0, (.pair (.int .i64) .str))], [], [], [1]⟩, ⟨[], [], [], [0]⟩]) (l := spec_FeedCapsules.says) (fn := Try.f11) (c := bodyOf Try.f11)
  (by kernel_rfl) (by kernel_rfl) (by kernel_rfl) (by kernel_rfl) (by kernel_rfl) (by kernel_rfl) (by kernel_rfl)
  (fun N => SayAll.cons (spec_l16Read.say N) (SayAll.nil)) (fun a s => by kernel_rfl)
noncomputable def spec_FeedCapsules.SB (N : Nat) : Say := spec_FeedCapsules.S N |>.lent
theorem spec_FeedCapsules.sayB (N : Nat) : SayOk Try.prog (spec_FeedCapsules.SB N) := (spec_FeedCapsules.say N).lent

/-! ### loop.example/g00206/laws.FnCapsules: function 3 -/
noncomputable def laws_FnCapsules.H : Hints := hintsOf [(5000006, .join [⟨.normal, [1, 6, 7], [5, 54], [.one (.own 0), ak_b], [.rows (.pair (.int .i64) .str)], [⟨[], [], [], []⟩]⟩]),
  (5000008, .join [⟨.normal, [1, 6], [5, 60], [.one (.own 0), ak_b], [.rows (.pair (.int .i64) .str)], [⟨[], [], [], []⟩]⟩]),
  (5000010, .join [⟨.normal, [1], [5, 10, 81], [.one (.own 0), .one (.own 1), ak_b], [.rows (.pair (.int .i64) .str), .rows (.pair (.int .i64) .str)], [⟨[], [], [], []⟩]⟩]),
  (2000013, .loop ⟨.normal, [1, 83], [5, 10, 84], [.one (.own 0), .one (.own 1), ak_i], [.rows (.pair (.int .i64) .str), .rows (.pair (.int .i64) .str)], [⟨[], [], [], []⟩]⟩ [⟨.ret, [], [4], [ak_b], [.rows (.pair (.int .i64) .str), .rows (.pair (.int .i64) .str)], [⟨[], [], [], []⟩]⟩, ⟨(.exit 0), [1], [5], [.one (.own 0)], [.rows (.pair (.int .i64) .str), .rows (.pair (.int .i64) .str)], [⟨[], [], [], []⟩]⟩]),
  (5000019, .join [⟨.normal, [1], [110], [ak_b], [.rows (.pair (.int .i64) .str), .rows (.pair (.int .i64) .str), .rows (.pair (.int .i64) .str)], [⟨[], [], [], []⟩]⟩]),
  (21, .join [⟨.ret, [], [4], [ak_b], [.rows (.pair (.int .i64) .str)], [⟨[], [], [], []⟩]⟩, ⟨.normal, [1], [], [], [.rows (.pair (.int .i64) .str)], [⟨[], [], [], []⟩]⟩]),
  (5000024, .join [⟨.normal, [18, 19], [16, 17, 132], [.one (.own 1), .one (.own 2), ak_b], [.rows (.pair (.int .i64) .str), .rows .str, .rows (.pair (.int .i64) .str), .rows (.pair (.int .i64) .str)], [⟨[], [], [], []⟩]⟩]),
  (2000030, .loop ⟨.normal, [18, 139], [17, 23, 138, 140], [.one (.own 2), ak_s, .one (.own 1), ak_i], [.rows (.pair (.int .i64) .str), .rows .str, .rows (.pair (.int .i64) .str), .rows (.pair (.int .i64) .str)], [⟨[], [], [], []⟩]⟩ [⟨(.exit 2), [18], [17, 23], [.one (.own 2), ak_s], [.rows (.pair (.int .i64) .str), .rows .str, .rows (.pair (.int .i64) .str), .rows (.pair (.int .i64) .str)], [⟨[], [], [], []⟩]⟩])]
noncomputable def laws_FnCapsules.says (N : Nat) : List Say := [spec_DrawCapsulesBytes.S N, impl_CapsulesBytes.SB N, spec_CapsulesBytes.SB N, impl_ReadCapsules.S N, impl_KnownCapsules.SB N, spec_DrawFeedCapsules.S N, impl_FeedCapsules.SB N, spec_FeedCapsules.SB N]
noncomputable def laws_FnCapsules.call (N : Nat) : CallK := callBy (laws_FnCapsules.says N)
noncomputable def laws_FnCapsules.qt (N : Nat) : FuncId → List PV → Sig → Cl := qtBy (laws_FnCapsules.says N)
noncomputable def laws_FnCapsules.l0.hd : Alt := ⟨.normal, [1, 83], [5, 10, 84], [.one (.own 0), .one (.own 1), ak_i], [.rows (.pair (.int .i64) .str), .rows (.pair (.int .i64) .str)], [⟨[], [], [], []⟩]⟩
noncomputable def laws_FnCapsules.l0.outs : List Alt := [⟨.ret, [], [4], [ak_b], [.rows (.pair (.int .i64) .str), .rows (.pair (.int .i64) .str)], [⟨[], [], [], []⟩]⟩, ⟨(.exit 0), [1], [5], [.one (.own 0)], [.rows (.pair (.int .i64) .str), .rows (.pair (.int .i64) .str)], [⟨[], [], [], []⟩]⟩]
noncomputable def laws_FnCapsules.l0 (N : Nat) (o1 : (List Int)) (t83 : Int) (t84 : Int) (p0 : (List (Int × ByteArray))) (p1 : (List (Int × ByteArray))) : Option (((Bool × Unit) × ((List (Int × ByteArray)) × ((List (Int × ByteArray)) × Unit))) ⊕ ((Unit × Unit) × ((List (Int × ByteArray)) × ((List (Int × ByteArray)) × Unit)))) :=
  loopK Try.prog laws_FnCapsules.call laws_FnCapsules.qt laws_FnCapsules.H (codeAt (bodyOf Try.f3) [1, 1, 1, 1, 1, 1, 0, 1, 0, 1, 1, 0, 1, 0, 0]) 2 laws_FnCapsules.l0.hd laws_FnCapsules.l0.outs [(1, .rows false (.int .u8) o1), (83, .v (.int .i64 t83))] N (((), ((), (t84, ()))), (p0, (p1, ())))
noncomputable def laws_FnCapsules.l1.hd : Alt := ⟨.normal, [18, 139], [17, 23, 138, 140], [.one (.own 2), ak_s, .one (.own 1), ak_i], [.rows (.pair (.int .i64) .str), .rows .str, .rows (.pair (.int .i64) .str), .rows (.pair (.int .i64) .str)], [⟨[], [], [], []⟩]⟩
noncomputable def laws_FnCapsules.l1.outs : List Alt := [⟨(.exit 2), [18], [17, 23], [.one (.own 2), ak_s], [.rows (.pair (.int .i64) .str), .rows .str, .rows (.pair (.int .i64) .str), .rows (.pair (.int .i64) .str)], [⟨[], [], [], []⟩]⟩]
noncomputable def laws_FnCapsules.l1 (N : Nat) (t18 : Int) (t139 : Int) (t23 : ByteArray) (t140 : Int) (p01 : (List (Int × ByteArray))) (p11 : (List ByteArray)) (p2 : (List (Int × ByteArray))) (p3 : (List (Int × ByteArray))) : Option ((Unit × (ByteArray × Unit)) × ((List (Int × ByteArray)) × ((List ByteArray) × ((List (Int × ByteArray)) × ((List (Int × ByteArray)) × Unit))))) :=
  loopK Try.prog laws_FnCapsules.call laws_FnCapsules.qt laws_FnCapsules.H (codeAt (bodyOf Try.f3) [1, 1, 1, 1, 1, 1, 1, 1, 1, 1, 1, 1, 1, 0, 1, 0, 0]) 4 laws_FnCapsules.l1.hd laws_FnCapsules.l1.outs [(18, .v (.int .i64 t18)), (139, .v (.int .i64 t139))] N (((), (t23, ((), (t140, ())))), (p01, (p11, (p2, (p3, ())))))
noncomputable def laws_FnCapsules (N : Nat) (G : (List Int)) (o : (List Int)) : Option ((Bool × Unit) × Unit) :=
  ofFn Try.prog laws_FnCapsules.call laws_FnCapsules.qt laws_FnCapsules.H N Try.f3 [.one (.sh (.rows (.int .u8))), .one (.sh (.rows (.int .u8)))] [] [ak_b] [] [⟨[], [], [], []⟩] (G, (o, ())) ()
noncomputable def laws_FnCapsules.S (N : Nat) : Say := ⟨false, 3, [.one (.sh (.rows (.int .u8))), .one (.sh (.rows (.int .u8)))], [], [ak_b], [], fun a s => laws_FnCapsules N a.1 a.2.1⟩
set_option maxRecDepth 100000 in
theorem laws_FnCapsules.l1.eq (N : Nat) (t18 : Int) (t139 : Int) (t23 : ByteArray) (t140 : Int) (p01 : (List (Int × ByteArray))) (p11 : (List ByteArray)) (p2 : (List (Int × ByteArray))) (p3 : (List (Int × ByteArray))) : laws_FnCapsules.l1 (N + 1) t18 t139 t23 t140 p01 p11 p2 p3 =
 sel (decide (t140 < t139))
  (
  chk ((decide (0 ≤ t140)) && (decide (t140 < (p11.length : Int)))) (
  chk (decide (t23.size + (p11.getD (Int.toNat t140) (⟨#[]⟩ : ByteArray)).size ≤ 9223372036854775807)) (
  laws_FnCapsules.l1 N t18 t139 (t23 ++ (p11.getD (Int.toNat t140) (⟨#[]⟩ : ByteArray))) (IntKind.i64.wrap (t140 + 1)) p01 p11 p2 p3)))
  (
  some ((((), (t23, ())), (p01, (p11, (p2, (p3, ()))))))) := by kernel_rfl
set_option maxRecDepth 100000 in
theorem laws_FnCapsules.l0.eq (N : Nat) (o1 : (List Int)) (t83 : Int) (t84 : Int) (p0 : (List (Int × ByteArray))) (p1 : (List (Int × ByteArray))) : laws_FnCapsules.l0 (N + 1) o1 t83 t84 p0 p1 =
 sel (decide (t84 < t83))
  (
  chk ((decide (0 ≤ t84)) && (decide (t84 < (p1.length : Int)))) (
  chk ((decide (0 ≤ t84)) && (decide (t84 < (p0.length : Int)))) (
  sel (!((decide ((rdS (.pair (.int .i64) .str) p1 (Int.toNat t84)).1 = (rdS (.pair (.int .i64) .str) p0 (Int.toNat t84)).1)) && (decide ((rdS (.pair (.int .i64) .str) p1 (Int.toNat t84)).2 = (rdS (.pair (.int .i64) .str) p0 (Int.toNat t84)).2))))
   (
   some (.inl ((false, ()), (p0, (p1, ())))))
   (
   laws_FnCapsules.l0 N o1 t83 (IntKind.i64.wrap (t84 + 1)) p0 p1))))
  (
  some (.inr ((((), ()), (p0, (p1, ())))))) := by kernel_rfl
set_option maxRecDepth 100000 in
theorem laws_FnCapsules.eq (N : Nat) (G : (List Int)) (o : (List Int)) : laws_FnCapsules N G o =
 sel (decide (1048576 < (IntKind.i64.wrap ((G.length : Int) + (o.length : Int)))))
  (
  some ((true, ()), ()))
  (
  andK (spec_DrawCapsulesBytes N G) fun u1 =>
  andK (impl_CapsulesBytes N u1.2.1) fun u2 =>
  andK (spec_CapsulesBytes N u1.2.1) fun u3 =>
  andK (α := ((Unit × (Bool × Unit)) × ((List (Int × ByteArray)) × Unit))) (
   sel (!(u2.1.2.1 == u3.1.2.1))
    (
    some ((((), (true, ())), (u1.2.1, ()))))
    (
    some ((((), ((!(decide (u2.1.1 = u3.1.1))), ())), (u1.2.1, ()))))) fun j4 =>
  sel j4.1.2.1
   (
   some ((false, ()), ()))
   (
   andK (α := (((Bool × Unit) × ((List (Int × ByteArray)) × Unit)) ⊕ (Unit × ((List (Int × ByteArray)) × Unit)))) (
    andK (α := ((Unit × (Bool × Unit)) × ((List (Int × ByteArray)) × Unit))) (
     sel u2.1.2.1
      (
      some ((((), ((decide ((u2.1.1.size : Int) ≤ 1500)), ())), (j4.2.1, ()))))
      (
      some ((((), (false, ())), (j4.2.1, ()))))) fun j5 =>
    sel j5.1.2.1
     (
     andK (impl_ReadCapsules N u2.1.1) fun u6 =>
     andK (α := ((Unit × (Unit × (Bool × Unit))) × ((List (Int × ByteArray)) × ((List (Int × ByteArray)) × Unit)))) (
      sel (!u6.1.2.2.1)
       (
       some ((((), ((), (true, ()))), (j5.2.1, (u6.2.1, ())))))
       (
       sel (!(decide (u6.1.2.1 = (u2.1.1.size : Int))))
        (
        some ((((), ((), (true, ()))), (j5.2.1, (u6.2.1, ())))))
        (
        some ((((), ((), ((!(decide ((u6.2.1.length : Int) = (j5.2.1.length : Int)))), ()))), (j5.2.1, (u6.2.1, ()))))))) fun j7 =>
     sel j7.1.2.2.1
      (
      some (.inl ((false, ()), (j7.2.1, ()))))
      (
      andK (laws_FnCapsules.l0 N o (j7.2.1.length : Int) 0 j7.2.1 j7.2.2.1) fun l8 =>
      orK l8 (fun x9 =>
       some (.inl ((x9.1.1, ()), (x9.2.1, ()))))
       (fun x10 =>
       andK (impl_KnownCapsules N x10.2.1) fun u11 =>
       andK (α := ((Bool × Unit) × ((List (Int × ByteArray)) × ((List (Int × ByteArray)) × ((List (Int × ByteArray)) × Unit))))) (
        sel (!u11.1.2.1)
         (
         some (((true, ()), (x10.2.1, (x10.2.2.1, (u11.2.1, ()))))))
         (
         some ((((decide ((x10.2.1.length : Int) < (u11.2.1.length : Int))), ()), (x10.2.1, (x10.2.2.1, (u11.2.1, ()))))))) fun j12 =>
       sel j12.1.1
        (
        some (.inl ((false, ()), (j12.2.1, ()))))
        (
        some (.inr (((), (j12.2.1, ()))))))))
     (
     some (.inr (((), (j5.2.1, ())))))) fun j13 =>
   orK j13 (fun x14 =>
    some ((x14.1.1, ()), ()))
    (fun x15 =>
    andK (spec_DrawFeedCapsules N o) fun u16 =>
    andK (impl_FeedCapsules N u16.2.1) fun u17 =>
    andK (spec_FeedCapsules N u16.2.1) fun u18 =>
    andK (α := ((Unit × (Unit × (Bool × Unit))) × ((List (Int × ByteArray)) × ((List ByteArray) × ((List (Int × ByteArray)) × ((List (Int × ByteArray)) × Unit)))))) (
     sel (!(u17.1.2.2.1 == u18.1.2.2.1))
      (
      some ((((), ((), (true, ()))), (x15.2.1, (u16.2.1, (u17.2.1, (u18.2.1, ())))))))
      (
      some ((((), ((), ((!(decide (u17.1.2.1 = u18.1.2.1))), ()))), (x15.2.1, (u16.2.1, (u17.2.1, (u18.2.1, ())))))))) fun j19 =>
    sel j19.1.2.2.1
     (
     some ((false, ()), ()))
     (
     sel (!u17.1.2.2.1)
      (
      some (((decide ((j19.2.2.2.1.length : Int) = 0)), ()), ()))
      (
      andK (laws_FnCapsules.l1 N u17.1.2.1 (j19.2.2.1.length : Int) (⟨#[]⟩ : ByteArray) 0 j19.2.1 j19.2.2.1 j19.2.2.2.1 j19.2.2.2.2.1) fun l20 =>
      andK (impl_ReadCapsules N l20.1.2.1) fun u21 =>
      sel u21.1.2.2.1
       (
       sel (decide ((l20.2.2.2.1.length : Int) = (u21.2.1.length : Int)))
        (
        some (((decide ((IntKind.i64.wrap (u21.1.2.1 + u17.1.2.1)) = (l20.1.2.1.size : Int))), ()), ()))
        (
        some ((false, ()), ())))
       (
       some ((false, ()), ()))))))) := by kernel_rfl
set_option maxRecDepth 100000 in
theorem laws_FnCapsules.say (N : Nat) : SayOk Try.prog (laws_FnCapsules.S N) := sayOk_mk (N := N) (H := laws_FnCapsules.H) (preps := [⟨[], [], [], []⟩]) (l := laws_FnCapsules.says) (fn := Try.f3) (c := bodyOf Try.f3)
  (by kernel_rfl) (by kernel_rfl) (by kernel_rfl) (by kernel_rfl) (by kernel_rfl) (by kernel_rfl) (by kernel_rfl)
  (fun N => SayAll.cons (spec_DrawCapsulesBytes.say N) (SayAll.cons (impl_CapsulesBytes.sayB N) (SayAll.cons (spec_CapsulesBytes.sayB N) (SayAll.cons (impl_ReadCapsules.say N) (SayAll.cons (impl_KnownCapsules.sayB N) (SayAll.cons (spec_DrawFeedCapsules.say N) (SayAll.cons (impl_FeedCapsules.sayB N) (SayAll.cons (spec_FeedCapsules.sayB N) (SayAll.nil))))))))) (fun a s => by kernel_rfl)

end Go.Proofs.Ytdmnpmhdindabaa.GFnCapsules
