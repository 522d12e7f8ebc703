-- Written by a program of this session out of the translation; Lean checks it.
import Derived.Test.YtbfkfhadcmpndaaPmLaw
import Derived.Test.YtbfkfhadcmpndaaProg
set_option linter.unusedVariables false
namespace Go.Proofs.Ytbfkfhadcmpndaa.GFnAcked
open Go Go.Proofs Go.Proofs.YtbfkfhadcmpndaaPM

/-! ### (*loop.example/g00206/spec.l1Cur).next: function 117 -/
noncomputable def spec_l1Cur_next.H : Hints := hintsOf [(4, .join [⟨.normal, [], [0, 3], [.one (.ptr 0 0), ak_i], [.cells [.sh (.rows (.int .u8)), ck_i, .sh (.int .u64)]], [⟨[], [], [], []⟩]⟩])]
noncomputable def spec_l1Cur_next.says (N : Nat) : List Say := []
noncomputable def spec_l1Cur_next.call (N : Nat) : CallK := callBy (spec_l1Cur_next.says N)
noncomputable def spec_l1Cur_next.qt (N : Nat) : FuncId → List PV → Sig → Cl := qtBy (spec_l1Cur_next.says N)
noncomputable def spec_l1Cur_next (N : Nat) (p0_0 : (List Int)) (p0_1 : Int) (p0_2 : Int) : Option ((Int × Unit) × (((List Int) × (Int × (Int × Unit))) × Unit)) :=
  ofFn Try.prog spec_l1Cur_next.call spec_l1Cur_next.qt spec_l1Cur_next.H N Try.f117 [.one (.ptr 0 0)] [.cells [.sh (.rows (.int .u8)), ck_i, .sh (.int .u64)]] [ak_i] [.cells [.sh (.rows (.int .u8)), ck_i, .sh (.int .u64)]] [⟨[], [], [], []⟩] ((), ()) ((p0_0, (p0_1, (p0_2, ()))), ())
noncomputable def spec_l1Cur_next.S (N : Nat) : Say := ⟨false, 117, [.one (.ptr 0 0)], [.cells [.sh (.rows (.int .u8)), ck_i, .sh (.int .u64)]], [ak_i], [.cells [.sh (.rows (.int .u8)), ck_i, .sh (.int .u64)]], fun a s => spec_l1Cur_next N s.1.1 s.1.2.1 s.1.2.2.1⟩
set_option maxRecDepth 100000 in
theorem spec_l1Cur_next.eq (N : Nat) (p0_0 : (List Int)) (p0_1 : Int) (p0_2 : Int) : spec_l1Cur_next N p0_0 p0_1 p0_2 =
 andK (α := ((Unit × (Int × Unit)) × (((List Int) × (Int × (Int × Unit))) × Unit))) (
  sel (decide (p0_1 < (p0_0.length : Int)))
   (
   chk ((decide (0 ≤ p0_1)) && (decide (p0_1 < (p0_0.length : Int)))) (
   some ((((), ((IntKind.i64.wrap (p0_0.getD (Int.toNat p0_1) 0)), ())), ((p0_0, (p0_1, (p0_2, ()))), ())))))
   (
   some ((((), (0, ())), ((p0_0, (p0_1, (p0_2, ()))), ()))))) fun j1 =>
 sel (decide ((IntKind.i64.wrap (j1.2.1.2.1 + 1)) ≤ (j1.2.1.1.length : Int)))
  (
  some ((j1.1.2.1, ()), ((j1.2.1.1, ((IntKind.i64.wrap (j1.2.1.2.1 + 1)), ((IntKind.u64.wrap ((IntKind.u64.wrap ((IntKind.u64.wrap (j1.2.1.2.2.1 * 6364136223846793005)) + (IntKind.u64.wrap j1.1.2.1))) + 1442695040888963407)), ()))), ())))
  (
  some (((IntKind.i64.wrap (Go.bits .and .u64 (shrI .u64 (IntKind.u64.wrap ((IntKind.u64.wrap ((IntKind.u64.wrap (j1.2.1.2.2.1 * 6364136223846793005)) + (IntKind.u64.wrap j1.1.2.1))) + 1442695040888963407)) 40) 255)), ()), ((j1.2.1.1, ((IntKind.i64.wrap (j1.2.1.2.1 + 1)), ((IntKind.u64.wrap ((IntKind.u64.wrap ((IntKind.u64.wrap (j1.2.1.2.2.1 * 6364136223846793005)) + (IntKind.u64.wrap j1.1.2.1))) + 1442695040888963407)), ()))), ()))) := by kernel_rfl
set_option maxRecDepth 100000 in
theorem spec_l1Cur_next.say (N : Nat) : SayOk Try.prog (spec_l1Cur_next.S N) := sayOk_mk (N := N) (H := spec_l1Cur_next.H) (preps := [⟨[], [], [], []⟩]) (l := spec_l1Cur_next.says) (fn := Try.f117) (c := bodyOf Try.f117)
  (by kernel_rfl) (by kernel_rfl) (by kernel_rfl) (by kernel_rfl) (by kernel_rfl) (by kernel_rfl) (by kernel_rfl)
  (fun N => SayAll.nil) (fun a s => by kernel_rfl)

/-! ### (*loop.example/g00206/spec.l1Cur).pick: function 54 -/
noncomputable def spec_l1Cur_pick.H : Hints := hintsOf []
noncomputable def spec_l1Cur_pick.says (N : Nat) : List Say := [spec_l1Cur_next.S N]
noncomputable def spec_l1Cur_pick.call (N : Nat) : CallK := callBy (spec_l1Cur_pick.says N)
noncomputable def spec_l1Cur_pick.qt (N : Nat) : FuncId → List PV → Sig → Cl := qtBy (spec_l1Cur_pick.says N)
noncomputable def spec_l1Cur_pick (N : Nat) (n : Int) (p0_0 : (List Int)) (p0_1 : Int) (p0_2 : Int) : Option ((Int × Unit) × (((List Int) × (Int × (Int × Unit))) × Unit)) :=
  ofFn Try.prog spec_l1Cur_pick.call spec_l1Cur_pick.qt spec_l1Cur_pick.H N Try.f54 [.one (.ptr 0 0), ak_i] [.cells [.sh (.rows (.int .u8)), ck_i, .sh (.int .u64)]] [ak_i] [.cells [.sh (.rows (.int .u8)), ck_i, .sh (.int .u64)]] [⟨[], [], [], []⟩] ((), (n, ())) ((p0_0, (p0_1, (p0_2, ()))), ())
noncomputable def spec_l1Cur_pick.S (N : Nat) : Say := ⟨false, 54, [.one (.ptr 0 0), ak_i], [.cells [.sh (.rows (.int .u8)), ck_i, .sh (.int .u64)]], [ak_i], [.cells [.sh (.rows (.int .u8)), ck_i, .sh (.int .u64)]], fun a s => spec_l1Cur_pick N a.2.1 s.1.1 s.1.2.1 s.1.2.2.1⟩
set_option maxRecDepth 100000 in
theorem spec_l1Cur_pick.eq (N : Nat) (n : Int) (p0_0 : (List Int)) (p0_1 : Int) (p0_2 : Int) : spec_l1Cur_pick N n p0_0 p0_1 p0_2 =
 sel (decide (n ≤ 1))
  (
  some ((0, ()), ((p0_0, (p0_1, (p0_2, ()))), ())))
  (
  andK (spec_l1Cur_next N p0_0 p0_1 p0_2) fun u1 =>
  sel (decide (200 < n))
   (
   andK (spec_l1Cur_next N u1.2.1.1 u1.2.1.2.1 u1.2.1.2.2.1) fun u2 =>
   chk (n != 0) (
   some (((Int.tmod (IntKind.i64.wrap ((IntKind.i64.wrap (u1.1.1 * 256)) + u2.1.1)) n), ()), u2.2)))
   (
   chk (n != 0) (
   some (((Int.tmod u1.1.1 n), ()), u1.2)))) := by kernel_rfl
set_option maxRecDepth 100000 in
theorem spec_l1Cur_pick.say (N : Nat) : SayOk Try.prog (spec_l1Cur_pick.S N) := sayOk_mk (N := N) (H := spec_l1Cur_pick.H) (preps := [⟨[], [], [], []⟩]) (l := spec_l1Cur_pick.says) (fn := Try.f54) (c := bodyOf Try.f54)
  (by kernel_rfl) (by kernel_rfl) (by kernel_rfl) (by kernel_rfl) (by kernel_rfl) (by kernel_rfl) (by kernel_rfl)
  (fun N => SayAll.cons (spec_l1Cur_next.say N) (SayAll.nil)) (fun a s => by kernel_rfl)

/-! ### (*loop.example/g00206/spec.l1Cur).one: function 55 -/
noncomputable def spec_l1Cur_one.H : Hints := hintsOf []
noncomputable def spec_l1Cur_one.says (N : Nat) : List Say := [spec_l1Cur_pick.S N]
noncomputable def spec_l1Cur_one.call (N : Nat) : CallK := callBy (spec_l1Cur_one.says N)
noncomputable def spec_l1Cur_one.qt (N : Nat) : FuncId → List PV → Sig → Cl := qtBy (spec_l1Cur_one.says N)
noncomputable def spec_l1Cur_one (N : Nat) (n : Int) (p0_0 : (List Int)) (p0_1 : Int) (p0_2 : Int) : Option ((Bool × Unit) × (((List Int) × (Int × (Int × Unit))) × Unit)) :=
  ofFn Try.prog spec_l1Cur_one.call spec_l1Cur_one.qt spec_l1Cur_one.H N Try.f55 [.one (.ptr 0 0), ak_i] [.cells [.sh (.rows (.int .u8)), ck_i, .sh (.int .u64)]] [ak_b] [.cells [.sh (.rows (.int .u8)), ck_i, .sh (.int .u64)]] [⟨[], [], [], []⟩] ((), (n, ())) ((p0_0, (p0_1, (p0_2, ()))), ())
noncomputable def spec_l1Cur_one.S (N : Nat) : Say := ⟨false, 55, [.one (.ptr 0 0), ak_i], [.cells [.sh (.rows (.int .u8)), ck_i, .sh (.int .u64)]], [ak_b], [.cells [.sh (.rows (.int .u8)), ck_i, .sh (.int .u64)]], fun a s => spec_l1Cur_one N a.2.1 s.1.1 s.1.2.1 s.1.2.2.1⟩
set_option maxRecDepth 100000 in
theorem spec_l1Cur_one.eq (N : Nat) (n : Int) (p0_0 : (List Int)) (p0_1 : Int) (p0_2 : Int) : spec_l1Cur_one N n p0_0 p0_1 p0_2 =
 andK (spec_l1Cur_pick N n p0_0 p0_1 p0_2) fun u1 =>
 some (((decide (u1.1.1 = 0)), ()), u1.2) := by kernel_rfl
set_option maxRecDepth 100000 in
theorem spec_l1Cur_one.say (N : Nat) : SayOk Try.prog (spec_l1Cur_one.S N) := sayOk_mk (N := N) (H := spec_l1Cur_one.H) (preps := [⟨[], [], [], []⟩]) (l := spec_l1Cur_one.says) (fn := Try.f55) (c := bodyOf Try.f55)
  (by kernel_rfl) (by kernel_rfl) (by kernel_rfl) (by kernel_rfl) (by kernel_rfl) (by kernel_rfl) (by kernel_rfl)
  (fun N => SayAll.cons (spec_l1Cur_pick.say N) (SayAll.nil)) (fun a s => by kernel_rfl)

/-! ### loop.example/g00206/spec.l1In: function 62 -/
noncomputable def spec_l1In.H : Hints := hintsOf []
noncomputable def spec_l1In.says (N : Nat) : List Say := []
noncomputable def spec_l1In.call (N : Nat) : CallK := callBy (spec_l1In.says N)
noncomputable def spec_l1In.qt (N : Nat) : FuncId → List PV → Sig → Cl := qtBy (spec_l1In.says N)
noncomputable def spec_l1In (N : Nat) (n : Int) (lo : Int) (hi : Int) : Option ((Bool × Unit) × Unit) :=
  ofFn Try.prog spec_l1In.call spec_l1In.qt spec_l1In.H N Try.f62 [ak_i, ak_i, ak_i] [] [ak_b] [] [⟨[], [], [], []⟩] (n, (lo, (hi, ()))) ()
noncomputable def spec_l1In.S (N : Nat) : Say := ⟨false, 62, [ak_i, ak_i, ak_i], [], [ak_b], [], fun a s => spec_l1In N a.1 a.2.1 a.2.2.1⟩
set_option maxRecDepth 100000 in
theorem spec_l1In.eq (N : Nat) (n : Int) (lo : Int) (hi : Int) : spec_l1In N n lo hi =
 sel (decide (lo ≤ n))
  (
  some (((decide (n ≤ hi)), ()), ()))
  (
  some ((false, ()), ())) := by kernel_rfl
set_option maxRecDepth 100000 in
theorem spec_l1In.say (N : Nat) : SayOk Try.prog (spec_l1In.S N) := sayOk_mk (N := N) (H := spec_l1In.H) (preps := [⟨[], [], [], []⟩]) (l := spec_l1In.says) (fn := Try.f62) (c := bodyOf Try.f62)
  (by kernel_rfl) (by kernel_rfl) (by kernel_rfl) (by kernel_rfl) (by kernel_rfl) (by kernel_rfl) (by kernel_rfl)
  (fun N => SayAll.nil) (fun a s => by kernel_rfl)

/-! ### loop.example/g00206/spec.l1Known: function 84 -/
noncomputable def spec_l1Known.H : Hints := hintsOf []
noncomputable def spec_l1Known.says (N : Nat) : List Say := [spec_l1In.S N]
noncomputable def spec_l1Known.call (N : Nat) : CallK := callBy (spec_l1Known.says N)
noncomputable def spec_l1Known.qt (N : Nat) : FuncId → List PV → Sig → Cl := qtBy (spec_l1Known.says N)
noncomputable def spec_l1Known (N : Nat) (n : Int) : Option ((Bool × Unit) × Unit) :=
  ofFn Try.prog spec_l1Known.call spec_l1Known.qt spec_l1Known.H N Try.f84 [ak_i] [] [ak_b] [] [⟨[], [], [], []⟩] (n, ()) ()
noncomputable def spec_l1Known.S (N : Nat) : Say := ⟨false, 84, [ak_i], [], [ak_b], [], fun a s => spec_l1Known N a.1⟩
set_option maxRecDepth 100000 in
theorem spec_l1Known.eq (N : Nat) (n : Int) : spec_l1Known N n =
 andK (spec_l1In N n 0 4611686018427387903) fun u1 =>
 some (u1.1, ()) := by kernel_rfl
set_option maxRecDepth 100000 in
theorem spec_l1Known.say (N : Nat) : SayOk Try.prog (spec_l1Known.S N) := sayOk_mk (N := N) (H := spec_l1Known.H) (preps := [⟨[], [], [], []⟩]) (l := spec_l1Known.says) (fn := Try.f84) (c := bodyOf Try.f84)
  (by kernel_rfl) (by kernel_rfl) (by kernel_rfl) (by kernel_rfl) (by kernel_rfl) (by kernel_rfl) (by kernel_rfl)
  (fun N => SayAll.cons (spec_l1In.say N) (SayAll.nil)) (fun a s => by kernel_rfl)

/-! ### loop.example/g00206/spec.l1Ranges: function 107 -/
noncomputable def spec_l1Ranges.H : Hints := hintsOf [(5000004, .join [⟨.normal, [0, 5, 6, 7], [39], [ak_b], [.cells [ck_i, ck_i]], [⟨[], [], [], []⟩]⟩]),
  (2000002, .loop ⟨.normal, [0, 5, 6], [7], [ak_i], [], [⟨[], [], [], []⟩]⟩ [⟨.ret, [], [2], [ak_b], [], [⟨[], [], [], []⟩]⟩, ⟨(.exit 0), [0], [], [], [], [⟨[], [], [], []⟩]⟩])]
noncomputable def spec_l1Ranges.says (N : Nat) : List Say := [spec_l1In.S N, spec_l1Known.S N]
noncomputable def spec_l1Ranges.call (N : Nat) : CallK := callBy (spec_l1Ranges.says N)
noncomputable def spec_l1Ranges.qt (N : Nat) : FuncId → List PV → Sig → Cl := qtBy (spec_l1Ranges.says N)
noncomputable def spec_l1Ranges.l0.hd : Alt := ⟨.normal, [0, 5, 6], [7], [ak_i], [], [⟨[], [], [], []⟩]⟩
noncomputable def spec_l1Ranges.l0.outs : List Alt := [⟨.ret, [], [2], [ak_b], [], [⟨[], [], [], []⟩]⟩, ⟨(.exit 0), [0], [], [], [], [⟨[], [], [], []⟩]⟩]
noncomputable def spec_l1Ranges.l0 (N : Nat) (l1 : (List (Int × Int))) (t5 : (List (Int × Int))) (t6 : Int) (t7 : Int) : Option (((Bool × Unit) × Unit) ⊕ (Unit × Unit)) :=
  loopK Try.prog spec_l1Ranges.call spec_l1Ranges.qt spec_l1Ranges.H (codeAt (bodyOf Try.f107) [1, 0, 1, 0, 0]) 0 spec_l1Ranges.l0.hd spec_l1Ranges.l0.outs [(0, .rows false (.pair (.int .i64) (.int .i64)) l1), (5, .rows false (.pair (.int .i64) (.int .i64)) t5), (6, .v (.int .i64 t6))] N ((t7, ()), ())
noncomputable def spec_l1Ranges (N : Nat) (l : (List (Int × Int))) : Option ((Bool × Unit) × Unit) :=
  ofFn Try.prog spec_l1Ranges.call spec_l1Ranges.qt spec_l1Ranges.H N Try.f107 [.one (.sh (.rows (.pair (.int .i64) (.int .i64))))] [] [ak_b] [] [⟨[], [], [], []⟩] (l, ()) ()
noncomputable def spec_l1Ranges.S (N : Nat) : Say := ⟨false, 107, [.one (.sh (.rows (.pair (.int .i64) (.int .i64))))], [], [ak_b], [], fun a s => spec_l1Ranges N a.1⟩
set_option maxRecDepth 100000 in
theorem spec_l1Ranges.l0.eq (N : Nat) (l1 : (List (Int × Int))) (t5 : (List (Int × Int))) (t6 : Int) (t7 : Int) : spec_l1Ranges.l0 (N + 1) l1 t5 t6 t7 =
 sel (decide (t7 < t6))
  (
  chk ((decide (0 ≤ t7)) && (decide (t7 < (t5.length : Int)))) (
  andK (α := ((Bool × Unit) × ((Int × (Int × Unit)) × Unit))) (
   andK (spec_l1In N (rdS (.pair (.int .i64) (.int .i64)) t5 (Int.toNat t7)).1 0 (rdS (.pair (.int .i64) (.int .i64)) t5 (Int.toNat t7)).2) fun u1 =>
   sel (!u1.1.1)
    (
    some (((true, ()), (((rdS (.pair (.int .i64) (.int .i64)) t5 (Int.toNat t7)).1, ((rdS (.pair (.int .i64) (.int .i64)) t5 (Int.toNat t7)).2, ())), ()))))
    (
    andK (spec_l1Known N (rdS (.pair (.int .i64) (.int .i64)) t5 (Int.toNat t7)).2) fun u2 =>
    sel (!u2.1.1)
     (
     some (((true, ()), (((rdS (.pair (.int .i64) (.int .i64)) t5 (Int.toNat t7)).1, ((rdS (.pair (.int .i64) (.int .i64)) t5 (Int.toNat t7)).2, ())), ()))))
     (
     sel (decide (0 < t7))
      (
      chk ((decide (0 ≤ (IntKind.i64.wrap (t7 - 1)))) && (decide ((IntKind.i64.wrap (t7 - 1)) < (l1.length : Int)))) (
      some ((((decide ((IntKind.i64.wrap ((rdS (.pair (.int .i64) (.int .i64)) l1 (Int.toNat (IntKind.i64.wrap (t7 - 1)))).1 - 2)) < (rdS (.pair (.int .i64) (.int .i64)) t5 (Int.toNat t7)).2)), ()), (((rdS (.pair (.int .i64) (.int .i64)) t5 (Int.toNat t7)).1, ((rdS (.pair (.int .i64) (.int .i64)) t5 (Int.toNat t7)).2, ())), ())))))
      (
      some (((false, ()), (((rdS (.pair (.int .i64) (.int .i64)) t5 (Int.toNat t7)).1, ((rdS (.pair (.int .i64) (.int .i64)) t5 (Int.toNat t7)).2, ())), ()))))))) fun j3 =>
  sel j3.1.1
   (
   some (.inl ((false, ()), ())))
   (
   spec_l1Ranges.l0 N l1 t5 t6 (IntKind.i64.wrap (t7 + 1)))))
  (
  some (.inr (((), ())))) := by kernel_rfl
set_option maxRecDepth 100000 in
theorem spec_l1Ranges.eq (N : Nat) (l : (List (Int × Int))) : spec_l1Ranges N l =
 andK (spec_l1Ranges.l0 N l l (l.length : Int) 0) fun l4 =>
 orK l4 (fun x5 =>
  some (x5.1, ()))
  (fun x6 =>
  andK (spec_l1In N (l.length : Int) 1 20) fun u7 =>
  some (u7.1, ())) := by kernel_rfl
set_option maxRecDepth 100000 in
theorem spec_l1Ranges.say (N : Nat) : SayOk Try.prog (spec_l1Ranges.S N) := sayOk_mk (N := N) (H := spec_l1Ranges.H) (preps := [⟨[], [], [], []⟩]) (l := spec_l1Ranges.says) (fn := Try.f107) (c := bodyOf Try.f107)
  (by kernel_rfl) (by kernel_rfl) (by kernel_rfl) (by kernel_rfl) (by kernel_rfl) (by kernel_rfl) (by kernel_rfl)
  (fun N => SayAll.cons (spec_l1In.say N) (SayAll.cons (spec_l1Known.say N) (SayAll.nil))) (fun a s => by kernel_rfl)

/-! ### loop.example/g00206/spec.l12Ranges: function 73 -/
noncomputable def spec_l12Ranges.H : Hints := hintsOf []
noncomputable def spec_l12Ranges.says (N : Nat) : List Say := [spec_l1Ranges.S N]
noncomputable def spec_l12Ranges.call (N : Nat) : CallK := callBy (spec_l12Ranges.says N)
noncomputable def spec_l12Ranges.qt (N : Nat) : FuncId → List PV → Sig → Cl := qtBy (spec_l12Ranges.says N)
noncomputable def spec_l12Ranges (N : Nat) (l : (List (Int × Int))) : Option ((Bool × Unit) × Unit) :=
  ofFn Try.prog spec_l12Ranges.call spec_l12Ranges.qt spec_l12Ranges.H N Try.f73 [.one (.sh (.rows (.pair (.int .i64) (.int .i64))))] [] [ak_b] [] [⟨[], [], [], []⟩] (l, ()) ()
noncomputable def spec_l12Ranges.S (N : Nat) : Say := ⟨false, 73, [.one (.sh (.rows (.pair (.int .i64) (.int .i64))))], [], [ak_b], [], fun a s => spec_l12Ranges N a.1⟩
set_option maxRecDepth 100000 in
theorem spec_l12Ranges.eq (N : Nat) (l : (List (Int × Int))) : spec_l12Ranges N l =
 sel (decide ((l.length : Int) = 0))
  (
  some ((true, ()), ()))
  (
  sel (decide ((l.length : Int) ≤ 20))
   (
   andK (spec_l1Ranges N l) fun u1 =>
   some (u1.1, ()))
   (
   some ((false, ()), ()))) := by kernel_rfl
set_option maxRecDepth 100000 in
theorem spec_l12Ranges.say (N : Nat) : SayOk Try.prog (spec_l12Ranges.S N) := sayOk_mk (N := N) (H := spec_l12Ranges.H) (preps := [⟨[], [], [], []⟩]) (l := spec_l12Ranges.says) (fn := Try.f73) (c := bodyOf Try.f73)
  (by kernel_rfl) (by kernel_rfl) (by kernel_rfl) (by kernel_rfl) (by kernel_rfl) (by kernel_rfl) (by kernel_rfl)
  (fun N => SayAll.cons (spec_l1Ranges.say N) (SayAll.nil)) (fun a s => by kernel_rfl)

/-! ### loop.example/g00206/spec.l12Put: function 85 -/
noncomputable def spec_l12Put.H : Hints := hintsOf [(12, .join [⟨.normal, [9, 10, 11], [3, 5, 6, 8], [.one (.ptr 0 0), .one (.own 1), ak_b, .one (.ptr 2 0)], [.cells [ck_i, ck_i], .rows (.pair (.int .i64) (.int .i64)), .cells [ck_i, ck_i]], [⟨[], [], [], []⟩]⟩]),
  (15, .join [⟨.normal, [6, 9, 10, 11], [3, 5, 8], [.one (.ptr 0 0), .one (.own 1), .one (.ptr 2 0)], [.cells [ck_i, ck_i], .rows (.pair (.int .i64) (.int .i64)), .cells [ck_i, ck_i]], [⟨[], [], [], []⟩]⟩]),
  (17, .join [⟨.normal, [9, 10, 11], [3, 5, 6], [.one (.ptr 0 0), .one (.own 1), ak_b], [.cells [ck_i, ck_i], .rows (.pair (.int .i64) (.int .i64))], [⟨[], [], [], []⟩]⟩]),
  (2000004, .loop ⟨.normal, [9, 10], [3, 5, 6, 11], [.one (.ptr 0 0), .one (.own 1), ak_b, ak_i], [.cells [ck_i, ck_i], .rows (.pair (.int .i64) (.int .i64))], [⟨[(5, (.pair (.int .i64) (.int .i64)))], [], [], [1]⟩, ⟨[], [], [], [1]⟩]⟩ [⟨(.exit 0), [], [3, 5, 6], [.one (.ptr 0 0), .one (.own 1), ak_b], [.cells [ck_i, ck_i], .rows (.pair (.int .i64) (.int .i64))], [⟨[], [], [], [1]⟩]⟩])]
noncomputable def spec_l12Put.says (N : Nat) : List Say := []
noncomputable def spec_l12Put.call (N : Nat) : CallK := callBy (spec_l12Put.says N)
noncomputable def spec_l12Put.qt (N : Nat) : FuncId → List PV → Sig → Cl := qtBy (spec_l12Put.says N)
noncomputable def spec_l12Put.l0.hd : Alt := ⟨.normal, [9, 10], [3, 5, 6, 11], [.one (.ptr 0 0), .one (.own 1), ak_b, ak_i], [.cells [ck_i, ck_i], .rows (.pair (.int .i64) (.int .i64))], [⟨[(5, (.pair (.int .i64) (.int .i64)))], [], [], [1]⟩, ⟨[], [], [], [1]⟩]⟩
noncomputable def spec_l12Put.l0.outs : List Alt := [⟨(.exit 0), [], [3, 5, 6], [.one (.ptr 0 0), .one (.own 1), ak_b], [.cells [ck_i, ck_i], .rows (.pair (.int .i64) (.int .i64))], [⟨[], [], [], [1]⟩]⟩]
noncomputable def spec_l12Put.l0 (N : Nat) (o : (List (Int × Int))) (A : Int) (e : Bool) (r : Int) (p0_0 : Int) (p0_1 : Int) (p1 : (List (Int × Int))) : Option ((Unit × (Unit × (Bool × Unit))) × ((Int × (Int × Unit)) × ((List (Int × Int)) × Unit))) :=
  loopK Try.prog spec_l12Put.call spec_l12Put.qt spec_l12Put.H (codeAt (bodyOf Try.f85) [1, 1, 1, 0, 1, 0, 0]) 1 spec_l12Put.l0.hd spec_l12Put.l0.outs [(9, .rows false (.pair (.int .i64) (.int .i64)) o), (10, .v (.int .i64 A))] N (((), ((), (e, (r, ())))), ((p0_0, (p0_1, ())), (p1, ())))
noncomputable def spec_l12Put (N : Nat) (G : (List (Int × Int))) (o_0 : Int) (o_1 : Int) : Option ((Unit × Unit) × ((List (Int × Int)) × Unit)) :=
  ofFn Try.prog spec_l12Put.call spec_l12Put.qt spec_l12Put.H N Try.f85 [.one (.sh (.rows (.pair (.int .i64) (.int .i64)))), .agg [ck_i, ck_i]] [] [.one (.own 0)] [.rows (.pair (.int .i64) (.int .i64))] [⟨[], [], [], [1]⟩] (G, ((o_0, (o_1, ())), ())) ()
noncomputable def spec_l12Put.S (N : Nat) : Say := ⟨false, 85, [.one (.sh (.rows (.pair (.int .i64) (.int .i64)))), .agg [ck_i, ck_i]], [], [.one (.own 0)], [.rows (.pair (.int .i64) (.int .i64))], fun a s => spec_l12Put N a.1 a.2.1.1 a.2.1.2.1⟩
set_option maxRecDepth 100000 in
theorem spec_l12Put.l0.eq (N : Nat) (o : (List (Int × Int))) (A : Int) (e : Bool) (r : Int) (p0_0 : Int) (p0_1 : Int) (p1 : (List (Int × Int))) : spec_l12Put.l0 (N + 1) o A e r p0_0 p0_1 p1 =
 sel (decide (r < A))
  (
  andK (α := ((Unit × (Unit × (Bool × Unit))) × ((Int × (Int × Unit)) × ((List (Int × Int)) × Unit)))) (
   chk ((decide (0 ≤ r)) && (decide (r < (o.length : Int)))) (
   sel (decide ((IntKind.i64.wrap (p0_1 + 1)) < (rdS (.pair (.int .i64) (.int .i64)) o (Int.toNat r)).1))
    (
    chk (decide (p1.length + 1 < most)) (
    some ((((), ((), (e, ()))), ((p0_0, (p0_1, ())), ((p1 ++ [((rdS (.pair (.int .i64) (.int .i64)) o (Int.toNat r)).1, (rdS (.pair (.int .i64) (.int .i64)) o (Int.toNat r)).2)]), ()))))))
    (
    sel (decide ((rdS (.pair (.int .i64) (.int .i64)) o (Int.toNat r)).2 < (IntKind.i64.wrap (p0_0 - 1))))
     (
     andK (α := ((Unit × (Unit × (Bool × (Unit × Unit)))) × ((Int × (Int × Unit)) × ((List (Int × Int)) × ((Int × (Int × Unit)) × Unit))))) (
      sel (!e)
       (
       chk (decide (p1.length + 1 < most)) (
       some ((((), ((), (true, ((), ())))), ((p0_0, (p0_1, ())), ((p1 ++ [(p0_0, p0_1)]), (((rdS (.pair (.int .i64) (.int .i64)) o (Int.toNat r)).1, ((rdS (.pair (.int .i64) (.int .i64)) o (Int.toNat r)).2, ())), ())))))))
       (
       some ((((), ((), (e, ((), ())))), ((p0_0, (p0_1, ())), (p1, (((rdS (.pair (.int .i64) (.int .i64)) o (Int.toNat r)).1, ((rdS (.pair (.int .i64) (.int .i64)) o (Int.toNat r)).2, ())), ()))))))) fun j1 =>
     chk (decide (j1.2.2.1.length + 1 < most)) (
     some ((((), ((), (j1.1.2.2.1, ()))), (j1.2.1, ((j1.2.2.1 ++ [(j1.2.2.2.1.1, j1.2.2.2.1.2.1)]), ()))))))
     (
     andK (α := ((Unit × (Unit × (Unit × Unit))) × ((Int × (Int × Unit)) × ((List (Int × Int)) × ((Int × (Int × Unit)) × Unit))))) (
      sel (decide ((rdS (.pair (.int .i64) (.int .i64)) o (Int.toNat r)).1 < p0_0))
       (
       some ((((), ((), ((), ()))), (((rdS (.pair (.int .i64) (.int .i64)) o (Int.toNat r)).1, (p0_1, ())), (p1, (((rdS (.pair (.int .i64) (.int .i64)) o (Int.toNat r)).1, ((rdS (.pair (.int .i64) (.int .i64)) o (Int.toNat r)).2, ())), ()))))))
       (
       some ((((), ((), ((), ()))), ((p0_0, (p0_1, ())), (p1, (((rdS (.pair (.int .i64) (.int .i64)) o (Int.toNat r)).1, ((rdS (.pair (.int .i64) (.int .i64)) o (Int.toNat r)).2, ())), ()))))))) fun j2 =>
     sel (decide (j2.2.1.2.1 < j2.2.2.2.1.2.1))
      (
      some ((((), ((), (e, ()))), ((j2.2.1.1, (j2.2.2.2.1.2.1, ())), (j2.2.2.1, ())))))
      (
      some ((((), ((), (e, ()))), (j2.2.1, (j2.2.2.1, ()))))))))) fun j3 =>
  spec_l12Put.l0 N o A j3.1.2.2.1 (IntKind.i64.wrap (r + 1)) j3.2.1.1 j3.2.1.2.1 j3.2.2.1)
  (
  some ((((), ((), (e, ()))), ((p0_0, (p0_1, ())), (p1, ()))))) := by kernel_rfl
set_option maxRecDepth 100000 in
theorem spec_l12Put.eq (N : Nat) (G : (List (Int × Int))) (o_0 : Int) (o_1 : Int) : spec_l12Put N G o_0 o_1 =
 andK (spec_l12Put.l0 N G (G.length : Int) false 0 o_0 o_1 []) fun l4 =>
 sel (!l4.1.2.2.1)
  (
  chk (decide (l4.2.2.1.length + 1 < most)) (
  some (((), ()), ((l4.2.2.1 ++ [(l4.2.1.1, l4.2.1.2.1)]), ()))))
  (
  some (((), ()), (l4.2.2.1, ()))) := by kernel_rfl
set_option maxRecDepth 100000 in
theorem spec_l12Put.say (N : Nat) : SayOk Try.prog (spec_l12Put.S N) := sayOk_mk (N := N) (H := spec_l12Put.H) (preps := [⟨[], [], [], [1]⟩]) (l := spec_l12Put.says) (fn := Try.f85) (c := bodyOf Try.f85)
  (by kernel_rfl) (by kernel_rfl) (by kernel_rfl) (by kernel_rfl) (by kernel_rfl) (by kernel_rfl) (by kernel_rfl)
  (fun N => SayAll.nil) (fun a s => by kernel_rfl)

/-! ### loop.example/g00206/spec.PutNumber: function 31 -/
noncomputable def spec_PutNumber.H : Hints := hintsOf [(5000001, .join [⟨.normal, [0, 1], [14], [ak_b], [], [⟨[], [], [], []⟩]⟩]),
  (8000005, .alts [24])]
noncomputable def spec_PutNumber.says (N : Nat) : List Say := [spec_l12Ranges.S N, spec_l1Known.S N, spec_l12Put.S N]
noncomputable def spec_PutNumber.call (N : Nat) : CallK := callBy (spec_PutNumber.says N)
noncomputable def spec_PutNumber.qt (N : Nat) : FuncId → List PV → Sig → Cl := qtBy (spec_PutNumber.says N)
noncomputable def spec_PutNumber (N : Nat) (l : (List (Int × Int))) (n : Int) : Option ((Unit × (Bool × Unit)) × ((List (Int × Int)) × Unit)) :=
  ofFn Try.prog spec_PutNumber.call spec_PutNumber.qt spec_PutNumber.H N Try.f31 [.one (.sh (.rows (.pair (.int .i64) (.int .i64)))), ak_i] [] [.one (.own 0), ak_b] [.rows (.pair (.int .i64) (.int .i64))] [⟨[(0, (.pair (.int .i64) (.int .i64)))], [], [], [0]⟩, ⟨[], [], [], [0]⟩] (l, (n, ())) ()
noncomputable def spec_PutNumber.S (N : Nat) : Say := ⟨false, 31, [.one (.sh (.rows (.pair (.int .i64) (.int .i64)))), ak_i], [], [.one (.own 0), ak_b], [.rows (.pair (.int .i64) (.int .i64))], fun a s => spec_PutNumber N a.1 a.2.1⟩
set_option maxRecDepth 100000 in
theorem spec_PutNumber.eq (N : Nat) (l : (List (Int × Int))) (n : Int) : spec_PutNumber N l n =
 andK (α := ((Bool × Unit) × Unit)) (
  andK (spec_l12Ranges N l) fun u1 =>
  sel (!u1.1.1)
   (
   some (((true, ()), ())))
   (
   andK (spec_l1Known N n) fun u2 =>
   some ((((!u2.1.1), ()), ())))) fun j3 =>
 sel j3.1.1
  (
  some (((), (false, ())), ([], ())))
  (
  andK (spec_l12Put N l n n) fun u4 =>
  sel (decide (20 < (u4.2.1.length : Int)))
   (
   chk (decide (20 ≤ (u4.2.1.length : Int))) (
   some (((), (true, ())), ((u4.2.1.take 20), ()))))
   (
   some (((), (true, ())), u4.2))) := by kernel_rfl
set_option maxRecDepth 100000 in
theorem spec_PutNumber.say (N : Nat) : SayOk Try.prog (spec_PutNumber.S N) := sayOk_mk (N := N) (H := spec_PutNumber.H) (preps := [⟨[(0, (.pair (.int .i64) (.int .i64)))], [], [], [0]⟩, ⟨[], [], [], [0]⟩]) (l := spec_PutNumber.says) (fn := Try.f31) (c := bodyOf Try.f31)
  (by kernel_rfl) (by kernel_rfl) (by kernel_rfl) (by kernel_rfl) (by kernel_rfl) (by kernel_rfl) (by kernel_rfl)
  (fun N => SayAll.cons (spec_l12Ranges.say N) (SayAll.cons (spec_l1Known.say N) (SayAll.cons (spec_l12Put.say N) (SayAll.nil)))) (fun a s => by kernel_rfl)
noncomputable def spec_PutNumber.SB (N : Nat) : Say := spec_PutNumber.S N |>.lent
theorem spec_PutNumber.sayB (N : Nat) : SayOk Try.prog (spec_PutNumber.SB N) := (spec_PutNumber.say N).lent

/-! ### (*loop.example/g00206/spec.l1Cur).numbers: function 67 -/
noncomputable def spec_l1Cur_numbers.H : Hints := hintsOf [(2000003, .loop ⟨.normal, [], [0, 3, 4], [.one (.ptr 0 0), .one (.own 1), ak_i], [.cells [.sh (.rows (.int .u8)), ck_i, .sh (.int .u64)], .rows (.pair (.int .i64) (.int .i64))], [⟨[(3, (.pair (.int .i64) (.int .i64)))], [], [], [1]⟩, ⟨[], [], [], [2]⟩]⟩ [⟨(.exit 0), [], [0, 3], [.one (.ptr 0 0), .one (.own 1)], [.cells [.sh (.rows (.int .u8)), ck_i, .sh (.int .u64)], .rows (.pair (.int .i64) (.int .i64))], [⟨[], [], [], [1]⟩]⟩]),
  (2000011, .loop ⟨.normal, [], [3, 5], [.one (.own 2), ak_i], [.cells [.sh (.rows (.int .u8)), ck_i, .sh (.int .u64)], .gone, .rows (.pair (.int .i64) (.int .i64))], [⟨[], [], [], [1]⟩, ⟨[], [], [], [3]⟩]⟩ [⟨(.exit 3), [], [3], [.one (.own 2)], [.cells [.sh (.rows (.int .u8)), ck_i, .sh (.int .u64)], .gone, .rows (.pair (.int .i64) (.int .i64))], [⟨[], [], [], [2]⟩]⟩])]
noncomputable def spec_l1Cur_numbers.says (N : Nat) : List Say := [spec_l1Cur_pick.S N, spec_PutNumber.SB N]
noncomputable def spec_l1Cur_numbers.call (N : Nat) : CallK := callBy (spec_l1Cur_numbers.says N)
noncomputable def spec_l1Cur_numbers.qt (N : Nat) : FuncId → List PV → Sig → Cl := qtBy (spec_l1Cur_numbers.says N)
noncomputable def spec_l1Cur_numbers.l0.hd : Alt := ⟨.normal, [], [0, 3, 4], [.one (.ptr 0 0), .one (.own 1), ak_i], [.cells [.sh (.rows (.int .u8)), ck_i, .sh (.int .u64)], .rows (.pair (.int .i64) (.int .i64))], [⟨[(3, (.pair (.int .i64) (.int .i64)))], [], [], [1]⟩, ⟨[], [], [], [2]⟩]⟩
noncomputable def spec_l1Cur_numbers.l0.outs : List Alt := [⟨(.exit 0), [], [0, 3], [.one (.ptr 0 0), .one (.own 1)], [.cells [.sh (.rows (.int .u8)), ck_i, .sh (.int .u64)], .rows (.pair (.int .i64) (.int .i64))], [⟨[], [], [], [1]⟩]⟩]
noncomputable def spec_l1Cur_numbers.l0 (N : Nat) (n : Int) (p0_01 : (List Int)) (p0_11 : Int) (p0_21 : Int) (p1 : (List (Int × Int))) : Option ((Unit × (Unit × Unit)) × (((List Int) × (Int × (Int × Unit))) × ((List (Int × Int)) × Unit))) :=
  loopK Try.prog spec_l1Cur_numbers.call spec_l1Cur_numbers.qt spec_l1Cur_numbers.H (codeAt (bodyOf Try.f67) [1, 1, 0, 1, 0, 0]) 1 spec_l1Cur_numbers.l0.hd spec_l1Cur_numbers.l0.outs [] N (((), ((), (n, ()))), ((p0_01, (p0_11, (p0_21, ()))), (p1, ())))
noncomputable def spec_l1Cur_numbers.l1.hd : Alt := ⟨.normal, [], [3, 5], [.one (.own 2), ak_i], [.cells [.sh (.rows (.int .u8)), ck_i, .sh (.int .u64)], .gone, .rows (.pair (.int .i64) (.int .i64))], [⟨[], [], [], [1]⟩, ⟨[], [], [], [3]⟩]⟩
noncomputable def spec_l1Cur_numbers.l1.outs : List Alt := [⟨(.exit 3), [], [3], [.one (.own 2)], [.cells [.sh (.rows (.int .u8)), ck_i, .sh (.int .u64)], .gone, .rows (.pair (.int .i64) (.int .i64))], [⟨[], [], [], [2]⟩]⟩]
noncomputable def spec_l1Cur_numbers.l1 (N : Nat) (k : Int) (p0_02 : (List Int)) (p0_12 : Int) (p0_22 : Int) (p2 : (List (Int × Int))) : Option ((Unit × Unit) × (((List Int) × (Int × (Int × Unit))) × (Unit × ((List (Int × Int)) × Unit)))) :=
  loopK Try.prog spec_l1Cur_numbers.call spec_l1Cur_numbers.qt spec_l1Cur_numbers.H (codeAt (bodyOf Try.f67) [1, 1, 1, 0, 1, 0, 1, 1, 1, 0, 1, 0, 0]) 2 spec_l1Cur_numbers.l1.hd spec_l1Cur_numbers.l1.outs [] N (((), (k, ())), ((p0_02, (p0_12, (p0_22, ()))), ((), (p2, ()))))
noncomputable def spec_l1Cur_numbers (N : Nat) (p0_0 : (List Int)) (p0_1 : Int) (p0_2 : Int) : Option ((Unit × Unit) × (((List Int) × (Int × (Int × Unit))) × ((List (Int × Int)) × Unit))) :=
  ofFn Try.prog spec_l1Cur_numbers.call spec_l1Cur_numbers.qt spec_l1Cur_numbers.H N Try.f67 [.one (.ptr 0 0)] [.cells [.sh (.rows (.int .u8)), ck_i, .sh (.int .u64)]] [.one (.own 1)] [.cells [.sh (.rows (.int .u8)), ck_i, .sh (.int .u64)], .rows (.pair (.int .i64) (.int .i64))] [⟨[], [], [], [1]⟩, ⟨[], [], [], [2]⟩] ((), ()) ((p0_0, (p0_1, (p0_2, ()))), ())
noncomputable def spec_l1Cur_numbers.S (N : Nat) : Say := ⟨false, 67, [.one (.ptr 0 0)], [.cells [.sh (.rows (.int .u8)), ck_i, .sh (.int .u64)]], [.one (.own 1)], [.cells [.sh (.rows (.int .u8)), ck_i, .sh (.int .u64)], .rows (.pair (.int .i64) (.int .i64))], fun a s => spec_l1Cur_numbers N s.1.1 s.1.2.1 s.1.2.2.1⟩
set_option maxRecDepth 100000 in
theorem spec_l1Cur_numbers.l1.eq (N : Nat) (k : Int) (p0_02 : (List Int)) (p0_12 : Int) (p0_22 : Int) (p2 : (List (Int × Int))) : spec_l1Cur_numbers.l1 (N + 1) k p0_02 p0_12 p0_22 p2 =
 sel (decide (k < 21))
  (
  andK (spec_PutNumber N p2 (IntKind.i64.wrap (1000 - (IntKind.i64.wrap (3 * k))))) fun u8 =>
  spec_l1Cur_numbers.l1 N (IntKind.i64.wrap (k + 1)) p0_02 p0_12 p0_22 u8.2.1)
  (
  some ((((), ()), ((p0_02, (p0_12, (p0_22, ()))), ((), (p2, ())))))) := by kernel_rfl
set_option maxRecDepth 100000 in
theorem spec_l1Cur_numbers.l0.eq (N : Nat) (n : Int) (p0_01 : (List Int)) (p0_11 : Int) (p0_21 : Int) (p1 : (List (Int × Int))) : spec_l1Cur_numbers.l0 (N + 1) n p0_01 p0_11 p0_21 p1 =
 sel (decide (0 < n))
  (
  andK (spec_l1Cur_pick N 30 p0_01 p0_11 p0_21) fun u2 =>
  andK (spec_PutNumber N p1 u2.1.1) fun u3 =>
  spec_l1Cur_numbers.l0 N (IntKind.i64.wrap (n - 1)) u2.2.1.1 u2.2.1.2.1 u2.2.1.2.2.1 u3.2.1)
  (
  some ((((), ((), ())), ((p0_01, (p0_11, (p0_21, ()))), (p1, ()))))) := by kernel_rfl
set_option maxRecDepth 100000 in
theorem spec_l1Cur_numbers.eq (N : Nat) (p0_0 : (List Int)) (p0_1 : Int) (p0_2 : Int) : spec_l1Cur_numbers N p0_0 p0_1 p0_2 =
 andK (spec_l1Cur_pick N 8 p0_0 p0_1 p0_2) fun u1 =>
 andK (spec_l1Cur_numbers.l0 N u1.1.1 u1.2.1.1 u1.2.1.2.1 u1.2.1.2.2.1 []) fun l4 =>
 andK (spec_l1Cur_pick N 30 l4.2.1.1 l4.2.1.2.1 l4.2.1.2.2.1) fun u5 =>
 sel (decide (u5.1.1 = 0))
  (
  andK (spec_l1Cur_pick N 9 u5.2.1.1 u5.2.1.2.1 u5.2.1.2.2.1) fun u6 =>
  andK (spec_l1Cur_pick N 9 u6.2.1.1 u6.2.1.2.1 u6.2.1.2.2.1) fun u7 =>
  chk (decide (l4.2.2.1.length + 1 < most)) (
  some (((), ()), (u7.2.1, ((l4.2.2.1 ++ [(u6.1.1, u7.1.1)]), ())))))
  (
  sel (decide (u5.1.1 = 1))
   (
   andK (spec_l1Cur_numbers.l1 N 0 u5.2.1.1 u5.2.1.2.1 u5.2.1.2.2.1 l4.2.2.1) fun l9 =>
   some (((), ()), (l9.2.1, (l9.2.2.2.1, ()))))
   (
   some (((), ()), (u5.2.1, (l4.2.2.1, ()))))) := by kernel_rfl
set_option maxRecDepth 100000 in
theorem spec_l1Cur_numbers.say (N : Nat) : SayOk Try.prog (spec_l1Cur_numbers.S N) := sayOk_mk (N := N) (H := spec_l1Cur_numbers.H) (preps := [⟨[], [], [], [1]⟩, ⟨[], [], [], [2]⟩]) (l := spec_l1Cur_numbers.says) (fn := Try.f67) (c := bodyOf Try.f67)
  (by kernel_rfl) (by kernel_rfl) (by kernel_rfl) (by kernel_rfl) (by kernel_rfl) (by kernel_rfl) (by kernel_rfl)
  (fun N => SayAll.cons (spec_l1Cur_pick.say N) (SayAll.cons (spec_PutNumber.sayB N) (SayAll.nil))) (fun a s => by kernel_rfl)

/-! ### loop.example/g00206/spec.l12Tick: function 74 -/
noncomputable def spec_l12Tick.H : Hints := hintsOf []
noncomputable def spec_l12Tick.says (N : Nat) : List Say := [spec_l1In.S N]
noncomputable def spec_l12Tick.call (N : Nat) : CallK := callBy (spec_l12Tick.says N)
noncomputable def spec_l12Tick.qt (N : Nat) : FuncId → List PV → Sig → Cl := qtBy (spec_l12Tick.says N)
noncomputable def spec_l12Tick (N : Nat) (n : Int) : Option ((Bool × Unit) × Unit) :=
  ofFn Try.prog spec_l12Tick.call spec_l12Tick.qt spec_l12Tick.H N Try.f74 [ak_i] [] [ak_b] [] [⟨[], [], [], []⟩] (n, ()) ()
noncomputable def spec_l12Tick.S (N : Nat) : Say := ⟨false, 74, [ak_i], [], [ak_b], [], fun a s => spec_l12Tick N a.1⟩
set_option maxRecDepth 100000 in
theorem spec_l12Tick.eq (N : Nat) (n : Int) : spec_l12Tick N n =
 andK (spec_l1In N n 0 1000000000) fun u1 =>
 some (u1.1, ()) := by kernel_rfl
set_option maxRecDepth 100000 in
theorem spec_l12Tick.say (N : Nat) : SayOk Try.prog (spec_l12Tick.S N) := sayOk_mk (N := N) (H := spec_l12Tick.H) (preps := [⟨[], [], [], []⟩]) (l := spec_l12Tick.says) (fn := Try.f74) (c := bodyOf Try.f74)
  (by kernel_rfl) (by kernel_rfl) (by kernel_rfl) (by kernel_rfl) (by kernel_rfl) (by kernel_rfl) (by kernel_rfl)
  (fun N => SayAll.cons (spec_l1In.say N) (SayAll.nil)) (fun a s => by kernel_rfl)

/-! ### loop.example/g00206/spec.l12Rtt: function 127 -/
noncomputable def spec_l12Rtt.H : Hints := hintsOf []
noncomputable def spec_l12Rtt.says (N : Nat) : List Say := [spec_l12Tick.S N, spec_l1In.S N]
noncomputable def spec_l12Rtt.call (N : Nat) : CallK := callBy (spec_l12Rtt.says N)
noncomputable def spec_l12Rtt.qt (N : Nat) : FuncId → List PV → Sig → Cl := qtBy (spec_l12Rtt.says N)
noncomputable def spec_l12Rtt (N : Nat) (r_0 : Bool) (r_1 : Int) (r_2 : Int) (r_3 : Int) (r_4 : Int) : Option ((Bool × Unit) × Unit) :=
  ofFn Try.prog spec_l12Rtt.call spec_l12Rtt.qt spec_l12Rtt.H N Try.f127 [.agg [ck_b, ck_i, ck_i, ck_i, ck_i]] [] [ak_b] [] [⟨[], [], [], []⟩] ((r_0, (r_1, (r_2, (r_3, (r_4, ()))))), ()) ()
noncomputable def spec_l12Rtt.S (N : Nat) : Say := ⟨false, 127, [.agg [ck_b, ck_i, ck_i, ck_i, ck_i]], [], [ak_b], [], fun a s => spec_l12Rtt N a.1.1 a.1.2.1 a.1.2.2.1 a.1.2.2.2.1 a.1.2.2.2.2.1⟩
set_option maxRecDepth 100000 in
theorem spec_l12Rtt.eq (N : Nat) (r_0 : Bool) (r_1 : Int) (r_2 : Int) (r_3 : Int) (r_4 : Int) : spec_l12Rtt N r_0 r_1 r_2 r_3 r_4 =
 sel (!r_0)
  (
  some ((((r_0 == false) && ((decide (r_1 = 0)) && ((decide (r_2 = 0)) && ((decide (r_3 = 0)) && (decide (r_4 = 0)))))), ()), ()))
  (
  andK (spec_l12Tick N r_2) fun u1 =>
  sel u1.1.1
   (
   andK (spec_l1In N r_1 r_2 1000000000) fun u2 =>
   sel u2.1.1
    (
    andK (spec_l12Tick N r_3) fun u3 =>
    sel u3.1.1
     (
     andK (spec_l12Tick N r_4) fun u4 =>
     some (u4.1, ()))
     (
     some ((false, ()), ())))
    (
    some ((false, ()), ())))
   (
   some ((false, ()), ()))) := by kernel_rfl
set_option maxRecDepth 100000 in
theorem spec_l12Rtt.say (N : Nat) : SayOk Try.prog (spec_l12Rtt.S N) := sayOk_mk (N := N) (H := spec_l12Rtt.H) (preps := [⟨[], [], [], []⟩]) (l := spec_l12Rtt.says) (fn := Try.f127) (c := bodyOf Try.f127)
  (by kernel_rfl) (by kernel_rfl) (by kernel_rfl) (by kernel_rfl) (by kernel_rfl) (by kernel_rfl) (by kernel_rfl)
  (fun N => SayAll.cons (spec_l12Tick.say N) (SayAll.cons (spec_l1In.say N) (SayAll.nil))) (fun a s => by kernel_rfl)

/-! ### loop.example/g00206/spec.GoodSpace: function 72 -/
noncomputable def spec_GoodSpace.H : Hints := hintsOf [(5000004, .join [⟨.normal, [6, 7, 8], [1, 56], [.one (.ptr 0 0), ak_b], [.cells [ck_i, .sh (.rows (.pair (.int .i64) (.pair (.int .i64) (.int .i64)))), ck_b, ck_i, ck_i, ck_i, ck_i], .cells [ck_i, ck_i, ck_i]], [⟨[], [], [], []⟩]⟩]),
  (2000002, .loop ⟨.normal, [6, 7], [1, 8], [.one (.ptr 0 0), ak_i], [.cells [ck_i, .sh (.rows (.pair (.int .i64) (.pair (.int .i64) (.int .i64)))), ck_b, ck_i, ck_i, ck_i, ck_i]], [⟨[], [], [], []⟩]⟩ [⟨.ret, [], [2], [ak_b], [.cells [ck_i, .sh (.rows (.pair (.int .i64) (.pair (.int .i64) (.int .i64)))), ck_b, ck_i, ck_i, ck_i, ck_i]], [⟨[], [], [], []⟩]⟩, ⟨(.exit 0), [], [1], [.one (.ptr 0 0)], [.cells [ck_i, .sh (.rows (.pair (.int .i64) (.pair (.int .i64) (.int .i64)))), ck_b, ck_i, ck_i, ck_i, ck_i]], [⟨[], [], [], []⟩]⟩])]
noncomputable def spec_GoodSpace.says (N : Nat) : List Say := [spec_l1Known.S N, spec_l12Tick.S N, spec_l1In.S N, spec_l12Rtt.S N]
noncomputable def spec_GoodSpace.call (N : Nat) : CallK := callBy (spec_GoodSpace.says N)
noncomputable def spec_GoodSpace.qt (N : Nat) : FuncId → List PV → Sig → Cl := qtBy (spec_GoodSpace.says N)
noncomputable def spec_GoodSpace.l0.hd : Alt := ⟨.normal, [6, 7], [1, 8], [.one (.ptr 0 0), ak_i], [.cells [ck_i, .sh (.rows (.pair (.int .i64) (.pair (.int .i64) (.int .i64)))), ck_b, ck_i, ck_i, ck_i, ck_i]], [⟨[], [], [], []⟩]⟩
noncomputable def spec_GoodSpace.l0.outs : List Alt := [⟨.ret, [], [2], [ak_b], [.cells [ck_i, .sh (.rows (.pair (.int .i64) (.pair (.int .i64) (.int .i64)))), ck_b, ck_i, ck_i, ck_i, ck_i]], [⟨[], [], [], []⟩]⟩, ⟨(.exit 0), [], [1], [.one (.ptr 0 0)], [.cells [ck_i, .sh (.rows (.pair (.int .i64) (.pair (.int .i64) (.int .i64)))), ck_b, ck_i, ck_i, ck_i, ck_i]], [⟨[], [], [], []⟩]⟩]
noncomputable def spec_GoodSpace.l0 (N : Nat) (e : (List (Int × (Int × Int)))) (t : Int) (t1 : Int) (p0_0 : Int) (p0_1 : (List (Int × (Int × Int)))) (p0_2 : Bool) (p0_3 : Int) (p0_4 : Int) (p0_5 : Int) (p0_6 : Int) : Option (((Bool × Unit) × ((Int × ((List (Int × (Int × Int))) × (Bool × (Int × (Int × (Int × (Int × Unit))))))) × Unit)) ⊕ ((Unit × Unit) × ((Int × ((List (Int × (Int × Int))) × (Bool × (Int × (Int × (Int × (Int × Unit))))))) × Unit))) :=
  loopK Try.prog spec_GoodSpace.call spec_GoodSpace.qt spec_GoodSpace.H (codeAt (bodyOf Try.f72) [1, 0, 1, 0, 0]) 1 spec_GoodSpace.l0.hd spec_GoodSpace.l0.outs [(6, .rows false (.pair (.int .i64) (.pair (.int .i64) (.int .i64))) e), (7, .v (.int .i64 t))] N (((), (t1, ())), ((p0_0, (p0_1, (p0_2, (p0_3, (p0_4, (p0_5, (p0_6, ()))))))), ()))
noncomputable def spec_GoodSpace (N : Nat) (G_0 : Int) (G_1 : (List (Int × (Int × Int)))) (G_2 : Bool) (G_3 : Int) (G_4 : Int) (G_5 : Int) (G_6 : Int) : Option ((Bool × Unit) × Unit) :=
  ofFn Try.prog spec_GoodSpace.call spec_GoodSpace.qt spec_GoodSpace.H N Try.f72 [.agg [ck_i, .sh (.rows (.pair (.int .i64) (.pair (.int .i64) (.int .i64)))), ck_b, ck_i, ck_i, ck_i, ck_i]] [] [ak_b] [] [⟨[], [], [], []⟩] ((G_0, (G_1, (G_2, (G_3, (G_4, (G_5, (G_6, ()))))))), ()) ()
noncomputable def spec_GoodSpace.S (N : Nat) : Say := ⟨false, 72, [.agg [ck_i, .sh (.rows (.pair (.int .i64) (.pair (.int .i64) (.int .i64)))), ck_b, ck_i, ck_i, ck_i, ck_i]], [], [ak_b], [], fun a s => spec_GoodSpace N a.1.1 a.1.2.1 a.1.2.2.1 a.1.2.2.2.1 a.1.2.2.2.2.1 a.1.2.2.2.2.2.1 a.1.2.2.2.2.2.2.1⟩
set_option maxRecDepth 100000 in
theorem spec_GoodSpace.l0.eq (N : Nat) (e : (List (Int × (Int × Int)))) (t : Int) (t1 : Int) (p0_0 : Int) (p0_1 : (List (Int × (Int × Int)))) (p0_2 : Bool) (p0_3 : Int) (p0_4 : Int) (p0_5 : Int) (p0_6 : Int) : spec_GoodSpace.l0 (N + 1) e t t1 p0_0 p0_1 p0_2 p0_3 p0_4 p0_5 p0_6 =
 sel (decide (t1 < t))
  (
  chk ((decide (0 ≤ t1)) && (decide (t1 < (e.length : Int)))) (
  andK (α := ((Unit × (Bool × Unit)) × ((Int × ((List (Int × (Int × Int))) × (Bool × (Int × (Int × (Int × (Int × Unit))))))) × ((Int × (Int × (Int × Unit))) × Unit)))) (
   andK (spec_l1Known N (rdS (.pair (.int .i64) (.pair (.int .i64) (.int .i64))) e (Int.toNat t1)).1) fun u1 =>
   sel (!u1.1.1)
    (
    some ((((), (true, ())), ((p0_0, (p0_1, (p0_2, (p0_3, (p0_4, (p0_5, (p0_6, ()))))))), (((rdS (.pair (.int .i64) (.pair (.int .i64) (.int .i64))) e (Int.toNat t1)).1, ((rdS (.pair (.int .i64) (.pair (.int .i64) (.int .i64))) e (Int.toNat t1)).2.1, ((rdS (.pair (.int .i64) (.pair (.int .i64) (.int .i64))) e (Int.toNat t1)).2.2, ()))), ())))))
    (
    andK (spec_l12Tick N (rdS (.pair (.int .i64) (.pair (.int .i64) (.int .i64))) e (Int.toNat t1)).2.1) fun u2 =>
    sel (!u2.1.1)
     (
     some ((((), (true, ())), ((p0_0, (p0_1, (p0_2, (p0_3, (p0_4, (p0_5, (p0_6, ()))))))), (((rdS (.pair (.int .i64) (.pair (.int .i64) (.int .i64))) e (Int.toNat t1)).1, ((rdS (.pair (.int .i64) (.pair (.int .i64) (.int .i64))) e (Int.toNat t1)).2.1, ((rdS (.pair (.int .i64) (.pair (.int .i64) (.int .i64))) e (Int.toNat t1)).2.2, ()))), ())))))
     (
     andK (spec_l1In N (rdS (.pair (.int .i64) (.pair (.int .i64) (.int .i64))) e (Int.toNat t1)).2.2 0 1500) fun u3 =>
     sel (!u3.1.1)
      (
      some ((((), (true, ())), ((p0_0, (p0_1, (p0_2, (p0_3, (p0_4, (p0_5, (p0_6, ()))))))), (((rdS (.pair (.int .i64) (.pair (.int .i64) (.int .i64))) e (Int.toNat t1)).1, ((rdS (.pair (.int .i64) (.pair (.int .i64) (.int .i64))) e (Int.toNat t1)).2.1, ((rdS (.pair (.int .i64) (.pair (.int .i64) (.int .i64))) e (Int.toNat t1)).2.2, ()))), ())))))
      (
      sel (decide (0 < t1))
       (
       chk ((decide (0 ≤ (IntKind.i64.wrap (t1 - 1)))) && (decide ((IntKind.i64.wrap (t1 - 1)) < (p0_1.length : Int)))) (
       sel (decide ((rdS (.pair (.int .i64) (.pair (.int .i64) (.int .i64))) e (Int.toNat t1)).1 ≤ (rdS (.pair (.int .i64) (.pair (.int .i64) (.int .i64))) p0_1 (Int.toNat (IntKind.i64.wrap (t1 - 1)))).1))
        (
        some ((((), (true, ())), ((p0_0, (p0_1, (p0_2, (p0_3, (p0_4, (p0_5, (p0_6, ()))))))), (((rdS (.pair (.int .i64) (.pair (.int .i64) (.int .i64))) e (Int.toNat t1)).1, ((rdS (.pair (.int .i64) (.pair (.int .i64) (.int .i64))) e (Int.toNat t1)).2.1, ((rdS (.pair (.int .i64) (.pair (.int .i64) (.int .i64))) e (Int.toNat t1)).2.2, ()))), ())))))
        (
        chk ((decide (0 ≤ (IntKind.i64.wrap (t1 - 1)))) && (decide ((IntKind.i64.wrap (t1 - 1)) < (p0_1.length : Int)))) (
        some ((((), ((decide ((rdS (.pair (.int .i64) (.pair (.int .i64) (.int .i64))) e (Int.toNat t1)).2.1 < (rdS (.pair (.int .i64) (.pair (.int .i64) (.int .i64))) p0_1 (Int.toNat (IntKind.i64.wrap (t1 - 1)))).2.1)), ())), ((p0_0, (p0_1, (p0_2, (p0_3, (p0_4, (p0_5, (p0_6, ()))))))), (((rdS (.pair (.int .i64) (.pair (.int .i64) (.int .i64))) e (Int.toNat t1)).1, ((rdS (.pair (.int .i64) (.pair (.int .i64) (.int .i64))) e (Int.toNat t1)).2.1, ((rdS (.pair (.int .i64) (.pair (.int .i64) (.int .i64))) e (Int.toNat t1)).2.2, ()))), ()))))))))
       (
       some ((((), (false, ())), ((p0_0, (p0_1, (p0_2, (p0_3, (p0_4, (p0_5, (p0_6, ()))))))), (((rdS (.pair (.int .i64) (.pair (.int .i64) (.int .i64))) e (Int.toNat t1)).1, ((rdS (.pair (.int .i64) (.pair (.int .i64) (.int .i64))) e (Int.toNat t1)).2.1, ((rdS (.pair (.int .i64) (.pair (.int .i64) (.int .i64))) e (Int.toNat t1)).2.2, ()))), ()))))))))) fun j4 =>
  sel j4.1.2.1
   (
   some (.inl ((false, ()), (j4.2.1, ()))))
   (
   spec_GoodSpace.l0 N e t (IntKind.i64.wrap (t1 + 1)) j4.2.1.1 j4.2.1.2.1 j4.2.1.2.2.1 j4.2.1.2.2.2.1 j4.2.1.2.2.2.2.1 j4.2.1.2.2.2.2.2.1 j4.2.1.2.2.2.2.2.2.1)))
  (
  some (.inr ((((), ()), ((p0_0, (p0_1, (p0_2, (p0_3, (p0_4, (p0_5, (p0_6, ()))))))), ()))))) := by kernel_rfl
set_option maxRecDepth 100000 in
theorem spec_GoodSpace.eq (N : Nat) (G_0 : Int) (G_1 : (List (Int × (Int × Int)))) (G_2 : Bool) (G_3 : Int) (G_4 : Int) (G_5 : Int) (G_6 : Int) : spec_GoodSpace N G_0 G_1 G_2 G_3 G_4 G_5 G_6 =
 andK (spec_GoodSpace.l0 N G_1 (G_1.length : Int) 0 G_0 G_1 G_2 G_3 G_4 G_5 G_6) fun l5 =>
 orK l5 (fun x6 =>
  some (x6.1, ()))
  (fun x7 =>
  andK (spec_l1In N x7.2.1.1 (-1) 4611686018427387903) fun u8 =>
  sel u8.1.1
   (
   sel (decide ((x7.2.1.2.1.length : Int) ≤ 60))
    (
    andK (spec_l12Rtt N x7.2.1.2.2.1 x7.2.1.2.2.2.1 x7.2.1.2.2.2.2.1 x7.2.1.2.2.2.2.2.1 x7.2.1.2.2.2.2.2.2.1) fun u9 =>
    some (u9.1, ()))
    (
    some ((false, ()), ())))
   (
   some ((false, ()), ()))) := by kernel_rfl
set_option maxRecDepth 100000 in
theorem spec_GoodSpace.say (N : Nat) : SayOk Try.prog (spec_GoodSpace.S N) := sayOk_mk (N := N) (H := spec_GoodSpace.H) (preps := [⟨[], [], [], []⟩]) (l := spec_GoodSpace.says) (fn := Try.f72) (c := bodyOf Try.f72)
  (by kernel_rfl) (by kernel_rfl) (by kernel_rfl) (by kernel_rfl) (by kernel_rfl) (by kernel_rfl) (by kernel_rfl)
  (fun N => SayAll.cons (spec_l1Known.say N) (SayAll.cons (spec_l12Tick.say N) (SayAll.cons (spec_l1In.say N) (SayAll.cons (spec_l12Rtt.say N) (SayAll.nil))))) (fun a s => by kernel_rfl)
noncomputable def spec_GoodSpace.SB (N : Nat) : Say := spec_GoodSpace.S N |>.lent
theorem spec_GoodSpace.sayB (N : Nat) : SayOk Try.prog (spec_GoodSpace.SB N) := (spec_GoodSpace.say N).lent

/-! ### loop.example/g00206/spec.l12Last: function 75 -/
noncomputable def spec_l12Last.H : Hints := hintsOf []
noncomputable def spec_l12Last.says (N : Nat) : List Say := []
noncomputable def spec_l12Last.call (N : Nat) : CallK := callBy (spec_l12Last.says N)
noncomputable def spec_l12Last.qt (N : Nat) : FuncId → List PV → Sig → Cl := qtBy (spec_l12Last.says N)
noncomputable def spec_l12Last (N : Nat) (s_0 : Int) (s_1 : (List (Int × (Int × Int)))) (s_2 : Bool) (s_3 : Int) (s_4 : Int) (s_5 : Int) (s_6 : Int) : Option (((Int × (Int × (Int × Unit))) × Unit) × Unit) :=
  ofFn Try.prog spec_l12Last.call spec_l12Last.qt spec_l12Last.H N Try.f75 [.agg [ck_i, .sh (.rows (.pair (.int .i64) (.pair (.int .i64) (.int .i64)))), ck_b, ck_i, ck_i, ck_i, ck_i]] [] [.agg [ck_i, ck_i, ck_i]] [] [⟨[], [], [], []⟩] ((s_0, (s_1, (s_2, (s_3, (s_4, (s_5, (s_6, ()))))))), ()) ()
noncomputable def spec_l12Last.S (N : Nat) : Say := ⟨false, 75, [.agg [ck_i, .sh (.rows (.pair (.int .i64) (.pair (.int .i64) (.int .i64)))), ck_b, ck_i, ck_i, ck_i, ck_i]], [], [.agg [ck_i, ck_i, ck_i]], [], fun a s => spec_l12Last N a.1.1 a.1.2.1 a.1.2.2.1 a.1.2.2.2.1 a.1.2.2.2.2.1 a.1.2.2.2.2.2.1 a.1.2.2.2.2.2.2.1⟩
set_option maxRecDepth 100000 in
theorem spec_l12Last.eq (N : Nat) (s_0 : Int) (s_1 : (List (Int × (Int × Int)))) (s_2 : Bool) (s_3 : Int) (s_4 : Int) (s_5 : Int) (s_6 : Int) : spec_l12Last N s_0 s_1 s_2 s_3 s_4 s_5 s_6 =
 sel (decide (0 < (s_1.length : Int)))
  (
  chk ((decide (0 ≤ (IntKind.i64.wrap ((s_1.length : Int) - 1)))) && (decide ((IntKind.i64.wrap ((s_1.length : Int) - 1)) < (s_1.length : Int)))) (
  some ((((rdS (.pair (.int .i64) (.pair (.int .i64) (.int .i64))) s_1 (Int.toNat (IntKind.i64.wrap ((s_1.length : Int) - 1)))).1, ((rdS (.pair (.int .i64) (.pair (.int .i64) (.int .i64))) s_1 (Int.toNat (IntKind.i64.wrap ((s_1.length : Int) - 1)))).2.1, ((rdS (.pair (.int .i64) (.pair (.int .i64) (.int .i64))) s_1 (Int.toNat (IntKind.i64.wrap ((s_1.length : Int) - 1)))).2.2, ()))), ()), ())))
  (
  some ((((-1), (0, (0, ()))), ()), ())) := by kernel_rfl
set_option maxRecDepth 100000 in
theorem spec_l12Last.say (N : Nat) : SayOk Try.prog (spec_l12Last.S N) := sayOk_mk (N := N) (H := spec_l12Last.H) (preps := [⟨[], [], [], []⟩]) (l := spec_l12Last.says) (fn := Try.f75) (c := bodyOf Try.f75)
  (by kernel_rfl) (by kernel_rfl) (by kernel_rfl) (by kernel_rfl) (by kernel_rfl) (by kernel_rfl) (by kernel_rfl)
  (fun N => SayAll.nil) (fun a s => by kernel_rfl)

/-! ### loop.example/g00206/spec.l12Has: function 76 -/
noncomputable def spec_l12Has.H : Hints := hintsOf [(2000002, .loop ⟨.normal, [1, 7, 8], [9], [ak_i], [], [⟨[], [], [], []⟩]⟩ [⟨.ret, [], [4], [ak_b], [], [⟨[], [], [], []⟩]⟩, ⟨(.exit 0), [], [], [], [], [⟨[], [], [], []⟩]⟩])]
noncomputable def spec_l12Has.says (N : Nat) : List Say := [spec_l1In.S N]
noncomputable def spec_l12Has.call (N : Nat) : CallK := callBy (spec_l12Has.says N)
noncomputable def spec_l12Has.qt (N : Nat) : FuncId → List PV → Sig → Cl := qtBy (spec_l12Has.says N)
noncomputable def spec_l12Has.l0.hd : Alt := ⟨.normal, [1, 7, 8], [9], [ak_i], [], [⟨[], [], [], []⟩]⟩
noncomputable def spec_l12Has.l0.outs : List Alt := [⟨.ret, [], [4], [ak_b], [], [⟨[], [], [], []⟩]⟩, ⟨(.exit 0), [], [], [], [], [⟨[], [], [], []⟩]⟩]
noncomputable def spec_l12Has.l0 (N : Nat) (n1 : Int) (t7 : (List (Int × Int))) (t8 : Int) (t9 : Int) : Option (((Bool × Unit) × Unit) ⊕ (Unit × Unit)) :=
  loopK Try.prog spec_l12Has.call spec_l12Has.qt spec_l12Has.H (codeAt (bodyOf Try.f76) [1, 0, 1, 0, 0]) 0 spec_l12Has.l0.hd spec_l12Has.l0.outs [(1, .v (.int .i64 n1)), (7, .rows false (.pair (.int .i64) (.int .i64)) t7), (8, .v (.int .i64 t8))] N ((t9, ()), ())
noncomputable def spec_l12Has (N : Nat) (l : (List (Int × Int))) (n : Int) : Option ((Bool × Unit) × Unit) :=
  ofFn Try.prog spec_l12Has.call spec_l12Has.qt spec_l12Has.H N Try.f76 [.one (.sh (.rows (.pair (.int .i64) (.int .i64)))), ak_i] [] [ak_b] [] [⟨[], [], [], []⟩] (l, (n, ())) ()
noncomputable def spec_l12Has.S (N : Nat) : Say := ⟨false, 76, [.one (.sh (.rows (.pair (.int .i64) (.int .i64)))), ak_i], [], [ak_b], [], fun a s => spec_l12Has N a.1 a.2.1⟩
set_option maxRecDepth 100000 in
theorem spec_l12Has.l0.eq (N : Nat) (n1 : Int) (t7 : (List (Int × Int))) (t8 : Int) (t9 : Int) : spec_l12Has.l0 (N + 1) n1 t7 t8 t9 =
 sel (decide (t9 < t8))
  (
  chk ((decide (0 ≤ t9)) && (decide (t9 < (t7.length : Int)))) (
  andK (spec_l1In N n1 (rdS (.pair (.int .i64) (.int .i64)) t7 (Int.toNat t9)).1 (rdS (.pair (.int .i64) (.int .i64)) t7 (Int.toNat t9)).2) fun u1 =>
  sel u1.1.1
   (
   some (.inl ((true, ()), ())))
   (
   spec_l12Has.l0 N n1 t7 t8 (IntKind.i64.wrap (t9 + 1)))))
  (
  some (.inr (((), ())))) := by kernel_rfl
set_option maxRecDepth 100000 in
theorem spec_l12Has.eq (N : Nat) (l : (List (Int × Int))) (n : Int) : spec_l12Has N l n =
 andK (spec_l12Has.l0 N n l (l.length : Int) 0) fun l2 =>
 orK l2 (fun x3 =>
  some (x3.1, ()))
  (fun x4 =>
  some ((false, ()), ())) := by kernel_rfl
set_option maxRecDepth 100000 in
theorem spec_l12Has.say (N : Nat) : SayOk Try.prog (spec_l12Has.S N) := sayOk_mk (N := N) (H := spec_l12Has.H) (preps := [⟨[], [], [], []⟩]) (l := spec_l12Has.says) (fn := Try.f76) (c := bodyOf Try.f76)
  (by kernel_rfl) (by kernel_rfl) (by kernel_rfl) (by kernel_rfl) (by kernel_rfl) (by kernel_rfl) (by kernel_rfl)
  (fun N => SayAll.cons (spec_l1In.say N) (SayAll.nil)) (fun a s => by kernel_rfl)

/-! ### loop.example/g00206/spec.l12Sample: function 77 -/
noncomputable def spec_l12Sample.H : Hints := hintsOf [(6, .join [⟨.normal, [1, 2], [3, 6], [.one (.ptr 0 0), .one (.ptr 1 0)], [.cells [ck_b, ck_i, ck_i, ck_i, ck_i], .cells [ck_b, ck_i, ck_i, ck_i, ck_i]], [⟨[], [], [], []⟩]⟩]),
  (9, .join [⟨.normal, [], [3, 6, 7], [.one (.ptr 0 0), .one (.ptr 1 0), ak_i], [.cells [ck_b, ck_i, ck_i, ck_i, ck_i], .cells [ck_b, ck_i, ck_i, ck_i, ck_i]], [⟨[], [], [], []⟩]⟩]),
  (12, .join [⟨.normal, [7], [3, 6, 8], [.one (.ptr 0 0), .one (.ptr 1 0), ak_i], [.cells [ck_b, ck_i, ck_i, ck_i, ck_i], .cells [ck_b, ck_i, ck_i, ck_i, ck_i]], [⟨[], [], [], []⟩]⟩])]
noncomputable def spec_l12Sample.says (N : Nat) : List Say := []
noncomputable def spec_l12Sample.call (N : Nat) : CallK := callBy (spec_l12Sample.says N)
noncomputable def spec_l12Sample.qt (N : Nat) : FuncId → List PV → Sig → Cl := qtBy (spec_l12Sample.says N)
noncomputable def spec_l12Sample (N : Nat) (r_0 : Bool) (r_1 : Int) (r_2 : Int) (r_3 : Int) (r_4 : Int) (latest : Int) (delay : Int) : Option (((Bool × (Int × (Int × (Int × (Int × Unit))))) × Unit) × Unit) :=
  ofFn Try.prog spec_l12Sample.call spec_l12Sample.qt spec_l12Sample.H N Try.f77 [.agg [ck_b, ck_i, ck_i, ck_i, ck_i], ak_i, ak_i] [] [.agg [ck_b, ck_i, ck_i, ck_i, ck_i]] [] [⟨[], [], [], []⟩] ((r_0, (r_1, (r_2, (r_3, (r_4, ()))))), (latest, (delay, ()))) ()
noncomputable def spec_l12Sample.S (N : Nat) : Say := ⟨false, 77, [.agg [ck_b, ck_i, ck_i, ck_i, ck_i], ak_i, ak_i], [], [.agg [ck_b, ck_i, ck_i, ck_i, ck_i]], [], fun a s => spec_l12Sample N a.1.1 a.1.2.1 a.1.2.2.1 a.1.2.2.2.1 a.1.2.2.2.2.1 a.2.1 a.2.2.1⟩
set_option maxRecDepth 100000 in
theorem spec_l12Sample.eq (N : Nat) (r_0 : Bool) (r_1 : Int) (r_2 : Int) (r_3 : Int) (r_4 : Int) (latest : Int) (delay : Int) : spec_l12Sample N r_0 r_1 r_2 r_3 r_4 latest delay =
 sel (!r_0)
  (
  some (((true, (latest, (latest, (latest, ((IntKind.i64.wrap (Int.tdiv latest 2)), ()))))), ()), ()))
  (
  andK (α := ((Unit × (Unit × Unit)) × ((Bool × (Int × (Int × (Int × (Int × Unit))))) × ((Bool × (Int × (Int × (Int × (Int × Unit))))) × Unit)))) (
   sel (decide (latest < r_2))
    (
    some ((((), ((), ())), ((r_0, (latest, (latest, (r_3, (r_4, ()))))), ((false, (0, (0, (0, (0, ()))))), ())))))
    (
    some ((((), ((), ())), ((r_0, (latest, (r_2, (r_3, (r_4, ()))))), ((false, (0, (0, (0, (0, ()))))), ())))))) fun j1 =>
  andK (α := ((Unit × (Unit × (Int × Unit))) × ((Bool × (Int × (Int × (Int × (Int × Unit))))) × ((Bool × (Int × (Int × (Int × (Int × Unit))))) × Unit)))) (
   sel (decide (j1.2.1.2.2.1 ≤ (IntKind.i64.wrap (latest - delay))))
    (
    some ((((), ((), ((IntKind.i64.wrap (latest - delay)), ()))), j1.2)))
    (
    some ((((), ((), (latest, ()))), j1.2)))) fun j2 =>
  andK (α := ((Unit × (Unit × (Int × Unit))) × ((Bool × (Int × (Int × (Int × (Int × Unit))))) × ((Bool × (Int × (Int × (Int × (Int × Unit))))) × Unit)))) (
   sel (decide ((IntKind.i64.wrap (j2.2.1.2.2.2.1 - j2.1.2.2.1)) < 0))
    (
    some ((((), ((), ((IntKind.i64.wrap (0 - (IntKind.i64.wrap (j2.2.1.2.2.2.1 - j2.1.2.2.1)))), ()))), j2.2)))
    (
    some ((((), ((), ((IntKind.i64.wrap (j2.2.1.2.2.2.1 - j2.1.2.2.1)), ()))), j2.2)))) fun j3 =>
  some (((j3.2.1.1, (j3.2.1.2.1, (j3.2.1.2.2.1, ((IntKind.i64.wrap (Int.tdiv (IntKind.i64.wrap ((IntKind.i64.wrap (7 * j3.2.1.2.2.2.1)) + j2.1.2.2.1)) 8)), ((IntKind.i64.wrap (Int.tdiv (IntKind.i64.wrap ((IntKind.i64.wrap (3 * j3.2.1.2.2.2.2.1)) + j3.1.2.2.1)) 4)), ()))))), ()), ())) := by kernel_rfl
set_option maxRecDepth 100000 in
theorem spec_l12Sample.say (N : Nat) : SayOk Try.prog (spec_l12Sample.S N) := sayOk_mk (N := N) (H := spec_l12Sample.H) (preps := [⟨[], [], [], []⟩]) (l := spec_l12Sample.says) (fn := Try.f77) (c := bodyOf Try.f77)
  (by kernel_rfl) (by kernel_rfl) (by kernel_rfl) (by kernel_rfl) (by kernel_rfl) (by kernel_rfl) (by kernel_rfl)
  (fun N => SayAll.nil) (fun a s => by kernel_rfl)

/-! ### loop.example/g00206/spec.l12Wait: function 78 -/
noncomputable def spec_l12Wait.H : Hints := hintsOf [(6, .join [⟨.normal, [], [3], [ak_i], [.cells [ck_b, ck_i, ck_i, ck_i, ck_i]], [⟨[], [], [], []⟩]⟩])]
noncomputable def spec_l12Wait.says (N : Nat) : List Say := []
noncomputable def spec_l12Wait.call (N : Nat) : CallK := callBy (spec_l12Wait.says N)
noncomputable def spec_l12Wait.qt (N : Nat) : FuncId → List PV → Sig → Cl := qtBy (spec_l12Wait.says N)
noncomputable def spec_l12Wait (N : Nat) (r_0 : Bool) (r_1 : Int) (r_2 : Int) (r_3 : Int) (r_4 : Int) : Option ((Int × Unit) × Unit) :=
  ofFn Try.prog spec_l12Wait.call spec_l12Wait.qt spec_l12Wait.H N Try.f78 [.agg [ck_b, ck_i, ck_i, ck_i, ck_i]] [] [ak_i] [] [⟨[], [], [], []⟩] ((r_0, (r_1, (r_2, (r_3, (r_4, ()))))), ()) ()
noncomputable def spec_l12Wait.S (N : Nat) : Say := ⟨false, 78, [.agg [ck_b, ck_i, ck_i, ck_i, ck_i]], [], [ak_i], [], fun a s => spec_l12Wait N a.1.1 a.1.2.1 a.1.2.2.1 a.1.2.2.2.1 a.1.2.2.2.2.1⟩
set_option maxRecDepth 100000 in
theorem spec_l12Wait.eq (N : Nat) (r_0 : Bool) (r_1 : Int) (r_2 : Int) (r_3 : Int) (r_4 : Int) : spec_l12Wait N r_0 r_1 r_2 r_3 r_4 =
 sel (!r_0)
  (
  some (((-1), ()), ()))
  (
  andK (α := ((Int × Unit) × ((Bool × (Int × (Int × (Int × (Int × Unit))))) × Unit))) (
   sel (decide (r_3 < r_1))
    (
    some (((r_1, ()), ((r_0, (r_1, (r_2, (r_3, (r_4, ()))))), ()))))
    (
    some (((r_3, ()), ((r_0, (r_1, (r_2, (r_3, (r_4, ()))))), ()))))) fun j1 =>
  sel (decide ((IntKind.i64.wrap (Int.tdiv (IntKind.i64.wrap (j1.1.1 * 9)) 8)) < 1))
   (
   some ((1, ()), ()))
   (
   some (((IntKind.i64.wrap (Int.tdiv (IntKind.i64.wrap (j1.1.1 * 9)) 8)), ()), ()))) := by kernel_rfl
set_option maxRecDepth 100000 in
theorem spec_l12Wait.say (N : Nat) : SayOk Try.prog (spec_l12Wait.S N) := sayOk_mk (N := N) (H := spec_l12Wait.H) (preps := [⟨[], [], [], []⟩]) (l := spec_l12Wait.says) (fn := Try.f78) (c := bodyOf Try.f78)
  (by kernel_rfl) (by kernel_rfl) (by kernel_rfl) (by kernel_rfl) (by kernel_rfl) (by kernel_rfl) (by kernel_rfl)
  (fun N => SayAll.nil) (fun a s => by kernel_rfl)

/-! ### loop.example/g00206/spec.TakeAck: function 25 -/
noncomputable def spec_TakeAck.H : Hints := hintsOf [(5000001, .join [⟨.normal, [1, 2, 3], [4, 8, 50], [.one (.ptr 0 0), .one (.ptr 1 0), ak_b], [.cells [ck_i, .sh (.rows (.pair (.int .i64) (.pair (.int .i64) (.int .i64)))), ck_b, ck_i, ck_i, ck_i, ck_i], .cells [ck_i, .nil, ck_b, ck_i, ck_i, ck_i, ck_i]], [⟨[], [], [], []⟩]⟩]),
  (5, .join [⟨.normal, [1, 2, 3], [4, 8], [.one (.ptr 0 0), .one (.ptr 1 0)], [.cells [ck_i, .sh (.rows (.pair (.int .i64) (.pair (.int .i64) (.int .i64)))), ck_b, ck_i, ck_i, ck_i, ck_i], .cells [ck_i, .nil, ck_b, ck_i, ck_i, ck_i, ck_i]], [⟨[], [], [], []⟩]⟩]),
  (15, .join [⟨.normal, [1, 2, 3, 13, 15, 65, 66, 67], [4, 8, 12, 14], [.one (.ptr 0 0), .one (.ptr 1 0), .one (.own 2), .one (.own 3)], [.cells [ck_i, .sh (.rows (.pair (.int .i64) (.pair (.int .i64) (.int .i64)))), ck_b, ck_i, ck_i, ck_i, ck_i], .cells [ck_i, .nil, ck_b, ck_i, ck_i, ck_i, ck_i], .rows (.int .i64), .rows (.pair (.int .i64) (.pair (.int .i64) (.int .i64)))], [⟨[], [], [], []⟩]⟩]),
  (2000008, .loop ⟨.normal, [1, 2, 3, 13, 15, 65, 66], [4, 8, 12, 14, 67], [.one (.ptr 0 0), .one (.ptr 1 0), .one (.own 2), .one (.own 3), ak_i], [.cells [ck_i, .sh (.rows (.pair (.int .i64) (.pair (.int .i64) (.int .i64)))), ck_b, ck_i, ck_i, ck_i, ck_i], .cells [ck_i, .nil, ck_b, ck_i, ck_i, ck_i, ck_i], .rows (.int .i64), .rows (.pair (.int .i64) (.pair (.int .i64) (.int .i64)))], [⟨[(12, (.int .i64)), (14, (.pair (.int .i64) (.pair (.int .i64) (.int .i64))))], [], [], [2, 3]⟩, ⟨[], [], [], [2, 3]⟩]⟩ [⟨(.exit 0), [2, 13, 15], [4, 8, 12, 14], [.one (.ptr 0 0), .one (.ptr 1 0), .one (.own 2), .one (.own 3)], [.cells [ck_i, .sh (.rows (.pair (.int .i64) (.pair (.int .i64) (.int .i64)))), ck_b, ck_i, ck_i, ck_i, ck_i], .cells [ck_i, .nil, ck_b, ck_i, ck_i, ck_i, ck_i], .rows (.int .i64), .rows (.pair (.int .i64) (.pair (.int .i64) (.int .i64)))], [⟨[], [], [], [2, 3]⟩]⟩]),
  (5000020, .join [⟨.normal, [2, 18, 106, 107], [4, 8, 12, 13, 15, 20, 105, 135], [.one (.ptr 0 0), .one (.ptr 1 0), .one (.own 2), .one (.own 4), .one (.own 5), .one (.ptr 6 0), .one (.own 3), ak_b], [.cells [ck_i, .sh (.rows (.pair (.int .i64) (.pair (.int .i64) (.int .i64)))), ck_b, ck_i, ck_i, ck_i, ck_i], .cells [ck_i, .nil, ck_b, ck_i, ck_i, ck_i, ck_i], .rows (.int .i64), .rows (.pair (.int .i64) (.pair (.int .i64) (.int .i64))), .rows (.int .i64), .rows (.pair (.int .i64) (.pair (.int .i64) (.int .i64))), .cells [ck_i, ck_i, ck_i]], [⟨[], [], [], []⟩]⟩]),
  (23, .join [⟨.normal, [2, 18, 106, 107], [4, 8, 12, 13, 15, 105], [.one (.ptr 0 0), .one (.ptr 1 0), .one (.own 2), .one (.own 4), .one (.own 5), .one (.own 3)], [.cells [ck_i, .sh (.rows (.pair (.int .i64) (.pair (.int .i64) (.int .i64)))), ck_b, ck_i, ck_i, ck_i, ck_i], .cells [ck_i, .nil, ck_b, ck_i, ck_i, ck_i, ck_i], .rows (.int .i64), .rows (.pair (.int .i64) (.pair (.int .i64) (.int .i64))), .rows (.int .i64), .rows (.pair (.int .i64) (.pair (.int .i64) (.int .i64)))], [⟨[], [], [], []⟩]⟩]),
  (2000018, .loop ⟨.normal, [2, 18, 106], [4, 8, 12, 13, 15, 105, 107], [.one (.ptr 0 0), .one (.ptr 1 0), .one (.own 2), .one (.own 4), .one (.own 5), .one (.own 3), ak_i], [.cells [ck_i, .sh (.rows (.pair (.int .i64) (.pair (.int .i64) (.int .i64)))), ck_b, ck_i, ck_i, ck_i, ck_i], .cells [ck_i, .nil, ck_b, ck_i, ck_i, ck_i, ck_i], .rows (.int .i64), .rows (.pair (.int .i64) (.pair (.int .i64) (.int .i64))), .rows (.int .i64), .rows (.pair (.int .i64) (.pair (.int .i64) (.int .i64)))], [⟨[(13, (.int .i64)), (15, (.pair (.int .i64) (.pair (.int .i64) (.int .i64))))], [], [], [4, 5]⟩, ⟨[], [], [], [4, 5]⟩]⟩ [⟨(.exit 2), [], [4, 8, 12, 13, 15], [.one (.ptr 0 0), .one (.ptr 1 0), .one (.own 2), .one (.own 4), .one (.own 5)], [.cells [ck_i, .sh (.rows (.pair (.int .i64) (.pair (.int .i64) (.int .i64)))), ck_b, ck_i, ck_i, ck_i, ck_i], .cells [ck_i, .nil, ck_b, ck_i, ck_i, ck_i, ck_i], .rows (.int .i64), .rows (.pair (.int .i64) (.pair (.int .i64) (.int .i64))), .rows (.int .i64), .rows (.pair (.int .i64) (.pair (.int .i64) (.int .i64)))], [⟨[], [], [], [4, 5]⟩]⟩])]
noncomputable def spec_TakeAck.says (N : Nat) : List Say := [spec_GoodSpace.S N, spec_l12Ranges.S N, spec_l12Tick.S N, spec_l12Last.S N, spec_l12Has.S N, spec_l12Sample.S N, spec_l12Wait.S N]
noncomputable def spec_TakeAck.call (N : Nat) : CallK := callBy (spec_TakeAck.says N)
noncomputable def spec_TakeAck.qt (N : Nat) : FuncId → List PV → Sig → Cl := qtBy (spec_TakeAck.says N)
noncomputable def spec_TakeAck.l0.hd : Alt := ⟨.normal, [1, 2, 3, 13, 15, 65, 66], [4, 8, 12, 14, 67], [.one (.ptr 0 0), .one (.ptr 1 0), .one (.own 2), .one (.own 3), ak_i], [.cells [ck_i, .sh (.rows (.pair (.int .i64) (.pair (.int .i64) (.int .i64)))), ck_b, ck_i, ck_i, ck_i, ck_i], .cells [ck_i, .nil, ck_b, ck_i, ck_i, ck_i, ck_i], .rows (.int .i64), .rows (.pair (.int .i64) (.pair (.int .i64) (.int .i64)))], [⟨[(12, (.int .i64)), (14, (.pair (.int .i64) (.pair (.int .i64) (.int .i64))))], [], [], [2, 3]⟩, ⟨[], [], [], [2, 3]⟩]⟩
noncomputable def spec_TakeAck.l0.outs : List Alt := [⟨(.exit 0), [2, 13, 15], [4, 8, 12, 14], [.one (.ptr 0 0), .one (.ptr 1 0), .one (.own 2), .one (.own 3)], [.cells [ck_i, .sh (.rows (.pair (.int .i64) (.pair (.int .i64) (.int .i64)))), ck_b, ck_i, ck_i, ck_i, ck_i], .cells [ck_i, .nil, ck_b, ck_i, ck_i, ck_i, ck_i], .rows (.int .i64), .rows (.pair (.int .i64) (.pair (.int .i64) (.int .i64)))], [⟨[], [], [], [2, 3]⟩]⟩]
noncomputable def spec_TakeAck.l0 (N : Nat) (o1 : (List (Int × Int))) (t1 : Int) (C1 : Int) (t65 : (List (Int × (Int × Int)))) (t66 : Int) (t67 : Int) (p0_0 : Int) (p0_1 : (List (Int × (Int × Int)))) (p0_2 : Bool) (p0_3 : Int) (p0_4 : Int) (p0_5 : Int) (p0_6 : Int) (p1_0 : Int) (p1_2 : Bool) (p1_3 : Int) (p1_4 : Int) (p1_5 : Int) (p1_6 : Int) (p2 : (List Int)) (p3 : (List (Int × (Int × Int)))) : Option ((Unit × (Unit × (Unit × (Unit × Unit)))) × ((Int × ((List (Int × (Int × Int))) × (Bool × (Int × (Int × (Int × (Int × Unit))))))) × ((Int × (Unit × (Bool × (Int × (Int × (Int × (Int × Unit))))))) × ((List Int) × ((List (Int × (Int × Int))) × Unit))))) :=
  loopK Try.prog spec_TakeAck.call spec_TakeAck.qt spec_TakeAck.H (codeAt (bodyOf Try.f25) [1, 1, 1, 1, 1, 0, 1, 0, 0]) 2 spec_TakeAck.l0.hd spec_TakeAck.l0.outs [(1, .rows false (.pair (.int .i64) (.int .i64)) o1), (2, .v (.int .i64 t1)), (3, .v (.int .i64 C1)), (13, .v (.slice none 0 0)), (15, .v (.slice none 0 0)), (65, .rows false (.pair (.int .i64) (.pair (.int .i64) (.int .i64))) t65), (66, .v (.int .i64 t66))] N (((), ((), ((), ((), (t67, ()))))), ((p0_0, (p0_1, (p0_2, (p0_3, (p0_4, (p0_5, (p0_6, ()))))))), ((p1_0, ((), (p1_2, (p1_3, (p1_4, (p1_5, (p1_6, ()))))))), (p2, (p3, ())))))
noncomputable def spec_TakeAck.l1.hd : Alt := ⟨.normal, [2, 18, 106], [4, 8, 12, 13, 15, 105, 107], [.one (.ptr 0 0), .one (.ptr 1 0), .one (.own 2), .one (.own 4), .one (.own 5), .one (.own 3), ak_i], [.cells [ck_i, .sh (.rows (.pair (.int .i64) (.pair (.int .i64) (.int .i64)))), ck_b, ck_i, ck_i, ck_i, ck_i], .cells [ck_i, .nil, ck_b, ck_i, ck_i, ck_i, ck_i], .rows (.int .i64), .rows (.pair (.int .i64) (.pair (.int .i64) (.int .i64))), .rows (.int .i64), .rows (.pair (.int .i64) (.pair (.int .i64) (.int .i64)))], [⟨[(13, (.int .i64)), (15, (.pair (.int .i64) (.pair (.int .i64) (.int .i64))))], [], [], [4, 5]⟩, ⟨[], [], [], [4, 5]⟩]⟩
noncomputable def spec_TakeAck.l1.outs : List Alt := [⟨(.exit 2), [], [4, 8, 12, 13, 15], [.one (.ptr 0 0), .one (.ptr 1 0), .one (.own 2), .one (.own 4), .one (.own 5)], [.cells [ck_i, .sh (.rows (.pair (.int .i64) (.pair (.int .i64) (.int .i64)))), ck_b, ck_i, ck_i, ck_i, ck_i], .cells [ck_i, .nil, ck_b, ck_i, ck_i, ck_i, ck_i], .rows (.int .i64), .rows (.pair (.int .i64) (.pair (.int .i64) (.int .i64))), .rows (.int .i64), .rows (.pair (.int .i64) (.pair (.int .i64) (.int .i64)))], [⟨[], [], [], [4, 5]⟩]⟩]
noncomputable def spec_TakeAck.l1 (N : Nat) (t2 : Int) (t18 : Int) (t106 : Int) (t107 : Int) (p0_01 : Int) (p0_11 : (List (Int × (Int × Int)))) (p0_21 : Bool) (p0_31 : Int) (p0_41 : Int) (p0_51 : Int) (p0_61 : Int) (p1_01 : Int) (p1_21 : Bool) (p1_31 : Int) (p1_41 : Int) (p1_51 : Int) (p1_61 : Int) (p21 : (List Int)) (p31 : (List (Int × (Int × Int)))) (p4 : (List Int)) (p5 : (List (Int × (Int × Int)))) : Option ((Unit × (Unit × (Unit × (Unit × (Unit × Unit))))) × ((Int × ((List (Int × (Int × Int))) × (Bool × (Int × (Int × (Int × (Int × Unit))))))) × ((Int × (Unit × (Bool × (Int × (Int × (Int × (Int × Unit))))))) × ((List Int) × ((List (Int × (Int × Int))) × ((List Int) × ((List (Int × (Int × Int))) × Unit))))))) :=
  loopK Try.prog spec_TakeAck.call spec_TakeAck.qt spec_TakeAck.H (codeAt (bodyOf Try.f25) [1, 1, 1, 1, 1, 1, 1, 0, 1, 0, 0]) 4 spec_TakeAck.l1.hd spec_TakeAck.l1.outs [(2, .v (.int .i64 t2)), (18, .v (.int .i64 t18)), (106, .v (.int .i64 t106))] N (((), ((), ((), ((), ((), ((), (t107, ()))))))), ((p0_01, (p0_11, (p0_21, (p0_31, (p0_41, (p0_51, (p0_61, ()))))))), ((p1_01, ((), (p1_21, (p1_31, (p1_41, (p1_51, (p1_61, ()))))))), (p21, (p31, (p4, (p5, ())))))))
noncomputable def spec_TakeAck (N : Nat) (G_0 : Int) (G_1 : (List (Int × (Int × Int)))) (G_2 : Bool) (G_3 : Int) (G_4 : Int) (G_5 : Int) (G_6 : Int) (o : (List (Int × Int))) (t : Int) (C : Int) : Option (((Int × (Unit × (Bool × (Int × (Int × (Int × (Int × Unit))))))) × (Unit × (Unit × (Bool × Unit)))) × ((List (Int × (Int × Int))) × ((List Int) × ((List Int) × Unit)))) :=
  ofFn Try.prog spec_TakeAck.call spec_TakeAck.qt spec_TakeAck.H N Try.f25 [.agg [ck_i, .sh (.rows (.pair (.int .i64) (.pair (.int .i64) (.int .i64)))), ck_b, ck_i, ck_i, ck_i, ck_i], .one (.sh (.rows (.pair (.int .i64) (.int .i64)))), ak_i, ak_i] [] [.agg [ck_i, .own 0, ck_b, ck_i, ck_i, ck_i, ck_i], .one (.own 1), .one (.own 2), ak_b] [.rows (.pair (.int .i64) (.pair (.int .i64) (.int .i64))), .rows (.int .i64), .rows (.int .i64)] [⟨[(1, (.int .i64)), (2, (.int .i64))], [(1000000, (1, (.pair (.int .i64) (.pair (.int .i64) (.int .i64)))))], [], [4, 2, 3]⟩, ⟨[], [], [], [5, 2, 4]⟩] ((G_0, (G_1, (G_2, (G_3, (G_4, (G_5, (G_6, ()))))))), (o, (t, (C, ())))) ()
noncomputable def spec_TakeAck.S (N : Nat) : Say := ⟨false, 25, [.agg [ck_i, .sh (.rows (.pair (.int .i64) (.pair (.int .i64) (.int .i64)))), ck_b, ck_i, ck_i, ck_i, ck_i], .one (.sh (.rows (.pair (.int .i64) (.int .i64)))), ak_i, ak_i], [], [.agg [ck_i, .own 0, ck_b, ck_i, ck_i, ck_i, ck_i], .one (.own 1), .one (.own 2), ak_b], [.rows (.pair (.int .i64) (.pair (.int .i64) (.int .i64))), .rows (.int .i64), .rows (.int .i64)], fun a s => spec_TakeAck N a.1.1 a.1.2.1 a.1.2.2.1 a.1.2.2.2.1 a.1.2.2.2.2.1 a.1.2.2.2.2.2.1 a.1.2.2.2.2.2.2.1 a.2.1 a.2.2.1 a.2.2.2.1⟩
set_option maxRecDepth 100000 in
theorem spec_TakeAck.l1.eq (N : Nat) (t2 : Int) (t18 : Int) (t106 : Int) (t107 : Int) (p0_01 : Int) (p0_11 : (List (Int × (Int × Int)))) (p0_21 : Bool) (p0_31 : Int) (p0_41 : Int) (p0_51 : Int) (p0_61 : Int) (p1_01 : Int) (p1_21 : Bool) (p1_31 : Int) (p1_41 : Int) (p1_51 : Int) (p1_61 : Int) (p21 : (List Int)) (p31 : (List (Int × (Int × Int)))) (p4 : (List Int)) (p5 : (List (Int × (Int × Int)))) : spec_TakeAck.l1 (N + 1) t2 t18 t106 t107 p0_01 p0_11 p0_21 p0_31 p0_41 p0_51 p0_61 p1_01 p1_21 p1_31 p1_41 p1_51 p1_61 p21 p31 p4 p5 =
 sel (decide (t107 < t106))
  (
  andK (α := ((Unit × (Unit × (Unit × (Unit × (Unit × (Unit × Unit)))))) × ((Int × ((List (Int × (Int × Int))) × (Bool × (Int × (Int × (Int × (Int × Unit))))))) × ((Int × (Unit × (Bool × (Int × (Int × (Int × (Int × Unit))))))) × ((List Int) × ((List (Int × (Int × Int))) × ((List Int) × ((List (Int × (Int × Int))) × Unit)))))))) (
   chk ((decide (0 ≤ t107)) && (decide (t107 < (p31.length : Int)))) (
   andK (α := ((Unit × (Unit × (Unit × (Unit × (Unit × (Unit × (Unit × (Bool × Unit)))))))) × ((Int × ((List (Int × (Int × Int))) × (Bool × (Int × (Int × (Int × (Int × Unit))))))) × ((Int × (Unit × (Bool × (Int × (Int × (Int × (Int × Unit))))))) × ((List Int) × ((List (Int × (Int × Int))) × ((List Int) × ((List (Int × (Int × Int))) × ((Int × (Int × (Int × Unit))) × Unit))))))))) (
    sel (decide ((rdS (.pair (.int .i64) (.pair (.int .i64) (.int .i64))) p31 (Int.toNat t107)).1 < p0_01))
     (
     sel (decide ((rdS (.pair (.int .i64) (.pair (.int .i64) (.int .i64))) p31 (Int.toNat t107)).1 ≤ (IntKind.i64.wrap (p0_01 - 3))))
      (
      some ((((), ((), ((), ((), ((), ((), ((), (true, ())))))))), ((p0_01, (p0_11, (p0_21, (p0_31, (p0_41, (p0_51, (p0_61, ()))))))), ((p1_01, ((), (p1_21, (p1_31, (p1_41, (p1_51, (p1_61, ()))))))), (p21, (p31, (p4, (p5, (((rdS (.pair (.int .i64) (.pair (.int .i64) (.int .i64))) p31 (Int.toNat t107)).1, ((rdS (.pair (.int .i64) (.pair (.int .i64) (.int .i64))) p31 (Int.toNat t107)).2.1, ((rdS (.pair (.int .i64) (.pair (.int .i64) (.int .i64))) p31 (Int.toNat t107)).2.2, ()))), ()))))))))))
      (
      sel (decide (0 ≤ t18))
       (
       some ((((), ((), ((), ((), ((), ((), ((), ((decide ((rdS (.pair (.int .i64) (.pair (.int .i64) (.int .i64))) p31 (Int.toNat t107)).2.1 ≤ (IntKind.i64.wrap (t2 - t18)))), ())))))))), ((p0_01, (p0_11, (p0_21, (p0_31, (p0_41, (p0_51, (p0_61, ()))))))), ((p1_01, ((), (p1_21, (p1_31, (p1_41, (p1_51, (p1_61, ()))))))), (p21, (p31, (p4, (p5, (((rdS (.pair (.int .i64) (.pair (.int .i64) (.int .i64))) p31 (Int.toNat t107)).1, ((rdS (.pair (.int .i64) (.pair (.int .i64) (.int .i64))) p31 (Int.toNat t107)).2.1, ((rdS (.pair (.int .i64) (.pair (.int .i64) (.int .i64))) p31 (Int.toNat t107)).2.2, ()))), ()))))))))))
       (
       some ((((), ((), ((), ((), ((), ((), ((), (false, ())))))))), ((p0_01, (p0_11, (p0_21, (p0_31, (p0_41, (p0_51, (p0_61, ()))))))), ((p1_01, ((), (p1_21, (p1_31, (p1_41, (p1_51, (p1_61, ()))))))), (p21, (p31, (p4, (p5, (((rdS (.pair (.int .i64) (.pair (.int .i64) (.int .i64))) p31 (Int.toNat t107)).1, ((rdS (.pair (.int .i64) (.pair (.int .i64) (.int .i64))) p31 (Int.toNat t107)).2.1, ((rdS (.pair (.int .i64) (.pair (.int .i64) (.int .i64))) p31 (Int.toNat t107)).2.2, ()))), ()))))))))))))
     (
     some ((((), ((), ((), ((), ((), ((), ((), (false, ())))))))), ((p0_01, (p0_11, (p0_21, (p0_31, (p0_41, (p0_51, (p0_61, ()))))))), ((p1_01, ((), (p1_21, (p1_31, (p1_41, (p1_51, (p1_61, ()))))))), (p21, (p31, (p4, (p5, (((rdS (.pair (.int .i64) (.pair (.int .i64) (.int .i64))) p31 (Int.toNat t107)).1, ((rdS (.pair (.int .i64) (.pair (.int .i64) (.int .i64))) p31 (Int.toNat t107)).2.1, ((rdS (.pair (.int .i64) (.pair (.int .i64) (.int .i64))) p31 (Int.toNat t107)).2.2, ()))), ()))))))))))) fun j13 =>
   sel j13.1.2.2.2.2.2.2.2.1
    (
    chk (decide (j13.2.2.2.2.2.1.length + 1 < most)) (
    some ((((), ((), ((), ((), ((), ((), ())))))), (j13.2.1, ((j13.2.2.1.1, ((), (j13.2.2.1.2.2.1, (j13.2.2.1.2.2.2.1, (j13.2.2.1.2.2.2.2.1, (j13.2.2.1.2.2.2.2.2.1, (j13.2.2.1.2.2.2.2.2.2.1, ()))))))), (j13.2.2.2.1, (j13.2.2.2.2.1, ((j13.2.2.2.2.2.1 ++ [j13.2.2.2.2.2.2.2.1.1]), (j13.2.2.2.2.2.2.1, ()))))))))))
    (
    chk (decide (j13.2.2.2.2.2.2.1.length + 1 < most)) (
    some ((((), ((), ((), ((), ((), ((), ())))))), (j13.2.1, ((j13.2.2.1.1, ((), (j13.2.2.1.2.2.1, (j13.2.2.1.2.2.2.1, (j13.2.2.1.2.2.2.2.1, (j13.2.2.1.2.2.2.2.2.1, (j13.2.2.1.2.2.2.2.2.2.1, ()))))))), (j13.2.2.2.1, (j13.2.2.2.2.1, (j13.2.2.2.2.2.1, ((j13.2.2.2.2.2.2.1 ++ [(j13.2.2.2.2.2.2.2.1.1, (j13.2.2.2.2.2.2.2.1.2.1, j13.2.2.2.2.2.2.2.1.2.2.1))]), ())))))))))))) fun j14 =>
  spec_TakeAck.l1 N t2 t18 t106 (IntKind.i64.wrap (t107 + 1)) j14.2.1.1 j14.2.1.2.1 j14.2.1.2.2.1 j14.2.1.2.2.2.1 j14.2.1.2.2.2.2.1 j14.2.1.2.2.2.2.2.1 j14.2.1.2.2.2.2.2.2.1 j14.2.2.1.1 j14.2.2.1.2.2.1 j14.2.2.1.2.2.2.1 j14.2.2.1.2.2.2.2.1 j14.2.2.1.2.2.2.2.2.1 j14.2.2.1.2.2.2.2.2.2.1 j14.2.2.2.1 j14.2.2.2.2.1 j14.2.2.2.2.2.1 j14.2.2.2.2.2.2.1)
  (
  some ((((), ((), ((), ((), ((), ()))))), ((p0_01, (p0_11, (p0_21, (p0_31, (p0_41, (p0_51, (p0_61, ()))))))), ((p1_01, ((), (p1_21, (p1_31, (p1_41, (p1_51, (p1_61, ()))))))), (p21, (p31, (p4, (p5, ()))))))))) := by kernel_rfl
set_option maxRecDepth 100000 in
theorem spec_TakeAck.l0.eq (N : Nat) (o1 : (List (Int × Int))) (t1 : Int) (C1 : Int) (t65 : (List (Int × (Int × Int)))) (t66 : Int) (t67 : Int) (p0_0 : Int) (p0_1 : (List (Int × (Int × Int)))) (p0_2 : Bool) (p0_3 : Int) (p0_4 : Int) (p0_5 : Int) (p0_6 : Int) (p1_0 : Int) (p1_2 : Bool) (p1_3 : Int) (p1_4 : Int) (p1_5 : Int) (p1_6 : Int) (p2 : (List Int)) (p3 : (List (Int × (Int × Int)))) : spec_TakeAck.l0 (N + 1) o1 t1 C1 t65 t66 t67 p0_0 p0_1 p0_2 p0_3 p0_4 p0_5 p0_6 p1_0 p1_2 p1_3 p1_4 p1_5 p1_6 p2 p3 =
 sel (decide (t67 < t66))
  (
  andK (α := ((Unit × (Unit × (Unit × (Unit × Unit)))) × ((Int × ((List (Int × (Int × Int))) × (Bool × (Int × (Int × (Int × (Int × Unit))))))) × ((Int × (Unit × (Bool × (Int × (Int × (Int × (Int × Unit))))))) × ((List Int) × ((List (Int × (Int × Int))) × Unit)))))) (
   chk ((decide (0 ≤ t67)) && (decide (t67 < (t65.length : Int)))) (
   andK (spec_l12Has N o1 (rdS (.pair (.int .i64) (.pair (.int .i64) (.int .i64))) t65 (Int.toNat t67)).1) fun u8 =>
   sel (!u8.1.1)
    (
    chk (decide (p3.length + 1 < most)) (
    some ((((), ((), ((), ((), ())))), ((p0_0, (p0_1, (p0_2, (p0_3, (p0_4, (p0_5, (p0_6, ()))))))), ((p1_0, ((), (p1_2, (p1_3, (p1_4, (p1_5, (p1_6, ()))))))), (p2, ((p3 ++ [((rdS (.pair (.int .i64) (.pair (.int .i64) (.int .i64))) t65 (Int.toNat t67)).1, ((rdS (.pair (.int .i64) (.pair (.int .i64) (.int .i64))) t65 (Int.toNat t67)).2.1, (rdS (.pair (.int .i64) (.pair (.int .i64) (.int .i64))) t65 (Int.toNat t67)).2.2))]), ()))))))))
    (
    chk (decide (p2.length + 1 < most)) (
    chk (decide (0 < (o1.length : Int))) (
    sel (decide ((rdS (.pair (.int .i64) (.pair (.int .i64) (.int .i64))) t65 (Int.toNat t67)).1 = (rdS (.pair (.int .i64) (.int .i64)) o1 0).2))
     (
     andK (spec_l12Sample N p0_2 p0_3 p0_4 p0_5 p0_6 (IntKind.i64.wrap (t1 - (rdS (.pair (.int .i64) (.pair (.int .i64) (.int .i64))) t65 (Int.toNat t67)).2.1)) C1) fun u9 =>
     some ((((), ((), ((), ((), ())))), ((p0_0, (p0_1, (u9.1.1.1, (u9.1.1.2.1, (u9.1.1.2.2.1, (u9.1.1.2.2.2.1, (u9.1.1.2.2.2.2.1, ()))))))), ((p1_0, ((), (p1_2, (p1_3, (p1_4, (p1_5, (p1_6, ()))))))), ((p2 ++ [(rdS (.pair (.int .i64) (.pair (.int .i64) (.int .i64))) t65 (Int.toNat t67)).1]), (p3, ())))))))
     (
     some ((((), ((), ((), ((), ())))), ((p0_0, (p0_1, (p0_2, (p0_3, (p0_4, (p0_5, (p0_6, ()))))))), ((p1_0, ((), (p1_2, (p1_3, (p1_4, (p1_5, (p1_6, ()))))))), ((p2 ++ [(rdS (.pair (.int .i64) (.pair (.int .i64) (.int .i64))) t65 (Int.toNat t67)).1]), (p3, ())))))))))))) fun j10 =>
  spec_TakeAck.l0 N o1 t1 C1 t65 t66 (IntKind.i64.wrap (t67 + 1)) j10.2.1.1 j10.2.1.2.1 j10.2.1.2.2.1 j10.2.1.2.2.2.1 j10.2.1.2.2.2.2.1 j10.2.1.2.2.2.2.2.1 j10.2.1.2.2.2.2.2.2.1 j10.2.2.1.1 j10.2.2.1.2.2.1 j10.2.2.1.2.2.2.1 j10.2.2.1.2.2.2.2.1 j10.2.2.1.2.2.2.2.2.1 j10.2.2.1.2.2.2.2.2.2.1 j10.2.2.2.1 j10.2.2.2.2.1)
  (
  some ((((), ((), ((), ((), ())))), ((p0_0, (p0_1, (p0_2, (p0_3, (p0_4, (p0_5, (p0_6, ()))))))), ((p1_0, ((), (p1_2, (p1_3, (p1_4, (p1_5, (p1_6, ()))))))), (p2, (p3, ()))))))) := by kernel_rfl
set_option maxRecDepth 100000 in
theorem spec_TakeAck.eq (N : Nat) (G_0 : Int) (G_1 : (List (Int × (Int × Int)))) (G_2 : Bool) (G_3 : Int) (G_4 : Int) (G_5 : Int) (G_6 : Int) (o : (List (Int × Int))) (t : Int) (C : Int) : spec_TakeAck N G_0 G_1 G_2 G_3 G_4 G_5 G_6 o t C =
 andK (α := ((Unit × (Unit × (Bool × Unit))) × ((Int × ((List (Int × (Int × Int))) × (Bool × (Int × (Int × (Int × (Int × Unit))))))) × ((Int × (Unit × (Bool × (Int × (Int × (Int × (Int × Unit))))))) × Unit)))) (
  andK (spec_GoodSpace N G_0 G_1 G_2 G_3 G_4 G_5 G_6) fun u1 =>
  sel (!u1.1.1)
   (
   some ((((), ((), (true, ()))), ((G_0, (G_1, (G_2, (G_3, (G_4, (G_5, (G_6, ()))))))), ((0, ((), (false, (0, (0, (0, (0, ()))))))), ())))))
   (
   andK (spec_l12Ranges N o) fun u2 =>
   sel (!u2.1.1)
    (
    some ((((), ((), (true, ()))), ((G_0, (G_1, (G_2, (G_3, (G_4, (G_5, (G_6, ()))))))), ((0, ((), (false, (0, (0, (0, (0, ()))))))), ())))))
    (
    sel (decide ((o.length : Int) = 0))
     (
     some ((((), ((), (true, ()))), ((G_0, (G_1, (G_2, (G_3, (G_4, (G_5, (G_6, ()))))))), ((0, ((), (false, (0, (0, (0, (0, ()))))))), ())))))
     (
     andK (spec_l12Tick N t) fun u3 =>
     sel (!u3.1.1)
      (
      some ((((), ((), (true, ()))), ((G_0, (G_1, (G_2, (G_3, (G_4, (G_5, (G_6, ()))))))), ((0, ((), (false, (0, (0, (0, (0, ()))))))), ())))))
      (
      andK (spec_l12Last N G_0 G_1 G_2 G_3 G_4 G_5 G_6) fun u4 =>
      sel (decide (t < u4.1.1.2.1))
       (
       some ((((), ((), (true, ()))), ((G_0, (G_1, (G_2, (G_3, (G_4, (G_5, (G_6, ()))))))), ((0, ((), (false, (0, (0, (0, (0, ()))))))), ())))))
       (
       andK (spec_l12Tick N C) fun u5 =>
       some ((((), ((), ((!u5.1.1), ()))), ((G_0, (G_1, (G_2, (G_3, (G_4, (G_5, (G_6, ()))))))), ((0, ((), (false, (0, (0, (0, (0, ()))))))), ())))))))))) fun j6 =>
 sel j6.1.2.2.1
  (
  some (((0, ((), (false, (0, (0, (0, (0, ()))))))), ((), ((), (false, ())))), ([], ([], ([], ())))))
  (
  andK (α := ((Unit × (Unit × Unit)) × ((Int × ((List (Int × (Int × Int))) × (Bool × (Int × (Int × (Int × (Int × Unit))))))) × ((Int × (Unit × (Bool × (Int × (Int × (Int × (Int × Unit))))))) × Unit)))) (
   chk (decide (0 < (o.length : Int))) (
   sel (decide (j6.2.1.1 < (rdS (.pair (.int .i64) (.int .i64)) o 0).2))
    (
    chk (decide (0 < (o.length : Int))) (
    some ((((), ((), ())), (((rdS (.pair (.int .i64) (.int .i64)) o 0).2, (j6.2.1.2.1, (j6.2.1.2.2.1, (j6.2.1.2.2.2.1, (j6.2.1.2.2.2.2.1, (j6.2.1.2.2.2.2.2.1, (j6.2.1.2.2.2.2.2.2.1, ()))))))), ((j6.2.2.1.1, ((), (j6.2.2.1.2.2.1, (j6.2.2.1.2.2.2.1, (j6.2.2.1.2.2.2.2.1, (j6.2.2.1.2.2.2.2.2.1, (j6.2.2.1.2.2.2.2.2.2.1, ()))))))), ()))))))
    (
    some ((((), ((), ())), (j6.2.1, ((j6.2.2.1.1, ((), (j6.2.2.1.2.2.1, (j6.2.2.1.2.2.2.1, (j6.2.2.1.2.2.2.2.1, (j6.2.2.1.2.2.2.2.2.1, (j6.2.2.1.2.2.2.2.2.2.1, ()))))))), ()))))))) fun j7 =>
  andK (spec_TakeAck.l0 N o t C j7.2.1.2.1 (j7.2.1.2.1.length : Int) 0 j7.2.1.1 j7.2.1.2.1 j7.2.1.2.2.1 j7.2.1.2.2.2.1 j7.2.1.2.2.2.2.1 j7.2.1.2.2.2.2.2.1 j7.2.1.2.2.2.2.2.2.1 j7.2.2.1.1 j7.2.2.1.2.2.1 j7.2.2.1.2.2.2.1 j7.2.2.1.2.2.2.2.1 j7.2.2.1.2.2.2.2.2.1 j7.2.2.1.2.2.2.2.2.2.1 [] []) fun l11 =>
  andK (spec_l12Wait N l11.2.1.2.2.1 l11.2.1.2.2.2.1 l11.2.1.2.2.2.2.1 l11.2.1.2.2.2.2.2.1 l11.2.1.2.2.2.2.2.2.1) fun u12 =>
  andK (spec_TakeAck.l1 N t u12.1.1 (l11.2.2.2.2.1.length : Int) 0 l11.2.1.1 l11.2.1.2.1 l11.2.1.2.2.1 l11.2.1.2.2.2.1 l11.2.1.2.2.2.2.1 l11.2.1.2.2.2.2.2.1 l11.2.1.2.2.2.2.2.2.1 l11.2.2.1.1 l11.2.2.1.2.2.1 l11.2.2.1.2.2.2.1 l11.2.2.1.2.2.2.2.1 l11.2.2.1.2.2.2.2.2.1 l11.2.2.1.2.2.2.2.2.2.1 l11.2.2.2.1 l11.2.2.2.2.1 [] []) fun l15 =>
  some (((l15.2.1.1, ((), (l15.2.1.2.2.1, (l15.2.1.2.2.2.1, (l15.2.1.2.2.2.2.1, (l15.2.1.2.2.2.2.2.1, (l15.2.1.2.2.2.2.2.2.1, ()))))))), ((), ((), (true, ())))), (l15.2.2.2.2.2.2.1, (l15.2.2.2.1, (l15.2.2.2.2.2.1, ()))))) := by kernel_rfl
set_option maxRecDepth 100000 in
theorem spec_TakeAck.say (N : Nat) : SayOk Try.prog (spec_TakeAck.S N) := sayOk_mk (N := N) (H := spec_TakeAck.H) (preps := [⟨[(1, (.int .i64)), (2, (.int .i64))], [(1000000, (1, (.pair (.int .i64) (.pair (.int .i64) (.int .i64)))))], [], [4, 2, 3]⟩, ⟨[], [], [], [5, 2, 4]⟩]) (l := spec_TakeAck.says) (fn := Try.f25) (c := bodyOf Try.f25)
  (by kernel_rfl) (by kernel_rfl) (by kernel_rfl) (by kernel_rfl) (by kernel_rfl) (by kernel_rfl) (by kernel_rfl)
  (fun N => SayAll.cons (spec_GoodSpace.say N) (SayAll.cons (spec_l12Ranges.say N) (SayAll.cons (spec_l12Tick.say N) (SayAll.cons (spec_l12Last.say N) (SayAll.cons (spec_l12Has.say N) (SayAll.cons (spec_l12Sample.say N) (SayAll.cons (spec_l12Wait.say N) (SayAll.nil)))))))) (fun a s => by kernel_rfl)
noncomputable def spec_TakeAck.SB (N : Nat) : Say := spec_TakeAck.S N |>.lent
theorem spec_TakeAck.sayB (N : Nat) : SayOk Try.prog (spec_TakeAck.SB N) := (spec_TakeAck.say N).lent

/-! ### loop.example/g00206/spec.SendNumber: function 123 -/
noncomputable def spec_SendNumber.H : Hints := hintsOf [(5000002, .join [⟨.normal, [], [2, 3, 4, 38], [.one (.ptr 0 0), .one (.ptr 1 0), .one (.ptr 2 0), ak_b], [.cells [ck_i, .sh (.rows (.pair (.int .i64) (.pair (.int .i64) (.int .i64)))), ck_b, ck_i, ck_i, ck_i, ck_i], .cells [ck_i, ck_i, ck_i], .cells [ck_i, .nil, ck_b, ck_i, ck_i, ck_i, ck_i], .cells [ck_i, ck_i, ck_i]], [⟨[], [], [], []⟩]⟩])]
noncomputable def spec_SendNumber.says (N : Nat) : List Say := [spec_l12Last.S N, spec_GoodSpace.S N, spec_GoodSpace.SB N]
noncomputable def spec_SendNumber.call (N : Nat) : CallK := callBy (spec_SendNumber.says N)
noncomputable def spec_SendNumber.qt (N : Nat) : FuncId → List PV → Sig → Cl := qtBy (spec_SendNumber.says N)
noncomputable def spec_SendNumber (N : Nat) (s_0 : Int) (s_1 : (List (Int × (Int × Int)))) (s_2 : Bool) (s_3 : Int) (s_4 : Int) (s_5 : Int) (s_6 : Int) (x_0 : Int) (x_1 : Int) (x_2 : Int) : Option (((Int × (Unit × (Bool × (Int × (Int × (Int × (Int × Unit))))))) × (Bool × Unit)) × ((List (Int × (Int × Int))) × Unit)) :=
  ofFn Try.prog spec_SendNumber.call spec_SendNumber.qt spec_SendNumber.H N Try.f123 [.agg [ck_i, .sh (.rows (.pair (.int .i64) (.pair (.int .i64) (.int .i64)))), ck_b, ck_i, ck_i, ck_i, ck_i], .agg [ck_i, ck_i, ck_i]] [] [.agg [ck_i, .own 0, ck_b, ck_i, ck_i, ck_i, ck_i], ak_b] [.rows (.pair (.int .i64) (.pair (.int .i64) (.int .i64)))] [⟨[], [(1000000, (1, (.pair (.int .i64) (.pair (.int .i64) (.int .i64)))))], [], [4]⟩, ⟨[], [(1000000, (1, (.pair (.int .i64) (.pair (.int .i64) (.int .i64)))))], [], [5]⟩, ⟨[], [], [], [4]⟩] ((s_0, (s_1, (s_2, (s_3, (s_4, (s_5, (s_6, ()))))))), ((x_0, (x_1, (x_2, ()))), ())) ()
noncomputable def spec_SendNumber.S (N : Nat) : Say := ⟨false, 123, [.agg [ck_i, .sh (.rows (.pair (.int .i64) (.pair (.int .i64) (.int .i64)))), ck_b, ck_i, ck_i, ck_i, ck_i], .agg [ck_i, ck_i, ck_i]], [], [.agg [ck_i, .own 0, ck_b, ck_i, ck_i, ck_i, ck_i], ak_b], [.rows (.pair (.int .i64) (.pair (.int .i64) (.int .i64)))], fun a s => spec_SendNumber N a.1.1 a.1.2.1 a.1.2.2.1 a.1.2.2.2.1 a.1.2.2.2.2.1 a.1.2.2.2.2.2.1 a.1.2.2.2.2.2.2.1 a.2.1.1 a.2.1.2.1 a.2.1.2.2.1⟩
set_option maxRecDepth 100000 in
theorem spec_SendNumber.eq (N : Nat) (s_0 : Int) (s_1 : (List (Int × (Int × Int)))) (s_2 : Bool) (s_3 : Int) (s_4 : Int) (s_5 : Int) (s_6 : Int) (x_0 : Int) (x_1 : Int) (x_2 : Int) : spec_SendNumber N s_0 s_1 s_2 s_3 s_4 s_5 s_6 x_0 x_1 x_2 =
 andK (spec_l12Last N s_0 s_1 s_2 s_3 s_4 s_5 s_6) fun u1 =>
 andK (α := ((Unit × (Unit × (Unit × (Bool × Unit)))) × ((Int × ((List (Int × (Int × Int))) × (Bool × (Int × (Int × (Int × (Int × Unit))))))) × ((Int × (Int × (Int × Unit))) × ((Int × (Unit × (Bool × (Int × (Int × (Int × (Int × Unit))))))) × ((Int × (Int × (Int × Unit))) × Unit)))))) (
  andK (spec_GoodSpace N s_0 s_1 s_2 s_3 s_4 s_5 s_6) fun u2 =>
  sel (!u2.1.1)
   (
   some ((((), ((), ((), (true, ())))), ((s_0, (s_1, (s_2, (s_3, (s_4, (s_5, (s_6, ()))))))), ((x_0, (x_1, (x_2, ()))), ((0, ((), (false, (0, (0, (0, (0, ()))))))), (u1.1.1, ())))))))
   (
   sel (decide ((s_1.length : Int) = 60))
    (
    some ((((), ((), ((), (true, ())))), ((s_0, (s_1, (s_2, (s_3, (s_4, (s_5, (s_6, ()))))))), ((x_0, (x_1, (x_2, ()))), ((0, ((), (false, (0, (0, (0, (0, ()))))))), (u1.1.1, ())))))))
    (
    sel (decide (x_0 ≤ u1.1.1.1))
     (
     some ((((), ((), ((), (true, ())))), ((s_0, (s_1, (s_2, (s_3, (s_4, (s_5, (s_6, ()))))))), ((x_0, (x_1, (x_2, ()))), ((0, ((), (false, (0, (0, (0, (0, ()))))))), (u1.1.1, ())))))))
     (
     sel (decide (x_0 ≤ s_0))
      (
      some ((((), ((), ((), (true, ())))), ((s_0, (s_1, (s_2, (s_3, (s_4, (s_5, (s_6, ()))))))), ((x_0, (x_1, (x_2, ()))), ((0, ((), (false, (0, (0, (0, (0, ()))))))), (u1.1.1, ())))))))
      (
      some ((((), ((), ((), ((decide (x_1 < u1.1.1.2.1)), ())))), ((s_0, (s_1, (s_2, (s_3, (s_4, (s_5, (s_6, ()))))))), ((x_0, (x_1, (x_2, ()))), ((0, ((), (false, (0, (0, (0, (0, ()))))))), (u1.1.1, ()))))))))))) fun j3 =>
 sel j3.1.2.2.2.1
  (
  some (((0, ((), (false, (0, (0, (0, (0, ()))))))), (false, ())), ([], ())))
  (
  chk (decide (j3.2.1.2.1.length < most)) (
  chk (decide (j3.2.1.2.1.length + 1 < most)) (
  andK (spec_GoodSpace N j3.2.1.1 (j3.2.1.2.1 ++ [(j3.2.2.1.1, (j3.2.2.1.2.1, j3.2.2.1.2.2.1))]) j3.2.1.2.2.1 j3.2.1.2.2.2.1 j3.2.1.2.2.2.2.1 j3.2.1.2.2.2.2.2.1 j3.2.1.2.2.2.2.2.2.1) fun u4 =>
  sel (!u4.1.1)
   (
   some (((0, ((), (false, (0, (0, (0, (0, ()))))))), (false, ())), ([], ())))
   (
   some (((j3.2.1.1, ((), (j3.2.1.2.2.1, (j3.2.1.2.2.2.1, (j3.2.1.2.2.2.2.1, (j3.2.1.2.2.2.2.2.1, (j3.2.1.2.2.2.2.2.2.1, ()))))))), (true, ())), ((j3.2.1.2.1 ++ [(j3.2.2.1.1, (j3.2.2.1.2.1, j3.2.2.1.2.2.1))]), ())))))) := by kernel_rfl
set_option maxRecDepth 100000 in
theorem spec_SendNumber.say (N : Nat) : SayOk Try.prog (spec_SendNumber.S N) := sayOk_mk (N := N) (H := spec_SendNumber.H) (preps := [⟨[], [(1000000, (1, (.pair (.int .i64) (.pair (.int .i64) (.int .i64)))))], [], [4]⟩, ⟨[], [(1000000, (1, (.pair (.int .i64) (.pair (.int .i64) (.int .i64)))))], [], [5]⟩, ⟨[], [], [], [4]⟩]) (l := spec_SendNumber.says) (fn := Try.f123) (c := bodyOf Try.f123)
  (by kernel_rfl) (by kernel_rfl) (by kernel_rfl) (by kernel_rfl) (by kernel_rfl) (by kernel_rfl) (by kernel_rfl)
  (fun N => SayAll.cons (spec_l12Last.say N) (SayAll.cons (spec_GoodSpace.say N) (SayAll.cons (spec_GoodSpace.sayB N) (SayAll.nil)))) (fun a s => by kernel_rfl)
noncomputable def spec_SendNumber.SB (N : Nat) : Say := spec_SendNumber.S N |>.lent
theorem spec_SendNumber.sayB (N : Nat) : SayOk Try.prog (spec_SendNumber.SB N) := (spec_SendNumber.say N).lent

/-! ### (*loop.example/g00206/spec.l1Cur).among: function 81 -/
noncomputable def spec_l1Cur_among.H : Hints := hintsOf []
noncomputable def spec_l1Cur_among.says (N : Nat) : List Say := [spec_l1Cur_pick.S N]
noncomputable def spec_l1Cur_among.call (N : Nat) : CallK := callBy (spec_l1Cur_among.says N)
noncomputable def spec_l1Cur_among.qt (N : Nat) : FuncId → List PV → Sig → Cl := qtBy (spec_l1Cur_among.says N)
noncomputable def spec_l1Cur_among (N : Nat) (list : (List Int)) (p0_0 : (List Int)) (p0_1 : Int) (p0_2 : Int) : Option ((Int × Unit) × (((List Int) × (Int × (Int × Unit))) × Unit)) :=
  ofFn Try.prog spec_l1Cur_among.call spec_l1Cur_among.qt spec_l1Cur_among.H N Try.f81 [.one (.ptr 0 0), .one (.sh (.rows (.int .i64)))] [.cells [.sh (.rows (.int .u8)), ck_i, .sh (.int .u64)]] [ak_i] [.cells [.sh (.rows (.int .u8)), ck_i, .sh (.int .u64)]] [⟨[], [], [], []⟩] ((), (list, ())) ((p0_0, (p0_1, (p0_2, ()))), ())
noncomputable def spec_l1Cur_among.S (N : Nat) : Say := ⟨false, 81, [.one (.ptr 0 0), .one (.sh (.rows (.int .i64)))], [.cells [.sh (.rows (.int .u8)), ck_i, .sh (.int .u64)]], [ak_i], [.cells [.sh (.rows (.int .u8)), ck_i, .sh (.int .u64)]], fun a s => spec_l1Cur_among N a.2.1 s.1.1 s.1.2.1 s.1.2.2.1⟩
set_option maxRecDepth 100000 in
theorem spec_l1Cur_among.eq (N : Nat) (list : (List Int)) (p0_0 : (List Int)) (p0_1 : Int) (p0_2 : Int) : spec_l1Cur_among N list p0_0 p0_1 p0_2 =
 andK (spec_l1Cur_pick N (list.length : Int) p0_0 p0_1 p0_2) fun u1 =>
 chk ((decide (0 ≤ u1.1.1)) && (decide (u1.1.1 < (list.length : Int)))) (
 some (((list.getD (Int.toNat u1.1.1) 0), ()), u1.2)) := by kernel_rfl
set_option maxRecDepth 100000 in
theorem spec_l1Cur_among.say (N : Nat) : SayOk Try.prog (spec_l1Cur_among.S N) := sayOk_mk (N := N) (H := spec_l1Cur_among.H) (preps := [⟨[], [], [], []⟩]) (l := spec_l1Cur_among.says) (fn := Try.f81) (c := bodyOf Try.f81)
  (by kernel_rfl) (by kernel_rfl) (by kernel_rfl) (by kernel_rfl) (by kernel_rfl) (by kernel_rfl) (by kernel_rfl)
  (fun N => SayAll.cons (spec_l1Cur_pick.say N) (SayAll.nil)) (fun a s => by kernel_rfl)

/-! ### (*loop.example/g00206/spec.l1Cur).space: function 66 -/
noncomputable def spec_l1Cur_space.H : Hints := hintsOf [(9000011, .alts [11]),
  (9000015, .alts [10]),
  (18, .join [⟨.normal, [5, 6, 7], [0, 2, 4], [.one (.ptr 0 0), .one (.ptr 1 0), .one (.ptr 2 0)], [.cells [.sh (.rows (.int .u8)), ck_i, .sh (.int .u64)], .cells [ck_i, .nil, ck_b, ck_i, ck_i, ck_i, ck_i], .cells [ck_i, .own 4, ck_b, ck_i, ck_i, ck_i, ck_i], .gone, .rows (.pair (.int .i64) (.pair (.int .i64) (.int .i64)))], [⟨[], [], [], [4]⟩, ⟨[], [], [], [3]⟩]⟩]),
  (6, .join [⟨.normal, [7], [0, 2, 4, 5, 6], [.one (.ptr 0 0), .one (.ptr 1 0), .one (.ptr 2 0), ak_i, ak_i], [.cells [.sh (.rows (.int .u8)), ck_i, .sh (.int .u64)], .cells [ck_i, .nil, ck_b, ck_i, ck_i, ck_i, ck_i], .cells [ck_i, .own 4, ck_b, ck_i, ck_i, ck_i, ck_i], .gone, .rows (.pair (.int .i64) (.pair (.int .i64) (.int .i64)))], [⟨[], [], [], [5]⟩, ⟨[], [], [], [3]⟩, ⟨[], [], [], [4]⟩]⟩]),
  (2000005, .loop ⟨.normal, [], [0, 2, 4, 5, 6, 7], [.one (.ptr 0 0), .one (.ptr 1 0), .one (.ptr 2 0), ak_i, ak_i, ak_i], [.cells [.sh (.rows (.int .u8)), ck_i, .sh (.int .u64)], .cells [ck_i, .nil, ck_b, ck_i, ck_i, ck_i, ck_i], .cells [ck_i, .own 3, ck_b, ck_i, ck_i, ck_i, ck_i], .rows (.pair (.int .i64) (.pair (.int .i64) (.int .i64)))], [⟨[], [(2, (1, (.pair (.int .i64) (.pair (.int .i64) (.int .i64)))))], [], [3]⟩, ⟨[], [], [], [4]⟩]⟩ [⟨(.exit 0), [], [0, 2, 4, 5], [.one (.ptr 0 0), .one (.ptr 1 0), .one (.ptr 2 0), ak_i], [.cells [.sh (.rows (.int .u8)), ck_i, .sh (.int .u64)], .cells [ck_i, .nil, ck_b, ck_i, ck_i, ck_i, ck_i], .cells [ck_i, .own 3, ck_b, ck_i, ck_i, ck_i, ck_i], .rows (.pair (.int .i64) (.pair (.int .i64) (.int .i64)))], [⟨[], [], [], [3]⟩]⟩])]
noncomputable def spec_l1Cur_space.says (N : Nat) : List Say := [spec_l1Cur_pick.S N, spec_l1Cur_one.S N, spec_l1Cur_numbers.S N, spec_TakeAck.SB N, spec_SendNumber.SB N, spec_l1Cur_among.S N]
noncomputable def spec_l1Cur_space.call (N : Nat) : CallK := callBy (spec_l1Cur_space.says N)
noncomputable def spec_l1Cur_space.qt (N : Nat) : FuncId → List PV → Sig → Cl := qtBy (spec_l1Cur_space.says N)
noncomputable def spec_l1Cur_space.l0.hd : Alt := ⟨.normal, [], [0, 2, 4, 5, 6, 7], [.one (.ptr 0 0), .one (.ptr 1 0), .one (.ptr 2 0), ak_i, ak_i, ak_i], [.cells [.sh (.rows (.int .u8)), ck_i, .sh (.int .u64)], .cells [ck_i, .nil, ck_b, ck_i, ck_i, ck_i, ck_i], .cells [ck_i, .own 3, ck_b, ck_i, ck_i, ck_i, ck_i], .rows (.pair (.int .i64) (.pair (.int .i64) (.int .i64)))], [⟨[], [(2, (1, (.pair (.int .i64) (.pair (.int .i64) (.int .i64)))))], [], [3]⟩, ⟨[], [], [], [4]⟩]⟩
noncomputable def spec_l1Cur_space.l0.outs : List Alt := [⟨(.exit 0), [], [0, 2, 4, 5], [.one (.ptr 0 0), .one (.ptr 1 0), .one (.ptr 2 0), ak_i], [.cells [.sh (.rows (.int .u8)), ck_i, .sh (.int .u64)], .cells [ck_i, .nil, ck_b, ck_i, ck_i, ck_i, ck_i], .cells [ck_i, .own 3, ck_b, ck_i, ck_i, ck_i, ck_i], .rows (.pair (.int .i64) (.pair (.int .i64) (.int .i64)))], [⟨[], [], [], [3]⟩]⟩]
noncomputable def spec_l1Cur_space.l0 (N : Nat) (d : Int) (e : Int) (t : Int) (p0_01 : (List Int)) (p0_11 : Int) (p0_21 : Int) (p1_0 : Int) (p1_2 : Bool) (p1_3 : Int) (p1_4 : Int) (p1_5 : Int) (p1_6 : Int) (p2_0 : Int) (p2_2 : Bool) (p2_3 : Int) (p2_4 : Int) (p2_5 : Int) (p2_6 : Int) (p3 : (List (Int × (Int × Int)))) : Option ((Unit × (Unit × (Unit × (Int × Unit)))) × (((List Int) × (Int × (Int × Unit))) × ((Int × (Unit × (Bool × (Int × (Int × (Int × (Int × Unit))))))) × ((Int × (Unit × (Bool × (Int × (Int × (Int × (Int × Unit))))))) × ((List (Int × (Int × Int))) × Unit))))) :=
  loopK Try.prog spec_l1Cur_space.call spec_l1Cur_space.qt spec_l1Cur_space.H (codeAt (bodyOf Try.f66) [1, 1, 1, 1, 0, 1, 0, 0]) 3 spec_l1Cur_space.l0.hd spec_l1Cur_space.l0.outs [] N (((), ((), ((), (d, (e, (t, ())))))), ((p0_01, (p0_11, (p0_21, ()))), ((p1_0, ((), (p1_2, (p1_3, (p1_4, (p1_5, (p1_6, ()))))))), ((p2_0, ((), (p2_2, (p2_3, (p2_4, (p2_5, (p2_6, ()))))))), (p3, ())))))
noncomputable def spec_l1Cur_space (N : Nat) (p0_0 : (List Int)) (p0_1 : Int) (p0_2 : Int) : Option (((Int × (Unit × (Bool × (Int × (Int × (Int × (Int × Unit))))))) × (Int × Unit)) × (((List Int) × (Int × (Int × Unit))) × ((List (Int × (Int × Int))) × Unit))) :=
  ofFn Try.prog spec_l1Cur_space.call spec_l1Cur_space.qt spec_l1Cur_space.H N Try.f66 [.one (.ptr 0 0)] [.cells [.sh (.rows (.int .u8)), ck_i, .sh (.int .u64)]] [.agg [ck_i, .own 1, ck_b, ck_i, ck_i, ck_i, ck_i], ak_i] [.cells [.sh (.rows (.int .u8)), ck_i, .sh (.int .u64)], .rows (.pair (.int .i64) (.pair (.int .i64) (.int .i64)))] [⟨[], [], [], [3]⟩] ((), ()) ((p0_0, (p0_1, (p0_2, ()))), ())
noncomputable def spec_l1Cur_space.S (N : Nat) : Say := ⟨false, 66, [.one (.ptr 0 0)], [.cells [.sh (.rows (.int .u8)), ck_i, .sh (.int .u64)]], [.agg [ck_i, .own 1, ck_b, ck_i, ck_i, ck_i, ck_i], ak_i], [.cells [.sh (.rows (.int .u8)), ck_i, .sh (.int .u64)], .rows (.pair (.int .i64) (.pair (.int .i64) (.int .i64)))], fun a s => spec_l1Cur_space N s.1.1 s.1.2.1 s.1.2.2.1⟩
set_option maxRecDepth 100000 in
theorem spec_l1Cur_space.l0.eq (N : Nat) (d : Int) (e : Int) (t : Int) (p0_01 : (List Int)) (p0_11 : Int) (p0_21 : Int) (p1_0 : Int) (p1_2 : Bool) (p1_3 : Int) (p1_4 : Int) (p1_5 : Int) (p1_6 : Int) (p2_0 : Int) (p2_2 : Bool) (p2_3 : Int) (p2_4 : Int) (p2_5 : Int) (p2_6 : Int) (p3 : (List (Int × (Int × Int)))) : spec_l1Cur_space.l0 (N + 1) d e t p0_01 p0_11 p0_21 p1_0 p1_2 p1_3 p1_4 p1_5 p1_6 p2_0 p2_2 p2_3 p2_4 p2_5 p2_6 p3 =
 sel (decide (0 < t))
  (
  andK (α := ((Unit × (Unit × (Unit × (Int × (Int × Unit))))) × (((List Int) × (Int × (Int × Unit))) × ((Int × (Unit × (Bool × (Int × (Int × (Int × (Int × Unit))))))) × ((Int × (Unit × (Bool × (Int × (Int × (Int × (Int × Unit))))))) × (Unit × ((List (Int × (Int × Int))) × Unit))))))) (
   andK (spec_l1Cur_pick N 20 p0_01 p0_11 p0_21) fun u2 =>
   andK (spec_l1Cur_one N 5 u2.2.1.1 u2.2.1.2.1 u2.2.1.2.2.1) fun u3 =>
   sel u3.1.1
    (
    andK (spec_l1Cur_numbers N u3.2.1.1 u3.2.1.2.1 u3.2.1.2.2.1) fun u4 =>
    sel (decide (0 < (u4.2.2.1.length : Int)))
     (
     andK (spec_l1Cur_pick N 9 u4.2.1.1 u4.2.1.2.1 u4.2.1.2.2.1) fun u5 =>
     andK (spec_TakeAck N p2_0 p3 p2_2 p2_3 p2_4 p2_5 p2_6 u4.2.2.1 (IntKind.i64.wrap (d + u2.1.1)) u5.1.1) fun u6 =>
     sel u6.1.2.2.2.1
      (
      chk (decide (0 < (u4.2.2.1.length : Int))) (
      some ((((), ((), ((), ((IntKind.i64.wrap (d + u2.1.1)), ((IntKind.i64.wrap ((rdS (.pair (.int .i64) (.int .i64)) u4.2.2.1 0).2 + 1)), ()))))), (u5.2.1, ((p1_0, ((), (p1_2, (p1_3, (p1_4, (p1_5, (p1_6, ()))))))), ((u6.1.1.1, ((), (u6.1.1.2.2.1, (u6.1.1.2.2.2.1, (u6.1.1.2.2.2.2.1, (u6.1.1.2.2.2.2.2.1, (u6.1.1.2.2.2.2.2.2.1, ()))))))), ((), (u6.2.1, ())))))))))
      (
      some ((((), ((), ((), ((IntKind.i64.wrap (d + u2.1.1)), (e, ()))))), (u5.2.1, ((p1_0, ((), (p1_2, (p1_3, (p1_4, (p1_5, (p1_6, ()))))))), ((p2_0, ((), (p2_2, (p2_3, (p2_4, (p2_5, (p2_6, ()))))))), ((), (p3, ())))))))))
     (
     some ((((), ((), ((), ((IntKind.i64.wrap (d + u2.1.1)), (e, ()))))), (u4.2.1, ((p1_0, ((), (p1_2, (p1_3, (p1_4, (p1_5, (p1_6, ()))))))), ((p2_0, ((), (p2_2, (p2_3, (p2_4, (p2_5, (p2_6, ()))))))), ((), (p3, ())))))))))
    (
    andK (α := ((Unit × (Unit × (Unit × Unit))) × (((List Int) × (Int × (Int × Unit))) × ((Int × (Unit × (Bool × (Int × (Int × (Int × (Int × Unit))))))) × ((Int × (Unit × (Bool × (Int × (Int × (Int × (Int × Unit))))))) × (Unit × ((List (Int × (Int × Int))) × Unit))))))) (
     andK (spec_l1Cur_pick N 1200 u3.2.1.1 u3.2.1.2.1 u3.2.1.2.2.1) fun u7 =>
     andK (spec_SendNumber N p2_0 p3 p2_2 p2_3 p2_4 p2_5 p2_6 e (IntKind.i64.wrap (d + u2.1.1)) u7.1.1) fun u8 =>
     sel u8.1.2.1
      (
      some ((((), ((), ((), ()))), (u7.2.1, ((p1_0, ((), (p1_2, (p1_3, (p1_4, (p1_5, (p1_6, ()))))))), ((u8.1.1.1, ((), (u8.1.1.2.2.1, (u8.1.1.2.2.2.1, (u8.1.1.2.2.2.2.1, (u8.1.1.2.2.2.2.2.1, (u8.1.1.2.2.2.2.2.2.1, ()))))))), ((), (u8.2.1, ()))))))))
      (
      some ((((), ((), ((), ()))), (u7.2.1, ((p1_0, ((), (p1_2, (p1_3, (p1_4, (p1_5, (p1_6, ()))))))), ((p2_0, ((), (p2_2, (p2_3, (p2_4, (p2_5, (p2_6, ()))))))), ((), (p3, ()))))))))) fun j9 =>
    andK (spec_l1Cur_pick N 2 j9.2.1.1 j9.2.1.2.1 j9.2.1.2.2.1) fun u10 =>
    some ((((), ((), ((), ((IntKind.i64.wrap (d + u2.1.1)), ((IntKind.i64.wrap (e + (IntKind.i64.wrap (1 + u10.1.1)))), ()))))), (u10.2.1, ((j9.2.2.1.1, ((), (j9.2.2.1.2.2.1, (j9.2.2.1.2.2.2.1, (j9.2.2.1.2.2.2.2.1, (j9.2.2.1.2.2.2.2.2.1, (j9.2.2.1.2.2.2.2.2.2.1, ()))))))), ((j9.2.2.2.1.1, ((), (j9.2.2.2.1.2.2.1, (j9.2.2.2.1.2.2.2.1, (j9.2.2.2.1.2.2.2.2.1, (j9.2.2.2.1.2.2.2.2.2.1, (j9.2.2.2.1.2.2.2.2.2.2.1, ()))))))), ((), (j9.2.2.2.2.2.1, ()))))))))) fun j11 =>
  spec_l1Cur_space.l0 N j11.1.2.2.2.1 j11.1.2.2.2.2.1 (IntKind.i64.wrap (t - 1)) j11.2.1.1 j11.2.1.2.1 j11.2.1.2.2.1 j11.2.2.1.1 j11.2.2.1.2.2.1 j11.2.2.1.2.2.2.1 j11.2.2.1.2.2.2.2.1 j11.2.2.1.2.2.2.2.2.1 j11.2.2.1.2.2.2.2.2.2.1 j11.2.2.2.1.1 j11.2.2.2.1.2.2.1 j11.2.2.2.1.2.2.2.1 j11.2.2.2.1.2.2.2.2.1 j11.2.2.2.1.2.2.2.2.2.1 j11.2.2.2.1.2.2.2.2.2.2.1 j11.2.2.2.2.2.1)
  (
  some ((((), ((), ((), (d, ())))), ((p0_01, (p0_11, (p0_21, ()))), ((p1_0, ((), (p1_2, (p1_3, (p1_4, (p1_5, (p1_6, ()))))))), ((p2_0, ((), (p2_2, (p2_3, (p2_4, (p2_5, (p2_6, ()))))))), (p3, ()))))))) := by kernel_rfl
set_option maxRecDepth 100000 in
theorem spec_l1Cur_space.eq (N : Nat) (p0_0 : (List Int)) (p0_1 : Int) (p0_2 : Int) : spec_l1Cur_space N p0_0 p0_1 p0_2 =
 andK (spec_l1Cur_pick N 14 p0_0 p0_1 p0_2) fun u1 =>
 andK (spec_l1Cur_space.l0 N 0 0 u1.1.1 u1.2.1.1 u1.2.1.2.1 u1.2.1.2.2.1 0 false 0 0 0 0 (-1) false 0 0 0 0 []) fun l12 =>
 andK (spec_l1Cur_pick N 40 l12.2.1.1 l12.2.1.2.1 l12.2.1.2.2.1) fun u13 =>
 sel (decide (u13.1.1 = 0))
  (
  andK (spec_l1Cur_among N [(-2), 4611686018427387903, 4611686018427387904] u13.2.1.1 u13.2.1.2.1 u13.2.1.2.2.1) fun u14 =>
  some (((u14.1.1, ((), (l12.2.2.2.1.2.2.1, (l12.2.2.2.1.2.2.2.1, (l12.2.2.2.1.2.2.2.2.1, (l12.2.2.2.1.2.2.2.2.2.1, (l12.2.2.2.1.2.2.2.2.2.2.1, ()))))))), (l12.1.2.2.2.1, ())), (u14.2.1, (l12.2.2.2.2.1, ()))))
  (
  sel (decide (u13.1.1 = 1))
   (
   andK (spec_l1Cur_pick N 9 u13.2.1.1 u13.2.1.2.1 u13.2.1.2.2.1) fun u15 =>
   andK (spec_l1Cur_pick N 9 u15.2.1.1 u15.2.1.2.1 u15.2.1.2.2.1) fun u16 =>
   chk (decide (l12.2.2.2.2.1.length + 1 < most)) (
   some (((l12.2.2.2.1.1, ((), (l12.2.2.2.1.2.2.1, (l12.2.2.2.1.2.2.2.1, (l12.2.2.2.1.2.2.2.2.1, (l12.2.2.2.1.2.2.2.2.2.1, (l12.2.2.2.1.2.2.2.2.2.2.1, ()))))))), (l12.1.2.2.2.1, ())), (u16.2.1, ((l12.2.2.2.2.1 ++ [(u15.1.1, (u16.1.1, 0))]), ())))))
   (
   some (((l12.2.2.2.1.1, ((), (l12.2.2.2.1.2.2.1, (l12.2.2.2.1.2.2.2.1, (l12.2.2.2.1.2.2.2.2.1, (l12.2.2.2.1.2.2.2.2.2.1, (l12.2.2.2.1.2.2.2.2.2.2.1, ()))))))), (l12.1.2.2.2.1, ())), (u13.2.1, (l12.2.2.2.2.1, ()))))) := by kernel_rfl
set_option maxRecDepth 100000 in
theorem spec_l1Cur_space.say (N : Nat) : SayOk Try.prog (spec_l1Cur_space.S N) := sayOk_mk (N := N) (H := spec_l1Cur_space.H) (preps := [⟨[], [], [], [3]⟩]) (l := spec_l1Cur_space.says) (fn := Try.f66) (c := bodyOf Try.f66)
  (by kernel_rfl) (by kernel_rfl) (by kernel_rfl) (by kernel_rfl) (by kernel_rfl) (by kernel_rfl) (by kernel_rfl)
  (fun N => SayAll.cons (spec_l1Cur_pick.say N) (SayAll.cons (spec_l1Cur_one.say N) (SayAll.cons (spec_l1Cur_numbers.say N) (SayAll.cons (spec_TakeAck.sayB N) (SayAll.cons (spec_SendNumber.sayB N) (SayAll.cons (spec_l1Cur_among.say N) (SayAll.nil))))))) (fun a s => by kernel_rfl)

/-! ### loop.example/g00206/spec.DrawTakeAck: function 23 -/
noncomputable def spec_DrawTakeAck.H : Hints := hintsOf []
noncomputable def spec_DrawTakeAck.says (N : Nat) : List Say := [spec_l1Cur_space.S N, spec_l1Cur_numbers.S N, spec_l1Cur_pick.S N]
noncomputable def spec_DrawTakeAck.call (N : Nat) : CallK := callBy (spec_DrawTakeAck.says N)
noncomputable def spec_DrawTakeAck.qt (N : Nat) : FuncId → List PV → Sig → Cl := qtBy (spec_DrawTakeAck.says N)
noncomputable def spec_DrawTakeAck (N : Nat) (code : (List Int)) : Option (((Int × (Unit × (Bool × (Int × (Int × (Int × (Int × Unit))))))) × (Unit × (Int × (Int × Unit)))) × ((List (Int × (Int × Int))) × ((List (Int × Int)) × Unit))) :=
  ofFn Try.prog spec_DrawTakeAck.call spec_DrawTakeAck.qt spec_DrawTakeAck.H N Try.f23 [.one (.sh (.rows (.int .u8)))] [] [.agg [ck_i, .own 0, ck_b, ck_i, ck_i, ck_i, ck_i], .one (.own 1), ak_i, ak_i] [.rows (.pair (.int .i64) (.pair (.int .i64) (.int .i64))), .rows (.pair (.int .i64) (.int .i64))] [⟨[], [], [], [2, 4]⟩] (code, ()) ()
noncomputable def spec_DrawTakeAck.S (N : Nat) : Say := ⟨false, 23, [.one (.sh (.rows (.int .u8)))], [], [.agg [ck_i, .own 0, ck_b, ck_i, ck_i, ck_i, ck_i], .one (.own 1), ak_i, ak_i], [.rows (.pair (.int .i64) (.pair (.int .i64) (.int .i64))), .rows (.pair (.int .i64) (.int .i64))], fun a s => spec_DrawTakeAck N a.1⟩
set_option maxRecDepth 100000 in
theorem spec_DrawTakeAck.eq (N : Nat) (code : (List Int)) : spec_DrawTakeAck N code =
 andK (spec_l1Cur_space N code 0 0) fun u1 =>
 andK (spec_l1Cur_numbers N u1.2.1.1 u1.2.1.2.1 u1.2.1.2.2.1) fun u2 =>
 andK (spec_l1Cur_pick N 80 u2.2.1.1 u2.2.1.2.1 u2.2.1.2.2.1) fun u3 =>
 andK (spec_l1Cur_pick N 20 u3.2.1.1 u3.2.1.2.1 u3.2.1.2.2.1) fun u4 =>
 some (((u1.1.1.1, ((), (u1.1.1.2.2.1, (u1.1.1.2.2.2.1, (u1.1.1.2.2.2.2.1, (u1.1.1.2.2.2.2.2.1, (u1.1.1.2.2.2.2.2.2.1, ()))))))), ((), ((IntKind.i64.wrap ((IntKind.i64.wrap (u1.1.2.1 + u3.1.1)) - 2)), (u4.1.1, ())))), (u1.2.2.1, (u2.2.2.1, ()))) := by kernel_rfl
set_option maxRecDepth 100000 in
theorem spec_DrawTakeAck.say (N : Nat) : SayOk Try.prog (spec_DrawTakeAck.S N) := sayOk_mk (N := N) (H := spec_DrawTakeAck.H) (preps := [⟨[], [], [], [2, 4]⟩]) (l := spec_DrawTakeAck.says) (fn := Try.f23) (c := bodyOf Try.f23)
  (by kernel_rfl) (by kernel_rfl) (by kernel_rfl) (by kernel_rfl) (by kernel_rfl) (by kernel_rfl) (by kernel_rfl)
  (fun N => SayAll.cons (spec_l1Cur_space.say N) (SayAll.cons (spec_l1Cur_numbers.say N) (SayAll.cons (spec_l1Cur_pick.say N) (SayAll.nil)))) (fun a s => by kernel_rfl)

/-! ### loop.example/g00206/impl.in: function 60 -/
noncomputable def impl_in.H : Hints := hintsOf []
noncomputable def impl_in.says (N : Nat) : List Say := []
noncomputable def impl_in.call (N : Nat) : CallK := callBy (impl_in.says N)
noncomputable def impl_in.qt (N : Nat) : FuncId → List PV → Sig → Cl := qtBy (impl_in.says N)
noncomputable def impl_in (N : Nat) (n : Int) (low : Int) (high : Int) : Option ((Bool × Unit) × Unit) :=
  ofFn Try.prog impl_in.call impl_in.qt impl_in.H N Try.f60 [ak_i, ak_i, ak_i] [] [ak_b] [] [⟨[], [], [], []⟩] (n, (low, (high, ()))) ()
noncomputable def impl_in.S (N : Nat) : Say := ⟨false, 60, [ak_i, ak_i, ak_i], [], [ak_b], [], fun a s => impl_in N a.1 a.2.1 a.2.2.1⟩
set_option maxRecDepth 100000 in
theorem impl_in.eq (N : Nat) (n : Int) (low : Int) (high : Int) : impl_in N n low high =
 sel (decide (low ≤ n))
  (
  some (((decide (n ≤ high)), ()), ()))
  (
  some ((false, ()), ())) := by kernel_rfl
set_option maxRecDepth 100000 in
theorem impl_in.say (N : Nat) : SayOk Try.prog (impl_in.S N) := sayOk_mk (N := N) (H := impl_in.H) (preps := [⟨[], [], [], []⟩]) (l := impl_in.says) (fn := Try.f60) (c := bodyOf Try.f60)
  (by kernel_rfl) (by kernel_rfl) (by kernel_rfl) (by kernel_rfl) (by kernel_rfl) (by kernel_rfl) (by kernel_rfl)
  (fun N => SayAll.nil) (fun a s => by kernel_rfl)

/-! ### loop.example/g00206/impl.isVarint: function 65 -/
noncomputable def impl_isVarint.H : Hints := hintsOf []
noncomputable def impl_isVarint.says (N : Nat) : List Say := [impl_in.S N]
noncomputable def impl_isVarint.call (N : Nat) : CallK := callBy (impl_isVarint.says N)
noncomputable def impl_isVarint.qt (N : Nat) : FuncId → List PV → Sig → Cl := qtBy (impl_isVarint.says N)
noncomputable def impl_isVarint (N : Nat) (n : Int) : Option ((Bool × Unit) × Unit) :=
  ofFn Try.prog impl_isVarint.call impl_isVarint.qt impl_isVarint.H N Try.f65 [ak_i] [] [ak_b] [] [⟨[], [], [], []⟩] (n, ()) ()
noncomputable def impl_isVarint.S (N : Nat) : Say := ⟨false, 65, [ak_i], [], [ak_b], [], fun a s => impl_isVarint N a.1⟩
set_option maxRecDepth 100000 in
theorem impl_isVarint.eq (N : Nat) (n : Int) : impl_isVarint N n =
 andK (impl_in N n 0 4611686018427387903) fun u1 =>
 some (u1.1, ()) := by kernel_rfl
set_option maxRecDepth 100000 in
theorem impl_isVarint.say (N : Nat) : SayOk Try.prog (impl_isVarint.S N) := sayOk_mk (N := N) (H := impl_isVarint.H) (preps := [⟨[], [], [], []⟩]) (l := impl_isVarint.says) (fn := Try.f65) (c := bodyOf Try.f65)
  (by kernel_rfl) (by kernel_rfl) (by kernel_rfl) (by kernel_rfl) (by kernel_rfl) (by kernel_rfl) (by kernel_rfl)
  (fun N => SayAll.cons (impl_in.say N) (SayAll.nil)) (fun a s => by kernel_rfl)

/-! ### loop.example/g00206/impl.isTick: function 68 -/
noncomputable def impl_isTick.H : Hints := hintsOf []
noncomputable def impl_isTick.says (N : Nat) : List Say := [impl_in.S N]
noncomputable def impl_isTick.call (N : Nat) : CallK := callBy (impl_isTick.says N)
noncomputable def impl_isTick.qt (N : Nat) : FuncId → List PV → Sig → Cl := qtBy (impl_isTick.says N)
noncomputable def impl_isTick (N : Nat) (n : Int) : Option ((Bool × Unit) × Unit) :=
  ofFn Try.prog impl_isTick.call impl_isTick.qt impl_isTick.H N Try.f68 [ak_i] [] [ak_b] [] [⟨[], [], [], []⟩] (n, ()) ()
noncomputable def impl_isTick.S (N : Nat) : Say := ⟨false, 68, [ak_i], [], [ak_b], [], fun a s => impl_isTick N a.1⟩
set_option maxRecDepth 100000 in
theorem impl_isTick.eq (N : Nat) (n : Int) : impl_isTick N n =
 andK (impl_in N n 0 1000000000) fun u1 =>
 some (u1.1, ()) := by kernel_rfl
set_option maxRecDepth 100000 in
theorem impl_isTick.say (N : Nat) : SayOk Try.prog (impl_isTick.S N) := sayOk_mk (N := N) (H := impl_isTick.H) (preps := [⟨[], [], [], []⟩]) (l := impl_isTick.says) (fn := Try.f68) (c := bodyOf Try.f68)
  (by kernel_rfl) (by kernel_rfl) (by kernel_rfl) (by kernel_rfl) (by kernel_rfl) (by kernel_rfl) (by kernel_rfl)
  (fun N => SayAll.cons (impl_in.say N) (SayAll.nil)) (fun a s => by kernel_rfl)

/-! ### loop.example/g00206/impl.sentOk: function 79 -/
noncomputable def impl_sentOk.H : Hints := hintsOf []
noncomputable def impl_sentOk.says (N : Nat) : List Say := [impl_isVarint.S N, impl_isTick.S N, impl_in.S N]
noncomputable def impl_sentOk.call (N : Nat) : CallK := callBy (impl_sentOk.says N)
noncomputable def impl_sentOk.qt (N : Nat) : FuncId → List PV → Sig → Cl := qtBy (impl_sentOk.says N)
noncomputable def impl_sentOk (N : Nat) (x_0 : Int) (x_1 : Int) (x_2 : Int) : Option ((Bool × Unit) × Unit) :=
  ofFn Try.prog impl_sentOk.call impl_sentOk.qt impl_sentOk.H N Try.f79 [.agg [ck_i, ck_i, ck_i]] [] [ak_b] [] [⟨[], [], [], []⟩] ((x_0, (x_1, (x_2, ()))), ()) ()
noncomputable def impl_sentOk.S (N : Nat) : Say := ⟨false, 79, [.agg [ck_i, ck_i, ck_i]], [], [ak_b], [], fun a s => impl_sentOk N a.1.1 a.1.2.1 a.1.2.2.1⟩
set_option maxRecDepth 100000 in
theorem impl_sentOk.eq (N : Nat) (x_0 : Int) (x_1 : Int) (x_2 : Int) : impl_sentOk N x_0 x_1 x_2 =
 andK (impl_isVarint N x_0) fun u1 =>
 sel u1.1.1
  (
  andK (impl_isTick N x_1) fun u2 =>
  sel u2.1.1
   (
   andK (impl_in N x_2 0 1500) fun u3 =>
   some (u3.1, ()))
   (
   some ((false, ()), ())))
  (
  some ((false, ()), ())) := by kernel_rfl
set_option maxRecDepth 100000 in
theorem impl_sentOk.say (N : Nat) : SayOk Try.prog (impl_sentOk.S N) := sayOk_mk (N := N) (H := impl_sentOk.H) (preps := [⟨[], [], [], []⟩]) (l := impl_sentOk.says) (fn := Try.f79) (c := bodyOf Try.f79)
  (by kernel_rfl) (by kernel_rfl) (by kernel_rfl) (by kernel_rfl) (by kernel_rfl) (by kernel_rfl) (by kernel_rfl)
  (fun N => SayAll.cons (impl_isVarint.say N) (SayAll.cons (impl_isTick.say N) (SayAll.cons (impl_in.say N) (SayAll.nil)))) (fun a s => by kernel_rfl)

/-! ### loop.example/g00206/impl.goodRtt: function 80 -/
noncomputable def impl_goodRtt.H : Hints := hintsOf []
noncomputable def impl_goodRtt.says (N : Nat) : List Say := [impl_isTick.S N]
noncomputable def impl_goodRtt.call (N : Nat) : CallK := callBy (impl_goodRtt.says N)
noncomputable def impl_goodRtt.qt (N : Nat) : FuncId → List PV → Sig → Cl := qtBy (impl_goodRtt.says N)
noncomputable def impl_goodRtt (N : Nat) (r_0 : Bool) (r_1 : Int) (r_2 : Int) (r_3 : Int) (r_4 : Int) : Option ((Bool × Unit) × Unit) :=
  ofFn Try.prog impl_goodRtt.call impl_goodRtt.qt impl_goodRtt.H N Try.f80 [.agg [ck_b, ck_i, ck_i, ck_i, ck_i]] [] [ak_b] [] [⟨[], [], [], []⟩] ((r_0, (r_1, (r_2, (r_3, (r_4, ()))))), ()) ()
noncomputable def impl_goodRtt.S (N : Nat) : Say := ⟨false, 80, [.agg [ck_b, ck_i, ck_i, ck_i, ck_i]], [], [ak_b], [], fun a s => impl_goodRtt N a.1.1 a.1.2.1 a.1.2.2.1 a.1.2.2.2.1 a.1.2.2.2.2.1⟩
set_option maxRecDepth 100000 in
theorem impl_goodRtt.eq (N : Nat) (r_0 : Bool) (r_1 : Int) (r_2 : Int) (r_3 : Int) (r_4 : Int) : impl_goodRtt N r_0 r_1 r_2 r_3 r_4 =
 sel (!r_0)
  (
  some ((((r_0 == false) && ((decide (r_1 = 0)) && ((decide (r_2 = 0)) && ((decide (r_3 = 0)) && (decide (r_4 = 0)))))), ()), ()))
  (
  sel (decide (0 ≤ r_2))
   (
   sel (decide (r_2 ≤ r_1))
    (
    andK (impl_isTick N r_1) fun u1 =>
    sel u1.1.1
     (
     andK (impl_isTick N r_3) fun u2 =>
     sel u2.1.1
      (
      andK (impl_isTick N r_4) fun u3 =>
      some (u3.1, ()))
      (
      some ((false, ()), ())))
     (
     some ((false, ()), ())))
    (
    some ((false, ()), ())))
   (
   some ((false, ()), ()))) := by kernel_rfl
set_option maxRecDepth 100000 in
theorem impl_goodRtt.say (N : Nat) : SayOk Try.prog (impl_goodRtt.S N) := sayOk_mk (N := N) (H := impl_goodRtt.H) (preps := [⟨[], [], [], []⟩]) (l := impl_goodRtt.says) (fn := Try.f80) (c := bodyOf Try.f80)
  (by kernel_rfl) (by kernel_rfl) (by kernel_rfl) (by kernel_rfl) (by kernel_rfl) (by kernel_rfl) (by kernel_rfl)
  (fun N => SayAll.cons (impl_isTick.say N) (SayAll.nil)) (fun a s => by kernel_rfl)

/-! ### loop.example/g00206/impl.GoodSpace: function 27 -/
noncomputable def impl_GoodSpace.H : Hints := hintsOf [(5000004, .join [⟨.normal, [6, 7, 8], [1, 43], [.one (.ptr 0 0), ak_b], [.cells [ck_i, .sh (.rows (.pair (.int .i64) (.pair (.int .i64) (.int .i64)))), ck_b, ck_i, ck_i, ck_i, ck_i], .cells [ck_i, ck_i, ck_i]], [⟨[], [], [], []⟩]⟩]),
  (2000002, .loop ⟨.normal, [6, 7], [1, 8], [.one (.ptr 0 0), ak_i], [.cells [ck_i, .sh (.rows (.pair (.int .i64) (.pair (.int .i64) (.int .i64)))), ck_b, ck_i, ck_i, ck_i, ck_i]], [⟨[], [], [], []⟩]⟩ [⟨.ret, [], [2], [ak_b], [.cells [ck_i, .sh (.rows (.pair (.int .i64) (.pair (.int .i64) (.int .i64)))), ck_b, ck_i, ck_i, ck_i, ck_i]], [⟨[], [], [], []⟩]⟩, ⟨(.exit 0), [], [1], [.one (.ptr 0 0)], [.cells [ck_i, .sh (.rows (.pair (.int .i64) (.pair (.int .i64) (.int .i64)))), ck_b, ck_i, ck_i, ck_i, ck_i]], [⟨[], [], [], []⟩]⟩])]
noncomputable def impl_GoodSpace.says (N : Nat) : List Say := [impl_sentOk.S N, impl_in.S N, impl_goodRtt.S N]
noncomputable def impl_GoodSpace.call (N : Nat) : CallK := callBy (impl_GoodSpace.says N)
noncomputable def impl_GoodSpace.qt (N : Nat) : FuncId → List PV → Sig → Cl := qtBy (impl_GoodSpace.says N)
noncomputable def impl_GoodSpace.l0.hd : Alt := ⟨.normal, [6, 7], [1, 8], [.one (.ptr 0 0), ak_i], [.cells [ck_i, .sh (.rows (.pair (.int .i64) (.pair (.int .i64) (.int .i64)))), ck_b, ck_i, ck_i, ck_i, ck_i]], [⟨[], [], [], []⟩]⟩
noncomputable def impl_GoodSpace.l0.outs : List Alt := [⟨.ret, [], [2], [ak_b], [.cells [ck_i, .sh (.rows (.pair (.int .i64) (.pair (.int .i64) (.int .i64)))), ck_b, ck_i, ck_i, ck_i, ck_i]], [⟨[], [], [], []⟩]⟩, ⟨(.exit 0), [], [1], [.one (.ptr 0 0)], [.cells [ck_i, .sh (.rows (.pair (.int .i64) (.pair (.int .i64) (.int .i64)))), ck_b, ck_i, ck_i, ck_i, ck_i]], [⟨[], [], [], []⟩]⟩]
noncomputable def impl_GoodSpace.l0 (N : Nat) (t6 : (List (Int × (Int × Int)))) (t7 : Int) (t8 : Int) (p0_0 : Int) (p0_1 : (List (Int × (Int × Int)))) (p0_2 : Bool) (p0_3 : Int) (p0_4 : Int) (p0_5 : Int) (p0_6 : Int) : Option (((Bool × Unit) × ((Int × ((List (Int × (Int × Int))) × (Bool × (Int × (Int × (Int × (Int × Unit))))))) × Unit)) ⊕ ((Unit × Unit) × ((Int × ((List (Int × (Int × Int))) × (Bool × (Int × (Int × (Int × (Int × Unit))))))) × Unit))) :=
  loopK Try.prog impl_GoodSpace.call impl_GoodSpace.qt impl_GoodSpace.H (codeAt (bodyOf Try.f27) [1, 0, 1, 0, 0]) 1 impl_GoodSpace.l0.hd impl_GoodSpace.l0.outs [(6, .rows false (.pair (.int .i64) (.pair (.int .i64) (.int .i64))) t6), (7, .v (.int .i64 t7))] N (((), (t8, ())), ((p0_0, (p0_1, (p0_2, (p0_3, (p0_4, (p0_5, (p0_6, ()))))))), ()))
noncomputable def impl_GoodSpace (N : Nat) (s_0 : Int) (s_1 : (List (Int × (Int × Int)))) (s_2 : Bool) (s_3 : Int) (s_4 : Int) (s_5 : Int) (s_6 : Int) : Option ((Bool × Unit) × Unit) :=
  ofFn Try.prog impl_GoodSpace.call impl_GoodSpace.qt impl_GoodSpace.H N Try.f27 [.agg [ck_i, .sh (.rows (.pair (.int .i64) (.pair (.int .i64) (.int .i64)))), ck_b, ck_i, ck_i, ck_i, ck_i]] [] [ak_b] [] [⟨[], [], [], []⟩] ((s_0, (s_1, (s_2, (s_3, (s_4, (s_5, (s_6, ()))))))), ()) ()
noncomputable def impl_GoodSpace.S (N : Nat) : Say := ⟨false, 27, [.agg [ck_i, .sh (.rows (.pair (.int .i64) (.pair (.int .i64) (.int .i64)))), ck_b, ck_i, ck_i, ck_i, ck_i]], [], [ak_b], [], fun a s => impl_GoodSpace N a.1.1 a.1.2.1 a.1.2.2.1 a.1.2.2.2.1 a.1.2.2.2.2.1 a.1.2.2.2.2.2.1 a.1.2.2.2.2.2.2.1⟩
set_option maxRecDepth 100000 in
theorem impl_GoodSpace.l0.eq (N : Nat) (t6 : (List (Int × (Int × Int)))) (t7 : Int) (t8 : Int) (p0_0 : Int) (p0_1 : (List (Int × (Int × Int)))) (p0_2 : Bool) (p0_3 : Int) (p0_4 : Int) (p0_5 : Int) (p0_6 : Int) : impl_GoodSpace.l0 (N + 1) t6 t7 t8 p0_0 p0_1 p0_2 p0_3 p0_4 p0_5 p0_6 =
 sel (decide (t8 < t7))
  (
  chk ((decide (0 ≤ t8)) && (decide (t8 < (t6.length : Int)))) (
  andK (α := ((Unit × (Bool × Unit)) × ((Int × ((List (Int × (Int × Int))) × (Bool × (Int × (Int × (Int × (Int × Unit))))))) × ((Int × (Int × (Int × Unit))) × Unit)))) (
   andK (impl_sentOk N (rdS (.pair (.int .i64) (.pair (.int .i64) (.int .i64))) t6 (Int.toNat t8)).1 (rdS (.pair (.int .i64) (.pair (.int .i64) (.int .i64))) t6 (Int.toNat t8)).2.1 (rdS (.pair (.int .i64) (.pair (.int .i64) (.int .i64))) t6 (Int.toNat t8)).2.2) fun u1 =>
   sel (!u1.1.1)
    (
    some ((((), (true, ())), ((p0_0, (p0_1, (p0_2, (p0_3, (p0_4, (p0_5, (p0_6, ()))))))), (((rdS (.pair (.int .i64) (.pair (.int .i64) (.int .i64))) t6 (Int.toNat t8)).1, ((rdS (.pair (.int .i64) (.pair (.int .i64) (.int .i64))) t6 (Int.toNat t8)).2.1, ((rdS (.pair (.int .i64) (.pair (.int .i64) (.int .i64))) t6 (Int.toNat t8)).2.2, ()))), ())))))
    (
    sel (decide (0 < t8))
     (
     chk ((decide (0 ≤ (IntKind.i64.wrap (t8 - 1)))) && (decide ((IntKind.i64.wrap (t8 - 1)) < (p0_1.length : Int)))) (
     sel (decide ((rdS (.pair (.int .i64) (.pair (.int .i64) (.int .i64))) t6 (Int.toNat t8)).1 ≤ (rdS (.pair (.int .i64) (.pair (.int .i64) (.int .i64))) p0_1 (Int.toNat (IntKind.i64.wrap (t8 - 1)))).1))
      (
      some ((((), (true, ())), ((p0_0, (p0_1, (p0_2, (p0_3, (p0_4, (p0_5, (p0_6, ()))))))), (((rdS (.pair (.int .i64) (.pair (.int .i64) (.int .i64))) t6 (Int.toNat t8)).1, ((rdS (.pair (.int .i64) (.pair (.int .i64) (.int .i64))) t6 (Int.toNat t8)).2.1, ((rdS (.pair (.int .i64) (.pair (.int .i64) (.int .i64))) t6 (Int.toNat t8)).2.2, ()))), ())))))
      (
      chk ((decide (0 ≤ (IntKind.i64.wrap (t8 - 1)))) && (decide ((IntKind.i64.wrap (t8 - 1)) < (p0_1.length : Int)))) (
      some ((((), ((decide ((rdS (.pair (.int .i64) (.pair (.int .i64) (.int .i64))) t6 (Int.toNat t8)).2.1 < (rdS (.pair (.int .i64) (.pair (.int .i64) (.int .i64))) p0_1 (Int.toNat (IntKind.i64.wrap (t8 - 1)))).2.1)), ())), ((p0_0, (p0_1, (p0_2, (p0_3, (p0_4, (p0_5, (p0_6, ()))))))), (((rdS (.pair (.int .i64) (.pair (.int .i64) (.int .i64))) t6 (Int.toNat t8)).1, ((rdS (.pair (.int .i64) (.pair (.int .i64) (.int .i64))) t6 (Int.toNat t8)).2.1, ((rdS (.pair (.int .i64) (.pair (.int .i64) (.int .i64))) t6 (Int.toNat t8)).2.2, ()))), ()))))))))
     (
     some ((((), (false, ())), ((p0_0, (p0_1, (p0_2, (p0_3, (p0_4, (p0_5, (p0_6, ()))))))), (((rdS (.pair (.int .i64) (.pair (.int .i64) (.int .i64))) t6 (Int.toNat t8)).1, ((rdS (.pair (.int .i64) (.pair (.int .i64) (.int .i64))) t6 (Int.toNat t8)).2.1, ((rdS (.pair (.int .i64) (.pair (.int .i64) (.int .i64))) t6 (Int.toNat t8)).2.2, ()))), ()))))))) fun j2 =>
  sel j2.1.2.1
   (
   some (.inl ((false, ()), (j2.2.1, ()))))
   (
   impl_GoodSpace.l0 N t6 t7 (IntKind.i64.wrap (t8 + 1)) j2.2.1.1 j2.2.1.2.1 j2.2.1.2.2.1 j2.2.1.2.2.2.1 j2.2.1.2.2.2.2.1 j2.2.1.2.2.2.2.2.1 j2.2.1.2.2.2.2.2.2.1)))
  (
  some (.inr ((((), ()), ((p0_0, (p0_1, (p0_2, (p0_3, (p0_4, (p0_5, (p0_6, ()))))))), ()))))) := by kernel_rfl
set_option maxRecDepth 100000 in
theorem impl_GoodSpace.eq (N : Nat) (s_0 : Int) (s_1 : (List (Int × (Int × Int)))) (s_2 : Bool) (s_3 : Int) (s_4 : Int) (s_5 : Int) (s_6 : Int) : impl_GoodSpace N s_0 s_1 s_2 s_3 s_4 s_5 s_6 =
 andK (impl_GoodSpace.l0 N s_1 (s_1.length : Int) 0 s_0 s_1 s_2 s_3 s_4 s_5 s_6) fun l3 =>
 orK l3 (fun x4 =>
  some (x4.1, ()))
  (fun x5 =>
  andK (impl_in N x5.2.1.1 (-1) 4611686018427387903) fun u6 =>
  sel u6.1.1
   (
   sel (decide ((x5.2.1.2.1.length : Int) ≤ 60))
    (
    andK (impl_goodRtt N x5.2.1.2.2.1 x5.2.1.2.2.2.1 x5.2.1.2.2.2.2.1 x5.2.1.2.2.2.2.2.1 x5.2.1.2.2.2.2.2.2.1) fun u7 =>
    some (u7.1, ()))
    (
    some ((false, ()), ())))
   (
   some ((false, ()), ()))) := by kernel_rfl
set_option maxRecDepth 100000 in
theorem impl_GoodSpace.say (N : Nat) : SayOk Try.prog (impl_GoodSpace.S N) := sayOk_mk (N := N) (H := impl_GoodSpace.H) (preps := [⟨[], [], [], []⟩]) (l := impl_GoodSpace.says) (fn := Try.f27) (c := bodyOf Try.f27)
  (by kernel_rfl) (by kernel_rfl) (by kernel_rfl) (by kernel_rfl) (by kernel_rfl) (by kernel_rfl) (by kernel_rfl)
  (fun N => SayAll.cons (impl_sentOk.say N) (SayAll.cons (impl_in.say N) (SayAll.cons (impl_goodRtt.say N) (SayAll.nil)))) (fun a s => by kernel_rfl)
noncomputable def impl_GoodSpace.SB (N : Nat) : Say := impl_GoodSpace.S N |>.lent
theorem impl_GoodSpace.sayB (N : Nat) : SayOk Try.prog (impl_GoodSpace.SB N) := (impl_GoodSpace.say N).lent

/-! ### loop.example/g00206/impl.rangesOk: function 64 -/
noncomputable def impl_rangesOk.H : Hints := hintsOf [(5000004, .join [⟨.normal, [0, 5, 6, 7], [44], [ak_b], [.cells [ck_i, ck_i]], [⟨[], [], [], []⟩]⟩]),
  (2000002, .loop ⟨.normal, [0, 5, 6], [7], [ak_i], [], [⟨[], [], [], []⟩]⟩ [⟨.ret, [], [2], [ak_b], [], [⟨[], [], [], []⟩]⟩, ⟨(.exit 0), [], [], [], [], [⟨[], [], [], []⟩]⟩])]
noncomputable def impl_rangesOk.says (N : Nat) : List Say := [impl_isVarint.S N]
noncomputable def impl_rangesOk.call (N : Nat) : CallK := callBy (impl_rangesOk.says N)
noncomputable def impl_rangesOk.qt (N : Nat) : FuncId → List PV → Sig → Cl := qtBy (impl_rangesOk.says N)
noncomputable def impl_rangesOk.l0.hd : Alt := ⟨.normal, [0, 5, 6], [7], [ak_i], [], [⟨[], [], [], []⟩]⟩
noncomputable def impl_rangesOk.l0.outs : List Alt := [⟨.ret, [], [2], [ak_b], [], [⟨[], [], [], []⟩]⟩, ⟨(.exit 0), [], [], [], [], [⟨[], [], [], []⟩]⟩]
noncomputable def impl_rangesOk.l0 (N : Nat) (l1 : (List (Int × Int))) (t5 : (List (Int × Int))) (t6 : Int) (t7 : Int) : Option (((Bool × Unit) × Unit) ⊕ (Unit × Unit)) :=
  loopK Try.prog impl_rangesOk.call impl_rangesOk.qt impl_rangesOk.H (codeAt (bodyOf Try.f64) [1, 0, 1, 0, 0]) 0 impl_rangesOk.l0.hd impl_rangesOk.l0.outs [(0, .rows false (.pair (.int .i64) (.int .i64)) l1), (5, .rows false (.pair (.int .i64) (.int .i64)) t5), (6, .v (.int .i64 t6))] N ((t7, ()), ())
noncomputable def impl_rangesOk (N : Nat) (l : (List (Int × Int))) : Option ((Bool × Unit) × Unit) :=
  ofFn Try.prog impl_rangesOk.call impl_rangesOk.qt impl_rangesOk.H N Try.f64 [.one (.sh (.rows (.pair (.int .i64) (.int .i64))))] [] [ak_b] [] [⟨[], [], [], []⟩] (l, ()) ()
noncomputable def impl_rangesOk.S (N : Nat) : Say := ⟨false, 64, [.one (.sh (.rows (.pair (.int .i64) (.int .i64))))], [], [ak_b], [], fun a s => impl_rangesOk N a.1⟩
set_option maxRecDepth 100000 in
theorem impl_rangesOk.l0.eq (N : Nat) (l1 : (List (Int × Int))) (t5 : (List (Int × Int))) (t6 : Int) (t7 : Int) : impl_rangesOk.l0 (N + 1) l1 t5 t6 t7 =
 sel (decide (t7 < t6))
  (
  chk ((decide (0 ≤ t7)) && (decide (t7 < (t5.length : Int)))) (
  andK (α := ((Bool × Unit) × ((Int × (Int × Unit)) × Unit))) (
   andK (impl_isVarint N (rdS (.pair (.int .i64) (.int .i64)) t5 (Int.toNat t7)).1) fun u1 =>
   sel (!u1.1.1)
    (
    some (((true, ()), (((rdS (.pair (.int .i64) (.int .i64)) t5 (Int.toNat t7)).1, ((rdS (.pair (.int .i64) (.int .i64)) t5 (Int.toNat t7)).2, ())), ()))))
    (
    andK (impl_isVarint N (rdS (.pair (.int .i64) (.int .i64)) t5 (Int.toNat t7)).2) fun u2 =>
    sel (!u2.1.1)
     (
     some (((true, ()), (((rdS (.pair (.int .i64) (.int .i64)) t5 (Int.toNat t7)).1, ((rdS (.pair (.int .i64) (.int .i64)) t5 (Int.toNat t7)).2, ())), ()))))
     (
     sel (decide ((rdS (.pair (.int .i64) (.int .i64)) t5 (Int.toNat t7)).2 < (rdS (.pair (.int .i64) (.int .i64)) t5 (Int.toNat t7)).1))
      (
      some (((true, ()), (((rdS (.pair (.int .i64) (.int .i64)) t5 (Int.toNat t7)).1, ((rdS (.pair (.int .i64) (.int .i64)) t5 (Int.toNat t7)).2, ())), ()))))
      (
      sel (decide (0 < t7))
       (
       chk ((decide (0 ≤ (IntKind.i64.wrap (t7 - 1)))) && (decide ((IntKind.i64.wrap (t7 - 1)) < (l1.length : Int)))) (
       some ((((decide ((rdS (.pair (.int .i64) (.int .i64)) l1 (Int.toNat (IntKind.i64.wrap (t7 - 1)))).1 < (IntKind.i64.wrap ((rdS (.pair (.int .i64) (.int .i64)) t5 (Int.toNat t7)).2 + 2)))), ()), (((rdS (.pair (.int .i64) (.int .i64)) t5 (Int.toNat t7)).1, ((rdS (.pair (.int .i64) (.int .i64)) t5 (Int.toNat t7)).2, ())), ())))))
       (
       some (((false, ()), (((rdS (.pair (.int .i64) (.int .i64)) t5 (Int.toNat t7)).1, ((rdS (.pair (.int .i64) (.int .i64)) t5 (Int.toNat t7)).2, ())), ())))))))) fun j3 =>
  sel j3.1.1
   (
   some (.inl ((false, ()), ())))
   (
   impl_rangesOk.l0 N l1 t5 t6 (IntKind.i64.wrap (t7 + 1)))))
  (
  some (.inr (((), ())))) := by kernel_rfl
set_option maxRecDepth 100000 in
theorem impl_rangesOk.eq (N : Nat) (l : (List (Int × Int))) : impl_rangesOk N l =
 andK (impl_rangesOk.l0 N l l (l.length : Int) 0) fun l4 =>
 orK l4 (fun x5 =>
  some (x5.1, ()))
  (fun x6 =>
  some ((true, ()), ())) := by kernel_rfl
set_option maxRecDepth 100000 in
theorem impl_rangesOk.say (N : Nat) : SayOk Try.prog (impl_rangesOk.S N) := sayOk_mk (N := N) (H := impl_rangesOk.H) (preps := [⟨[], [], [], []⟩]) (l := impl_rangesOk.says) (fn := Try.f64) (c := bodyOf Try.f64)
  (by kernel_rfl) (by kernel_rfl) (by kernel_rfl) (by kernel_rfl) (by kernel_rfl) (by kernel_rfl) (by kernel_rfl)
  (fun N => SayAll.cons (impl_isVarint.say N) (SayAll.nil)) (fun a s => by kernel_rfl)

/-! ### loop.example/g00206/impl.GoodRanges: function 36 -/
noncomputable def impl_GoodRanges.H : Hints := hintsOf []
noncomputable def impl_GoodRanges.says (N : Nat) : List Say := [impl_rangesOk.S N]
noncomputable def impl_GoodRanges.call (N : Nat) : CallK := callBy (impl_GoodRanges.says N)
noncomputable def impl_GoodRanges.qt (N : Nat) : FuncId → List PV → Sig → Cl := qtBy (impl_GoodRanges.says N)
noncomputable def impl_GoodRanges (N : Nat) (l : (List (Int × Int))) : Option ((Bool × Unit) × Unit) :=
  ofFn Try.prog impl_GoodRanges.call impl_GoodRanges.qt impl_GoodRanges.H N Try.f36 [.one (.sh (.rows (.pair (.int .i64) (.int .i64))))] [] [ak_b] [] [⟨[], [], [], []⟩] (l, ()) ()
noncomputable def impl_GoodRanges.S (N : Nat) : Say := ⟨false, 36, [.one (.sh (.rows (.pair (.int .i64) (.int .i64))))], [], [ak_b], [], fun a s => impl_GoodRanges N a.1⟩
set_option maxRecDepth 100000 in
theorem impl_GoodRanges.eq (N : Nat) (l : (List (Int × Int))) : impl_GoodRanges N l =
 sel (decide ((l.length : Int) ≤ 20))
  (
  andK (impl_rangesOk N l) fun u1 =>
  some (u1.1, ()))
  (
  some ((false, ()), ())) := by kernel_rfl
set_option maxRecDepth 100000 in
theorem impl_GoodRanges.say (N : Nat) : SayOk Try.prog (impl_GoodRanges.S N) := sayOk_mk (N := N) (H := impl_GoodRanges.H) (preps := [⟨[], [], [], []⟩]) (l := impl_GoodRanges.says) (fn := Try.f36) (c := bodyOf Try.f36)
  (by kernel_rfl) (by kernel_rfl) (by kernel_rfl) (by kernel_rfl) (by kernel_rfl) (by kernel_rfl) (by kernel_rfl)
  (fun N => SayAll.cons (impl_rangesOk.say N) (SayAll.nil)) (fun a s => by kernel_rfl)

/-! ### loop.example/g00206/impl.hasNumber$1: function 125 -/
noncomputable def impl_hasNumber_1.H : Hints := hintsOf []
noncomputable def impl_hasNumber_1.says (N : Nat) : List Say := [impl_in.S N]
noncomputable def impl_hasNumber_1.call (N : Nat) : CallK := callBy (impl_hasNumber_1.says N)
noncomputable def impl_hasNumber_1.qt (N : Nat) : FuncId → List PV → Sig → Cl := qtBy (impl_hasNumber_1.says N)
noncomputable def impl_hasNumber_1 (N : Nat) (r_0 : Int) (r_1 : Int) (p0_0 : Int) : Option ((Bool × Unit) × ((Int × Unit) × Unit)) :=
  ofFn Try.prog impl_hasNumber_1.call impl_hasNumber_1.qt impl_hasNumber_1.H N Try.f125 [.agg [ck_i, ck_i], .one (.ptr 0 0)] [.cells [ck_i]] [ak_b] [.cells [ck_i]] [⟨[], [], [], []⟩] ((r_0, (r_1, ())), ((), ())) ((p0_0, ()), ())
noncomputable def impl_hasNumber_1.S (N : Nat) : Say := ⟨false, 125, [.agg [ck_i, ck_i], .one (.ptr 0 0)], [.cells [ck_i]], [ak_b], [.cells [ck_i]], fun a s => impl_hasNumber_1 N a.1.1 a.1.2.1 s.1.1⟩
set_option maxRecDepth 100000 in
theorem impl_hasNumber_1.eq (N : Nat) (r_0 : Int) (r_1 : Int) (p0_0 : Int) : impl_hasNumber_1 N r_0 r_1 p0_0 =
 andK (impl_in N p0_0 r_0 r_1) fun u1 =>
 some (u1.1, ((p0_0, ()), ())) := by kernel_rfl
set_option maxRecDepth 100000 in
theorem impl_hasNumber_1.say (N : Nat) : SayOk Try.prog (impl_hasNumber_1.S N) := sayOk_mk (N := N) (H := impl_hasNumber_1.H) (preps := [⟨[], [], [], []⟩]) (l := impl_hasNumber_1.says) (fn := Try.f125) (c := bodyOf Try.f125)
  (by kernel_rfl) (by kernel_rfl) (by kernel_rfl) (by kernel_rfl) (by kernel_rfl) (by kernel_rfl) (by kernel_rfl)
  (fun N => SayAll.cons (impl_in.say N) (SayAll.nil)) (fun a s => by kernel_rfl)

/-! ### slices.IndexFunc[[]loop.example/g00206/impl.Range,loop.example/g00206/impl.Range]: function 142 -/
noncomputable def slices_IndexFuncimpl_Range_impl_Range.H : Hints := hintsOf [(2000002, .loop ⟨.normal, [0, 7], [1, 8], [.fn 125 [.ptr 0 0], ak_i], [.cells [ck_i]], [⟨[], [], [], []⟩]⟩ [⟨.ret, [], [4], [ak_i], [.cells [ck_i]], [⟨[], [], [], []⟩]⟩, ⟨(.exit 0), [], [], [], [.cells [ck_i]], [⟨[], [], [], []⟩]⟩])]
noncomputable def slices_IndexFuncimpl_Range_impl_Range.says (N : Nat) : List Say := [impl_hasNumber_1.S N]
noncomputable def slices_IndexFuncimpl_Range_impl_Range.call (N : Nat) : CallK := callBy (slices_IndexFuncimpl_Range_impl_Range.says N)
noncomputable def slices_IndexFuncimpl_Range_impl_Range.qt (N : Nat) : FuncId → List PV → Sig → Cl := qtBy (slices_IndexFuncimpl_Range_impl_Range.says N)
noncomputable def slices_IndexFuncimpl_Range_impl_Range.l0.hd : Alt := ⟨.normal, [0, 7], [1, 8], [.fn 125 [.ptr 0 0], ak_i], [.cells [ck_i]], [⟨[], [], [], []⟩]⟩
noncomputable def slices_IndexFuncimpl_Range_impl_Range.l0.outs : List Alt := [⟨.ret, [], [4], [ak_i], [.cells [ck_i]], [⟨[], [], [], []⟩]⟩, ⟨(.exit 0), [], [], [], [.cells [ck_i]], [⟨[], [], [], []⟩]⟩]
noncomputable def slices_IndexFuncimpl_Range_impl_Range.l0 (N : Nat) (s1 : (List (Int × Int))) (t7 : Int) (t8 : Int) (p0_01 : Int) : Option (((Int × Unit) × ((Int × Unit) × Unit)) ⊕ (Unit × ((Int × Unit) × Unit))) :=
  loopK Try.prog slices_IndexFuncimpl_Range_impl_Range.call slices_IndexFuncimpl_Range_impl_Range.qt slices_IndexFuncimpl_Range_impl_Range.H (codeAt (bodyOf Try.f142) [1, 0, 1, 0, 0]) 1 slices_IndexFuncimpl_Range_impl_Range.l0.hd slices_IndexFuncimpl_Range_impl_Range.l0.outs [(0, .rows false (.pair (.int .i64) (.int .i64)) s1), (7, .v (.int .i64 t7))] N ((((), ()), (t8, ())), ((p0_01, ()), ()))
noncomputable def slices_IndexFuncimpl_Range_impl_Range (N : Nat) (s : (List (Int × Int))) (p0_0 : Int) : Option ((Int × Unit) × ((Int × Unit) × Unit)) :=
  ofFn Try.prog slices_IndexFuncimpl_Range_impl_Range.call slices_IndexFuncimpl_Range_impl_Range.qt slices_IndexFuncimpl_Range_impl_Range.H N Try.f142 [.one (.sh (.rows (.pair (.int .i64) (.int .i64)))), .fn 125 [.ptr 0 0]] [.cells [ck_i]] [ak_i] [.cells [ck_i]] [⟨[], [], [], []⟩] (s, (((), ()), ())) ((p0_0, ()), ())
noncomputable def slices_IndexFuncimpl_Range_impl_Range.S (N : Nat) : Say := ⟨false, 142, [.one (.sh (.rows (.pair (.int .i64) (.int .i64)))), .fn 125 [.ptr 0 0]], [.cells [ck_i]], [ak_i], [.cells [ck_i]], fun a s => slices_IndexFuncimpl_Range_impl_Range N a.1 s.1.1⟩
set_option maxRecDepth 100000 in
theorem slices_IndexFuncimpl_Range_impl_Range.l0.eq (N : Nat) (s1 : (List (Int × Int))) (t7 : Int) (t8 : Int) (p0_01 : Int) : slices_IndexFuncimpl_Range_impl_Range.l0 (N + 1) s1 t7 t8 p0_01 =
 sel (decide (t8 < t7))
  (
  chk ((decide (0 ≤ t8)) && (decide (t8 < (s1.length : Int)))) (
  andK (impl_hasNumber_1 N (rdS (.pair (.int .i64) (.int .i64)) s1 (Int.toNat t8)).1 (rdS (.pair (.int .i64) (.int .i64)) s1 (Int.toNat t8)).2 p0_01) fun u1 =>
  sel u1.1.1
   (
   some (.inl ((t8, ()), u1.2)))
   (
   slices_IndexFuncimpl_Range_impl_Range.l0 N s1 t7 (IntKind.i64.wrap (t8 + 1)) u1.2.1.1)))
  (
  some (.inr (((), ((p0_01, ()), ()))))) := by kernel_rfl
set_option maxRecDepth 100000 in
theorem slices_IndexFuncimpl_Range_impl_Range.eq (N : Nat) (s : (List (Int × Int))) (p0_0 : Int) : slices_IndexFuncimpl_Range_impl_Range N s p0_0 =
 andK (slices_IndexFuncimpl_Range_impl_Range.l0 N s (s.length : Int) 0 p0_0) fun l2 =>
 orK l2 (fun x3 =>
  some (x3.1, x3.2))
  (fun x4 =>
  some (((-1), ()), x4.2)) := by kernel_rfl
set_option maxRecDepth 100000 in
theorem slices_IndexFuncimpl_Range_impl_Range.say (N : Nat) : SayOk Try.prog (slices_IndexFuncimpl_Range_impl_Range.S N) := sayOk_mk (N := N) (H := slices_IndexFuncimpl_Range_impl_Range.H) (preps := [⟨[], [], [], []⟩]) (l := slices_IndexFuncimpl_Range_impl_Range.says) (fn := Try.f142) (c := bodyOf Try.f142)
  (by kernel_rfl) (by kernel_rfl) (by kernel_rfl) (by kernel_rfl) (by kernel_rfl) (by kernel_rfl) (by kernel_rfl)
  (fun N => SayAll.cons (impl_hasNumber_1.say N) (SayAll.nil)) (fun a s => by kernel_rfl)

/-! ### slices.ContainsFunc[[]loop.example/g00206/impl.Range,loop.example/g00206/impl.Range]: function 124 -/
noncomputable def slices_ContainsFuncimpl_Range_impl_Range.H : Hints := hintsOf []
noncomputable def slices_ContainsFuncimpl_Range_impl_Range.says (N : Nat) : List Say := [slices_IndexFuncimpl_Range_impl_Range.S N]
noncomputable def slices_ContainsFuncimpl_Range_impl_Range.call (N : Nat) : CallK := callBy (slices_ContainsFuncimpl_Range_impl_Range.says N)
noncomputable def slices_ContainsFuncimpl_Range_impl_Range.qt (N : Nat) : FuncId → List PV → Sig → Cl := qtBy (slices_ContainsFuncimpl_Range_impl_Range.says N)
noncomputable def slices_ContainsFuncimpl_Range_impl_Range (N : Nat) (s : (List (Int × Int))) (p0_0 : Int) : Option ((Bool × Unit) × ((Int × Unit) × Unit)) :=
  ofFn Try.prog slices_ContainsFuncimpl_Range_impl_Range.call slices_ContainsFuncimpl_Range_impl_Range.qt slices_ContainsFuncimpl_Range_impl_Range.H N Try.f124 [.one (.sh (.rows (.pair (.int .i64) (.int .i64)))), .fn 125 [.ptr 0 0]] [.cells [ck_i]] [ak_b] [.cells [ck_i]] [⟨[], [], [], []⟩] (s, (((), ()), ())) ((p0_0, ()), ())
noncomputable def slices_ContainsFuncimpl_Range_impl_Range.S (N : Nat) : Say := ⟨false, 124, [.one (.sh (.rows (.pair (.int .i64) (.int .i64)))), .fn 125 [.ptr 0 0]], [.cells [ck_i]], [ak_b], [.cells [ck_i]], fun a s => slices_ContainsFuncimpl_Range_impl_Range N a.1 s.1.1⟩
set_option maxRecDepth 100000 in
theorem slices_ContainsFuncimpl_Range_impl_Range.eq (N : Nat) (s : (List (Int × Int))) (p0_0 : Int) : slices_ContainsFuncimpl_Range_impl_Range N s p0_0 =
 andK (slices_IndexFuncimpl_Range_impl_Range N s p0_0) fun u1 =>
 some (((decide (0 ≤ u1.1.1)), ()), u1.2) := by kernel_rfl
set_option maxRecDepth 100000 in
theorem slices_ContainsFuncimpl_Range_impl_Range.say (N : Nat) : SayOk Try.prog (slices_ContainsFuncimpl_Range_impl_Range.S N) := sayOk_mk (N := N) (H := slices_ContainsFuncimpl_Range_impl_Range.H) (preps := [⟨[], [], [], []⟩]) (l := slices_ContainsFuncimpl_Range_impl_Range.says) (fn := Try.f124) (c := bodyOf Try.f124)
  (by kernel_rfl) (by kernel_rfl) (by kernel_rfl) (by kernel_rfl) (by kernel_rfl) (by kernel_rfl) (by kernel_rfl)
  (fun N => SayAll.cons (slices_IndexFuncimpl_Range_impl_Range.say N) (SayAll.nil)) (fun a s => by kernel_rfl)

/-! ### loop.example/g00206/impl.hasNumber: function 69 -/
noncomputable def impl_hasNumber.H : Hints := hintsOf []
noncomputable def impl_hasNumber.says (N : Nat) : List Say := [slices_ContainsFuncimpl_Range_impl_Range.S N]
noncomputable def impl_hasNumber.call (N : Nat) : CallK := callBy (impl_hasNumber.says N)
noncomputable def impl_hasNumber.qt (N : Nat) : FuncId → List PV → Sig → Cl := qtBy (impl_hasNumber.says N)
noncomputable def impl_hasNumber (N : Nat) (l : (List (Int × Int))) (n : Int) : Option ((Bool × Unit) × Unit) :=
  ofFn Try.prog impl_hasNumber.call impl_hasNumber.qt impl_hasNumber.H N Try.f69 [.one (.sh (.rows (.pair (.int .i64) (.int .i64)))), ak_i] [] [ak_b] [] [⟨[], [], [], []⟩] (l, (n, ())) ()
noncomputable def impl_hasNumber.S (N : Nat) : Say := ⟨false, 69, [.one (.sh (.rows (.pair (.int .i64) (.int .i64)))), ak_i], [], [ak_b], [], fun a s => impl_hasNumber N a.1 a.2.1⟩
set_option maxRecDepth 100000 in
theorem impl_hasNumber.eq (N : Nat) (l : (List (Int × Int))) (n : Int) : impl_hasNumber N l n =
 andK (slices_ContainsFuncimpl_Range_impl_Range N l n) fun u1 =>
 some (u1.1, ()) := by kernel_rfl
set_option maxRecDepth 100000 in
theorem impl_hasNumber.say (N : Nat) : SayOk Try.prog (impl_hasNumber.S N) := sayOk_mk (N := N) (H := impl_hasNumber.H) (preps := [⟨[], [], [], []⟩]) (l := impl_hasNumber.says) (fn := Try.f69) (c := bodyOf Try.f69)
  (by kernel_rfl) (by kernel_rfl) (by kernel_rfl) (by kernel_rfl) (by kernel_rfl) (by kernel_rfl) (by kernel_rfl)
  (fun N => SayAll.cons (slices_ContainsFuncimpl_Range_impl_Range.say N) (SayAll.nil)) (fun a s => by kernel_rfl)

/-! ### loop.example/g00206/impl.sampled: function 70 -/
noncomputable def impl_sampled.H : Hints := hintsOf [(7, .join [⟨.normal, [], [3, 6, 7], [.one (.ptr 0 0), .one (.ptr 1 0), ak_i], [.cells [ck_b, ck_i, ck_i, ck_i, ck_i], .cells [ck_b, ck_i, ck_i, ck_i, ck_i]], [⟨[], [], [], []⟩]⟩])]
noncomputable def impl_sampled.says (N : Nat) : List Say := []
noncomputable def impl_sampled.call (N : Nat) : CallK := callBy (impl_sampled.says N)
noncomputable def impl_sampled.qt (N : Nat) : FuncId → List PV → Sig → Cl := qtBy (impl_sampled.says N)
noncomputable def impl_sampled (N : Nat) (r_0 : Bool) (r_1 : Int) (r_2 : Int) (r_3 : Int) (r_4 : Int) (latest : Int) (delay : Int) : Option (((Bool × (Int × (Int × (Int × (Int × Unit))))) × Unit) × Unit) :=
  ofFn Try.prog impl_sampled.call impl_sampled.qt impl_sampled.H N Try.f70 [.agg [ck_b, ck_i, ck_i, ck_i, ck_i], ak_i, ak_i] [] [.agg [ck_b, ck_i, ck_i, ck_i, ck_i]] [] [⟨[], [], [], []⟩] ((r_0, (r_1, (r_2, (r_3, (r_4, ()))))), (latest, (delay, ()))) ()
noncomputable def impl_sampled.S (N : Nat) : Say := ⟨false, 70, [.agg [ck_b, ck_i, ck_i, ck_i, ck_i], ak_i, ak_i], [], [.agg [ck_b, ck_i, ck_i, ck_i, ck_i]], [], fun a s => impl_sampled N a.1.1 a.1.2.1 a.1.2.2.1 a.1.2.2.2.1 a.1.2.2.2.2.1 a.2.1 a.2.2.1⟩
set_option maxRecDepth 100000 in
theorem impl_sampled.eq (N : Nat) (r_0 : Bool) (r_1 : Int) (r_2 : Int) (r_3 : Int) (r_4 : Int) (latest : Int) (delay : Int) : impl_sampled N r_0 r_1 r_2 r_3 r_4 latest delay =
 sel (!r_0)
  (
  some (((true, (latest, (latest, (latest, ((IntKind.i64.wrap (Int.tdiv latest 2)), ()))))), ()), ()))
  (
  andK (α := ((Unit × (Unit × (Int × Unit))) × ((Bool × (Int × (Int × (Int × (Int × Unit))))) × ((Bool × (Int × (Int × (Int × (Int × Unit))))) × Unit)))) (
   sel (decide ((mmI false latest r_2) ≤ (IntKind.i64.wrap (latest - delay))))
    (
    some ((((), ((), ((IntKind.i64.wrap (latest - delay)), ()))), ((r_0, (latest, ((mmI false latest r_2), (r_3, (r_4, ()))))), ((false, (0, (0, (0, (0, ()))))), ())))))
    (
    some ((((), ((), (latest, ()))), ((r_0, (latest, ((mmI false latest r_2), (r_3, (r_4, ()))))), ((false, (0, (0, (0, (0, ()))))), ())))))) fun j1 =>
  some (((j1.2.1.1, (j1.2.1.2.1, (j1.2.1.2.2.1, ((IntKind.i64.wrap (Int.tdiv (IntKind.i64.wrap ((IntKind.i64.wrap (7 * j1.2.1.2.2.2.1)) + j1.1.2.2.1)) 8)), ((IntKind.i64.wrap (Int.tdiv (IntKind.i64.wrap ((IntKind.i64.wrap (3 * j1.2.1.2.2.2.2.1)) + (mmI true (IntKind.i64.wrap (j1.2.1.2.2.2.1 - j1.1.2.2.1)) (IntKind.i64.wrap (0 - (IntKind.i64.wrap (j1.2.1.2.2.2.1 - j1.1.2.2.1))))))) 4)), ()))))), ()), ())) := by kernel_rfl
set_option maxRecDepth 100000 in
theorem impl_sampled.say (N : Nat) : SayOk Try.prog (impl_sampled.S N) := sayOk_mk (N := N) (H := impl_sampled.H) (preps := [⟨[], [], [], []⟩]) (l := impl_sampled.says) (fn := Try.f70) (c := bodyOf Try.f70)
  (by kernel_rfl) (by kernel_rfl) (by kernel_rfl) (by kernel_rfl) (by kernel_rfl) (by kernel_rfl) (by kernel_rfl)
  (fun N => SayAll.nil) (fun a s => by kernel_rfl)

/-! ### (loop.example/g00206/impl.Rtt).wait: function 126 -/
noncomputable def impl_Rtt_wait.H : Hints := hintsOf []
noncomputable def impl_Rtt_wait.says (N : Nat) : List Say := []
noncomputable def impl_Rtt_wait.call (N : Nat) : CallK := callBy (impl_Rtt_wait.says N)
noncomputable def impl_Rtt_wait.qt (N : Nat) : FuncId → List PV → Sig → Cl := qtBy (impl_Rtt_wait.says N)
noncomputable def impl_Rtt_wait (N : Nat) (r_0 : Bool) (r_1 : Int) (r_2 : Int) (r_3 : Int) (r_4 : Int) : Option ((Int × Unit) × Unit) :=
  ofFn Try.prog impl_Rtt_wait.call impl_Rtt_wait.qt impl_Rtt_wait.H N Try.f126 [.agg [ck_b, ck_i, ck_i, ck_i, ck_i]] [] [ak_i] [] [⟨[], [], [], []⟩] ((r_0, (r_1, (r_2, (r_3, (r_4, ()))))), ()) ()
noncomputable def impl_Rtt_wait.S (N : Nat) : Say := ⟨false, 126, [.agg [ck_b, ck_i, ck_i, ck_i, ck_i]], [], [ak_i], [], fun a s => impl_Rtt_wait N a.1.1 a.1.2.1 a.1.2.2.1 a.1.2.2.2.1 a.1.2.2.2.2.1⟩
set_option maxRecDepth 100000 in
theorem impl_Rtt_wait.eq (N : Nat) (r_0 : Bool) (r_1 : Int) (r_2 : Int) (r_3 : Int) (r_4 : Int) : impl_Rtt_wait N r_0 r_1 r_2 r_3 r_4 =
 some (((mmI true (IntKind.i64.wrap (Int.tdiv (IntKind.i64.wrap ((mmI true r_3 r_1) * 9)) 8)) 1), ()), ()) := by kernel_rfl
set_option maxRecDepth 100000 in
theorem impl_Rtt_wait.say (N : Nat) : SayOk Try.prog (impl_Rtt_wait.S N) := sayOk_mk (N := N) (H := impl_Rtt_wait.H) (preps := [⟨[], [], [], []⟩]) (l := impl_Rtt_wait.says) (fn := Try.f126) (c := bodyOf Try.f126)
  (by kernel_rfl) (by kernel_rfl) (by kernel_rfl) (by kernel_rfl) (by kernel_rfl) (by kernel_rfl) (by kernel_rfl)
  (fun N => SayAll.nil) (fun a s => by kernel_rfl)

/-! ### (*loop.example/g00206/impl.Space).isLost: function 71 -/
noncomputable def impl_Space_isLost_2.H : Hints := hintsOf [(5000001, .join [⟨.normal, [], [0, 4, 7], [.one (.ptr 0 0), .one (.ptr 2 0), ak_b], [.cells [ck_i, .own 1, ck_b, ck_i, ck_i, ck_i, ck_i], .rows (.pair (.int .i64) (.pair (.int .i64) (.int .i64))) true, .cells [ck_i, ck_i, ck_i]], [⟨[], [], [], []⟩]⟩])]
noncomputable def impl_Space_isLost_2.says (N : Nat) : List Say := [impl_Rtt_wait.S N]
noncomputable def impl_Space_isLost_2.call (N : Nat) : CallK := callBy (impl_Space_isLost_2.says N)
noncomputable def impl_Space_isLost_2.qt (N : Nat) : FuncId → List PV → Sig → Cl := qtBy (impl_Space_isLost_2.says N)
noncomputable def impl_Space_isLost_2 (N : Nat) (x_0 : Int) (x_1 : Int) (x_2 : Int) (now : Int) (p0_0 : Int) (p0_2 : Bool) (p0_3 : Int) (p0_4 : Int) (p0_5 : Int) (p0_6 : Int) (p1 : (List (Int × (Int × Int)))) : Option ((Bool × Unit) × ((Int × (Unit × (Bool × (Int × (Int × (Int × (Int × Unit))))))) × ((List (Int × (Int × Int))) × Unit))) :=
  ofFn Try.prog impl_Space_isLost_2.call impl_Space_isLost_2.qt impl_Space_isLost_2.H N Try.f71 [.one (.ptr 0 0), .agg [ck_i, ck_i, ck_i], ak_i] [.cells [ck_i, .own 1, ck_b, ck_i, ck_i, ck_i, ck_i], .rows (.pair (.int .i64) (.pair (.int .i64) (.int .i64)))] [ak_b] [.cells [ck_i, .own 1, ck_b, ck_i, ck_i, ck_i, ck_i], .rows (.pair (.int .i64) (.pair (.int .i64) (.int .i64))) true] [⟨[], [], [], []⟩] ((), ((x_0, (x_1, (x_2, ()))), (now, ()))) ((p0_0, ((), (p0_2, (p0_3, (p0_4, (p0_5, (p0_6, ()))))))), (p1, ()))
noncomputable def impl_Space_isLost_2.S (N : Nat) : Say := ⟨false, 71, [.one (.ptr 0 0), .agg [ck_i, ck_i, ck_i], ak_i], [.cells [ck_i, .own 1, ck_b, ck_i, ck_i, ck_i, ck_i], .rows (.pair (.int .i64) (.pair (.int .i64) (.int .i64)))], [ak_b], [.cells [ck_i, .own 1, ck_b, ck_i, ck_i, ck_i, ck_i], .rows (.pair (.int .i64) (.pair (.int .i64) (.int .i64))) true], fun a s => impl_Space_isLost_2 N a.2.1.1 a.2.1.2.1 a.2.1.2.2.1 a.2.2.1 s.1.1 s.1.2.2.1 s.1.2.2.2.1 s.1.2.2.2.2.1 s.1.2.2.2.2.2.1 s.1.2.2.2.2.2.2.1 s.2.1⟩
set_option maxRecDepth 100000 in
theorem impl_Space_isLost_2.eq (N : Nat) (x_0 : Int) (x_1 : Int) (x_2 : Int) (now : Int) (p0_0 : Int) (p0_2 : Bool) (p0_3 : Int) (p0_4 : Int) (p0_5 : Int) (p0_6 : Int) (p1 : (List (Int × (Int × Int)))) : impl_Space_isLost_2 N x_0 x_1 x_2 now p0_0 p0_2 p0_3 p0_4 p0_5 p0_6 p1 =
 andK (α := ((Unit × (Unit × (Bool × Unit))) × ((Int × (Unit × (Bool × (Int × (Int × (Int × (Int × Unit))))))) × ((List (Int × (Int × Int))) × ((Int × (Int × (Int × Unit))) × Unit))))) (
  sel p0_2
   (
   andK (impl_Rtt_wait N p0_2 p0_3 p0_4 p0_5 p0_6) fun u1 =>
   some ((((), ((), ((decide (x_1 ≤ (IntKind.i64.wrap (now - u1.1.1)))), ()))), ((p0_0, ((), (p0_2, (p0_3, (p0_4, (p0_5, (p0_6, ()))))))), (p1, ((x_0, (x_1, (x_2, ()))), ()))))))
   (
   some ((((), ((), (false, ()))), ((p0_0, ((), (p0_2, (p0_3, (p0_4, (p0_5, (p0_6, ()))))))), (p1, ((x_0, (x_1, (x_2, ()))), ()))))))) fun j2 =>
 sel (decide (j2.2.2.2.1.1 < j2.2.1.1))
  (
  sel (decide (j2.2.2.2.1.1 ≤ (IntKind.i64.wrap (j2.2.1.1 - 3))))
   (
   some ((true, ()), ((j2.2.1.1, ((), (j2.2.1.2.2.1, (j2.2.1.2.2.2.1, (j2.2.1.2.2.2.2.1, (j2.2.1.2.2.2.2.2.1, (j2.2.1.2.2.2.2.2.2.1, ()))))))), (j2.2.2.1, ()))))
   (
   some ((j2.1.2.2.1, ()), ((j2.2.1.1, ((), (j2.2.1.2.2.1, (j2.2.1.2.2.2.1, (j2.2.1.2.2.2.2.1, (j2.2.1.2.2.2.2.2.1, (j2.2.1.2.2.2.2.2.2.1, ()))))))), (j2.2.2.1, ())))))
  (
  some ((false, ()), ((j2.2.1.1, ((), (j2.2.1.2.2.1, (j2.2.1.2.2.2.1, (j2.2.1.2.2.2.2.1, (j2.2.1.2.2.2.2.2.1, (j2.2.1.2.2.2.2.2.2.1, ()))))))), (j2.2.2.1, ())))) := by kernel_rfl
set_option maxRecDepth 100000 in
theorem impl_Space_isLost_2.say (N : Nat) : SayOk Try.prog (impl_Space_isLost_2.S N) := sayOk_mk (N := N) (H := impl_Space_isLost_2.H) (preps := [⟨[], [], [], []⟩]) (l := impl_Space_isLost_2.says) (fn := Try.f71) (c := bodyOf Try.f71)
  (by kernel_rfl) (by kernel_rfl) (by kernel_rfl) (by kernel_rfl) (by kernel_rfl) (by kernel_rfl) (by kernel_rfl)
  (fun N => SayAll.cons (impl_Rtt_wait.say N) (SayAll.nil)) (fun a s => by kernel_rfl)

/-! ### loop.example/g00206/impl.TakeAck: function 24 -/
noncomputable def impl_TakeAck.H : Hints := hintsOf [(5000001, .join [⟨.normal, [1, 2, 3], [4, 8, 43], [.one (.ptr 0 0), .one (.ptr 1 0), ak_b], [.cells [ck_i, .sh (.rows (.pair (.int .i64) (.pair (.int .i64) (.int .i64)))), ck_b, ck_i, ck_i, ck_i, ck_i], .cells [ck_i, .nil, ck_b, ck_i, ck_i, ck_i, ck_i]], [⟨[], [], [], []⟩]⟩]),
  (5000004, .join [⟨.normal, [1, 2, 3], [4, 8, 60], [.one (.ptr 0 0), .one (.ptr 1 0), ak_b], [.cells [ck_i, .sh (.rows (.pair (.int .i64) (.pair (.int .i64) (.int .i64)))), ck_b, ck_i, ck_i, ck_i, ck_i], .cells [ck_i, .nil, ck_b, ck_i, ck_i, ck_i, ck_i]], [⟨[], [], [], []⟩]⟩]),
  (16, .join [⟨.normal, [1, 2, 3, 15, 76, 77, 78], [4, 8, 13, 14, 16], [.one (.ptr 0 0), .one (.ptr 1 0), .one (.ptr 2 0), .one (.own 3), .one (.own 4)], [.cells [ck_i, .sh (.rows (.pair (.int .i64) (.pair (.int .i64) (.int .i64)))), ck_b, ck_i, ck_i, ck_i, ck_i], .cells [ck_i, .nil, ck_b, ck_i, ck_i, ck_i, ck_i], .cells [ck_i, .nil, ck_b, ck_i, ck_i, ck_i, ck_i], .rows (.int .i64), .rows (.pair (.int .i64) (.pair (.int .i64) (.int .i64)))], [⟨[], [], [], []⟩]⟩]),
  (2000009, .loop ⟨.normal, [1, 2, 3, 15, 76, 77], [4, 8, 13, 14, 16, 78], [.one (.ptr 0 0), .one (.ptr 1 0), .one (.ptr 2 0), .one (.own 3), .one (.own 4), ak_i], [.cells [ck_i, .sh (.rows (.pair (.int .i64) (.pair (.int .i64) (.int .i64)))), ck_b, ck_i, ck_i, ck_i, ck_i], .cells [ck_i, .nil, ck_b, ck_i, ck_i, ck_i, ck_i], .cells [ck_i, .nil, ck_b, ck_i, ck_i, ck_i, ck_i], .rows (.int .i64), .rows (.pair (.int .i64) (.pair (.int .i64) (.int .i64)))], [⟨[(14, (.int .i64)), (16, (.pair (.int .i64) (.pair (.int .i64) (.int .i64))))], [], [], [3, 4]⟩, ⟨[], [], [], [3, 4]⟩]⟩ [⟨(.exit 0), [2, 15], [8, 13, 14, 16], [.one (.ptr 1 0), .one (.ptr 2 0), .one (.own 3), .one (.own 4)], [.cells [ck_i, .sh (.rows (.pair (.int .i64) (.pair (.int .i64) (.int .i64)))), ck_b, ck_i, ck_i, ck_i, ck_i], .cells [ck_i, .nil, ck_b, ck_i, ck_i, ck_i, ck_i], .cells [ck_i, .nil, ck_b, ck_i, ck_i, ck_i, ck_i], .rows (.int .i64), .rows (.pair (.int .i64) (.pair (.int .i64) (.int .i64)))], [⟨[], [], [], [3, 4]⟩]⟩]),
  (23, .join [⟨.normal, [2, 114, 115], [8, 13, 14, 15, 113], [.one (.ptr 1 0), .one (.ptr 2 0), .one (.own 3), .one (.own 5), .one (.own 4)], [.cells [ck_i, .sh (.rows (.pair (.int .i64) (.pair (.int .i64) (.int .i64)))), ck_b, ck_i, ck_i, ck_i, ck_i], .cells [ck_i, .nil, ck_b, ck_i, ck_i, ck_i, ck_i], .cells [ck_i, .own 6, ck_b, ck_i, ck_i, ck_i, ck_i], .rows (.int .i64), .rows (.pair (.int .i64) (.pair (.int .i64) (.int .i64))), .rows (.int .i64), .rows (.pair (.int .i64) (.pair (.int .i64) (.int .i64)))], [⟨[], [], [], []⟩]⟩]),
  (2000018, .loop ⟨.normal, [2, 114], [8, 13, 14, 15, 113, 115], [.one (.ptr 1 0), .one (.ptr 2 0), .one (.own 3), .one (.own 5), .one (.own 4), ak_i], [.cells [ck_i, .sh (.rows (.pair (.int .i64) (.pair (.int .i64) (.int .i64)))), ck_b, ck_i, ck_i, ck_i, ck_i], .cells [ck_i, .nil, ck_b, ck_i, ck_i, ck_i, ck_i], .cells [ck_i, .own 6, ck_b, ck_i, ck_i, ck_i, ck_i], .rows (.int .i64), .rows (.pair (.int .i64) (.pair (.int .i64) (.int .i64))), .rows (.int .i64), .rows (.pair (.int .i64) (.pair (.int .i64) (.int .i64)))], [⟨[(15, (.int .i64))], [(2, (1, (.pair (.int .i64) (.pair (.int .i64) (.int .i64)))))], [], [5, 6]⟩, ⟨[], [], [], [5, 6]⟩]⟩ [⟨(.exit 2), [], [8, 13, 14, 15], [.one (.ptr 1 0), .one (.ptr 2 0), .one (.own 3), .one (.own 5)], [.cells [ck_i, .sh (.rows (.pair (.int .i64) (.pair (.int .i64) (.int .i64)))), ck_b, ck_i, ck_i, ck_i, ck_i], .cells [ck_i, .nil, ck_b, ck_i, ck_i, ck_i, ck_i], .cells [ck_i, .own 6, ck_b, ck_i, ck_i, ck_i, ck_i], .rows (.int .i64), .rows (.pair (.int .i64) (.pair (.int .i64) (.int .i64))), .rows (.int .i64), .rows (.pair (.int .i64) (.pair (.int .i64) (.int .i64)))], [⟨[], [], [], [5, 6]⟩]⟩])]
noncomputable def impl_TakeAck.says (N : Nat) : List Say := [impl_GoodSpace.S N, impl_GoodRanges.S N, impl_isTick.S N, impl_hasNumber.S N, impl_sampled.S N, impl_Space_isLost_2.S N]
noncomputable def impl_TakeAck.call (N : Nat) : CallK := callBy (impl_TakeAck.says N)
noncomputable def impl_TakeAck.qt (N : Nat) : FuncId → List PV → Sig → Cl := qtBy (impl_TakeAck.says N)
noncomputable def impl_TakeAck.l0.hd : Alt := ⟨.normal, [1, 2, 3, 15, 76, 77], [4, 8, 13, 14, 16, 78], [.one (.ptr 0 0), .one (.ptr 1 0), .one (.ptr 2 0), .one (.own 3), .one (.own 4), ak_i], [.cells [ck_i, .sh (.rows (.pair (.int .i64) (.pair (.int .i64) (.int .i64)))), ck_b, ck_i, ck_i, ck_i, ck_i], .cells [ck_i, .nil, ck_b, ck_i, ck_i, ck_i, ck_i], .cells [ck_i, .nil, ck_b, ck_i, ck_i, ck_i, ck_i], .rows (.int .i64), .rows (.pair (.int .i64) (.pair (.int .i64) (.int .i64)))], [⟨[(14, (.int .i64)), (16, (.pair (.int .i64) (.pair (.int .i64) (.int .i64))))], [], [], [3, 4]⟩, ⟨[], [], [], [3, 4]⟩]⟩
noncomputable def impl_TakeAck.l0.outs : List Alt := [⟨(.exit 0), [2, 15], [8, 13, 14, 16], [.one (.ptr 1 0), .one (.ptr 2 0), .one (.own 3), .one (.own 4)], [.cells [ck_i, .sh (.rows (.pair (.int .i64) (.pair (.int .i64) (.int .i64)))), ck_b, ck_i, ck_i, ck_i, ck_i], .cells [ck_i, .nil, ck_b, ck_i, ck_i, ck_i, ck_i], .cells [ck_i, .nil, ck_b, ck_i, ck_i, ck_i, ck_i], .rows (.int .i64), .rows (.pair (.int .i64) (.pair (.int .i64) (.int .i64)))], [⟨[], [], [], [3, 4]⟩]⟩]
noncomputable def impl_TakeAck.l0 (N : Nat) (o1 : (List (Int × Int))) (t1 : Int) (C1 : Int) (t15 : (List Int)) (t76 : (List (Int × (Int × Int)))) (t77 : Int) (t78 : Int) (p0_0 : Int) (p0_1 : (List (Int × (Int × Int)))) (p0_2 : Bool) (p0_3 : Int) (p0_4 : Int) (p0_5 : Int) (p0_6 : Int) (p1_0 : Int) (p1_2 : Bool) (p1_3 : Int) (p1_4 : Int) (p1_5 : Int) (p1_6 : Int) (p2_0 : Int) (p2_2 : Bool) (p2_3 : Int) (p2_4 : Int) (p2_5 : Int) (p2_6 : Int) (p3 : (List Int)) (p4 : (List (Int × (Int × Int)))) : Option ((Unit × (Unit × (Unit × (Unit × Unit)))) × ((Int × ((List (Int × (Int × Int))) × (Bool × (Int × (Int × (Int × (Int × Unit))))))) × ((Int × (Unit × (Bool × (Int × (Int × (Int × (Int × Unit))))))) × ((Int × (Unit × (Bool × (Int × (Int × (Int × (Int × Unit))))))) × ((List Int) × ((List (Int × (Int × Int))) × Unit)))))) :=
  loopK Try.prog impl_TakeAck.call impl_TakeAck.qt impl_TakeAck.H (codeAt (bodyOf Try.f24) [1, 1, 1, 1, 1, 0, 1, 0, 0]) 3 impl_TakeAck.l0.hd impl_TakeAck.l0.outs [(1, .rows false (.pair (.int .i64) (.int .i64)) o1), (2, .v (.int .i64 t1)), (3, .v (.int .i64 C1)), (15, .rows true (.int .i64) t15), (76, .rows false (.pair (.int .i64) (.pair (.int .i64) (.int .i64))) t76), (77, .v (.int .i64 t77))] N (((), ((), ((), ((), ((), (t78, ())))))), ((p0_0, (p0_1, (p0_2, (p0_3, (p0_4, (p0_5, (p0_6, ()))))))), ((p1_0, ((), (p1_2, (p1_3, (p1_4, (p1_5, (p1_6, ()))))))), ((p2_0, ((), (p2_2, (p2_3, (p2_4, (p2_5, (p2_6, ()))))))), (p3, (p4, ()))))))
noncomputable def impl_TakeAck.l1.hd : Alt := ⟨.normal, [2, 114], [8, 13, 14, 15, 113, 115], [.one (.ptr 1 0), .one (.ptr 2 0), .one (.own 3), .one (.own 5), .one (.own 4), ak_i], [.cells [ck_i, .sh (.rows (.pair (.int .i64) (.pair (.int .i64) (.int .i64)))), ck_b, ck_i, ck_i, ck_i, ck_i], .cells [ck_i, .nil, ck_b, ck_i, ck_i, ck_i, ck_i], .cells [ck_i, .own 6, ck_b, ck_i, ck_i, ck_i, ck_i], .rows (.int .i64), .rows (.pair (.int .i64) (.pair (.int .i64) (.int .i64))), .rows (.int .i64), .rows (.pair (.int .i64) (.pair (.int .i64) (.int .i64)))], [⟨[(15, (.int .i64))], [(2, (1, (.pair (.int .i64) (.pair (.int .i64) (.int .i64)))))], [], [5, 6]⟩, ⟨[], [], [], [5, 6]⟩]⟩
noncomputable def impl_TakeAck.l1.outs : List Alt := [⟨(.exit 2), [], [8, 13, 14, 15], [.one (.ptr 1 0), .one (.ptr 2 0), .one (.own 3), .one (.own 5)], [.cells [ck_i, .sh (.rows (.pair (.int .i64) (.pair (.int .i64) (.int .i64)))), ck_b, ck_i, ck_i, ck_i, ck_i], .cells [ck_i, .nil, ck_b, ck_i, ck_i, ck_i, ck_i], .cells [ck_i, .own 6, ck_b, ck_i, ck_i, ck_i, ck_i], .rows (.int .i64), .rows (.pair (.int .i64) (.pair (.int .i64) (.int .i64))), .rows (.int .i64), .rows (.pair (.int .i64) (.pair (.int .i64) (.int .i64)))], [⟨[], [], [], [5, 6]⟩]⟩]
noncomputable def impl_TakeAck.l1 (N : Nat) (t2 : Int) (t114 : Int) (t115 : Int) (p0_01 : Int) (p0_11 : (List (Int × (Int × Int)))) (p0_21 : Bool) (p0_31 : Int) (p0_41 : Int) (p0_51 : Int) (p0_61 : Int) (p1_01 : Int) (p1_21 : Bool) (p1_31 : Int) (p1_41 : Int) (p1_51 : Int) (p1_61 : Int) (p2_01 : Int) (p2_21 : Bool) (p2_31 : Int) (p2_41 : Int) (p2_51 : Int) (p2_61 : Int) (p31 : (List Int)) (p41 : (List (Int × (Int × Int)))) (p5 : (List Int)) (p6 : (List (Int × (Int × Int)))) : Option ((Unit × (Unit × (Unit × (Unit × Unit)))) × ((Int × ((List (Int × (Int × Int))) × (Bool × (Int × (Int × (Int × (Int × Unit))))))) × ((Int × (Unit × (Bool × (Int × (Int × (Int × (Int × Unit))))))) × ((Int × (Unit × (Bool × (Int × (Int × (Int × (Int × Unit))))))) × ((List Int) × ((List (Int × (Int × Int))) × ((List Int) × ((List (Int × (Int × Int))) × Unit)))))))) :=
  loopK Try.prog impl_TakeAck.call impl_TakeAck.qt impl_TakeAck.H (codeAt (bodyOf Try.f24) [1, 1, 1, 1, 1, 1, 0, 1, 0, 0]) 5 impl_TakeAck.l1.hd impl_TakeAck.l1.outs [(2, .v (.int .i64 t2)), (114, .v (.int .i64 t114))] N (((), ((), ((), ((), ((), (t115, ())))))), ((p0_01, (p0_11, (p0_21, (p0_31, (p0_41, (p0_51, (p0_61, ()))))))), ((p1_01, ((), (p1_21, (p1_31, (p1_41, (p1_51, (p1_61, ()))))))), ((p2_01, ((), (p2_21, (p2_31, (p2_41, (p2_51, (p2_61, ()))))))), (p31, (p41, (p5, (p6, ()))))))))
noncomputable def impl_TakeAck (N : Nat) (G_0 : Int) (G_1 : (List (Int × (Int × Int)))) (G_2 : Bool) (G_3 : Int) (G_4 : Int) (G_5 : Int) (G_6 : Int) (o : (List (Int × Int))) (t : Int) (C : Int) : Option (((Int × (Unit × (Bool × (Int × (Int × (Int × (Int × Unit))))))) × (Unit × (Unit × (Bool × Unit)))) × ((List (Int × (Int × Int))) × ((List Int) × ((List Int) × Unit)))) :=
  ofFn Try.prog impl_TakeAck.call impl_TakeAck.qt impl_TakeAck.H N Try.f24 [.agg [ck_i, .sh (.rows (.pair (.int .i64) (.pair (.int .i64) (.int .i64)))), ck_b, ck_i, ck_i, ck_i, ck_i], .one (.sh (.rows (.pair (.int .i64) (.int .i64)))), ak_i, ak_i] [] [.agg [ck_i, .own 0, ck_b, ck_i, ck_i, ck_i, ck_i], .one (.own 1), .one (.own 2), ak_b] [.rows (.pair (.int .i64) (.pair (.int .i64) (.int .i64))), .rows (.int .i64), .rows (.int .i64)] [⟨[(1, (.int .i64)), (2, (.int .i64))], [(1000000, (1, (.pair (.int .i64) (.pair (.int .i64) (.int .i64)))))], [], [4, 2, 3]⟩, ⟨[], [], [], [6, 3, 5]⟩] ((G_0, (G_1, (G_2, (G_3, (G_4, (G_5, (G_6, ()))))))), (o, (t, (C, ())))) ()
noncomputable def impl_TakeAck.S (N : Nat) : Say := ⟨false, 24, [.agg [ck_i, .sh (.rows (.pair (.int .i64) (.pair (.int .i64) (.int .i64)))), ck_b, ck_i, ck_i, ck_i, ck_i], .one (.sh (.rows (.pair (.int .i64) (.int .i64)))), ak_i, ak_i], [], [.agg [ck_i, .own 0, ck_b, ck_i, ck_i, ck_i, ck_i], .one (.own 1), .one (.own 2), ak_b], [.rows (.pair (.int .i64) (.pair (.int .i64) (.int .i64))), .rows (.int .i64), .rows (.int .i64)], fun a s => impl_TakeAck N a.1.1 a.1.2.1 a.1.2.2.1 a.1.2.2.2.1 a.1.2.2.2.2.1 a.1.2.2.2.2.2.1 a.1.2.2.2.2.2.2.1 a.2.1 a.2.2.1 a.2.2.2.1⟩
set_option maxRecDepth 100000 in
theorem impl_TakeAck.l1.eq (N : Nat) (t2 : Int) (t114 : Int) (t115 : Int) (p0_01 : Int) (p0_11 : (List (Int × (Int × Int)))) (p0_21 : Bool) (p0_31 : Int) (p0_41 : Int) (p0_51 : Int) (p0_61 : Int) (p1_01 : Int) (p1_21 : Bool) (p1_31 : Int) (p1_41 : Int) (p1_51 : Int) (p1_61 : Int) (p2_01 : Int) (p2_21 : Bool) (p2_31 : Int) (p2_41 : Int) (p2_51 : Int) (p2_61 : Int) (p31 : (List Int)) (p41 : (List (Int × (Int × Int)))) (p5 : (List Int)) (p6 : (List (Int × (Int × Int)))) : impl_TakeAck.l1 (N + 1) t2 t114 t115 p0_01 p0_11 p0_21 p0_31 p0_41 p0_51 p0_61 p1_01 p1_21 p1_31 p1_41 p1_51 p1_61 p2_01 p2_21 p2_31 p2_41 p2_51 p2_61 p31 p41 p5 p6 =
 sel (decide (t115 < t114))
  (
  andK (α := ((Unit × (Unit × (Unit × (Unit × (Unit × Unit))))) × ((Int × ((List (Int × (Int × Int))) × (Bool × (Int × (Int × (Int × (Int × Unit))))))) × ((Int × (Unit × (Bool × (Int × (Int × (Int × (Int × Unit))))))) × ((Int × (Unit × (Bool × (Int × (Int × (Int × (Int × Unit))))))) × ((List Int) × ((List (Int × (Int × Int))) × ((List Int) × ((List (Int × (Int × Int))) × Unit))))))))) (
   chk ((decide (0 ≤ t115)) && (decide (t115 < (p41.length : Int)))) (
   andK (impl_Space_isLost_2 N (rdS (.pair (.int .i64) (.pair (.int .i64) (.int .i64))) p41 (Int.toNat t115)).1 (rdS (.pair (.int .i64) (.pair (.int .i64) (.int .i64))) p41 (Int.toNat t115)).2.1 (rdS (.pair (.int .i64) (.pair (.int .i64) (.int .i64))) p41 (Int.toNat t115)).2.2 t2 p2_01 p2_21 p2_31 p2_41 p2_51 p2_61 p6) fun u11 =>
   sel u11.1.1
    (
    chk (decide (p5.length + 1 < most)) (
    some ((((), ((), ((), ((), ((), ()))))), ((p0_01, (p0_11, (p0_21, (p0_31, (p0_41, (p0_51, (p0_61, ()))))))), ((p1_01, ((), (p1_21, (p1_31, (p1_41, (p1_51, (p1_61, ()))))))), ((u11.2.1.1, ((), (u11.2.1.2.2.1, (u11.2.1.2.2.2.1, (u11.2.1.2.2.2.2.1, (u11.2.1.2.2.2.2.2.1, (u11.2.1.2.2.2.2.2.2.1, ()))))))), (p31, (p41, ((p5 ++ [(rdS (.pair (.int .i64) (.pair (.int .i64) (.int .i64))) p41 (Int.toNat t115)).1]), (u11.2.2.1, ())))))))))))
    (
    chk (decide (u11.2.2.1.length + 1 < most)) (
    some ((((), ((), ((), ((), ((), ()))))), ((p0_01, (p0_11, (p0_21, (p0_31, (p0_41, (p0_51, (p0_61, ()))))))), ((p1_01, ((), (p1_21, (p1_31, (p1_41, (p1_51, (p1_61, ()))))))), ((u11.2.1.1, ((), (u11.2.1.2.2.1, (u11.2.1.2.2.2.1, (u11.2.1.2.2.2.2.1, (u11.2.1.2.2.2.2.2.1, (u11.2.1.2.2.2.2.2.2.1, ()))))))), (p31, (p41, (p5, ((u11.2.2.1 ++ [((rdS (.pair (.int .i64) (.pair (.int .i64) (.int .i64))) p41 (Int.toNat t115)).1, ((rdS (.pair (.int .i64) (.pair (.int .i64) (.int .i64))) p41 (Int.toNat t115)).2.1, (rdS (.pair (.int .i64) (.pair (.int .i64) (.int .i64))) p41 (Int.toNat t115)).2.2))]), ()))))))))))))) fun j12 =>
  impl_TakeAck.l1 N t2 t114 (IntKind.i64.wrap (t115 + 1)) j12.2.1.1 j12.2.1.2.1 j12.2.1.2.2.1 j12.2.1.2.2.2.1 j12.2.1.2.2.2.2.1 j12.2.1.2.2.2.2.2.1 j12.2.1.2.2.2.2.2.2.1 j12.2.2.1.1 j12.2.2.1.2.2.1 j12.2.2.1.2.2.2.1 j12.2.2.1.2.2.2.2.1 j12.2.2.1.2.2.2.2.2.1 j12.2.2.1.2.2.2.2.2.2.1 j12.2.2.2.1.1 j12.2.2.2.1.2.2.1 j12.2.2.2.1.2.2.2.1 j12.2.2.2.1.2.2.2.2.1 j12.2.2.2.1.2.2.2.2.2.1 j12.2.2.2.1.2.2.2.2.2.2.1 j12.2.2.2.2.1 j12.2.2.2.2.2.1 j12.2.2.2.2.2.2.1 j12.2.2.2.2.2.2.2.1)
  (
  some ((((), ((), ((), ((), ())))), ((p0_01, (p0_11, (p0_21, (p0_31, (p0_41, (p0_51, (p0_61, ()))))))), ((p1_01, ((), (p1_21, (p1_31, (p1_41, (p1_51, (p1_61, ()))))))), ((p2_01, ((), (p2_21, (p2_31, (p2_41, (p2_51, (p2_61, ()))))))), (p31, (p41, (p5, (p6, ())))))))))) := by kernel_rfl
set_option maxRecDepth 100000 in
theorem impl_TakeAck.l0.eq (N : Nat) (o1 : (List (Int × Int))) (t1 : Int) (C1 : Int) (t15 : (List Int)) (t76 : (List (Int × (Int × Int)))) (t77 : Int) (t78 : Int) (p0_0 : Int) (p0_1 : (List (Int × (Int × Int)))) (p0_2 : Bool) (p0_3 : Int) (p0_4 : Int) (p0_5 : Int) (p0_6 : Int) (p1_0 : Int) (p1_2 : Bool) (p1_3 : Int) (p1_4 : Int) (p1_5 : Int) (p1_6 : Int) (p2_0 : Int) (p2_2 : Bool) (p2_3 : Int) (p2_4 : Int) (p2_5 : Int) (p2_6 : Int) (p3 : (List Int)) (p4 : (List (Int × (Int × Int)))) : impl_TakeAck.l0 (N + 1) o1 t1 C1 t15 t76 t77 t78 p0_0 p0_1 p0_2 p0_3 p0_4 p0_5 p0_6 p1_0 p1_2 p1_3 p1_4 p1_5 p1_6 p2_0 p2_2 p2_3 p2_4 p2_5 p2_6 p3 p4 =
 sel (decide (t78 < t77))
  (
  andK (α := ((Unit × (Unit × (Unit × (Unit × (Unit × Unit))))) × ((Int × ((List (Int × (Int × Int))) × (Bool × (Int × (Int × (Int × (Int × Unit))))))) × ((Int × (Unit × (Bool × (Int × (Int × (Int × (Int × Unit))))))) × ((Int × (Unit × (Bool × (Int × (Int × (Int × (Int × Unit))))))) × ((List Int) × ((List (Int × (Int × Int))) × Unit))))))) (
   chk ((decide (0 ≤ t78)) && (decide (t78 < (t76.length : Int)))) (
   andK (impl_hasNumber N o1 (rdS (.pair (.int .i64) (.pair (.int .i64) (.int .i64))) t76 (Int.toNat t78)).1) fun u7 =>
   sel (!u7.1.1)
    (
    chk (decide (p4.length + 1 < most)) (
    some ((((), ((), ((), ((), ((), ()))))), ((p0_0, (p0_1, (p0_2, (p0_3, (p0_4, (p0_5, (p0_6, ()))))))), ((p1_0, ((), (p1_2, (p1_3, (p1_4, (p1_5, (p1_6, ()))))))), ((p2_0, ((), (p2_2, (p2_3, (p2_4, (p2_5, (p2_6, ()))))))), (p3, ((p4 ++ [((rdS (.pair (.int .i64) (.pair (.int .i64) (.int .i64))) t76 (Int.toNat t78)).1, ((rdS (.pair (.int .i64) (.pair (.int .i64) (.int .i64))) t76 (Int.toNat t78)).2.1, (rdS (.pair (.int .i64) (.pair (.int .i64) (.int .i64))) t76 (Int.toNat t78)).2.2))]), ())))))))))
    (
    chk (decide (p3.length + 1 < most)) (
    chk (decide (0 < (o1.length : Int))) (
    sel (decide ((rdS (.pair (.int .i64) (.pair (.int .i64) (.int .i64))) t76 (Int.toNat t78)).1 = (rdS (.pair (.int .i64) (.int .i64)) o1 0).2))
     (
     andK (impl_sampled N p0_2 p0_3 p0_4 p0_5 p0_6 (IntKind.i64.wrap (t1 - (rdS (.pair (.int .i64) (.pair (.int .i64) (.int .i64))) t76 (Int.toNat t78)).2.1)) C1) fun u8 =>
     some ((((), ((), ((), ((), ((), ()))))), ((p0_0, (p0_1, (p0_2, (p0_3, (p0_4, (p0_5, (p0_6, ()))))))), ((p1_0, ((), (p1_2, (p1_3, (p1_4, (p1_5, (p1_6, ()))))))), ((p2_0, ((), (u8.1.1.1, (u8.1.1.2.1, (u8.1.1.2.2.1, (u8.1.1.2.2.2.1, (u8.1.1.2.2.2.2.1, ()))))))), ((p3 ++ [(rdS (.pair (.int .i64) (.pair (.int .i64) (.int .i64))) t76 (Int.toNat t78)).1]), (p4, ()))))))))
     (
     some ((((), ((), ((), ((), ((), ()))))), ((p0_0, (p0_1, (p0_2, (p0_3, (p0_4, (p0_5, (p0_6, ()))))))), ((p1_0, ((), (p1_2, (p1_3, (p1_4, (p1_5, (p1_6, ()))))))), ((p2_0, ((), (p2_2, (p2_3, (p2_4, (p2_5, (p2_6, ()))))))), ((p3 ++ [(rdS (.pair (.int .i64) (.pair (.int .i64) (.int .i64))) t76 (Int.toNat t78)).1]), (p4, ()))))))))))))) fun j9 =>
  impl_TakeAck.l0 N o1 t1 C1 t15 t76 t77 (IntKind.i64.wrap (t78 + 1)) j9.2.1.1 j9.2.1.2.1 j9.2.1.2.2.1 j9.2.1.2.2.2.1 j9.2.1.2.2.2.2.1 j9.2.1.2.2.2.2.2.1 j9.2.1.2.2.2.2.2.2.1 j9.2.2.1.1 j9.2.2.1.2.2.1 j9.2.2.1.2.2.2.1 j9.2.2.1.2.2.2.2.1 j9.2.2.1.2.2.2.2.2.1 j9.2.2.1.2.2.2.2.2.2.1 j9.2.2.2.1.1 j9.2.2.2.1.2.2.1 j9.2.2.2.1.2.2.2.1 j9.2.2.2.1.2.2.2.2.1 j9.2.2.2.1.2.2.2.2.2.1 j9.2.2.2.1.2.2.2.2.2.2.1 j9.2.2.2.2.1 j9.2.2.2.2.2.1)
  (
  some ((((), ((), ((), ((), ())))), ((p0_0, (p0_1, (p0_2, (p0_3, (p0_4, (p0_5, (p0_6, ()))))))), ((p1_0, ((), (p1_2, (p1_3, (p1_4, (p1_5, (p1_6, ()))))))), ((p2_0, ((), (p2_2, (p2_3, (p2_4, (p2_5, (p2_6, ()))))))), (p3, (p4, ())))))))) := by kernel_rfl
set_option maxRecDepth 100000 in
theorem impl_TakeAck.eq (N : Nat) (G_0 : Int) (G_1 : (List (Int × (Int × Int)))) (G_2 : Bool) (G_3 : Int) (G_4 : Int) (G_5 : Int) (G_6 : Int) (o : (List (Int × Int))) (t : Int) (C : Int) : impl_TakeAck N G_0 G_1 G_2 G_3 G_4 G_5 G_6 o t C =
 andK (α := ((Unit × (Unit × (Bool × Unit))) × ((Int × ((List (Int × (Int × Int))) × (Bool × (Int × (Int × (Int × (Int × Unit))))))) × ((Int × (Unit × (Bool × (Int × (Int × (Int × (Int × Unit))))))) × Unit)))) (
  andK (impl_GoodSpace N G_0 G_1 G_2 G_3 G_4 G_5 G_6) fun u1 =>
  sel (!u1.1.1)
   (
   some ((((), ((), (true, ()))), ((G_0, (G_1, (G_2, (G_3, (G_4, (G_5, (G_6, ()))))))), ((0, ((), (false, (0, (0, (0, (0, ()))))))), ())))))
   (
   andK (impl_GoodRanges N o) fun u2 =>
   sel (!u2.1.1)
    (
    some ((((), ((), (true, ()))), ((G_0, (G_1, (G_2, (G_3, (G_4, (G_5, (G_6, ()))))))), ((0, ((), (false, (0, (0, (0, (0, ()))))))), ())))))
    (
    sel (decide ((o.length : Int) = 0))
     (
     some ((((), ((), (true, ()))), ((G_0, (G_1, (G_2, (G_3, (G_4, (G_5, (G_6, ()))))))), ((0, ((), (false, (0, (0, (0, (0, ()))))))), ())))))
     (
     andK (impl_isTick N t) fun u3 =>
     sel (!u3.1.1)
      (
      some ((((), ((), (true, ()))), ((G_0, (G_1, (G_2, (G_3, (G_4, (G_5, (G_6, ()))))))), ((0, ((), (false, (0, (0, (0, (0, ()))))))), ())))))
      (
      andK (impl_isTick N C) fun u4 =>
      some ((((), ((), ((!u4.1.1), ()))), ((G_0, (G_1, (G_2, (G_3, (G_4, (G_5, (G_6, ()))))))), ((0, ((), (false, (0, (0, (0, (0, ()))))))), ()))))))))) fun j5 =>
 sel j5.1.2.2.1
  (
  some (((0, ((), (false, (0, (0, (0, (0, ()))))))), ((), ((), (false, ())))), ([], ([], ([], ())))))
  (
  andK (α := ((Unit × (Unit × (Bool × Unit))) × ((Int × ((List (Int × (Int × Int))) × (Bool × (Int × (Int × (Int × (Int × Unit))))))) × ((Int × (Unit × (Bool × (Int × (Int × (Int × (Int × Unit))))))) × Unit)))) (
   sel (decide (0 < (j5.2.1.2.1.length : Int)))
    (
    chk ((decide (0 ≤ (IntKind.i64.wrap ((j5.2.1.2.1.length : Int) - 1)))) && (decide ((IntKind.i64.wrap ((j5.2.1.2.1.length : Int) - 1)) < (j5.2.1.2.1.length : Int)))) (
    some ((((), ((), ((decide (t < (rdS (.pair (.int .i64) (.pair (.int .i64) (.int .i64))) j5.2.1.2.1 (Int.toNat (IntKind.i64.wrap ((j5.2.1.2.1.length : Int) - 1)))).2.1)), ()))), (j5.2.1, ((j5.2.2.1.1, ((), (j5.2.2.1.2.2.1, (j5.2.2.1.2.2.2.1, (j5.2.2.1.2.2.2.2.1, (j5.2.2.1.2.2.2.2.2.1, (j5.2.2.1.2.2.2.2.2.2.1, ()))))))), ()))))))
    (
    some ((((), ((), (false, ()))), (j5.2.1, ((j5.2.2.1.1, ((), (j5.2.2.1.2.2.1, (j5.2.2.1.2.2.2.1, (j5.2.2.1.2.2.2.2.1, (j5.2.2.1.2.2.2.2.2.1, (j5.2.2.1.2.2.2.2.2.2.1, ()))))))), ())))))) fun j6 =>
  sel j6.1.2.2.1
   (
   some (((0, ((), (false, (0, (0, (0, (0, ()))))))), ((), ((), (false, ())))), ([], ([], ([], ())))))
   (
   chk (decide (0 < (o.length : Int))) (
   andK (impl_TakeAck.l0 N o t C [] j6.2.1.2.1 (j6.2.1.2.1.length : Int) 0 j6.2.1.1 j6.2.1.2.1 j6.2.1.2.2.1 j6.2.1.2.2.2.1 j6.2.1.2.2.2.2.1 j6.2.1.2.2.2.2.2.1 j6.2.1.2.2.2.2.2.2.1 j6.2.2.1.1 j6.2.2.1.2.2.1 j6.2.2.1.2.2.2.1 j6.2.2.1.2.2.2.2.1 j6.2.2.1.2.2.2.2.2.1 j6.2.2.1.2.2.2.2.2.2.1 (mmI true j6.2.1.1 (rdS (.pair (.int .i64) (.int .i64)) o 0).2) j6.2.1.2.2.1 j6.2.1.2.2.2.1 j6.2.1.2.2.2.2.1 j6.2.1.2.2.2.2.2.1 j6.2.1.2.2.2.2.2.2.1 [] []) fun l10 =>
   andK (impl_TakeAck.l1 N t (l10.2.2.2.2.2.1.length : Int) 0 l10.2.1.1 l10.2.1.2.1 l10.2.1.2.2.1 l10.2.1.2.2.2.1 l10.2.1.2.2.2.2.1 l10.2.1.2.2.2.2.2.1 l10.2.1.2.2.2.2.2.2.1 l10.2.2.1.1 l10.2.2.1.2.2.1 l10.2.2.1.2.2.2.1 l10.2.2.1.2.2.2.2.1 l10.2.2.1.2.2.2.2.2.1 l10.2.2.1.2.2.2.2.2.2.1 l10.2.2.2.1.1 l10.2.2.2.1.2.2.1 l10.2.2.2.1.2.2.2.1 l10.2.2.2.1.2.2.2.2.1 l10.2.2.2.1.2.2.2.2.2.1 l10.2.2.2.1.2.2.2.2.2.2.1 l10.2.2.2.2.1 l10.2.2.2.2.2.1 [] []) fun l13 =>
   some (((l13.2.2.2.1.1, ((), (l13.2.2.2.1.2.2.1, (l13.2.2.2.1.2.2.2.1, (l13.2.2.2.1.2.2.2.2.1, (l13.2.2.2.1.2.2.2.2.2.1, (l13.2.2.2.1.2.2.2.2.2.2.1, ()))))))), ((), ((), (true, ())))), (l13.2.2.2.2.2.2.2.1, (l13.2.2.2.2.1, (l13.2.2.2.2.2.2.1, ()))))))) := by kernel_rfl
set_option maxRecDepth 100000 in
theorem impl_TakeAck.say (N : Nat) : SayOk Try.prog (impl_TakeAck.S N) := sayOk_mk (N := N) (H := impl_TakeAck.H) (preps := [⟨[(1, (.int .i64)), (2, (.int .i64))], [(1000000, (1, (.pair (.int .i64) (.pair (.int .i64) (.int .i64)))))], [], [4, 2, 3]⟩, ⟨[], [], [], [6, 3, 5]⟩]) (l := impl_TakeAck.says) (fn := Try.f24) (c := bodyOf Try.f24)
  (by kernel_rfl) (by kernel_rfl) (by kernel_rfl) (by kernel_rfl) (by kernel_rfl) (by kernel_rfl) (by kernel_rfl)
  (fun N => SayAll.cons (impl_GoodSpace.say N) (SayAll.cons (impl_GoodRanges.say N) (SayAll.cons (impl_isTick.say N) (SayAll.cons (impl_hasNumber.say N) (SayAll.cons (impl_sampled.say N) (SayAll.cons (impl_Space_isLost_2.say N) (SayAll.nil))))))) (fun a s => by kernel_rfl)
noncomputable def impl_TakeAck.SB (N : Nat) : Say := impl_TakeAck.S N |>.lent
theorem impl_TakeAck.sayB (N : Nat) : SayOk Try.prog (impl_TakeAck.SB N) := (impl_TakeAck.say N).lent

/-! ### loop.example/g00206/laws.sameInts: function 26 -/
noncomputable def laws_sameInts.H : Hints := hintsOf [(2000004, .loop ⟨.normal, [0, 1, 12], [13], [ak_i], [], [⟨[], [], [], []⟩]⟩ [⟨.ret, [], [4], [ak_b], [], [⟨[], [], [], []⟩]⟩, ⟨(.exit 0), [], [], [], [], [⟨[], [], [], []⟩]⟩])]
noncomputable def laws_sameInts.says (N : Nat) : List Say := []
noncomputable def laws_sameInts.call (N : Nat) : CallK := callBy (laws_sameInts.says N)
noncomputable def laws_sameInts.qt (N : Nat) : FuncId → List PV → Sig → Cl := qtBy (laws_sameInts.says N)
noncomputable def laws_sameInts.l0.hd : Alt := ⟨.normal, [0, 1, 12], [13], [ak_i], [], [⟨[], [], [], []⟩]⟩
noncomputable def laws_sameInts.l0.outs : List Alt := [⟨.ret, [], [4], [ak_b], [], [⟨[], [], [], []⟩]⟩, ⟨(.exit 0), [], [], [], [], [⟨[], [], [], []⟩]⟩]
noncomputable def laws_sameInts.l0 (N : Nat) (a1 : (List Int)) (b1 : (List Int)) (t12 : Int) (t13 : Int) : Option (((Bool × Unit) × Unit) ⊕ (Unit × Unit)) :=
  loopK Try.prog laws_sameInts.call laws_sameInts.qt laws_sameInts.H (codeAt (bodyOf Try.f26) [1, 1, 0, 1, 0, 0]) 0 laws_sameInts.l0.hd laws_sameInts.l0.outs [(0, .rows false (.int .i64) a1), (1, .rows false (.int .i64) b1), (12, .v (.int .i64 t12))] N ((t13, ()), ())
noncomputable def laws_sameInts (N : Nat) (a : (List Int)) (b : (List Int)) : Option ((Bool × Unit) × Unit) :=
  ofFn Try.prog laws_sameInts.call laws_sameInts.qt laws_sameInts.H N Try.f26 [.one (.sh (.rows (.int .i64))), .one (.sh (.rows (.int .i64)))] [] [ak_b] [] [⟨[], [], [], []⟩] (a, (b, ())) ()
noncomputable def laws_sameInts.S (N : Nat) : Say := ⟨false, 26, [.one (.sh (.rows (.int .i64))), .one (.sh (.rows (.int .i64)))], [], [ak_b], [], fun a s => laws_sameInts N a.1 a.2.1⟩
set_option maxRecDepth 100000 in
theorem laws_sameInts.l0.eq (N : Nat) (a1 : (List Int)) (b1 : (List Int)) (t12 : Int) (t13 : Int) : laws_sameInts.l0 (N + 1) a1 b1 t12 t13 =
 sel (decide (t13 < t12))
  (
  chk ((decide (0 ≤ t13)) && (decide (t13 < (a1.length : Int)))) (
  chk ((decide (0 ≤ t13)) && (decide (t13 < (b1.length : Int)))) (
  sel (!(decide ((a1.getD (Int.toNat t13) 0) = (b1.getD (Int.toNat t13) 0))))
   (
   some (.inl ((false, ()), ())))
   (
   laws_sameInts.l0 N a1 b1 t12 (IntKind.i64.wrap (t13 + 1))))))
  (
  some (.inr (((), ())))) := by kernel_rfl
set_option maxRecDepth 100000 in
theorem laws_sameInts.eq (N : Nat) (a : (List Int)) (b : (List Int)) : laws_sameInts N a b =
 sel (!(decide ((a.length : Int) = (b.length : Int))))
  (
  some ((false, ()), ()))
  (
  andK (laws_sameInts.l0 N a b (a.length : Int) 0) fun l1 =>
  orK l1 (fun x2 =>
   some (x2.1, ()))
   (fun x3 =>
   some ((true, ()), ()))) := by kernel_rfl
set_option maxRecDepth 100000 in
theorem laws_sameInts.say (N : Nat) : SayOk Try.prog (laws_sameInts.S N) := sayOk_mk (N := N) (H := laws_sameInts.H) (preps := [⟨[], [], [], []⟩]) (l := laws_sameInts.says) (fn := Try.f26) (c := bodyOf Try.f26)
  (by kernel_rfl) (by kernel_rfl) (by kernel_rfl) (by kernel_rfl) (by kernel_rfl) (by kernel_rfl) (by kernel_rfl)
  (fun N => SayAll.nil) (fun a s => by kernel_rfl)
noncomputable def laws_sameInts.SB (N : Nat) : Say := laws_sameInts.S N |>.lent
theorem laws_sameInts.sayB (N : Nat) : SayOk Try.prog (laws_sameInts.SB N) := (laws_sameInts.say N).lent

/-! ### loop.example/g00206/spec.HasNumber: function 28 -/
noncomputable def spec_HasNumber.H : Hints := hintsOf []
noncomputable def spec_HasNumber.says (N : Nat) : List Say := [spec_l12Ranges.S N, spec_l12Has.S N]
noncomputable def spec_HasNumber.call (N : Nat) : CallK := callBy (spec_HasNumber.says N)
noncomputable def spec_HasNumber.qt (N : Nat) : FuncId → List PV → Sig → Cl := qtBy (spec_HasNumber.says N)
noncomputable def spec_HasNumber (N : Nat) (l : (List (Int × Int))) (n : Int) : Option ((Bool × (Bool × Unit)) × Unit) :=
  ofFn Try.prog spec_HasNumber.call spec_HasNumber.qt spec_HasNumber.H N Try.f28 [.one (.sh (.rows (.pair (.int .i64) (.int .i64)))), ak_i] [] [ak_b, ak_b] [] [⟨[], [], [], []⟩] (l, (n, ())) ()
noncomputable def spec_HasNumber.S (N : Nat) : Say := ⟨false, 28, [.one (.sh (.rows (.pair (.int .i64) (.int .i64)))), ak_i], [], [ak_b, ak_b], [], fun a s => spec_HasNumber N a.1 a.2.1⟩
set_option maxRecDepth 100000 in
theorem spec_HasNumber.eq (N : Nat) (l : (List (Int × Int))) (n : Int) : spec_HasNumber N l n =
 andK (spec_l12Ranges N l) fun u1 =>
 sel (!u1.1.1)
  (
  some ((false, (false, ())), ()))
  (
  andK (spec_l12Has N l n) fun u2 =>
  some ((u2.1.1, (true, ())), ())) := by kernel_rfl
set_option maxRecDepth 100000 in
theorem spec_HasNumber.say (N : Nat) : SayOk Try.prog (spec_HasNumber.S N) := sayOk_mk (N := N) (H := spec_HasNumber.H) (preps := [⟨[], [], [], []⟩]) (l := spec_HasNumber.says) (fn := Try.f28) (c := bodyOf Try.f28)
  (by kernel_rfl) (by kernel_rfl) (by kernel_rfl) (by kernel_rfl) (by kernel_rfl) (by kernel_rfl) (by kernel_rfl)
  (fun N => SayAll.cons (spec_l12Ranges.say N) (SayAll.cons (spec_l12Has.say N) (SayAll.nil))) (fun a s => by kernel_rfl)
noncomputable def spec_HasNumber.SB (N : Nat) : Say := spec_HasNumber.S N |>.lent
theorem spec_HasNumber.sayB (N : Nat) : SayOk Try.prog (spec_HasNumber.SB N) := (spec_HasNumber.say N).lent

/-! ### loop.example/g00206/laws.FnAcked: function 5 -/
noncomputable def laws_FnAcked.H : Hints := hintsOf [(5000006, .join [⟨.normal, [5, 6, 10], [3, 4, 7, 8, 9, 74], [.one (.ptr 2 0), .one (.own 1), .one (.ptr 6 0), .one (.own 4), .one (.own 5), ak_b], [.rows (.pair (.int .i64) (.pair (.int .i64) (.int .i64))), .rows (.pair (.int .i64) (.int .i64)), .cells [ck_i, .own 0, ck_b, ck_i, ck_i, ck_i, ck_i], .rows (.pair (.int .i64) (.pair (.int .i64) (.int .i64))), .rows (.int .i64), .rows (.int .i64), .cells [ck_i, .own 3, ck_b, ck_i, ck_i, ck_i, ck_i], .rows (.pair (.int .i64) (.pair (.int .i64) (.int .i64))), .rows (.int .i64), .rows (.int .i64), .cells [ck_i, .own 7, ck_b, ck_i, ck_i, ck_i, ck_i]], [⟨[], [], [], []⟩]⟩]),
  (5000010, .join [⟨.normal, [5, 6], [3, 4, 7, 8, 9, 97], [.one (.ptr 2 0), .one (.own 1), .one (.ptr 6 0), .one (.own 4), .one (.own 5), ak_b], [.rows (.pair (.int .i64) (.pair (.int .i64) (.int .i64))), .rows (.pair (.int .i64) (.int .i64)), .cells [ck_i, .own 0, ck_b, ck_i, ck_i, ck_i, ck_i], .rows (.pair (.int .i64) (.pair (.int .i64) (.int .i64))), .rows (.int .i64), .rows (.int .i64), .cells [ck_i, .own 3, ck_b, ck_i, ck_i, ck_i, ck_i], .rows (.pair (.int .i64) (.pair (.int .i64) (.int .i64))), .rows (.int .i64), .rows (.int .i64), .cells [ck_i, .own 7, ck_b, ck_i, ck_i, ck_i, ck_i]], [⟨[], [], [], []⟩]⟩]),
  (24, .join [⟨.ret, [], [2], [ak_b], [.rows (.pair (.int .i64) (.pair (.int .i64) (.int .i64))), .rows (.pair (.int .i64) (.int .i64)), .cells [ck_i, .own 0, ck_b, ck_i, ck_i, ck_i, ck_i], .rows (.pair (.int .i64) (.pair (.int .i64) (.int .i64))), .rows (.int .i64), .rows (.int .i64), .cells [ck_i, .own 3, ck_b, ck_i, ck_i, ck_i, ck_i], .rows (.pair (.int .i64) (.pair (.int .i64) (.int .i64))), .rows (.int .i64), .rows (.int .i64), .cells [ck_i, .own 7, ck_b, ck_i, ck_i, ck_i, ck_i], .cells [ck_i, ck_i, ck_i]], [⟨[], [], [], []⟩]⟩, ⟨.normal, [5, 6, 100, 101, 106, 107], [4, 7, 8, 9, 16, 17, 99, 105], [.one (.own 1), .one (.ptr 6 0), .one (.own 4), .one (.own 5), .one (.ptr 11 0), ak_i, .one (.own 0), .one (.own 4)], [.rows (.pair (.int .i64) (.pair (.int .i64) (.int .i64))), .rows (.pair (.int .i64) (.int .i64)), .cells [ck_i, .own 0, ck_b, ck_i, ck_i, ck_i, ck_i], .rows (.pair (.int .i64) (.pair (.int .i64) (.int .i64))), .rows (.int .i64), .rows (.int .i64), .cells [ck_i, .own 3, ck_b, ck_i, ck_i, ck_i, ck_i], .rows (.pair (.int .i64) (.pair (.int .i64) (.int .i64))), .rows (.int .i64), .rows (.int .i64), .cells [ck_i, .own 7, ck_b, ck_i, ck_i, ck_i, ck_i], .cells [ck_i, ck_i, ck_i]], [⟨[], [], [], []⟩]⟩]),
  (2000017, .loop ⟨.normal, [5, 6, 100, 101, 106], [4, 7, 8, 9, 16, 17, 99, 105, 107], [.one (.own 1), .one (.ptr 6 0), .one (.own 4), .one (.own 5), .one (.ptr 11 0), ak_i, .one (.own 0), .one (.own 4), ak_i], [.rows (.pair (.int .i64) (.pair (.int .i64) (.int .i64))), .rows (.pair (.int .i64) (.int .i64)), .cells [ck_i, .own 0, ck_b, ck_i, ck_i, ck_i, ck_i], .rows (.pair (.int .i64) (.pair (.int .i64) (.int .i64))), .rows (.int .i64), .rows (.int .i64), .cells [ck_i, .own 3, ck_b, ck_i, ck_i, ck_i, ck_i], .rows (.pair (.int .i64) (.pair (.int .i64) (.int .i64))), .rows (.int .i64), .rows (.int .i64), .cells [ck_i, .own 7, ck_b, ck_i, ck_i, ck_i, ck_i], .cells [ck_i, ck_i, ck_i]], [⟨[], [], [], []⟩]⟩ [⟨.ret, [], [2], [ak_b], [.rows (.pair (.int .i64) (.pair (.int .i64) (.int .i64))), .rows (.pair (.int .i64) (.int .i64)), .cells [ck_i, .own 0, ck_b, ck_i, ck_i, ck_i, ck_i], .rows (.pair (.int .i64) (.pair (.int .i64) (.int .i64))), .rows (.int .i64), .rows (.int .i64), .cells [ck_i, .own 3, ck_b, ck_i, ck_i, ck_i, ck_i], .rows (.pair (.int .i64) (.pair (.int .i64) (.int .i64))), .rows (.int .i64), .rows (.int .i64), .cells [ck_i, .own 7, ck_b, ck_i, ck_i, ck_i, ck_i], .cells [ck_i, ck_i, ck_i]], [⟨[], [], [], []⟩]⟩, ⟨(.exit 2), [5, 6, 100, 101], [4, 7, 8, 9, 16, 17, 99], [.one (.own 1), .one (.ptr 6 0), .one (.own 4), .one (.own 5), .one (.ptr 11 0), ak_i, .one (.own 0)], [.rows (.pair (.int .i64) (.pair (.int .i64) (.int .i64))), .rows (.pair (.int .i64) (.int .i64)), .cells [ck_i, .own 0, ck_b, ck_i, ck_i, ck_i, ck_i], .rows (.pair (.int .i64) (.pair (.int .i64) (.int .i64))), .rows (.int .i64), .rows (.int .i64), .cells [ck_i, .own 3, ck_b, ck_i, ck_i, ck_i, ck_i], .rows (.pair (.int .i64) (.pair (.int .i64) (.int .i64))), .rows (.int .i64), .rows (.int .i64), .cells [ck_i, .own 7, ck_b, ck_i, ck_i, ck_i, ck_i], .cells [ck_i, ck_i, ck_i]], [⟨[], [], [], []⟩]⟩]),
  (32, .join [⟨.ret, [], [2], [ak_b], [.rows (.pair (.int .i64) (.pair (.int .i64) (.int .i64))), .rows (.pair (.int .i64) (.int .i64)), .cells [ck_i, .own 0, ck_b, ck_i, ck_i, ck_i, ck_i], .rows (.pair (.int .i64) (.pair (.int .i64) (.int .i64))), .rows (.int .i64), .rows (.int .i64), .cells [ck_i, .own 3, ck_b, ck_i, ck_i, ck_i, ck_i], .rows (.pair (.int .i64) (.pair (.int .i64) (.int .i64))), .rows (.int .i64), .rows (.int .i64), .cells [ck_i, .own 7, ck_b, ck_i, ck_i, ck_i, ck_i], .cells [ck_i, ck_i, ck_i]], [⟨[], [], [], []⟩]⟩, ⟨.normal, [5, 6, 100, 101, 127, 128], [4, 7, 8, 9, 16, 17, 99, 126], [.one (.own 1), .one (.ptr 6 0), .one (.own 4), .one (.own 5), .one (.ptr 11 0), ak_i, .one (.own 0), .one (.own 5)], [.rows (.pair (.int .i64) (.pair (.int .i64) (.int .i64))), .rows (.pair (.int .i64) (.int .i64)), .cells [ck_i, .own 0, ck_b, ck_i, ck_i, ck_i, ck_i], .rows (.pair (.int .i64) (.pair (.int .i64) (.int .i64))), .rows (.int .i64), .rows (.int .i64), .cells [ck_i, .own 3, ck_b, ck_i, ck_i, ck_i, ck_i], .rows (.pair (.int .i64) (.pair (.int .i64) (.int .i64))), .rows (.int .i64), .rows (.int .i64), .cells [ck_i, .own 7, ck_b, ck_i, ck_i, ck_i, ck_i], .cells [ck_i, ck_i, ck_i]], [⟨[], [], [], []⟩]⟩]),
  (2000026, .loop ⟨.normal, [5, 6, 100, 101, 127], [4, 7, 8, 9, 16, 17, 99, 126, 128], [.one (.own 1), .one (.ptr 6 0), .one (.own 4), .one (.own 5), .one (.ptr 11 0), ak_i, .one (.own 0), .one (.own 5), ak_i], [.rows (.pair (.int .i64) (.pair (.int .i64) (.int .i64))), .rows (.pair (.int .i64) (.int .i64)), .cells [ck_i, .own 0, ck_b, ck_i, ck_i, ck_i, ck_i], .rows (.pair (.int .i64) (.pair (.int .i64) (.int .i64))), .rows (.int .i64), .rows (.int .i64), .cells [ck_i, .own 3, ck_b, ck_i, ck_i, ck_i, ck_i], .rows (.pair (.int .i64) (.pair (.int .i64) (.int .i64))), .rows (.int .i64), .rows (.int .i64), .cells [ck_i, .own 7, ck_b, ck_i, ck_i, ck_i, ck_i], .cells [ck_i, ck_i, ck_i]], [⟨[], [], [], []⟩]⟩ [⟨.ret, [], [2], [ak_b], [.rows (.pair (.int .i64) (.pair (.int .i64) (.int .i64))), .rows (.pair (.int .i64) (.int .i64)), .cells [ck_i, .own 0, ck_b, ck_i, ck_i, ck_i, ck_i], .rows (.pair (.int .i64) (.pair (.int .i64) (.int .i64))), .rows (.int .i64), .rows (.int .i64), .cells [ck_i, .own 3, ck_b, ck_i, ck_i, ck_i, ck_i], .rows (.pair (.int .i64) (.pair (.int .i64) (.int .i64))), .rows (.int .i64), .rows (.int .i64), .cells [ck_i, .own 7, ck_b, ck_i, ck_i, ck_i, ck_i], .cells [ck_i, ck_i, ck_i]], [⟨[], [], [], []⟩]⟩, ⟨(.exit 4), [5, 6, 100, 101], [4, 7, 8, 9, 16, 17, 99], [.one (.own 1), .one (.ptr 6 0), .one (.own 4), .one (.own 5), .one (.ptr 11 0), ak_i, .one (.own 0)], [.rows (.pair (.int .i64) (.pair (.int .i64) (.int .i64))), .rows (.pair (.int .i64) (.int .i64)), .cells [ck_i, .own 0, ck_b, ck_i, ck_i, ck_i, ck_i], .rows (.pair (.int .i64) (.pair (.int .i64) (.int .i64))), .rows (.int .i64), .rows (.int .i64), .cells [ck_i, .own 3, ck_b, ck_i, ck_i, ck_i, ck_i], .rows (.pair (.int .i64) (.pair (.int .i64) (.int .i64))), .rows (.int .i64), .rows (.int .i64), .cells [ck_i, .own 7, ck_b, ck_i, ck_i, ck_i, ck_i], .cells [ck_i, ck_i, ck_i]], [⟨[], [], [], []⟩]⟩]),
  (38, .join [⟨.normal, [5, 6, 100, 101, 145, 146], [4, 7, 8, 9, 16, 17, 99, 144], [.one (.own 1), .one (.ptr 6 0), .one (.own 4), .one (.own 5), .one (.ptr 11 0), ak_i, .one (.own 0), .one (.own 3)], [.rows (.pair (.int .i64) (.pair (.int .i64) (.int .i64))), .rows (.pair (.int .i64) (.int .i64)), .cells [ck_i, .own 0, ck_b, ck_i, ck_i, ck_i, ck_i], .rows (.pair (.int .i64) (.pair (.int .i64) (.int .i64))), .rows (.int .i64), .rows (.int .i64), .cells [ck_i, .own 3, ck_b, ck_i, ck_i, ck_i, ck_i], .rows (.pair (.int .i64) (.pair (.int .i64) (.int .i64))), .rows (.int .i64), .rows (.int .i64), .cells [ck_i, .own 7, ck_b, ck_i, ck_i, ck_i, ck_i], .cells [ck_i, ck_i, ck_i]], [⟨[], [], [], []⟩]⟩]),
  (2000034, .loop ⟨.normal, [5, 6, 100, 101, 145], [4, 7, 8, 9, 16, 17, 99, 144, 146], [.one (.own 1), .one (.ptr 6 0), .one (.own 4), .one (.own 5), .one (.ptr 11 0), ak_i, .one (.own 0), .one (.own 3), ak_i], [.rows (.pair (.int .i64) (.pair (.int .i64) (.int .i64))), .rows (.pair (.int .i64) (.int .i64)), .cells [ck_i, .own 0, ck_b, ck_i, ck_i, ck_i, ck_i], .rows (.pair (.int .i64) (.pair (.int .i64) (.int .i64))), .rows (.int .i64), .rows (.int .i64), .cells [ck_i, .own 3, ck_b, ck_i, ck_i, ck_i, ck_i], .rows (.pair (.int .i64) (.pair (.int .i64) (.int .i64))), .rows (.int .i64), .rows (.int .i64), .cells [ck_i, .own 7, ck_b, ck_i, ck_i, ck_i, ck_i], .cells [ck_i, ck_i, ck_i]], [⟨[], [], [], []⟩]⟩ [⟨(.exit 6), [5, 6, 100, 101], [4, 7, 8, 9, 17, 99], [.one (.own 1), .one (.ptr 6 0), .one (.own 4), .one (.own 5), ak_i, .one (.own 0)], [.rows (.pair (.int .i64) (.pair (.int .i64) (.int .i64))), .rows (.pair (.int .i64) (.int .i64)), .cells [ck_i, .own 0, ck_b, ck_i, ck_i, ck_i, ck_i], .rows (.pair (.int .i64) (.pair (.int .i64) (.int .i64))), .rows (.int .i64), .rows (.int .i64), .cells [ck_i, .own 3, ck_b, ck_i, ck_i, ck_i, ck_i], .rows (.pair (.int .i64) (.pair (.int .i64) (.int .i64))), .rows (.int .i64), .rows (.int .i64), .cells [ck_i, .own 7, ck_b, ck_i, ck_i, ck_i, ck_i], .cells [ck_i, ck_i, ck_i]], [⟨[], [], [], []⟩]⟩]),
  (2000013, .loop ⟨.normal, [5, 6, 100], [4, 7, 8, 9, 99, 101], [.one (.own 1), .one (.ptr 6 0), .one (.own 4), .one (.own 5), .one (.own 0), ak_i], [.rows (.pair (.int .i64) (.pair (.int .i64) (.int .i64))), .rows (.pair (.int .i64) (.int .i64)), .cells [ck_i, .own 0, ck_b, ck_i, ck_i, ck_i, ck_i], .rows (.pair (.int .i64) (.pair (.int .i64) (.int .i64))), .rows (.int .i64), .rows (.int .i64), .cells [ck_i, .own 3, ck_b, ck_i, ck_i, ck_i, ck_i], .rows (.pair (.int .i64) (.pair (.int .i64) (.int .i64))), .rows (.int .i64), .rows (.int .i64), .cells [ck_i, .own 7, ck_b, ck_i, ck_i, ck_i, ck_i]], [⟨[], [], [], []⟩]⟩ [⟨.ret, [], [2], [ak_b], [.rows (.pair (.int .i64) (.pair (.int .i64) (.int .i64))), .rows (.pair (.int .i64) (.int .i64)), .cells [ck_i, .own 0, ck_b, ck_i, ck_i, ck_i, ck_i], .rows (.pair (.int .i64) (.pair (.int .i64) (.int .i64))), .rows (.int .i64), .rows (.int .i64), .cells [ck_i, .own 3, ck_b, ck_i, ck_i, ck_i, ck_i], .rows (.pair (.int .i64) (.pair (.int .i64) (.int .i64))), .rows (.int .i64), .rows (.int .i64), .cells [ck_i, .own 7, ck_b, ck_i, ck_i, ck_i, ck_i]], [⟨[], [], [], []⟩]⟩, ⟨(.exit 0), [5, 6], [4, 7], [.one (.own 1), .one (.ptr 6 0)], [.rows (.pair (.int .i64) (.pair (.int .i64) (.int .i64))), .rows (.pair (.int .i64) (.int .i64)), .cells [ck_i, .own 0, ck_b, ck_i, ck_i, ck_i, ck_i], .rows (.pair (.int .i64) (.pair (.int .i64) (.int .i64))), .rows (.int .i64), .rows (.int .i64), .cells [ck_i, .own 3, ck_b, ck_i, ck_i, ck_i, ck_i], .rows (.pair (.int .i64) (.pair (.int .i64) (.int .i64))), .rows (.int .i64), .rows (.int .i64), .cells [ck_i, .own 7, ck_b, ck_i, ck_i, ck_i, ck_i]], [⟨[], [], [], []⟩]⟩])]
noncomputable def laws_FnAcked.says (N : Nat) : List Say := [spec_DrawTakeAck.S N, impl_TakeAck.SB N, spec_TakeAck.SB N, laws_sameInts.SB N, impl_GoodSpace.SB N, spec_HasNumber.SB N]
noncomputable def laws_FnAcked.call (N : Nat) : CallK := callBy (laws_FnAcked.says N)
noncomputable def laws_FnAcked.qt (N : Nat) : FuncId → List PV → Sig → Cl := qtBy (laws_FnAcked.says N)
noncomputable def laws_FnAcked.l0.hd : Alt := ⟨.normal, [5, 6, 100], [4, 7, 8, 9, 99, 101], [.one (.own 1), .one (.ptr 6 0), .one (.own 4), .one (.own 5), .one (.own 0), ak_i], [.rows (.pair (.int .i64) (.pair (.int .i64) (.int .i64))), .rows (.pair (.int .i64) (.int .i64)), .cells [ck_i, .own 0, ck_b, ck_i, ck_i, ck_i, ck_i], .rows (.pair (.int .i64) (.pair (.int .i64) (.int .i64))), .rows (.int .i64), .rows (.int .i64), .cells [ck_i, .own 3, ck_b, ck_i, ck_i, ck_i, ck_i], .rows (.pair (.int .i64) (.pair (.int .i64) (.int .i64))), .rows (.int .i64), .rows (.int .i64), .cells [ck_i, .own 7, ck_b, ck_i, ck_i, ck_i, ck_i]], [⟨[], [], [], []⟩]⟩
noncomputable def laws_FnAcked.l0.outs : List Alt := [⟨.ret, [], [2], [ak_b], [.rows (.pair (.int .i64) (.pair (.int .i64) (.int .i64))), .rows (.pair (.int .i64) (.int .i64)), .cells [ck_i, .own 0, ck_b, ck_i, ck_i, ck_i, ck_i], .rows (.pair (.int .i64) (.pair (.int .i64) (.int .i64))), .rows (.int .i64), .rows (.int .i64), .cells [ck_i, .own 3, ck_b, ck_i, ck_i, ck_i, ck_i], .rows (.pair (.int .i64) (.pair (.int .i64) (.int .i64))), .rows (.int .i64), .rows (.int .i64), .cells [ck_i, .own 7, ck_b, ck_i, ck_i, ck_i, ck_i]], [⟨[], [], [], []⟩]⟩, ⟨(.exit 0), [5, 6], [4, 7], [.one (.own 1), .one (.ptr 6 0)], [.rows (.pair (.int .i64) (.pair (.int .i64) (.int .i64))), .rows (.pair (.int .i64) (.int .i64)), .cells [ck_i, .own 0, ck_b, ck_i, ck_i, ck_i, ck_i], .rows (.pair (.int .i64) (.pair (.int .i64) (.int .i64))), .rows (.int .i64), .rows (.int .i64), .cells [ck_i, .own 3, ck_b, ck_i, ck_i, ck_i, ck_i], .rows (.pair (.int .i64) (.pair (.int .i64) (.int .i64))), .rows (.int .i64), .rows (.int .i64), .cells [ck_i, .own 7, ck_b, ck_i, ck_i, ck_i, ck_i]], [⟨[], [], [], []⟩]⟩]
noncomputable def laws_FnAcked.l0 (N : Nat) (d : Int) (e : Int) (t100 : Int) (t101 : Int) (p0 : (List (Int × (Int × Int)))) (p1 : (List (Int × Int))) (p2_0 : Int) (p2_2 : Bool) (p2_3 : Int) (p2_4 : Int) (p2_5 : Int) (p2_6 : Int) (p3 : (List (Int × (Int × Int)))) (p4 : (List Int)) (p5 : (List Int)) (p6_0 : Int) (p6_2 : Bool) (p6_3 : Int) (p6_4 : Int) (p6_5 : Int) (p6_6 : Int) (p7 : (List (Int × (Int × Int)))) (p8 : (List Int)) (p9 : (List Int)) (p10_0 : Int) (p10_2 : Bool) (p10_3 : Int) (p10_4 : Int) (p10_5 : Int) (p10_6 : Int) : Option (((Bool × Unit) × ((List (Int × (Int × Int))) × ((List (Int × Int)) × ((Int × (Unit × (Bool × (Int × (Int × (Int × (Int × Unit))))))) × ((List (Int × (Int × Int))) × ((List Int) × ((List Int) × ((Int × (Unit × (Bool × (Int × (Int × (Int × (Int × Unit))))))) × ((List (Int × (Int × Int))) × ((List Int) × ((List Int) × ((Int × (Unit × (Bool × (Int × (Int × (Int × (Int × Unit))))))) × Unit)))))))))))) ⊕ ((Unit × (Unit × Unit)) × ((List (Int × (Int × Int))) × ((List (Int × Int)) × ((Int × (Unit × (Bool × (Int × (Int × (Int × (Int × Unit))))))) × ((List (Int × (Int × Int))) × ((List Int) × ((List Int) × ((Int × (Unit × (Bool × (Int × (Int × (Int × (Int × Unit))))))) × ((List (Int × (Int × Int))) × ((List Int) × ((List Int) × ((Int × (Unit × (Bool × (Int × (Int × (Int × (Int × Unit))))))) × Unit))))))))))))) :=
  loopK Try.prog laws_FnAcked.call laws_FnAcked.qt laws_FnAcked.H (codeAt (bodyOf Try.f5) [1, 1, 1, 1, 1, 1, 1, 1, 0, 1, 0, 0]) 11 laws_FnAcked.l0.hd laws_FnAcked.l0.outs [(5, .v (.int .i64 d)), (6, .v (.int .i64 e)), (100, .v (.int .i64 t100))] N (((), ((), ((), ((), ((), (t101, ())))))), (p0, (p1, ((p2_0, ((), (p2_2, (p2_3, (p2_4, (p2_5, (p2_6, ()))))))), (p3, (p4, (p5, ((p6_0, ((), (p6_2, (p6_3, (p6_4, (p6_5, (p6_6, ()))))))), (p7, (p8, (p9, ((p10_0, ((), (p10_2, (p10_3, (p10_4, (p10_5, (p10_6, ()))))))), ()))))))))))))
noncomputable def laws_FnAcked.l1.hd : Alt := ⟨.normal, [5, 6, 100, 101, 106], [4, 7, 8, 9, 16, 17, 99, 105, 107], [.one (.own 1), .one (.ptr 6 0), .one (.own 4), .one (.own 5), .one (.ptr 11 0), ak_i, .one (.own 0), .one (.own 4), ak_i], [.rows (.pair (.int .i64) (.pair (.int .i64) (.int .i64))), .rows (.pair (.int .i64) (.int .i64)), .cells [ck_i, .own 0, ck_b, ck_i, ck_i, ck_i, ck_i], .rows (.pair (.int .i64) (.pair (.int .i64) (.int .i64))), .rows (.int .i64), .rows (.int .i64), .cells [ck_i, .own 3, ck_b, ck_i, ck_i, ck_i, ck_i], .rows (.pair (.int .i64) (.pair (.int .i64) (.int .i64))), .rows (.int .i64), .rows (.int .i64), .cells [ck_i, .own 7, ck_b, ck_i, ck_i, ck_i, ck_i], .cells [ck_i, ck_i, ck_i]], [⟨[], [], [], []⟩]⟩
noncomputable def laws_FnAcked.l1.outs : List Alt := [⟨.ret, [], [2], [ak_b], [.rows (.pair (.int .i64) (.pair (.int .i64) (.int .i64))), .rows (.pair (.int .i64) (.int .i64)), .cells [ck_i, .own 0, ck_b, ck_i, ck_i, ck_i, ck_i], .rows (.pair (.int .i64) (.pair (.int .i64) (.int .i64))), .rows (.int .i64), .rows (.int .i64), .cells [ck_i, .own 3, ck_b, ck_i, ck_i, ck_i, ck_i], .rows (.pair (.int .i64) (.pair (.int .i64) (.int .i64))), .rows (.int .i64), .rows (.int .i64), .cells [ck_i, .own 7, ck_b, ck_i, ck_i, ck_i, ck_i], .cells [ck_i, ck_i, ck_i]], [⟨[], [], [], []⟩]⟩, ⟨(.exit 2), [5, 6, 100, 101], [4, 7, 8, 9, 16, 17, 99], [.one (.own 1), .one (.ptr 6 0), .one (.own 4), .one (.own 5), .one (.ptr 11 0), ak_i, .one (.own 0)], [.rows (.pair (.int .i64) (.pair (.int .i64) (.int .i64))), .rows (.pair (.int .i64) (.int .i64)), .cells [ck_i, .own 0, ck_b, ck_i, ck_i, ck_i, ck_i], .rows (.pair (.int .i64) (.pair (.int .i64) (.int .i64))), .rows (.int .i64), .rows (.int .i64), .cells [ck_i, .own 3, ck_b, ck_i, ck_i, ck_i, ck_i], .rows (.pair (.int .i64) (.pair (.int .i64) (.int .i64))), .rows (.int .i64), .rows (.int .i64), .cells [ck_i, .own 7, ck_b, ck_i, ck_i, ck_i, ck_i], .cells [ck_i, ck_i, ck_i]], [⟨[], [], [], []⟩]⟩]
noncomputable def laws_FnAcked.l1 (N : Nat) (d1 : Int) (e1 : Int) (t1001 : Int) (t1011 : Int) (t106 : Int) (t17 : Int) (t107 : Int) (p01 : (List (Int × (Int × Int)))) (p11 : (List (Int × Int))) (p2_01 : Int) (p2_21 : Bool) (p2_31 : Int) (p2_41 : Int) (p2_51 : Int) (p2_61 : Int) (p31 : (List (Int × (Int × Int)))) (p41 : (List Int)) (p51 : (List Int)) (p6_01 : Int) (p6_21 : Bool) (p6_31 : Int) (p6_41 : Int) (p6_51 : Int) (p6_61 : Int) (p71 : (List (Int × (Int × Int)))) (p81 : (List Int)) (p91 : (List Int)) (p10_01 : Int) (p10_21 : Bool) (p10_31 : Int) (p10_41 : Int) (p10_51 : Int) (p10_61 : Int) (p11_0 : Int) (p11_1 : Int) (p11_2 : Int) : Option (((Bool × Unit) × ((List (Int × (Int × Int))) × ((List (Int × Int)) × ((Int × (Unit × (Bool × (Int × (Int × (Int × (Int × Unit))))))) × ((List (Int × (Int × Int))) × ((List Int) × ((List Int) × ((Int × (Unit × (Bool × (Int × (Int × (Int × (Int × Unit))))))) × ((List (Int × (Int × Int))) × ((List Int) × ((List Int) × ((Int × (Unit × (Bool × (Int × (Int × (Int × (Int × Unit))))))) × ((Int × (Int × (Int × Unit))) × Unit))))))))))))) ⊕ ((Unit × (Unit × (Unit × (Unit × (Unit × (Int × (Unit × Unit))))))) × ((List (Int × (Int × Int))) × ((List (Int × Int)) × ((Int × (Unit × (Bool × (Int × (Int × (Int × (Int × Unit))))))) × ((List (Int × (Int × Int))) × ((List Int) × ((List Int) × ((Int × (Unit × (Bool × (Int × (Int × (Int × (Int × Unit))))))) × ((List (Int × (Int × Int))) × ((List Int) × ((List Int) × ((Int × (Unit × (Bool × (Int × (Int × (Int × (Int × Unit))))))) × ((Int × (Int × (Int × Unit))) × Unit)))))))))))))) :=
  loopK Try.prog laws_FnAcked.call laws_FnAcked.qt laws_FnAcked.H (codeAt (bodyOf Try.f5) [1, 1, 1, 1, 1, 1, 1, 1, 0, 1, 0, 0, 1, 1, 0, 0, 1, 1, 0, 1, 0, 0]) 12 laws_FnAcked.l1.hd laws_FnAcked.l1.outs [(5, .v (.int .i64 d1)), (6, .v (.int .i64 e1)), (100, .v (.int .i64 t1001)), (101, .v (.int .i64 t1011)), (106, .v (.int .i64 t106))] N (((), ((), ((), ((), ((), (t17, ((), ((), (t107, ()))))))))), (p01, (p11, ((p2_01, ((), (p2_21, (p2_31, (p2_41, (p2_51, (p2_61, ()))))))), (p31, (p41, (p51, ((p6_01, ((), (p6_21, (p6_31, (p6_41, (p6_51, (p6_61, ()))))))), (p71, (p81, (p91, ((p10_01, ((), (p10_21, (p10_31, (p10_41, (p10_51, (p10_61, ()))))))), ((p11_0, (p11_1, (p11_2, ()))), ())))))))))))))
noncomputable def laws_FnAcked.l2.hd : Alt := ⟨.normal, [5, 6, 100, 101, 127], [4, 7, 8, 9, 16, 17, 99, 126, 128], [.one (.own 1), .one (.ptr 6 0), .one (.own 4), .one (.own 5), .one (.ptr 11 0), ak_i, .one (.own 0), .one (.own 5), ak_i], [.rows (.pair (.int .i64) (.pair (.int .i64) (.int .i64))), .rows (.pair (.int .i64) (.int .i64)), .cells [ck_i, .own 0, ck_b, ck_i, ck_i, ck_i, ck_i], .rows (.pair (.int .i64) (.pair (.int .i64) (.int .i64))), .rows (.int .i64), .rows (.int .i64), .cells [ck_i, .own 3, ck_b, ck_i, ck_i, ck_i, ck_i], .rows (.pair (.int .i64) (.pair (.int .i64) (.int .i64))), .rows (.int .i64), .rows (.int .i64), .cells [ck_i, .own 7, ck_b, ck_i, ck_i, ck_i, ck_i], .cells [ck_i, ck_i, ck_i]], [⟨[], [], [], []⟩]⟩
noncomputable def laws_FnAcked.l2.outs : List Alt := [⟨.ret, [], [2], [ak_b], [.rows (.pair (.int .i64) (.pair (.int .i64) (.int .i64))), .rows (.pair (.int .i64) (.int .i64)), .cells [ck_i, .own 0, ck_b, ck_i, ck_i, ck_i, ck_i], .rows (.pair (.int .i64) (.pair (.int .i64) (.int .i64))), .rows (.int .i64), .rows (.int .i64), .cells [ck_i, .own 3, ck_b, ck_i, ck_i, ck_i, ck_i], .rows (.pair (.int .i64) (.pair (.int .i64) (.int .i64))), .rows (.int .i64), .rows (.int .i64), .cells [ck_i, .own 7, ck_b, ck_i, ck_i, ck_i, ck_i], .cells [ck_i, ck_i, ck_i]], [⟨[], [], [], []⟩]⟩, ⟨(.exit 4), [5, 6, 100, 101], [4, 7, 8, 9, 16, 17, 99], [.one (.own 1), .one (.ptr 6 0), .one (.own 4), .one (.own 5), .one (.ptr 11 0), ak_i, .one (.own 0)], [.rows (.pair (.int .i64) (.pair (.int .i64) (.int .i64))), .rows (.pair (.int .i64) (.int .i64)), .cells [ck_i, .own 0, ck_b, ck_i, ck_i, ck_i, ck_i], .rows (.pair (.int .i64) (.pair (.int .i64) (.int .i64))), .rows (.int .i64), .rows (.int .i64), .cells [ck_i, .own 3, ck_b, ck_i, ck_i, ck_i, ck_i], .rows (.pair (.int .i64) (.pair (.int .i64) (.int .i64))), .rows (.int .i64), .rows (.int .i64), .cells [ck_i, .own 7, ck_b, ck_i, ck_i, ck_i, ck_i], .cells [ck_i, ck_i, ck_i]], [⟨[], [], [], []⟩]⟩]
noncomputable def laws_FnAcked.l2 (N : Nat) (d2 : Int) (e2 : Int) (t1002 : Int) (t1012 : Int) (t127 : Int) (t171 : Int) (t128 : Int) (p02 : (List (Int × (Int × Int)))) (p12 : (List (Int × Int))) (p2_02 : Int) (p2_22 : Bool) (p2_32 : Int) (p2_42 : Int) (p2_52 : Int) (p2_62 : Int) (p32 : (List (Int × (Int × Int)))) (p42 : (List Int)) (p52 : (List Int)) (p6_02 : Int) (p6_22 : Bool) (p6_32 : Int) (p6_42 : Int) (p6_52 : Int) (p6_62 : Int) (p72 : (List (Int × (Int × Int)))) (p82 : (List Int)) (p92 : (List Int)) (p10_02 : Int) (p10_22 : Bool) (p10_32 : Int) (p10_42 : Int) (p10_52 : Int) (p10_62 : Int) (p11_01 : Int) (p11_11 : Int) (p11_21 : Int) : Option (((Bool × Unit) × ((List (Int × (Int × Int))) × ((List (Int × Int)) × ((Int × (Unit × (Bool × (Int × (Int × (Int × (Int × Unit))))))) × ((List (Int × (Int × Int))) × ((List Int) × ((List Int) × ((Int × (Unit × (Bool × (Int × (Int × (Int × (Int × Unit))))))) × ((List (Int × (Int × Int))) × ((List Int) × ((List Int) × ((Int × (Unit × (Bool × (Int × (Int × (Int × (Int × Unit))))))) × ((Int × (Int × (Int × Unit))) × Unit))))))))))))) ⊕ ((Unit × (Unit × (Unit × (Unit × (Unit × (Int × (Unit × Unit))))))) × ((List (Int × (Int × Int))) × ((List (Int × Int)) × ((Int × (Unit × (Bool × (Int × (Int × (Int × (Int × Unit))))))) × ((List (Int × (Int × Int))) × ((List Int) × ((List Int) × ((Int × (Unit × (Bool × (Int × (Int × (Int × (Int × Unit))))))) × ((List (Int × (Int × Int))) × ((List Int) × ((List Int) × ((Int × (Unit × (Bool × (Int × (Int × (Int × (Int × Unit))))))) × ((Int × (Int × (Int × Unit))) × Unit)))))))))))))) :=
  loopK Try.prog laws_FnAcked.call laws_FnAcked.qt laws_FnAcked.H (codeAt (bodyOf Try.f5) [1, 1, 1, 1, 1, 1, 1, 1, 0, 1, 0, 0, 1, 1, 0, 0, 1, 1, 1, 0, 1, 0, 0]) 12 laws_FnAcked.l2.hd laws_FnAcked.l2.outs [(5, .v (.int .i64 d2)), (6, .v (.int .i64 e2)), (100, .v (.int .i64 t1002)), (101, .v (.int .i64 t1012)), (127, .v (.int .i64 t127))] N (((), ((), ((), ((), ((), (t171, ((), ((), (t128, ()))))))))), (p02, (p12, ((p2_02, ((), (p2_22, (p2_32, (p2_42, (p2_52, (p2_62, ()))))))), (p32, (p42, (p52, ((p6_02, ((), (p6_22, (p6_32, (p6_42, (p6_52, (p6_62, ()))))))), (p72, (p82, (p92, ((p10_02, ((), (p10_22, (p10_32, (p10_42, (p10_52, (p10_62, ()))))))), ((p11_01, (p11_11, (p11_21, ()))), ())))))))))))))
noncomputable def laws_FnAcked.l3.hd : Alt := ⟨.normal, [5, 6, 100, 101, 145], [4, 7, 8, 9, 16, 17, 99, 144, 146], [.one (.own 1), .one (.ptr 6 0), .one (.own 4), .one (.own 5), .one (.ptr 11 0), ak_i, .one (.own 0), .one (.own 3), ak_i], [.rows (.pair (.int .i64) (.pair (.int .i64) (.int .i64))), .rows (.pair (.int .i64) (.int .i64)), .cells [ck_i, .own 0, ck_b, ck_i, ck_i, ck_i, ck_i], .rows (.pair (.int .i64) (.pair (.int .i64) (.int .i64))), .rows (.int .i64), .rows (.int .i64), .cells [ck_i, .own 3, ck_b, ck_i, ck_i, ck_i, ck_i], .rows (.pair (.int .i64) (.pair (.int .i64) (.int .i64))), .rows (.int .i64), .rows (.int .i64), .cells [ck_i, .own 7, ck_b, ck_i, ck_i, ck_i, ck_i], .cells [ck_i, ck_i, ck_i]], [⟨[], [], [], []⟩]⟩
noncomputable def laws_FnAcked.l3.outs : List Alt := [⟨(.exit 6), [5, 6, 100, 101], [4, 7, 8, 9, 17, 99], [.one (.own 1), .one (.ptr 6 0), .one (.own 4), .one (.own 5), ak_i, .one (.own 0)], [.rows (.pair (.int .i64) (.pair (.int .i64) (.int .i64))), .rows (.pair (.int .i64) (.int .i64)), .cells [ck_i, .own 0, ck_b, ck_i, ck_i, ck_i, ck_i], .rows (.pair (.int .i64) (.pair (.int .i64) (.int .i64))), .rows (.int .i64), .rows (.int .i64), .cells [ck_i, .own 3, ck_b, ck_i, ck_i, ck_i, ck_i], .rows (.pair (.int .i64) (.pair (.int .i64) (.int .i64))), .rows (.int .i64), .rows (.int .i64), .cells [ck_i, .own 7, ck_b, ck_i, ck_i, ck_i, ck_i], .cells [ck_i, ck_i, ck_i]], [⟨[], [], [], []⟩]⟩]
noncomputable def laws_FnAcked.l3 (N : Nat) (d3 : Int) (e3 : Int) (t1003 : Int) (t1013 : Int) (t145 : Int) (t172 : Int) (t146 : Int) (p03 : (List (Int × (Int × Int)))) (p13 : (List (Int × Int))) (p2_03 : Int) (p2_23 : Bool) (p2_33 : Int) (p2_43 : Int) (p2_53 : Int) (p2_63 : Int) (p33 : (List (Int × (Int × Int)))) (p43 : (List Int)) (p53 : (List Int)) (p6_03 : Int) (p6_23 : Bool) (p6_33 : Int) (p6_43 : Int) (p6_53 : Int) (p6_63 : Int) (p73 : (List (Int × (Int × Int)))) (p83 : (List Int)) (p93 : (List Int)) (p10_03 : Int) (p10_23 : Bool) (p10_33 : Int) (p10_43 : Int) (p10_53 : Int) (p10_63 : Int) (p11_02 : Int) (p11_12 : Int) (p11_22 : Int) : Option ((Unit × (Unit × (Unit × (Unit × (Int × (Unit × Unit)))))) × ((List (Int × (Int × Int))) × ((List (Int × Int)) × ((Int × (Unit × (Bool × (Int × (Int × (Int × (Int × Unit))))))) × ((List (Int × (Int × Int))) × ((List Int) × ((List Int) × ((Int × (Unit × (Bool × (Int × (Int × (Int × (Int × Unit))))))) × ((List (Int × (Int × Int))) × ((List Int) × ((List Int) × ((Int × (Unit × (Bool × (Int × (Int × (Int × (Int × Unit))))))) × ((Int × (Int × (Int × Unit))) × Unit))))))))))))) :=
  loopK Try.prog laws_FnAcked.call laws_FnAcked.qt laws_FnAcked.H (codeAt (bodyOf Try.f5) [1, 1, 1, 1, 1, 1, 1, 1, 0, 1, 0, 0, 1, 1, 0, 0, 1, 1, 1, 1, 0, 1, 0, 0]) 12 laws_FnAcked.l3.hd laws_FnAcked.l3.outs [(5, .v (.int .i64 d3)), (6, .v (.int .i64 e3)), (100, .v (.int .i64 t1003)), (101, .v (.int .i64 t1013)), (145, .v (.int .i64 t145))] N (((), ((), ((), ((), ((), (t172, ((), ((), (t146, ()))))))))), (p03, (p13, ((p2_03, ((), (p2_23, (p2_33, (p2_43, (p2_53, (p2_63, ()))))))), (p33, (p43, (p53, ((p6_03, ((), (p6_23, (p6_33, (p6_43, (p6_53, (p6_63, ()))))))), (p73, (p83, (p93, ((p10_03, ((), (p10_23, (p10_33, (p10_43, (p10_53, (p10_63, ()))))))), ((p11_02, (p11_12, (p11_22, ()))), ())))))))))))))
noncomputable def laws_FnAcked (N : Nat) (G : (List Int)) : Option ((Bool × Unit) × Unit) :=
  ofFn Try.prog laws_FnAcked.call laws_FnAcked.qt laws_FnAcked.H N Try.f5 [.one (.sh (.rows (.int .u8)))] [] [ak_b] [] [⟨[], [], [], []⟩] (G, ()) ()
noncomputable def laws_FnAcked.S (N : Nat) : Say := ⟨false, 5, [.one (.sh (.rows (.int .u8)))], [], [ak_b], [], fun a s => laws_FnAcked N a.1⟩
set_option maxRecDepth 100000 in
theorem laws_FnAcked.l3.eq (N : Nat) (d3 : Int) (e3 : Int) (t1003 : Int) (t1013 : Int) (t145 : Int) (t172 : Int) (t146 : Int) (p03 : (List (Int × (Int × Int)))) (p13 : (List (Int × Int))) (p2_03 : Int) (p2_23 : Bool) (p2_33 : Int) (p2_43 : Int) (p2_53 : Int) (p2_63 : Int) (p33 : (List (Int × (Int × Int)))) (p43 : (List Int)) (p53 : (List Int)) (p6_03 : Int) (p6_23 : Bool) (p6_33 : Int) (p6_43 : Int) (p6_53 : Int) (p6_63 : Int) (p73 : (List (Int × (Int × Int)))) (p83 : (List Int)) (p93 : (List Int)) (p10_03 : Int) (p10_23 : Bool) (p10_33 : Int) (p10_43 : Int) (p10_53 : Int) (p10_63 : Int) (p11_02 : Int) (p11_12 : Int) (p11_22 : Int) : laws_FnAcked.l3 (N + 1) d3 e3 t1003 t1013 t145 t172 t146 p03 p13 p2_03 p2_23 p2_33 p2_43 p2_53 p2_63 p33 p43 p53 p6_03 p6_23 p6_33 p6_43 p6_53 p6_63 p73 p83 p93 p10_03 p10_23 p10_33 p10_43 p10_53 p10_63 p11_02 p11_12 p11_22 =
 sel (decide (t146 < t145))
  (
  andK (α := ((Unit × (Unit × (Unit × (Unit × (Unit × (Int × (Unit × (Unit × Unit)))))))) × ((List (Int × (Int × Int))) × ((List (Int × Int)) × ((Int × (Unit × (Bool × (Int × (Int × (Int × (Int × Unit))))))) × ((List (Int × (Int × Int))) × ((List Int) × ((List Int) × ((Int × (Unit × (Bool × (Int × (Int × (Int × (Int × Unit))))))) × ((List (Int × (Int × Int))) × ((List Int) × ((List Int) × ((Int × (Unit × (Bool × (Int × (Int × (Int × (Int × Unit))))))) × ((Int × (Int × (Int × Unit))) × Unit)))))))))))))) (
   chk ((decide (0 ≤ t146)) && (decide (t146 < (p33.length : Int)))) (
   sel ((decide ((rdS (.pair (.int .i64) (.pair (.int .i64) (.int .i64))) p33 (Int.toNat t146)).1 = p11_02)) && ((decide ((rdS (.pair (.int .i64) (.pair (.int .i64) (.int .i64))) p33 (Int.toNat t146)).2.1 = p11_12)) && (decide ((rdS (.pair (.int .i64) (.pair (.int .i64) (.int .i64))) p33 (Int.toNat t146)).2.2 = p11_22))))
    (
    some ((((), ((), ((), ((), ((), ((IntKind.i64.wrap (t172 + 1)), ((), ((), ())))))))), (p03, (p13, ((p2_03, ((), (p2_23, (p2_33, (p2_43, (p2_53, (p2_63, ()))))))), (p33, (p43, (p53, ((p6_03, ((), (p6_23, (p6_33, (p6_43, (p6_53, (p6_63, ()))))))), (p73, (p83, (p93, ((p10_03, ((), (p10_23, (p10_33, (p10_43, (p10_53, (p10_63, ()))))))), ((p11_02, (p11_12, (p11_22, ()))), ())))))))))))))))
    (
    some ((((), ((), ((), ((), ((), (t172, ((), ((), ())))))))), (p03, (p13, ((p2_03, ((), (p2_23, (p2_33, (p2_43, (p2_53, (p2_63, ()))))))), (p33, (p43, (p53, ((p6_03, ((), (p6_23, (p6_33, (p6_43, (p6_53, (p6_63, ()))))))), (p73, (p83, (p93, ((p10_03, ((), (p10_23, (p10_33, (p10_43, (p10_53, (p10_63, ()))))))), ((p11_02, (p11_12, (p11_22, ()))), ()))))))))))))))))) fun j22 =>
  laws_FnAcked.l3 N d3 e3 t1003 t1013 t145 j22.1.2.2.2.2.2.1 (IntKind.i64.wrap (t146 + 1)) j22.2.1 j22.2.2.1 j22.2.2.2.1.1 j22.2.2.2.1.2.2.1 j22.2.2.2.1.2.2.2.1 j22.2.2.2.1.2.2.2.2.1 j22.2.2.2.1.2.2.2.2.2.1 j22.2.2.2.1.2.2.2.2.2.2.1 j22.2.2.2.2.1 j22.2.2.2.2.2.1 j22.2.2.2.2.2.2.1 j22.2.2.2.2.2.2.2.1.1 j22.2.2.2.2.2.2.2.1.2.2.1 j22.2.2.2.2.2.2.2.1.2.2.2.1 j22.2.2.2.2.2.2.2.1.2.2.2.2.1 j22.2.2.2.2.2.2.2.1.2.2.2.2.2.1 j22.2.2.2.2.2.2.2.1.2.2.2.2.2.2.1 j22.2.2.2.2.2.2.2.2.1 j22.2.2.2.2.2.2.2.2.2.1 j22.2.2.2.2.2.2.2.2.2.2.1 j22.2.2.2.2.2.2.2.2.2.2.2.1.1 j22.2.2.2.2.2.2.2.2.2.2.2.1.2.2.1 j22.2.2.2.2.2.2.2.2.2.2.2.1.2.2.2.1 j22.2.2.2.2.2.2.2.2.2.2.2.1.2.2.2.2.1 j22.2.2.2.2.2.2.2.2.2.2.2.1.2.2.2.2.2.1 j22.2.2.2.2.2.2.2.2.2.2.2.1.2.2.2.2.2.2.1 j22.2.2.2.2.2.2.2.2.2.2.2.2.1.1 j22.2.2.2.2.2.2.2.2.2.2.2.2.1.2.1 j22.2.2.2.2.2.2.2.2.2.2.2.2.1.2.2.1)
  (
  some ((((), ((), ((), ((), (t172, ((), ())))))), (p03, (p13, ((p2_03, ((), (p2_23, (p2_33, (p2_43, (p2_53, (p2_63, ()))))))), (p33, (p43, (p53, ((p6_03, ((), (p6_23, (p6_33, (p6_43, (p6_53, (p6_63, ()))))))), (p73, (p83, (p93, ((p10_03, ((), (p10_23, (p10_33, (p10_43, (p10_53, (p10_63, ()))))))), ((p11_02, (p11_12, (p11_22, ()))), ()))))))))))))))) := by kernel_rfl
set_option maxRecDepth 100000 in
theorem laws_FnAcked.l2.eq (N : Nat) (d2 : Int) (e2 : Int) (t1002 : Int) (t1012 : Int) (t127 : Int) (t171 : Int) (t128 : Int) (p02 : (List (Int × (Int × Int)))) (p12 : (List (Int × Int))) (p2_02 : Int) (p2_22 : Bool) (p2_32 : Int) (p2_42 : Int) (p2_52 : Int) (p2_62 : Int) (p32 : (List (Int × (Int × Int)))) (p42 : (List Int)) (p52 : (List Int)) (p6_02 : Int) (p6_22 : Bool) (p6_32 : Int) (p6_42 : Int) (p6_52 : Int) (p6_62 : Int) (p72 : (List (Int × (Int × Int)))) (p82 : (List Int)) (p92 : (List Int)) (p10_02 : Int) (p10_22 : Bool) (p10_32 : Int) (p10_42 : Int) (p10_52 : Int) (p10_62 : Int) (p11_01 : Int) (p11_11 : Int) (p11_21 : Int) : laws_FnAcked.l2 (N + 1) d2 e2 t1002 t1012 t127 t171 t128 p02 p12 p2_02 p2_22 p2_32 p2_42 p2_52 p2_62 p32 p42 p52 p6_02 p6_22 p6_32 p6_42 p6_52 p6_62 p72 p82 p92 p10_02 p10_22 p10_32 p10_42 p10_52 p10_62 p11_01 p11_11 p11_21 =
 sel (decide (t128 < t127))
  (
  andK (α := (((Bool × Unit) × ((List (Int × (Int × Int))) × ((List (Int × Int)) × ((Int × (Unit × (Bool × (Int × (Int × (Int × (Int × Unit))))))) × ((List (Int × (Int × Int))) × ((List Int) × ((List Int) × ((Int × (Unit × (Bool × (Int × (Int × (Int × (Int × Unit))))))) × ((List (Int × (Int × Int))) × ((List Int) × ((List Int) × ((Int × (Unit × (Bool × (Int × (Int × (Int × (Int × Unit))))))) × ((Int × (Int × (Int × Unit))) × Unit))))))))))))) ⊕ ((Unit × (Unit × (Unit × (Unit × (Unit × (Int × (Unit × (Unit × Unit)))))))) × ((List (Int × (Int × Int))) × ((List (Int × Int)) × ((Int × (Unit × (Bool × (Int × (Int × (Int × (Int × Unit))))))) × ((List (Int × (Int × Int))) × ((List Int) × ((List Int) × ((Int × (Unit × (Bool × (Int × (Int × (Int × (Int × Unit))))))) × ((List (Int × (Int × Int))) × ((List Int) × ((List Int) × ((Int × (Unit × (Bool × (Int × (Int × (Int × (Int × Unit))))))) × ((Int × (Int × (Int × Unit))) × Unit))))))))))))))) (
   chk ((decide (0 ≤ t128)) && (decide (t128 < (p52.length : Int)))) (
   sel (decide ((p52.getD (Int.toNat t128) 0) = p11_01))
    (
    sel (decide (p6_02 ≤ (p52.getD (Int.toNat t128) 0)))
     (
     some (.inl ((false, ()), (p02, (p12, ((p2_02, ((), (p2_22, (p2_32, (p2_42, (p2_52, (p2_62, ()))))))), (p32, (p42, (p52, ((p6_02, ((), (p6_22, (p6_32, (p6_42, (p6_52, (p6_62, ()))))))), (p72, (p82, (p92, ((p10_02, ((), (p10_22, (p10_32, (p10_42, (p10_52, (p10_62, ()))))))), ((p11_01, (p11_11, (p11_21, ()))), ())))))))))))))))
     (
     some (.inr ((((), ((), ((), ((), ((), ((IntKind.i64.wrap (t171 + 1)), ((), ((), ())))))))), (p02, (p12, ((p2_02, ((), (p2_22, (p2_32, (p2_42, (p2_52, (p2_62, ()))))))), (p32, (p42, (p52, ((p6_02, ((), (p6_22, (p6_32, (p6_42, (p6_52, (p6_62, ()))))))), (p72, (p82, (p92, ((p10_02, ((), (p10_22, (p10_32, (p10_42, (p10_52, (p10_62, ()))))))), ((p11_01, (p11_11, (p11_21, ()))), ())))))))))))))))))
    (
    some (.inr ((((), ((), ((), ((), ((), (t171, ((), ((), ())))))))), (p02, (p12, ((p2_02, ((), (p2_22, (p2_32, (p2_42, (p2_52, (p2_62, ()))))))), (p32, (p42, (p52, ((p6_02, ((), (p6_22, (p6_32, (p6_42, (p6_52, (p6_62, ()))))))), (p72, (p82, (p92, ((p10_02, ((), (p10_22, (p10_32, (p10_42, (p10_52, (p10_62, ()))))))), ((p11_01, (p11_11, (p11_21, ()))), ())))))))))))))))))) fun j16 =>
  orK j16 (fun x17 =>
   some (.inl (x17.1, (x17.2.1, (x17.2.2.1, ((x17.2.2.2.1.1, ((), (x17.2.2.2.1.2.2.1, (x17.2.2.2.1.2.2.2.1, (x17.2.2.2.1.2.2.2.2.1, (x17.2.2.2.1.2.2.2.2.2.1, (x17.2.2.2.1.2.2.2.2.2.2.1, ()))))))), (x17.2.2.2.2.1, (x17.2.2.2.2.2.1, (x17.2.2.2.2.2.2.1, ((x17.2.2.2.2.2.2.2.1.1, ((), (x17.2.2.2.2.2.2.2.1.2.2.1, (x17.2.2.2.2.2.2.2.1.2.2.2.1, (x17.2.2.2.2.2.2.2.1.2.2.2.2.1, (x17.2.2.2.2.2.2.2.1.2.2.2.2.2.1, (x17.2.2.2.2.2.2.2.1.2.2.2.2.2.2.1, ()))))))), (x17.2.2.2.2.2.2.2.2.1, (x17.2.2.2.2.2.2.2.2.2.1, (x17.2.2.2.2.2.2.2.2.2.2.1, ((x17.2.2.2.2.2.2.2.2.2.2.2.1.1, ((), (x17.2.2.2.2.2.2.2.2.2.2.2.1.2.2.1, (x17.2.2.2.2.2.2.2.2.2.2.2.1.2.2.2.1, (x17.2.2.2.2.2.2.2.2.2.2.2.1.2.2.2.2.1, (x17.2.2.2.2.2.2.2.2.2.2.2.1.2.2.2.2.2.1, (x17.2.2.2.2.2.2.2.2.2.2.2.1.2.2.2.2.2.2.1, ()))))))), (x17.2.2.2.2.2.2.2.2.2.2.2.2.1, ())))))))))))))))
   (fun x18 =>
   laws_FnAcked.l2 N d2 e2 t1002 t1012 t127 x18.1.2.2.2.2.2.1 (IntKind.i64.wrap (t128 + 1)) x18.2.1 x18.2.2.1 x18.2.2.2.1.1 x18.2.2.2.1.2.2.1 x18.2.2.2.1.2.2.2.1 x18.2.2.2.1.2.2.2.2.1 x18.2.2.2.1.2.2.2.2.2.1 x18.2.2.2.1.2.2.2.2.2.2.1 x18.2.2.2.2.1 x18.2.2.2.2.2.1 x18.2.2.2.2.2.2.1 x18.2.2.2.2.2.2.2.1.1 x18.2.2.2.2.2.2.2.1.2.2.1 x18.2.2.2.2.2.2.2.1.2.2.2.1 x18.2.2.2.2.2.2.2.1.2.2.2.2.1 x18.2.2.2.2.2.2.2.1.2.2.2.2.2.1 x18.2.2.2.2.2.2.2.1.2.2.2.2.2.2.1 x18.2.2.2.2.2.2.2.2.1 x18.2.2.2.2.2.2.2.2.2.1 x18.2.2.2.2.2.2.2.2.2.2.1 x18.2.2.2.2.2.2.2.2.2.2.2.1.1 x18.2.2.2.2.2.2.2.2.2.2.2.1.2.2.1 x18.2.2.2.2.2.2.2.2.2.2.2.1.2.2.2.1 x18.2.2.2.2.2.2.2.2.2.2.2.1.2.2.2.2.1 x18.2.2.2.2.2.2.2.2.2.2.2.1.2.2.2.2.2.1 x18.2.2.2.2.2.2.2.2.2.2.2.1.2.2.2.2.2.2.1 x18.2.2.2.2.2.2.2.2.2.2.2.2.1.1 x18.2.2.2.2.2.2.2.2.2.2.2.2.1.2.1 x18.2.2.2.2.2.2.2.2.2.2.2.2.1.2.2.1))
  (
  some (.inr ((((), ((), ((), ((), ((), (t171, ((), ()))))))), (p02, (p12, ((p2_02, ((), (p2_22, (p2_32, (p2_42, (p2_52, (p2_62, ()))))))), (p32, (p42, (p52, ((p6_02, ((), (p6_22, (p6_32, (p6_42, (p6_52, (p6_62, ()))))))), (p72, (p82, (p92, ((p10_02, ((), (p10_22, (p10_32, (p10_42, (p10_52, (p10_62, ()))))))), ((p11_01, (p11_11, (p11_21, ()))), ())))))))))))))))) := by kernel_rfl
set_option maxRecDepth 100000 in
theorem laws_FnAcked.l1.eq (N : Nat) (d1 : Int) (e1 : Int) (t1001 : Int) (t1011 : Int) (t106 : Int) (t17 : Int) (t107 : Int) (p01 : (List (Int × (Int × Int)))) (p11 : (List (Int × Int))) (p2_01 : Int) (p2_21 : Bool) (p2_31 : Int) (p2_41 : Int) (p2_51 : Int) (p2_61 : Int) (p31 : (List (Int × (Int × Int)))) (p41 : (List Int)) (p51 : (List Int)) (p6_01 : Int) (p6_21 : Bool) (p6_31 : Int) (p6_41 : Int) (p6_51 : Int) (p6_61 : Int) (p71 : (List (Int × (Int × Int)))) (p81 : (List Int)) (p91 : (List Int)) (p10_01 : Int) (p10_21 : Bool) (p10_31 : Int) (p10_41 : Int) (p10_51 : Int) (p10_61 : Int) (p11_0 : Int) (p11_1 : Int) (p11_2 : Int) : laws_FnAcked.l1 (N + 1) d1 e1 t1001 t1011 t106 t17 t107 p01 p11 p2_01 p2_21 p2_31 p2_41 p2_51 p2_61 p31 p41 p51 p6_01 p6_21 p6_31 p6_41 p6_51 p6_61 p71 p81 p91 p10_01 p10_21 p10_31 p10_41 p10_51 p10_61 p11_0 p11_1 p11_2 =
 sel (decide (t107 < t106))
  (
  andK (α := (((Bool × Unit) × ((List (Int × (Int × Int))) × ((List (Int × Int)) × ((Int × (Unit × (Bool × (Int × (Int × (Int × (Int × Unit))))))) × ((List (Int × (Int × Int))) × ((List Int) × ((List Int) × ((Int × (Unit × (Bool × (Int × (Int × (Int × (Int × Unit))))))) × ((List (Int × (Int × Int))) × ((List Int) × ((List Int) × ((Int × (Unit × (Bool × (Int × (Int × (Int × (Int × Unit))))))) × ((Int × (Int × (Int × Unit))) × Unit))))))))))))) ⊕ ((Unit × (Unit × (Unit × (Unit × (Unit × (Int × (Unit × (Unit × Unit)))))))) × ((List (Int × (Int × Int))) × ((List (Int × Int)) × ((Int × (Unit × (Bool × (Int × (Int × (Int × (Int × Unit))))))) × ((List (Int × (Int × Int))) × ((List Int) × ((List Int) × ((Int × (Unit × (Bool × (Int × (Int × (Int × (Int × Unit))))))) × ((List (Int × (Int × Int))) × ((List Int) × ((List Int) × ((Int × (Unit × (Bool × (Int × (Int × (Int × (Int × Unit))))))) × ((Int × (Int × (Int × Unit))) × Unit))))))))))))))) (
   chk ((decide (0 ≤ t107)) && (decide (t107 < (p41.length : Int)))) (
   sel (decide ((p41.getD (Int.toNat t107) 0) = p11_0))
    (
    andK (spec_HasNumber N p11 (p41.getD (Int.toNat t107) 0)) fun u9 =>
    sel (!u9.1.1)
     (
     some (.inl ((false, ()), (p01, (p11, ((p2_01, ((), (p2_21, (p2_31, (p2_41, (p2_51, (p2_61, ()))))))), (p31, (p41, (p51, ((p6_01, ((), (p6_21, (p6_31, (p6_41, (p6_51, (p6_61, ()))))))), (p71, (p81, (p91, ((p10_01, ((), (p10_21, (p10_31, (p10_41, (p10_51, (p10_61, ()))))))), ((p11_0, (p11_1, (p11_2, ()))), ())))))))))))))))
     (
     some (.inr ((((), ((), ((), ((), ((), ((IntKind.i64.wrap (t17 + 1)), ((), ((), ())))))))), (p01, (p11, ((p2_01, ((), (p2_21, (p2_31, (p2_41, (p2_51, (p2_61, ()))))))), (p31, (p41, (p51, ((p6_01, ((), (p6_21, (p6_31, (p6_41, (p6_51, (p6_61, ()))))))), (p71, (p81, (p91, ((p10_01, ((), (p10_21, (p10_31, (p10_41, (p10_51, (p10_61, ()))))))), ((p11_0, (p11_1, (p11_2, ()))), ())))))))))))))))))
    (
    some (.inr ((((), ((), ((), ((), ((), (t17, ((), ((), ())))))))), (p01, (p11, ((p2_01, ((), (p2_21, (p2_31, (p2_41, (p2_51, (p2_61, ()))))))), (p31, (p41, (p51, ((p6_01, ((), (p6_21, (p6_31, (p6_41, (p6_51, (p6_61, ()))))))), (p71, (p81, (p91, ((p10_01, ((), (p10_21, (p10_31, (p10_41, (p10_51, (p10_61, ()))))))), ((p11_0, (p11_1, (p11_2, ()))), ())))))))))))))))))) fun j10 =>
  orK j10 (fun x11 =>
   some (.inl (x11.1, (x11.2.1, (x11.2.2.1, ((x11.2.2.2.1.1, ((), (x11.2.2.2.1.2.2.1, (x11.2.2.2.1.2.2.2.1, (x11.2.2.2.1.2.2.2.2.1, (x11.2.2.2.1.2.2.2.2.2.1, (x11.2.2.2.1.2.2.2.2.2.2.1, ()))))))), (x11.2.2.2.2.1, (x11.2.2.2.2.2.1, (x11.2.2.2.2.2.2.1, ((x11.2.2.2.2.2.2.2.1.1, ((), (x11.2.2.2.2.2.2.2.1.2.2.1, (x11.2.2.2.2.2.2.2.1.2.2.2.1, (x11.2.2.2.2.2.2.2.1.2.2.2.2.1, (x11.2.2.2.2.2.2.2.1.2.2.2.2.2.1, (x11.2.2.2.2.2.2.2.1.2.2.2.2.2.2.1, ()))))))), (x11.2.2.2.2.2.2.2.2.1, (x11.2.2.2.2.2.2.2.2.2.1, (x11.2.2.2.2.2.2.2.2.2.2.1, ((x11.2.2.2.2.2.2.2.2.2.2.2.1.1, ((), (x11.2.2.2.2.2.2.2.2.2.2.2.1.2.2.1, (x11.2.2.2.2.2.2.2.2.2.2.2.1.2.2.2.1, (x11.2.2.2.2.2.2.2.2.2.2.2.1.2.2.2.2.1, (x11.2.2.2.2.2.2.2.2.2.2.2.1.2.2.2.2.2.1, (x11.2.2.2.2.2.2.2.2.2.2.2.1.2.2.2.2.2.2.1, ()))))))), (x11.2.2.2.2.2.2.2.2.2.2.2.2.1, ())))))))))))))))
   (fun x12 =>
   laws_FnAcked.l1 N d1 e1 t1001 t1011 t106 x12.1.2.2.2.2.2.1 (IntKind.i64.wrap (t107 + 1)) x12.2.1 x12.2.2.1 x12.2.2.2.1.1 x12.2.2.2.1.2.2.1 x12.2.2.2.1.2.2.2.1 x12.2.2.2.1.2.2.2.2.1 x12.2.2.2.1.2.2.2.2.2.1 x12.2.2.2.1.2.2.2.2.2.2.1 x12.2.2.2.2.1 x12.2.2.2.2.2.1 x12.2.2.2.2.2.2.1 x12.2.2.2.2.2.2.2.1.1 x12.2.2.2.2.2.2.2.1.2.2.1 x12.2.2.2.2.2.2.2.1.2.2.2.1 x12.2.2.2.2.2.2.2.1.2.2.2.2.1 x12.2.2.2.2.2.2.2.1.2.2.2.2.2.1 x12.2.2.2.2.2.2.2.1.2.2.2.2.2.2.1 x12.2.2.2.2.2.2.2.2.1 x12.2.2.2.2.2.2.2.2.2.1 x12.2.2.2.2.2.2.2.2.2.2.1 x12.2.2.2.2.2.2.2.2.2.2.2.1.1 x12.2.2.2.2.2.2.2.2.2.2.2.1.2.2.1 x12.2.2.2.2.2.2.2.2.2.2.2.1.2.2.2.1 x12.2.2.2.2.2.2.2.2.2.2.2.1.2.2.2.2.1 x12.2.2.2.2.2.2.2.2.2.2.2.1.2.2.2.2.2.1 x12.2.2.2.2.2.2.2.2.2.2.2.1.2.2.2.2.2.2.1 x12.2.2.2.2.2.2.2.2.2.2.2.2.1.1 x12.2.2.2.2.2.2.2.2.2.2.2.2.1.2.1 x12.2.2.2.2.2.2.2.2.2.2.2.2.1.2.2.1))
  (
  some (.inr ((((), ((), ((), ((), ((), (t17, ((), ()))))))), (p01, (p11, ((p2_01, ((), (p2_21, (p2_31, (p2_41, (p2_51, (p2_61, ()))))))), (p31, (p41, (p51, ((p6_01, ((), (p6_21, (p6_31, (p6_41, (p6_51, (p6_61, ()))))))), (p71, (p81, (p91, ((p10_01, ((), (p10_21, (p10_31, (p10_41, (p10_51, (p10_61, ()))))))), ((p11_0, (p11_1, (p11_2, ()))), ())))))))))))))))) := by kernel_rfl
set_option maxRecDepth 100000 in
theorem laws_FnAcked.l0.eq (N : Nat) (d : Int) (e : Int) (t100 : Int) (t101 : Int) (p0 : (List (Int × (Int × Int)))) (p1 : (List (Int × Int))) (p2_0 : Int) (p2_2 : Bool) (p2_3 : Int) (p2_4 : Int) (p2_5 : Int) (p2_6 : Int) (p3 : (List (Int × (Int × Int)))) (p4 : (List Int)) (p5 : (List Int)) (p6_0 : Int) (p6_2 : Bool) (p6_3 : Int) (p6_4 : Int) (p6_5 : Int) (p6_6 : Int) (p7 : (List (Int × (Int × Int)))) (p8 : (List Int)) (p9 : (List Int)) (p10_0 : Int) (p10_2 : Bool) (p10_3 : Int) (p10_4 : Int) (p10_5 : Int) (p10_6 : Int) : laws_FnAcked.l0 (N + 1) d e t100 t101 p0 p1 p2_0 p2_2 p2_3 p2_4 p2_5 p2_6 p3 p4 p5 p6_0 p6_2 p6_3 p6_4 p6_5 p6_6 p7 p8 p9 p10_0 p10_2 p10_3 p10_4 p10_5 p10_6 =
 sel (decide (t101 < t100))
  (
  chk ((decide (0 ≤ t101)) && (decide (t101 < (p0.length : Int)))) (
  andK (laws_FnAcked.l1 N d e t100 t101 (p4.length : Int) 0 0 p0 p1 p2_0 p2_2 p2_3 p2_4 p2_5 p2_6 p3 p4 p5 p6_0 p6_2 p6_3 p6_4 p6_5 p6_6 p7 p8 p9 p10_0 p10_2 p10_3 p10_4 p10_5 p10_6 (rdS (.pair (.int .i64) (.pair (.int .i64) (.int .i64))) p0 (Int.toNat t101)).1 (rdS (.pair (.int .i64) (.pair (.int .i64) (.int .i64))) p0 (Int.toNat t101)).2.1 (rdS (.pair (.int .i64) (.pair (.int .i64) (.int .i64))) p0 (Int.toNat t101)).2.2) fun l13 =>
  orK l13 (fun x14 =>
   some (.inl (x14.1, (x14.2.1, (x14.2.2.1, ((x14.2.2.2.1.1, ((), (x14.2.2.2.1.2.2.1, (x14.2.2.2.1.2.2.2.1, (x14.2.2.2.1.2.2.2.2.1, (x14.2.2.2.1.2.2.2.2.2.1, (x14.2.2.2.1.2.2.2.2.2.2.1, ()))))))), (x14.2.2.2.2.1, (x14.2.2.2.2.2.1, (x14.2.2.2.2.2.2.1, ((x14.2.2.2.2.2.2.2.1.1, ((), (x14.2.2.2.2.2.2.2.1.2.2.1, (x14.2.2.2.2.2.2.2.1.2.2.2.1, (x14.2.2.2.2.2.2.2.1.2.2.2.2.1, (x14.2.2.2.2.2.2.2.1.2.2.2.2.2.1, (x14.2.2.2.2.2.2.2.1.2.2.2.2.2.2.1, ()))))))), (x14.2.2.2.2.2.2.2.2.1, (x14.2.2.2.2.2.2.2.2.2.1, (x14.2.2.2.2.2.2.2.2.2.2.1, ((x14.2.2.2.2.2.2.2.2.2.2.2.1.1, ((), (x14.2.2.2.2.2.2.2.2.2.2.2.1.2.2.1, (x14.2.2.2.2.2.2.2.2.2.2.2.1.2.2.2.1, (x14.2.2.2.2.2.2.2.2.2.2.2.1.2.2.2.2.1, (x14.2.2.2.2.2.2.2.2.2.2.2.1.2.2.2.2.2.1, (x14.2.2.2.2.2.2.2.2.2.2.2.1.2.2.2.2.2.2.1, ()))))))), ()))))))))))))))
   (fun x15 =>
   andK (laws_FnAcked.l2 N d e t100 t101 (x15.2.2.2.2.2.2.1.length : Int) x15.1.2.2.2.2.2.1 0 x15.2.1 x15.2.2.1 x15.2.2.2.1.1 x15.2.2.2.1.2.2.1 x15.2.2.2.1.2.2.2.1 x15.2.2.2.1.2.2.2.2.1 x15.2.2.2.1.2.2.2.2.2.1 x15.2.2.2.1.2.2.2.2.2.2.1 x15.2.2.2.2.1 x15.2.2.2.2.2.1 x15.2.2.2.2.2.2.1 x15.2.2.2.2.2.2.2.1.1 x15.2.2.2.2.2.2.2.1.2.2.1 x15.2.2.2.2.2.2.2.1.2.2.2.1 x15.2.2.2.2.2.2.2.1.2.2.2.2.1 x15.2.2.2.2.2.2.2.1.2.2.2.2.2.1 x15.2.2.2.2.2.2.2.1.2.2.2.2.2.2.1 x15.2.2.2.2.2.2.2.2.1 x15.2.2.2.2.2.2.2.2.2.1 x15.2.2.2.2.2.2.2.2.2.2.1 x15.2.2.2.2.2.2.2.2.2.2.2.1.1 x15.2.2.2.2.2.2.2.2.2.2.2.1.2.2.1 x15.2.2.2.2.2.2.2.2.2.2.2.1.2.2.2.1 x15.2.2.2.2.2.2.2.2.2.2.2.1.2.2.2.2.1 x15.2.2.2.2.2.2.2.2.2.2.2.1.2.2.2.2.2.1 x15.2.2.2.2.2.2.2.2.2.2.2.1.2.2.2.2.2.2.1 x15.2.2.2.2.2.2.2.2.2.2.2.2.1.1 x15.2.2.2.2.2.2.2.2.2.2.2.2.1.2.1 x15.2.2.2.2.2.2.2.2.2.2.2.2.1.2.2.1) fun l19 =>
   orK l19 (fun x20 =>
    some (.inl (x20.1, (x20.2.1, (x20.2.2.1, ((x20.2.2.2.1.1, ((), (x20.2.2.2.1.2.2.1, (x20.2.2.2.1.2.2.2.1, (x20.2.2.2.1.2.2.2.2.1, (x20.2.2.2.1.2.2.2.2.2.1, (x20.2.2.2.1.2.2.2.2.2.2.1, ()))))))), (x20.2.2.2.2.1, (x20.2.2.2.2.2.1, (x20.2.2.2.2.2.2.1, ((x20.2.2.2.2.2.2.2.1.1, ((), (x20.2.2.2.2.2.2.2.1.2.2.1, (x20.2.2.2.2.2.2.2.1.2.2.2.1, (x20.2.2.2.2.2.2.2.1.2.2.2.2.1, (x20.2.2.2.2.2.2.2.1.2.2.2.2.2.1, (x20.2.2.2.2.2.2.2.1.2.2.2.2.2.2.1, ()))))))), (x20.2.2.2.2.2.2.2.2.1, (x20.2.2.2.2.2.2.2.2.2.1, (x20.2.2.2.2.2.2.2.2.2.2.1, ((x20.2.2.2.2.2.2.2.2.2.2.2.1.1, ((), (x20.2.2.2.2.2.2.2.2.2.2.2.1.2.2.1, (x20.2.2.2.2.2.2.2.2.2.2.2.1.2.2.2.1, (x20.2.2.2.2.2.2.2.2.2.2.2.1.2.2.2.2.1, (x20.2.2.2.2.2.2.2.2.2.2.2.1.2.2.2.2.2.1, (x20.2.2.2.2.2.2.2.2.2.2.2.1.2.2.2.2.2.2.1, ()))))))), ()))))))))))))))
    (fun x21 =>
    andK (laws_FnAcked.l3 N d e t100 t101 (x21.2.2.2.2.1.length : Int) x21.1.2.2.2.2.2.1 0 x21.2.1 x21.2.2.1 x21.2.2.2.1.1 x21.2.2.2.1.2.2.1 x21.2.2.2.1.2.2.2.1 x21.2.2.2.1.2.2.2.2.1 x21.2.2.2.1.2.2.2.2.2.1 x21.2.2.2.1.2.2.2.2.2.2.1 x21.2.2.2.2.1 x21.2.2.2.2.2.1 x21.2.2.2.2.2.2.1 x21.2.2.2.2.2.2.2.1.1 x21.2.2.2.2.2.2.2.1.2.2.1 x21.2.2.2.2.2.2.2.1.2.2.2.1 x21.2.2.2.2.2.2.2.1.2.2.2.2.1 x21.2.2.2.2.2.2.2.1.2.2.2.2.2.1 x21.2.2.2.2.2.2.2.1.2.2.2.2.2.2.1 x21.2.2.2.2.2.2.2.2.1 x21.2.2.2.2.2.2.2.2.2.1 x21.2.2.2.2.2.2.2.2.2.2.1 x21.2.2.2.2.2.2.2.2.2.2.2.1.1 x21.2.2.2.2.2.2.2.2.2.2.2.1.2.2.1 x21.2.2.2.2.2.2.2.2.2.2.2.1.2.2.2.1 x21.2.2.2.2.2.2.2.2.2.2.2.1.2.2.2.2.1 x21.2.2.2.2.2.2.2.2.2.2.2.1.2.2.2.2.2.1 x21.2.2.2.2.2.2.2.2.2.2.2.1.2.2.2.2.2.2.1 x21.2.2.2.2.2.2.2.2.2.2.2.2.1.1 x21.2.2.2.2.2.2.2.2.2.2.2.2.1.2.1 x21.2.2.2.2.2.2.2.2.2.2.2.2.1.2.2.1) fun l23 =>
    sel (!(decide (l23.1.2.2.2.2.1 = 1)))
     (
     some (.inl ((false, ()), (l23.2.1, (l23.2.2.1, ((l23.2.2.2.1.1, ((), (l23.2.2.2.1.2.2.1, (l23.2.2.2.1.2.2.2.1, (l23.2.2.2.1.2.2.2.2.1, (l23.2.2.2.1.2.2.2.2.2.1, (l23.2.2.2.1.2.2.2.2.2.2.1, ()))))))), (l23.2.2.2.2.1, (l23.2.2.2.2.2.1, (l23.2.2.2.2.2.2.1, ((l23.2.2.2.2.2.2.2.1.1, ((), (l23.2.2.2.2.2.2.2.1.2.2.1, (l23.2.2.2.2.2.2.2.1.2.2.2.1, (l23.2.2.2.2.2.2.2.1.2.2.2.2.1, (l23.2.2.2.2.2.2.2.1.2.2.2.2.2.1, (l23.2.2.2.2.2.2.2.1.2.2.2.2.2.2.1, ()))))))), (l23.2.2.2.2.2.2.2.2.1, (l23.2.2.2.2.2.2.2.2.2.1, (l23.2.2.2.2.2.2.2.2.2.2.1, ((l23.2.2.2.2.2.2.2.2.2.2.2.1.1, ((), (l23.2.2.2.2.2.2.2.2.2.2.2.1.2.2.1, (l23.2.2.2.2.2.2.2.2.2.2.2.1.2.2.2.1, (l23.2.2.2.2.2.2.2.2.2.2.2.1.2.2.2.2.1, (l23.2.2.2.2.2.2.2.2.2.2.2.1.2.2.2.2.2.1, (l23.2.2.2.2.2.2.2.2.2.2.2.1.2.2.2.2.2.2.1, ()))))))), ()))))))))))))))
     (
     laws_FnAcked.l0 N d e t100 (IntKind.i64.wrap (t101 + 1)) l23.2.1 l23.2.2.1 l23.2.2.2.1.1 l23.2.2.2.1.2.2.1 l23.2.2.2.1.2.2.2.1 l23.2.2.2.1.2.2.2.2.1 l23.2.2.2.1.2.2.2.2.2.1 l23.2.2.2.1.2.2.2.2.2.2.1 l23.2.2.2.2.1 l23.2.2.2.2.2.1 l23.2.2.2.2.2.2.1 l23.2.2.2.2.2.2.2.1.1 l23.2.2.2.2.2.2.2.1.2.2.1 l23.2.2.2.2.2.2.2.1.2.2.2.1 l23.2.2.2.2.2.2.2.1.2.2.2.2.1 l23.2.2.2.2.2.2.2.1.2.2.2.2.2.1 l23.2.2.2.2.2.2.2.1.2.2.2.2.2.2.1 l23.2.2.2.2.2.2.2.2.1 l23.2.2.2.2.2.2.2.2.2.1 l23.2.2.2.2.2.2.2.2.2.2.1 l23.2.2.2.2.2.2.2.2.2.2.2.1.1 l23.2.2.2.2.2.2.2.2.2.2.2.1.2.2.1 l23.2.2.2.2.2.2.2.2.2.2.2.1.2.2.2.1 l23.2.2.2.2.2.2.2.2.2.2.2.1.2.2.2.2.1 l23.2.2.2.2.2.2.2.2.2.2.2.1.2.2.2.2.2.1 l23.2.2.2.2.2.2.2.2.2.2.2.1.2.2.2.2.2.2.1)))))
  (
  some (.inr ((((), ((), ())), (p0, (p1, ((p2_0, ((), (p2_2, (p2_3, (p2_4, (p2_5, (p2_6, ()))))))), (p3, (p4, (p5, ((p6_0, ((), (p6_2, (p6_3, (p6_4, (p6_5, (p6_6, ()))))))), (p7, (p8, (p9, ((p10_0, ((), (p10_2, (p10_3, (p10_4, (p10_5, (p10_6, ()))))))), ()))))))))))))))) := by kernel_rfl
set_option maxRecDepth 100000 in
theorem laws_FnAcked.eq (N : Nat) (G : (List Int)) : laws_FnAcked N G =
 sel (decide (1048576 < (G.length : Int)))
  (
  some ((true, ()), ()))
  (
  andK (spec_DrawTakeAck N G) fun u1 =>
  andK (impl_TakeAck N u1.1.1.1 u1.2.1 u1.1.1.2.2.1 u1.1.1.2.2.2.1 u1.1.1.2.2.2.2.1 u1.1.1.2.2.2.2.2.1 u1.1.1.2.2.2.2.2.2.1 u1.2.2.1 u1.1.2.2.1 u1.1.2.2.2.1) fun u2 =>
  andK (spec_TakeAck N u1.1.1.1 u1.2.1 u1.1.1.2.2.1 u1.1.1.2.2.2.1 u1.1.1.2.2.2.2.1 u1.1.1.2.2.2.2.2.1 u1.1.1.2.2.2.2.2.2.1 u1.2.2.1 u1.1.2.2.1 u1.1.2.2.2.1) fun u3 =>
  andK (α := ((Unit × (Unit × (Unit × (Unit × (Unit × (Bool × Unit)))))) × ((List (Int × (Int × Int))) × ((List (Int × Int)) × ((Int × (Unit × (Bool × (Int × (Int × (Int × (Int × Unit))))))) × ((List (Int × (Int × Int))) × ((List Int) × ((List Int) × ((Int × (Unit × (Bool × (Int × (Int × (Int × (Int × Unit))))))) × ((List (Int × (Int × Int))) × ((List Int) × ((List Int) × ((Int × (Unit × (Bool × (Int × (Int × (Int × (Int × Unit))))))) × Unit))))))))))))) (
   sel (!(u2.1.2.2.2.1 == u3.1.2.2.2.1))
    (
    some ((((), ((), ((), ((), ((), (true, ())))))), (u1.2.1, (u1.2.2.1, ((u1.1.1.1, ((), (u1.1.1.2.2.1, (u1.1.1.2.2.2.1, (u1.1.1.2.2.2.2.1, (u1.1.1.2.2.2.2.2.1, (u1.1.1.2.2.2.2.2.2.1, ()))))))), (u2.2.1, (u2.2.2.1, (u2.2.2.2.1, ((u2.1.1.1, ((), (u2.1.1.2.2.1, (u2.1.1.2.2.2.1, (u2.1.1.2.2.2.2.1, (u2.1.1.2.2.2.2.2.1, (u2.1.1.2.2.2.2.2.2.1, ()))))))), (u3.2.1, (u3.2.2.1, (u3.2.2.2.1, ((u3.1.1.1, ((), (u3.1.1.2.2.1, (u3.1.1.2.2.2.1, (u3.1.1.2.2.2.2.1, (u3.1.1.2.2.2.2.2.1, (u3.1.1.2.2.2.2.2.2.1, ()))))))), ()))))))))))))))
    (
    andK (laws_sameInts N u2.2.2.1 u3.2.2.1) fun u4 =>
    sel (!u4.1.1)
     (
     some ((((), ((), ((), ((), ((), (true, ())))))), (u1.2.1, (u1.2.2.1, ((u1.1.1.1, ((), (u1.1.1.2.2.1, (u1.1.1.2.2.2.1, (u1.1.1.2.2.2.2.1, (u1.1.1.2.2.2.2.2.1, (u1.1.1.2.2.2.2.2.2.1, ()))))))), (u2.2.1, (u2.2.2.1, (u2.2.2.2.1, ((u2.1.1.1, ((), (u2.1.1.2.2.1, (u2.1.1.2.2.2.1, (u2.1.1.2.2.2.2.1, (u2.1.1.2.2.2.2.2.1, (u2.1.1.2.2.2.2.2.2.1, ()))))))), (u3.2.1, (u3.2.2.1, (u3.2.2.2.1, ((u3.1.1.1, ((), (u3.1.1.2.2.1, (u3.1.1.2.2.2.1, (u3.1.1.2.2.2.2.1, (u3.1.1.2.2.2.2.2.1, (u3.1.1.2.2.2.2.2.2.1, ()))))))), ()))))))))))))))
     (
     andK (laws_sameInts N u2.2.2.2.1 u3.2.2.2.1) fun u5 =>
     some ((((), ((), ((), ((), ((), ((!u5.1.1), ())))))), (u1.2.1, (u1.2.2.1, ((u1.1.1.1, ((), (u1.1.1.2.2.1, (u1.1.1.2.2.2.1, (u1.1.1.2.2.2.2.1, (u1.1.1.2.2.2.2.2.1, (u1.1.1.2.2.2.2.2.2.1, ()))))))), (u2.2.1, (u2.2.2.1, (u2.2.2.2.1, ((u2.1.1.1, ((), (u2.1.1.2.2.1, (u2.1.1.2.2.2.1, (u2.1.1.2.2.2.2.1, (u2.1.1.2.2.2.2.2.1, (u2.1.1.2.2.2.2.2.2.1, ()))))))), (u3.2.1, (u3.2.2.1, (u3.2.2.2.1, ((u3.1.1.1, ((), (u3.1.1.2.2.1, (u3.1.1.2.2.2.1, (u3.1.1.2.2.2.2.1, (u3.1.1.2.2.2.2.2.1, (u3.1.1.2.2.2.2.2.2.1, ()))))))), ())))))))))))))))) fun j6 =>
  sel j6.1.2.2.2.2.2.1
   (
   some ((false, ()), ()))
   (
   sel (!u2.1.2.2.2.1)
    (
    some (((decide ((j6.2.2.2.2.2.1.length : Int) = 0)), ()), ()))
    (
    andK (α := ((Unit × (Unit × (Unit × (Unit × (Unit × (Bool × Unit)))))) × ((List (Int × (Int × Int))) × ((List (Int × Int)) × ((Int × (Unit × (Bool × (Int × (Int × (Int × (Int × Unit))))))) × ((List (Int × (Int × Int))) × ((List Int) × ((List Int) × ((Int × (Unit × (Bool × (Int × (Int × (Int × (Int × Unit))))))) × ((List (Int × (Int × Int))) × ((List Int) × ((List Int) × ((Int × (Unit × (Bool × (Int × (Int × (Int × (Int × Unit))))))) × Unit))))))))))))) (
     andK (impl_GoodSpace N j6.2.2.2.2.2.2.2.1.1 j6.2.2.2.2.1 j6.2.2.2.2.2.2.2.1.2.2.1 j6.2.2.2.2.2.2.2.1.2.2.2.1 j6.2.2.2.2.2.2.2.1.2.2.2.2.1 j6.2.2.2.2.2.2.2.1.2.2.2.2.2.1 j6.2.2.2.2.2.2.2.1.2.2.2.2.2.2.1) fun u7 =>
     sel (!u7.1.1)
      (
      some ((((), ((), ((), ((), ((), (true, ())))))), (j6.2.1, (j6.2.2.1, ((j6.2.2.2.1.1, ((), (j6.2.2.2.1.2.2.1, (j6.2.2.2.1.2.2.2.1, (j6.2.2.2.1.2.2.2.2.1, (j6.2.2.2.1.2.2.2.2.2.1, (j6.2.2.2.1.2.2.2.2.2.2.1, ()))))))), (j6.2.2.2.2.1, (j6.2.2.2.2.2.1, (j6.2.2.2.2.2.2.1, ((j6.2.2.2.2.2.2.2.1.1, ((), (j6.2.2.2.2.2.2.2.1.2.2.1, (j6.2.2.2.2.2.2.2.1.2.2.2.1, (j6.2.2.2.2.2.2.2.1.2.2.2.2.1, (j6.2.2.2.2.2.2.2.1.2.2.2.2.2.1, (j6.2.2.2.2.2.2.2.1.2.2.2.2.2.2.1, ()))))))), (j6.2.2.2.2.2.2.2.2.1, (j6.2.2.2.2.2.2.2.2.2.1, (j6.2.2.2.2.2.2.2.2.2.2.1, ((j6.2.2.2.2.2.2.2.2.2.2.2.1.1, ((), (j6.2.2.2.2.2.2.2.2.2.2.2.1.2.2.1, (j6.2.2.2.2.2.2.2.2.2.2.2.1.2.2.2.1, (j6.2.2.2.2.2.2.2.2.2.2.2.1.2.2.2.2.1, (j6.2.2.2.2.2.2.2.2.2.2.2.1.2.2.2.2.2.1, (j6.2.2.2.2.2.2.2.2.2.2.2.1.2.2.2.2.2.2.1, ()))))))), ()))))))))))))))
      (
      some ((((), ((), ((), ((), ((), ((!(decide ((IntKind.i64.wrap ((IntKind.i64.wrap ((j6.2.2.2.2.2.1.length : Int) + (j6.2.2.2.2.2.2.1.length : Int))) + (j6.2.2.2.2.1.length : Int))) = (j6.2.1.length : Int)))), ())))))), (j6.2.1, (j6.2.2.1, ((j6.2.2.2.1.1, ((), (j6.2.2.2.1.2.2.1, (j6.2.2.2.1.2.2.2.1, (j6.2.2.2.1.2.2.2.2.1, (j6.2.2.2.1.2.2.2.2.2.1, (j6.2.2.2.1.2.2.2.2.2.2.1, ()))))))), (j6.2.2.2.2.1, (j6.2.2.2.2.2.1, (j6.2.2.2.2.2.2.1, ((j6.2.2.2.2.2.2.2.1.1, ((), (j6.2.2.2.2.2.2.2.1.2.2.1, (j6.2.2.2.2.2.2.2.1.2.2.2.1, (j6.2.2.2.2.2.2.2.1.2.2.2.2.1, (j6.2.2.2.2.2.2.2.1.2.2.2.2.2.1, (j6.2.2.2.2.2.2.2.1.2.2.2.2.2.2.1, ()))))))), (j6.2.2.2.2.2.2.2.2.1, (j6.2.2.2.2.2.2.2.2.2.1, (j6.2.2.2.2.2.2.2.2.2.2.1, ((j6.2.2.2.2.2.2.2.2.2.2.2.1.1, ((), (j6.2.2.2.2.2.2.2.2.2.2.2.1.2.2.1, (j6.2.2.2.2.2.2.2.2.2.2.2.1.2.2.2.1, (j6.2.2.2.2.2.2.2.2.2.2.2.1.2.2.2.2.1, (j6.2.2.2.2.2.2.2.2.2.2.2.1.2.2.2.2.2.1, (j6.2.2.2.2.2.2.2.2.2.2.2.1.2.2.2.2.2.2.1, ()))))))), ()))))))))))))))) fun j8 =>
    sel j8.1.2.2.2.2.2.1
     (
     some ((false, ()), ()))
     (
     andK (laws_FnAcked.l0 N u1.1.2.2.1 u1.1.2.2.2.1 (j8.2.1.length : Int) 0 j8.2.1 j8.2.2.1 j8.2.2.2.1.1 j8.2.2.2.1.2.2.1 j8.2.2.2.1.2.2.2.1 j8.2.2.2.1.2.2.2.2.1 j8.2.2.2.1.2.2.2.2.2.1 j8.2.2.2.1.2.2.2.2.2.2.1 j8.2.2.2.2.1 j8.2.2.2.2.2.1 j8.2.2.2.2.2.2.1 j8.2.2.2.2.2.2.2.1.1 j8.2.2.2.2.2.2.2.1.2.2.1 j8.2.2.2.2.2.2.2.1.2.2.2.1 j8.2.2.2.2.2.2.2.1.2.2.2.2.1 j8.2.2.2.2.2.2.2.1.2.2.2.2.2.1 j8.2.2.2.2.2.2.2.1.2.2.2.2.2.2.1 j8.2.2.2.2.2.2.2.2.1 j8.2.2.2.2.2.2.2.2.2.1 j8.2.2.2.2.2.2.2.2.2.2.1 j8.2.2.2.2.2.2.2.2.2.2.2.1.1 j8.2.2.2.2.2.2.2.2.2.2.2.1.2.2.1 j8.2.2.2.2.2.2.2.2.2.2.2.1.2.2.2.1 j8.2.2.2.2.2.2.2.2.2.2.2.1.2.2.2.2.1 j8.2.2.2.2.2.2.2.2.2.2.2.1.2.2.2.2.2.1 j8.2.2.2.2.2.2.2.2.2.2.2.1.2.2.2.2.2.2.1) fun l24 =>
     orK l24 (fun x25 =>
      some (x25.1, ()))
      (fun x26 =>
      andK (impl_TakeAck N x26.2.2.2.2.2.2.2.1.1 x26.2.2.2.2.1 x26.2.2.2.2.2.2.2.1.2.2.1 x26.2.2.2.2.2.2.2.1.2.2.2.1 x26.2.2.2.2.2.2.2.1.2.2.2.2.1 x26.2.2.2.2.2.2.2.1.2.2.2.2.2.1 x26.2.2.2.2.2.2.2.1.2.2.2.2.2.2.1 x26.2.2.1 u1.1.2.2.1 u1.1.2.2.2.1) fun u27 =>
      sel u27.1.2.2.2.1
       (
       sel (decide ((u27.2.2.1.length : Int) = 0))
        (
        sel (decide ((u27.2.2.2.1.length : Int) = 0))
         (
         some (((decide ((u27.2.1.length : Int) = (x26.2.2.2.2.1.length : Int))), ()), ()))
         (
         some ((false, ()), ())))
        (
        some ((false, ()), ())))
       (
       some ((false, ()), ()))))))) := by kernel_rfl
set_option maxRecDepth 100000 in
theorem laws_FnAcked.say (N : Nat) : SayOk Try.prog (laws_FnAcked.S N) := sayOk_mk (N := N) (H := laws_FnAcked.H) (preps := [⟨[], [], [], []⟩]) (l := laws_FnAcked.says) (fn := Try.f5) (c := bodyOf Try.f5)
  (by kernel_rfl) (by kernel_rfl) (by kernel_rfl) (by kernel_rfl) (by kernel_rfl) (by kernel_rfl) (by kernel_rfl)
  (fun N => SayAll.cons (spec_DrawTakeAck.say N) (SayAll.cons (impl_TakeAck.sayB N) (SayAll.cons (spec_TakeAck.sayB N) (SayAll.cons (laws_sameInts.sayB N) (SayAll.cons (impl_GoodSpace.sayB N) (SayAll.cons (spec_HasNumber.sayB N) (SayAll.nil))))))) (fun a s => by kernel_rfl)

end Go.Proofs.Ytbfkfhadcmpndaa.GFnAcked
