-- Written by a program of this session out of the translation; Lean checks it.
import Derived.Test.YtbfkfhadcmpndaaPmLaw
import Derived.Test.YtbfkfhadcmpndaaProg
import Derived.Test.YtbfkfhadcmpndaaSort
set_option linter.unusedVariables false
namespace Go.Proofs.Ytbfkfhadcmpndaa.GFnRanges
open Go Go.Proofs Go.Proofs.YtbfkfhadcmpndaaPM

/-! ### (*loop.example/g00206/spec.l1Cur).next: function 117 -/
noncomputable def spec_l1Cur_next.H : Hints := hintsOf [(4, .join [⟨.normal, [], [0, 3], [.one (.ptr 0 0), ak_i], [.cells [.sh (.rows (.int .u8)), ck_i, .sh (.int .u64)]], [⟨[], [], [], []⟩]⟩])]
noncomputable def spec_l1Cur_next.says (N : Nat) : List Say := []
noncomputable def spec_l1Cur_next.call (N : Nat) : CallK := callBy (spec_l1Cur_next.says N)
noncomputable def spec_l1Cur_next.qt (N : Nat) : FuncId → List PV → Sig → Cl := qtBy (spec_l1Cur_next.says N)
noncomputable def spec_l1Cur_next (N : Nat) (p0_0 : (List Int)) (p0_1 : Int) (p0_2 : Int) : Option ((Int × Unit) × (((List Int) × (Int × (Int × Unit))) × Unit)) :=
  ofFn Try.prog spec_l1Cur_next.call spec_l1Cur_next.qt spec_l1Cur_next.H N Try.f117 [.one (.ptr 0 0)] [.cells [.sh (.rows (.int .u8)), ck_i, .sh (.int .u64)]] [ak_i] [.cells [.sh (.rows (.int .u8)), ck_i, .sh (.int .u64)]] [⟨[], [], [], []⟩] ((), ()) ((p0_0, (p0_1, (p0_2, ()))), ())
noncomputable def spec_l1Cur_next.S (N : Nat) : Say := ⟨false, 117, [.one (.ptr 0 0)], [.cells [.sh (.rows (.int .u8)), ck_i, .sh (.int .u64)]], [ak_i], [.cells [.sh (.rows (.int .u8)), ck_i, .sh (.int .u64)]], fun a s => spec_l1Cur_next N s.1.1 s.1.2.1 s.1.2.2.1⟩
set_option maxRecDepth 100000 in
theorem spec_l1Cur_next.eq (N : Nat) (p0_0 : (List Int)) (p0_1 : Int) (p0_2 : Int) : spec_l1Cur_next N p0_0 p0_1 p0_2 =
 andK (α := ((Unit × (Int × Unit)) × (((List Int) × (Int × (Int × Unit))) × Unit))) (
  sel (decide (p0_1 < (p0_0.length : Int)))
   (
   chk ((decide (0 ≤ p0_1)) && (decide (p0_1 < (p0_0.length : Int)))) (
   some ((((), ((IntKind.i64.wrap (p0_0.getD (Int.toNat p0_1) 0)), ())), ((p0_0, (p0_1, (p0_2, ()))), ())))))
   (
   some ((((), (0, ())), ((p0_0, (p0_1, (p0_2, ()))), ()))))) fun j1 =>
 sel (decide ((IntKind.i64.wrap (j1.2.1.2.1 + 1)) ≤ (j1.2.1.1.length : Int)))
  (
  some ((j1.1.2.1, ()), ((j1.2.1.1, ((IntKind.i64.wrap (j1.2.1.2.1 + 1)), ((IntKind.u64.wrap ((IntKind.u64.wrap ((IntKind.u64.wrap (j1.2.1.2.2.1 * 6364136223846793005)) + (IntKind.u64.wrap j1.1.2.1))) + 1442695040888963407)), ()))), ())))
  (
  some (((IntKind.i64.wrap (Go.bits .and .u64 (shrI .u64 (IntKind.u64.wrap ((IntKind.u64.wrap ((IntKind.u64.wrap (j1.2.1.2.2.1 * 6364136223846793005)) + (IntKind.u64.wrap j1.1.2.1))) + 1442695040888963407)) 40) 255)), ()), ((j1.2.1.1, ((IntKind.i64.wrap (j1.2.1.2.1 + 1)), ((IntKind.u64.wrap ((IntKind.u64.wrap ((IntKind.u64.wrap (j1.2.1.2.2.1 * 6364136223846793005)) + (IntKind.u64.wrap j1.1.2.1))) + 1442695040888963407)), ()))), ()))) := by kernel_rfl
set_option maxRecDepth 100000 in
theorem spec_l1Cur_next.say (N : Nat) : SayOk Try.prog (spec_l1Cur_next.S N) := sayOk_mk (N := N) (H := spec_l1Cur_next.H) (preps := [⟨[], [], [], []⟩]) (l := spec_l1Cur_next.says) (fn := Try.f117) (c := bodyOf Try.f117)
  (by kernel_rfl) (by kernel_rfl) (by kernel_rfl) (by kernel_rfl) (by kernel_rfl) (by kernel_rfl) (by kernel_rfl)
  (fun N => SayAll.nil) (fun a s => by kernel_rfl)

/-! ### (*loop.example/g00206/spec.l1Cur).pick: function 54 -/
noncomputable def spec_l1Cur_pick.H : Hints := hintsOf []
noncomputable def spec_l1Cur_pick.says (N : Nat) : List Say := [spec_l1Cur_next.S N]
noncomputable def spec_l1Cur_pick.call (N : Nat) : CallK := callBy (spec_l1Cur_pick.says N)
noncomputable def spec_l1Cur_pick.qt (N : Nat) : FuncId → List PV → Sig → Cl := qtBy (spec_l1Cur_pick.says N)
noncomputable def spec_l1Cur_pick (N : Nat) (n : Int) (p0_0 : (List Int)) (p0_1 : Int) (p0_2 : Int) : Option ((Int × Unit) × (((List Int) × (Int × (Int × Unit))) × Unit)) :=
  ofFn Try.prog spec_l1Cur_pick.call spec_l1Cur_pick.qt spec_l1Cur_pick.H N Try.f54 [.one (.ptr 0 0), ak_i] [.cells [.sh (.rows (.int .u8)), ck_i, .sh (.int .u64)]] [ak_i] [.cells [.sh (.rows (.int .u8)), ck_i, .sh (.int .u64)]] [⟨[], [], [], []⟩] ((), (n, ())) ((p0_0, (p0_1, (p0_2, ()))), ())
noncomputable def spec_l1Cur_pick.S (N : Nat) : Say := ⟨false, 54, [.one (.ptr 0 0), ak_i], [.cells [.sh (.rows (.int .u8)), ck_i, .sh (.int .u64)]], [ak_i], [.cells [.sh (.rows (.int .u8)), ck_i, .sh (.int .u64)]], fun a s => spec_l1Cur_pick N a.2.1 s.1.1 s.1.2.1 s.1.2.2.1⟩
set_option maxRecDepth 100000 in
theorem spec_l1Cur_pick.eq (N : Nat) (n : Int) (p0_0 : (List Int)) (p0_1 : Int) (p0_2 : Int) : spec_l1Cur_pick N n p0_0 p0_1 p0_2 =
 sel (decide (n ≤ 1))
  (
  some ((0, ()), ((p0_0, (p0_1, (p0_2, ()))), ())))
  (
  andK (spec_l1Cur_next N p0_0 p0_1 p0_2) fun u1 =>
  sel (decide (200 < n))
   (
   andK (spec_l1Cur_next N u1.2.1.1 u1.2.1.2.1 u1.2.1.2.2.1) fun u2 =>
   chk (n != 0) (
   some (((Int.tmod (IntKind.i64.wrap ((IntKind.i64.wrap (u1.1.1 * 256)) + u2.1.1)) n), ()), ((u2.2.1.1, (u2.2.1.2.1, (u2.2.1.2.2.1, ()))), ()))))
   (
   chk (n != 0) (
   some (((Int.tmod u1.1.1 n), ()), ((u1.2.1.1, (u1.2.1.2.1, (u1.2.1.2.2.1, ()))), ()))))) := by kernel_rfl
set_option maxRecDepth 100000 in
theorem spec_l1Cur_pick.say (N : Nat) : SayOk Try.prog (spec_l1Cur_pick.S N) := sayOk_mk (N := N) (H := spec_l1Cur_pick.H) (preps := [⟨[], [], [], []⟩]) (l := spec_l1Cur_pick.says) (fn := Try.f54) (c := bodyOf Try.f54)
  (by kernel_rfl) (by kernel_rfl) (by kernel_rfl) (by kernel_rfl) (by kernel_rfl) (by kernel_rfl) (by kernel_rfl)
  (fun N => SayAll.cons (spec_l1Cur_next.say N) (SayAll.nil)) (fun a s => by kernel_rfl)

/-! ### (*loop.example/g00206/spec.l1Cur).one: function 55 -/
noncomputable def spec_l1Cur_one.H : Hints := hintsOf []
noncomputable def spec_l1Cur_one.says (N : Nat) : List Say := [spec_l1Cur_pick.S N]
noncomputable def spec_l1Cur_one.call (N : Nat) : CallK := callBy (spec_l1Cur_one.says N)
noncomputable def spec_l1Cur_one.qt (N : Nat) : FuncId → List PV → Sig → Cl := qtBy (spec_l1Cur_one.says N)
noncomputable def spec_l1Cur_one (N : Nat) (n : Int) (p0_0 : (List Int)) (p0_1 : Int) (p0_2 : Int) : Option ((Bool × Unit) × (((List Int) × (Int × (Int × Unit))) × Unit)) :=
  ofFn Try.prog spec_l1Cur_one.call spec_l1Cur_one.qt spec_l1Cur_one.H N Try.f55 [.one (.ptr 0 0), ak_i] [.cells [.sh (.rows (.int .u8)), ck_i, .sh (.int .u64)]] [ak_b] [.cells [.sh (.rows (.int .u8)), ck_i, .sh (.int .u64)]] [⟨[], [], [], []⟩] ((), (n, ())) ((p0_0, (p0_1, (p0_2, ()))), ())
noncomputable def spec_l1Cur_one.S (N : Nat) : Say := ⟨false, 55, [.one (.ptr 0 0), ak_i], [.cells [.sh (.rows (.int .u8)), ck_i, .sh (.int .u64)]], [ak_b], [.cells [.sh (.rows (.int .u8)), ck_i, .sh (.int .u64)]], fun a s => spec_l1Cur_one N a.2.1 s.1.1 s.1.2.1 s.1.2.2.1⟩
set_option maxRecDepth 100000 in
theorem spec_l1Cur_one.eq (N : Nat) (n : Int) (p0_0 : (List Int)) (p0_1 : Int) (p0_2 : Int) : spec_l1Cur_one N n p0_0 p0_1 p0_2 =
 andK (spec_l1Cur_pick N n p0_0 p0_1 p0_2) fun u1 =>
 some (((decide (u1.1.1 = 0)), ()), ((u1.2.1.1, (u1.2.1.2.1, (u1.2.1.2.2.1, ()))), ())) := by kernel_rfl
set_option maxRecDepth 100000 in
theorem spec_l1Cur_one.say (N : Nat) : SayOk Try.prog (spec_l1Cur_one.S N) := sayOk_mk (N := N) (H := spec_l1Cur_one.H) (preps := [⟨[], [], [], []⟩]) (l := spec_l1Cur_one.says) (fn := Try.f55) (c := bodyOf Try.f55)
  (by kernel_rfl) (by kernel_rfl) (by kernel_rfl) (by kernel_rfl) (by kernel_rfl) (by kernel_rfl) (by kernel_rfl)
  (fun N => SayAll.cons (spec_l1Cur_pick.say N) (SayAll.nil)) (fun a s => by kernel_rfl)

/-! ### (*loop.example/g00206/spec.l1Cur).among: function 81 -/
noncomputable def spec_l1Cur_among.H : Hints := hintsOf []
noncomputable def spec_l1Cur_among.says (N : Nat) : List Say := [spec_l1Cur_pick.S N]
noncomputable def spec_l1Cur_among.call (N : Nat) : CallK := callBy (spec_l1Cur_among.says N)
noncomputable def spec_l1Cur_among.qt (N : Nat) : FuncId → List PV → Sig → Cl := qtBy (spec_l1Cur_among.says N)
noncomputable def spec_l1Cur_among (N : Nat) (list : (List Int)) (p0_0 : (List Int)) (p0_1 : Int) (p0_2 : Int) : Option ((Int × Unit) × (((List Int) × (Int × (Int × Unit))) × Unit)) :=
  ofFn Try.prog spec_l1Cur_among.call spec_l1Cur_among.qt spec_l1Cur_among.H N Try.f81 [.one (.ptr 0 0), .one (.sh (.rows (.int .i64)))] [.cells [.sh (.rows (.int .u8)), ck_i, .sh (.int .u64)]] [ak_i] [.cells [.sh (.rows (.int .u8)), ck_i, .sh (.int .u64)]] [⟨[], [], [], []⟩] ((), (list, ())) ((p0_0, (p0_1, (p0_2, ()))), ())
noncomputable def spec_l1Cur_among.S (N : Nat) : Say := ⟨false, 81, [.one (.ptr 0 0), .one (.sh (.rows (.int .i64)))], [.cells [.sh (.rows (.int .u8)), ck_i, .sh (.int .u64)]], [ak_i], [.cells [.sh (.rows (.int .u8)), ck_i, .sh (.int .u64)]], fun a s => spec_l1Cur_among N a.2.1 s.1.1 s.1.2.1 s.1.2.2.1⟩
set_option maxRecDepth 100000 in
theorem spec_l1Cur_among.eq (N : Nat) (list : (List Int)) (p0_0 : (List Int)) (p0_1 : Int) (p0_2 : Int) : spec_l1Cur_among N list p0_0 p0_1 p0_2 =
 andK (spec_l1Cur_pick N (list.length : Int) p0_0 p0_1 p0_2) fun u1 =>
 chk ((decide (0 ≤ u1.1.1)) && (decide (u1.1.1 < (list.length : Int)))) (
 some (((list.getD (Int.toNat u1.1.1) 0), ()), ((u1.2.1.1, (u1.2.1.2.1, (u1.2.1.2.2.1, ()))), ()))) := by kernel_rfl
set_option maxRecDepth 100000 in
theorem spec_l1Cur_among.say (N : Nat) : SayOk Try.prog (spec_l1Cur_among.S N) := sayOk_mk (N := N) (H := spec_l1Cur_among.H) (preps := [⟨[], [], [], []⟩]) (l := spec_l1Cur_among.says) (fn := Try.f81) (c := bodyOf Try.f81)
  (by kernel_rfl) (by kernel_rfl) (by kernel_rfl) (by kernel_rfl) (by kernel_rfl) (by kernel_rfl) (by kernel_rfl)
  (fun N => SayAll.cons (spec_l1Cur_pick.say N) (SayAll.nil)) (fun a s => by kernel_rfl)

/-! ### loop.example/g00206/spec.l1In: function 62 -/
noncomputable def spec_l1In.H : Hints := hintsOf []
noncomputable def spec_l1In.says (N : Nat) : List Say := []
noncomputable def spec_l1In.call (N : Nat) : CallK := callBy (spec_l1In.says N)
noncomputable def spec_l1In.qt (N : Nat) : FuncId → List PV → Sig → Cl := qtBy (spec_l1In.says N)
noncomputable def spec_l1In (N : Nat) (n : Int) (lo : Int) (hi : Int) : Option ((Bool × Unit) × Unit) :=
  ofFn Try.prog spec_l1In.call spec_l1In.qt spec_l1In.H N Try.f62 [ak_i, ak_i, ak_i] [] [ak_b] [] [⟨[], [], [], []⟩] (n, (lo, (hi, ()))) ()
noncomputable def spec_l1In.S (N : Nat) : Say := ⟨false, 62, [ak_i, ak_i, ak_i], [], [ak_b], [], fun a s => spec_l1In N a.1 a.2.1 a.2.2.1⟩
set_option maxRecDepth 100000 in
theorem spec_l1In.eq (N : Nat) (n : Int) (lo : Int) (hi : Int) : spec_l1In N n lo hi =
 sel (decide (lo ≤ n))
  (
  some (((decide (n ≤ hi)), ()), ()))
  (
  some ((false, ()), ())) := by kernel_rfl
set_option maxRecDepth 100000 in
theorem spec_l1In.say (N : Nat) : SayOk Try.prog (spec_l1In.S N) := sayOk_mk (N := N) (H := spec_l1In.H) (preps := [⟨[], [], [], []⟩]) (l := spec_l1In.says) (fn := Try.f62) (c := bodyOf Try.f62)
  (by kernel_rfl) (by kernel_rfl) (by kernel_rfl) (by kernel_rfl) (by kernel_rfl) (by kernel_rfl) (by kernel_rfl)
  (fun N => SayAll.nil) (fun a s => by kernel_rfl)

/-! ### loop.example/g00206/spec.l1Known: function 84 -/
noncomputable def spec_l1Known.H : Hints := hintsOf []
noncomputable def spec_l1Known.says (N : Nat) : List Say := [spec_l1In.S N]
noncomputable def spec_l1Known.call (N : Nat) : CallK := callBy (spec_l1Known.says N)
noncomputable def spec_l1Known.qt (N : Nat) : FuncId → List PV → Sig → Cl := qtBy (spec_l1Known.says N)
noncomputable def spec_l1Known (N : Nat) (n : Int) : Option ((Bool × Unit) × Unit) :=
  ofFn Try.prog spec_l1Known.call spec_l1Known.qt spec_l1Known.H N Try.f84 [ak_i] [] [ak_b] [] [⟨[], [], [], []⟩] (n, ()) ()
noncomputable def spec_l1Known.S (N : Nat) : Say := ⟨false, 84, [ak_i], [], [ak_b], [], fun a s => spec_l1Known N a.1⟩
set_option maxRecDepth 100000 in
theorem spec_l1Known.eq (N : Nat) (n : Int) : spec_l1Known N n =
 andK (spec_l1In N n 0 4611686018427387903) fun u1 =>
 some ((u1.1.1, ()), ()) := by kernel_rfl
set_option maxRecDepth 100000 in
theorem spec_l1Known.say (N : Nat) : SayOk Try.prog (spec_l1Known.S N) := sayOk_mk (N := N) (H := spec_l1Known.H) (preps := [⟨[], [], [], []⟩]) (l := spec_l1Known.says) (fn := Try.f84) (c := bodyOf Try.f84)
  (by kernel_rfl) (by kernel_rfl) (by kernel_rfl) (by kernel_rfl) (by kernel_rfl) (by kernel_rfl) (by kernel_rfl)
  (fun N => SayAll.cons (spec_l1In.say N) (SayAll.nil)) (fun a s => by kernel_rfl)

/-! ### loop.example/g00206/spec.l1Ranges: function 107 -/
noncomputable def spec_l1Ranges.H : Hints := hintsOf [(5000004, .join [⟨.normal, [0, 5, 6, 7], [39], [ak_b], [.cells [ck_i, ck_i]], [⟨[], [], [], []⟩]⟩]),
  (2000002, .loop ⟨.normal, [0, 5, 6], [7], [ak_i], [], [⟨[], [], [], []⟩]⟩ [⟨.ret, [], [2], [ak_b], [], [⟨[], [], [], []⟩]⟩, ⟨(.exit 0), [0], [], [], [], [⟨[], [], [], []⟩]⟩])]
noncomputable def spec_l1Ranges.says (N : Nat) : List Say := [spec_l1In.S N, spec_l1Known.S N]
noncomputable def spec_l1Ranges.call (N : Nat) : CallK := callBy (spec_l1Ranges.says N)
noncomputable def spec_l1Ranges.qt (N : Nat) : FuncId → List PV → Sig → Cl := qtBy (spec_l1Ranges.says N)
noncomputable def spec_l1Ranges.l0.hd : Alt := ⟨.normal, [0, 5, 6], [7], [ak_i], [], [⟨[], [], [], []⟩]⟩
noncomputable def spec_l1Ranges.l0.outs : List Alt := [⟨.ret, [], [2], [ak_b], [], [⟨[], [], [], []⟩]⟩, ⟨(.exit 0), [0], [], [], [], [⟨[], [], [], []⟩]⟩]
noncomputable def spec_l1Ranges.l0 (N : Nat) (l1 : (List (Int × Int))) (t5 : (List (Int × Int))) (t6 : Int) (t7 : Int) : Option (((Bool × Unit) × Unit) ⊕ (Unit × Unit)) :=
  loopK Try.prog spec_l1Ranges.call spec_l1Ranges.qt spec_l1Ranges.H (codeAt (bodyOf Try.f107) [1, 0, 1, 0, 0]) 0 spec_l1Ranges.l0.hd spec_l1Ranges.l0.outs [(0, .rows false (.pair (.int .i64) (.int .i64)) l1), (5, .rows false (.pair (.int .i64) (.int .i64)) t5), (6, .v (.int .i64 t6))] N ((t7, ()), ())
noncomputable def spec_l1Ranges (N : Nat) (l : (List (Int × Int))) : Option ((Bool × Unit) × Unit) :=
  ofFn Try.prog spec_l1Ranges.call spec_l1Ranges.qt spec_l1Ranges.H N Try.f107 [.one (.sh (.rows (.pair (.int .i64) (.int .i64))))] [] [ak_b] [] [⟨[], [], [], []⟩] (l, ()) ()
noncomputable def spec_l1Ranges.S (N : Nat) : Say := ⟨false, 107, [.one (.sh (.rows (.pair (.int .i64) (.int .i64))))], [], [ak_b], [], fun a s => spec_l1Ranges N a.1⟩
set_option maxRecDepth 100000 in
theorem spec_l1Ranges.l0.eq (N : Nat) (l1 : (List (Int × Int))) (t5 : (List (Int × Int))) (t6 : Int) (t7 : Int) : spec_l1Ranges.l0 (N + 1) l1 t5 t6 t7 =
 sel (decide (t7 < t6))
  (
  chk ((decide (0 ≤ t7)) && (decide (t7 < (t5.length : Int)))) (
  andK (α := ((Bool × Unit) × ((Int × (Int × Unit)) × Unit))) (
   andK (spec_l1In N (rdS (.pair (.int .i64) (.int .i64)) t5 (Int.toNat t7)).1 0 (rdS (.pair (.int .i64) (.int .i64)) t5 (Int.toNat t7)).2) fun u1 =>
   sel (!u1.1.1)
    (
    some (((true, ()), (((rdS (.pair (.int .i64) (.int .i64)) t5 (Int.toNat t7)).1, ((rdS (.pair (.int .i64) (.int .i64)) t5 (Int.toNat t7)).2, ())), ()))))
    (
    andK (spec_l1Known N (rdS (.pair (.int .i64) (.int .i64)) t5 (Int.toNat t7)).2) fun u2 =>
    sel (!u2.1.1)
     (
     some (((true, ()), (((rdS (.pair (.int .i64) (.int .i64)) t5 (Int.toNat t7)).1, ((rdS (.pair (.int .i64) (.int .i64)) t5 (Int.toNat t7)).2, ())), ()))))
     (
     sel (decide (0 < t7))
      (
      chk ((decide (0 ≤ (IntKind.i64.wrap (t7 - 1)))) && (decide ((IntKind.i64.wrap (t7 - 1)) < (l1.length : Int)))) (
      some ((((decide ((IntKind.i64.wrap ((rdS (.pair (.int .i64) (.int .i64)) l1 (Int.toNat (IntKind.i64.wrap (t7 - 1)))).1 - 2)) < (rdS (.pair (.int .i64) (.int .i64)) t5 (Int.toNat t7)).2)), ()), (((rdS (.pair (.int .i64) (.int .i64)) t5 (Int.toNat t7)).1, ((rdS (.pair (.int .i64) (.int .i64)) t5 (Int.toNat t7)).2, ())), ())))))
      (
      some (((false, ()), (((rdS (.pair (.int .i64) (.int .i64)) t5 (Int.toNat t7)).1, ((rdS (.pair (.int .i64) (.int .i64)) t5 (Int.toNat t7)).2, ())), ()))))))) fun j3 =>
  sel j3.1.1
   (
   some (.inl ((false, ()), ())))
   (
   spec_l1Ranges.l0 N l1 t5 t6 (IntKind.i64.wrap (t7 + 1)))))
  (
  some (.inr (((), ())))) := by kernel_rfl
set_option maxRecDepth 100000 in
theorem spec_l1Ranges.eq (N : Nat) (l : (List (Int × Int))) : spec_l1Ranges N l =
 andK (spec_l1Ranges.l0 N l l (l.length : Int) 0) fun l4 =>
 orK l4 (fun x5 =>
  some ((x5.1.1, ()), ()))
  (fun x6 =>
  andK (spec_l1In N (l.length : Int) 1 20) fun u7 =>
  some ((u7.1.1, ()), ())) := by kernel_rfl
set_option maxRecDepth 100000 in
theorem spec_l1Ranges.say (N : Nat) : SayOk Try.prog (spec_l1Ranges.S N) := sayOk_mk (N := N) (H := spec_l1Ranges.H) (preps := [⟨[], [], [], []⟩]) (l := spec_l1Ranges.says) (fn := Try.f107) (c := bodyOf Try.f107)
  (by kernel_rfl) (by kernel_rfl) (by kernel_rfl) (by kernel_rfl) (by kernel_rfl) (by kernel_rfl) (by kernel_rfl)
  (fun N => SayAll.cons (spec_l1In.say N) (SayAll.cons (spec_l1Known.say N) (SayAll.nil))) (fun a s => by kernel_rfl)

/-! ### loop.example/g00206/spec.l12Ranges: function 73 -/
noncomputable def spec_l12Ranges.H : Hints := hintsOf []
noncomputable def spec_l12Ranges.says (N : Nat) : List Say := [spec_l1Ranges.S N]
noncomputable def spec_l12Ranges.call (N : Nat) : CallK := callBy (spec_l12Ranges.says N)
noncomputable def spec_l12Ranges.qt (N : Nat) : FuncId → List PV → Sig → Cl := qtBy (spec_l12Ranges.says N)
noncomputable def spec_l12Ranges (N : Nat) (l : (List (Int × Int))) : Option ((Bool × Unit) × Unit) :=
  ofFn Try.prog spec_l12Ranges.call spec_l12Ranges.qt spec_l12Ranges.H N Try.f73 [.one (.sh (.rows (.pair (.int .i64) (.int .i64))))] [] [ak_b] [] [⟨[], [], [], []⟩] (l, ()) ()
noncomputable def spec_l12Ranges.S (N : Nat) : Say := ⟨false, 73, [.one (.sh (.rows (.pair (.int .i64) (.int .i64))))], [], [ak_b], [], fun a s => spec_l12Ranges N a.1⟩
set_option maxRecDepth 100000 in
theorem spec_l12Ranges.eq (N : Nat) (l : (List (Int × Int))) : spec_l12Ranges N l =
 sel (decide ((l.length : Int) = 0))
  (
  some ((true, ()), ()))
  (
  sel (decide ((l.length : Int) ≤ 20))
   (
   andK (spec_l1Ranges N l) fun u1 =>
   some ((u1.1.1, ()), ()))
   (
   some ((false, ()), ()))) := by kernel_rfl
set_option maxRecDepth 100000 in
theorem spec_l12Ranges.say (N : Nat) : SayOk Try.prog (spec_l12Ranges.S N) := sayOk_mk (N := N) (H := spec_l12Ranges.H) (preps := [⟨[], [], [], []⟩]) (l := spec_l12Ranges.says) (fn := Try.f73) (c := bodyOf Try.f73)
  (by kernel_rfl) (by kernel_rfl) (by kernel_rfl) (by kernel_rfl) (by kernel_rfl) (by kernel_rfl) (by kernel_rfl)
  (fun N => SayAll.cons (spec_l1Ranges.say N) (SayAll.nil)) (fun a s => by kernel_rfl)
noncomputable def spec_l12Ranges.SB (N : Nat) : Say := spec_l12Ranges.S N |>.lent
theorem spec_l12Ranges.sayB (N : Nat) : SayOk Try.prog (spec_l12Ranges.SB N) := (spec_l12Ranges.say N).lent

/-! ### loop.example/g00206/spec.l12Put: function 85 -/
noncomputable def spec_l12Put.H : Hints := hintsOf [(12, .join [⟨.normal, [9, 10, 11], [3, 5, 6, 8], [.one (.ptr 0 0), .one (.own 1), ak_b, .one (.ptr 2 0)], [.cells [ck_i, ck_i], .rows (.pair (.int .i64) (.int .i64)), .cells [ck_i, ck_i]], [⟨[], [], [], []⟩]⟩]),
  (15, .join [⟨.normal, [6, 9, 10, 11], [3, 5, 8], [.one (.ptr 0 0), .one (.own 1), .one (.ptr 2 0)], [.cells [ck_i, ck_i], .rows (.pair (.int .i64) (.int .i64)), .cells [ck_i, ck_i]], [⟨[], [], [], []⟩]⟩]),
  (17, .join [⟨.normal, [9, 10, 11], [3, 5, 6], [.one (.ptr 0 0), .one (.own 1), ak_b], [.cells [ck_i, ck_i], .rows (.pair (.int .i64) (.int .i64))], [⟨[], [], [], []⟩]⟩]),
  (2000004, .loop ⟨.normal, [9, 10], [3, 5, 6, 11], [.one (.ptr 0 0), .one (.own 1), ak_b, ak_i], [.cells [ck_i, ck_i], .rows (.pair (.int .i64) (.int .i64))], [⟨[(5, (.pair (.int .i64) (.int .i64)))], [], [], [1]⟩, ⟨[], [], [], [1]⟩]⟩ [⟨(.exit 0), [], [3, 5, 6], [.one (.ptr 0 0), .one (.own 1), ak_b], [.cells [ck_i, ck_i], .rows (.pair (.int .i64) (.int .i64))], [⟨[], [], [], [1]⟩]⟩])]
noncomputable def spec_l12Put.says (N : Nat) : List Say := []
noncomputable def spec_l12Put.call (N : Nat) : CallK := callBy (spec_l12Put.says N)
noncomputable def spec_l12Put.qt (N : Nat) : FuncId → List PV → Sig → Cl := qtBy (spec_l12Put.says N)
noncomputable def spec_l12Put.l0.hd : Alt := ⟨.normal, [9, 10], [3, 5, 6, 11], [.one (.ptr 0 0), .one (.own 1), ak_b, ak_i], [.cells [ck_i, ck_i], .rows (.pair (.int .i64) (.int .i64))], [⟨[(5, (.pair (.int .i64) (.int .i64)))], [], [], [1]⟩, ⟨[], [], [], [1]⟩]⟩
noncomputable def spec_l12Put.l0.outs : List Alt := [⟨(.exit 0), [], [3, 5, 6], [.one (.ptr 0 0), .one (.own 1), ak_b], [.cells [ck_i, ck_i], .rows (.pair (.int .i64) (.int .i64))], [⟨[], [], [], [1]⟩]⟩]
noncomputable def spec_l12Put.l0 (N : Nat) (o : (List (Int × Int))) (A : Int) (e : Bool) (r : Int) (p0_0 : Int) (p0_1 : Int) (p1 : (List (Int × Int))) : Option ((Unit × (Unit × (Bool × Unit))) × ((Int × (Int × Unit)) × ((List (Int × Int)) × Unit))) :=
  loopK Try.prog spec_l12Put.call spec_l12Put.qt spec_l12Put.H (codeAt (bodyOf Try.f85) [1, 1, 1, 0, 1, 0, 0]) 1 spec_l12Put.l0.hd spec_l12Put.l0.outs [(9, .rows false (.pair (.int .i64) (.int .i64)) o), (10, .v (.int .i64 A))] N (((), ((), (e, (r, ())))), ((p0_0, (p0_1, ())), (p1, ())))
noncomputable def spec_l12Put (N : Nat) (G : (List (Int × Int))) (o_0 : Int) (o_1 : Int) : Option ((Unit × Unit) × ((List (Int × Int)) × Unit)) :=
  ofFn Try.prog spec_l12Put.call spec_l12Put.qt spec_l12Put.H N Try.f85 [.one (.sh (.rows (.pair (.int .i64) (.int .i64)))), .agg [ck_i, ck_i]] [] [.one (.own 0)] [.rows (.pair (.int .i64) (.int .i64))] [⟨[], [], [], [1]⟩] (G, ((o_0, (o_1, ())), ())) ()
noncomputable def spec_l12Put.S (N : Nat) : Say := ⟨false, 85, [.one (.sh (.rows (.pair (.int .i64) (.int .i64)))), .agg [ck_i, ck_i]], [], [.one (.own 0)], [.rows (.pair (.int .i64) (.int .i64))], fun a s => spec_l12Put N a.1 a.2.1.1 a.2.1.2.1⟩
set_option maxRecDepth 100000 in
theorem spec_l12Put.l0.eq (N : Nat) (o : (List (Int × Int))) (A : Int) (e : Bool) (r : Int) (p0_0 : Int) (p0_1 : Int) (p1 : (List (Int × Int))) : spec_l12Put.l0 (N + 1) o A e r p0_0 p0_1 p1 =
 sel (decide (r < A))
  (
  andK (α := ((Unit × (Unit × (Bool × Unit))) × ((Int × (Int × Unit)) × ((List (Int × Int)) × Unit)))) (
   chk ((decide (0 ≤ r)) && (decide (r < (o.length : Int)))) (
   sel (decide ((IntKind.i64.wrap (p0_1 + 1)) < (rdS (.pair (.int .i64) (.int .i64)) o (Int.toNat r)).1))
    (
    chk (decide (p1.length + 1 < most)) (
    some ((((), ((), (e, ()))), ((p0_0, (p0_1, ())), ((p1 ++ [((rdS (.pair (.int .i64) (.int .i64)) o (Int.toNat r)).1, (rdS (.pair (.int .i64) (.int .i64)) o (Int.toNat r)).2)]), ()))))))
    (
    sel (decide ((rdS (.pair (.int .i64) (.int .i64)) o (Int.toNat r)).2 < (IntKind.i64.wrap (p0_0 - 1))))
     (
     andK (α := ((Unit × (Unit × (Bool × (Unit × Unit)))) × ((Int × (Int × Unit)) × ((List (Int × Int)) × ((Int × (Int × Unit)) × Unit))))) (
      sel (!e)
       (
       chk (decide (p1.length + 1 < most)) (
       some ((((), ((), (true, ((), ())))), ((p0_0, (p0_1, ())), ((p1 ++ [(p0_0, p0_1)]), (((rdS (.pair (.int .i64) (.int .i64)) o (Int.toNat r)).1, ((rdS (.pair (.int .i64) (.int .i64)) o (Int.toNat r)).2, ())), ())))))))
       (
       some ((((), ((), (e, ((), ())))), ((p0_0, (p0_1, ())), (p1, (((rdS (.pair (.int .i64) (.int .i64)) o (Int.toNat r)).1, ((rdS (.pair (.int .i64) (.int .i64)) o (Int.toNat r)).2, ())), ()))))))) fun j1 =>
     chk (decide (j1.2.2.1.length + 1 < most)) (
     some ((((), ((), (j1.1.2.2.1, ()))), ((j1.2.1.1, (j1.2.1.2.1, ())), ((j1.2.2.1 ++ [(j1.2.2.2.1.1, j1.2.2.2.1.2.1)]), ()))))))
     (
     andK (α := ((Unit × (Unit × (Unit × Unit))) × ((Int × (Int × Unit)) × ((List (Int × Int)) × ((Int × (Int × Unit)) × Unit))))) (
      sel (decide ((rdS (.pair (.int .i64) (.int .i64)) o (Int.toNat r)).1 < p0_0))
       (
       some ((((), ((), ((), ()))), (((rdS (.pair (.int .i64) (.int .i64)) o (Int.toNat r)).1, (p0_1, ())), (p1, (((rdS (.pair (.int .i64) (.int .i64)) o (Int.toNat r)).1, ((rdS (.pair (.int .i64) (.int .i64)) o (Int.toNat r)).2, ())), ()))))))
       (
       some ((((), ((), ((), ()))), ((p0_0, (p0_1, ())), (p1, (((rdS (.pair (.int .i64) (.int .i64)) o (Int.toNat r)).1, ((rdS (.pair (.int .i64) (.int .i64)) o (Int.toNat r)).2, ())), ()))))))) fun j2 =>
     sel (decide (j2.2.1.2.1 < j2.2.2.2.1.2.1))
      (
      some ((((), ((), (e, ()))), ((j2.2.1.1, (j2.2.2.2.1.2.1, ())), (j2.2.2.1, ())))))
      (
      some ((((), ((), (e, ()))), ((j2.2.1.1, (j2.2.1.2.1, ())), (j2.2.2.1, ()))))))))) fun j3 =>
  spec_l12Put.l0 N o A j3.1.2.2.1 (IntKind.i64.wrap (r + 1)) j3.2.1.1 j3.2.1.2.1 j3.2.2.1)
  (
  some ((((), ((), (e, ()))), ((p0_0, (p0_1, ())), (p1, ()))))) := by kernel_rfl
set_option maxRecDepth 100000 in
theorem spec_l12Put.eq (N : Nat) (G : (List (Int × Int))) (o_0 : Int) (o_1 : Int) : spec_l12Put N G o_0 o_1 =
 andK (spec_l12Put.l0 N G (G.length : Int) false 0 o_0 o_1 []) fun l4 =>
 sel (!l4.1.2.2.1)
  (
  chk (decide (l4.2.2.1.length + 1 < most)) (
  some (((), ()), ((l4.2.2.1 ++ [(l4.2.1.1, l4.2.1.2.1)]), ()))))
  (
  some (((), ()), (l4.2.2.1, ()))) := by kernel_rfl
set_option maxRecDepth 100000 in
theorem spec_l12Put.say (N : Nat) : SayOk Try.prog (spec_l12Put.S N) := sayOk_mk (N := N) (H := spec_l12Put.H) (preps := [⟨[], [], [], [1]⟩]) (l := spec_l12Put.says) (fn := Try.f85) (c := bodyOf Try.f85)
  (by kernel_rfl) (by kernel_rfl) (by kernel_rfl) (by kernel_rfl) (by kernel_rfl) (by kernel_rfl) (by kernel_rfl)
  (fun N => SayAll.nil) (fun a s => by kernel_rfl)
noncomputable def spec_l12Put.SB (N : Nat) : Say := spec_l12Put.S N |>.lent
theorem spec_l12Put.sayB (N : Nat) : SayOk Try.prog (spec_l12Put.SB N) := (spec_l12Put.say N).lent

/-! ### loop.example/g00206/spec.PutNumber: function 31 -/
noncomputable def spec_PutNumber.H : Hints := hintsOf [(5000001, .join [⟨.normal, [0, 1], [14], [ak_b], [], [⟨[], [], [], []⟩]⟩]),
  (8000005, .alts [24])]
noncomputable def spec_PutNumber.says (N : Nat) : List Say := [spec_l12Ranges.S N, spec_l1Known.S N, spec_l12Put.S N]
noncomputable def spec_PutNumber.call (N : Nat) : CallK := callBy (spec_PutNumber.says N)
noncomputable def spec_PutNumber.qt (N : Nat) : FuncId → List PV → Sig → Cl := qtBy (spec_PutNumber.says N)
noncomputable def spec_PutNumber (N : Nat) (l : (List (Int × Int))) (n : Int) : Option ((Unit × (Bool × Unit)) × ((List (Int × Int)) × Unit)) :=
  ofFn Try.prog spec_PutNumber.call spec_PutNumber.qt spec_PutNumber.H N Try.f31 [.one (.sh (.rows (.pair (.int .i64) (.int .i64)))), ak_i] [] [.one (.own 0), ak_b] [.rows (.pair (.int .i64) (.int .i64))] [⟨[(0, (.pair (.int .i64) (.int .i64)))], [], [], [0]⟩, ⟨[], [], [], [0]⟩] (l, (n, ())) ()
noncomputable def spec_PutNumber.S (N : Nat) : Say := ⟨false, 31, [.one (.sh (.rows (.pair (.int .i64) (.int .i64)))), ak_i], [], [.one (.own 0), ak_b], [.rows (.pair (.int .i64) (.int .i64))], fun a s => spec_PutNumber N a.1 a.2.1⟩
set_option maxRecDepth 100000 in
theorem spec_PutNumber.eq (N : Nat) (l : (List (Int × Int))) (n : Int) : spec_PutNumber N l n =
 andK (α := ((Bool × Unit) × Unit)) (
  andK (spec_l12Ranges N l) fun u1 =>
  sel (!u1.1.1)
   (
   some (((true, ()), ())))
   (
   andK (spec_l1Known N n) fun u2 =>
   some ((((!u2.1.1), ()), ())))) fun j3 =>
 sel j3.1.1
  (
  some (((), (false, ())), ([], ())))
  (
  andK (spec_l12Put N l n n) fun u4 =>
  sel (decide (20 < (u4.2.1.length : Int)))
   (
   chk (decide (20 ≤ (u4.2.1.length : Int))) (
   some (((), (true, ())), ((u4.2.1.take 20), ()))))
   (
   some (((), (true, ())), (u4.2.1, ())))) := by kernel_rfl
set_option maxRecDepth 100000 in
theorem spec_PutNumber.say (N : Nat) : SayOk Try.prog (spec_PutNumber.S N) := sayOk_mk (N := N) (H := spec_PutNumber.H) (preps := [⟨[(0, (.pair (.int .i64) (.int .i64)))], [], [], [0]⟩, ⟨[], [], [], [0]⟩]) (l := spec_PutNumber.says) (fn := Try.f31) (c := bodyOf Try.f31)
  (by kernel_rfl) (by kernel_rfl) (by kernel_rfl) (by kernel_rfl) (by kernel_rfl) (by kernel_rfl) (by kernel_rfl)
  (fun N => SayAll.cons (spec_l12Ranges.say N) (SayAll.cons (spec_l1Known.say N) (SayAll.cons (spec_l12Put.say N) (SayAll.nil)))) (fun a s => by kernel_rfl)
noncomputable def spec_PutNumber.SB (N : Nat) : Say := spec_PutNumber.S N |>.lent
theorem spec_PutNumber.sayB (N : Nat) : SayOk Try.prog (spec_PutNumber.SB N) := (spec_PutNumber.say N).lent

/-! ### (*loop.example/g00206/spec.l1Cur).numbers: function 67 -/
noncomputable def spec_l1Cur_numbers.H : Hints := hintsOf [(2000003, .loop ⟨.normal, [], [0, 3, 4], [.one (.ptr 0 0), .one (.own 1), ak_i], [.cells [.sh (.rows (.int .u8)), ck_i, .sh (.int .u64)], .rows (.pair (.int .i64) (.int .i64))], [⟨[(3, (.pair (.int .i64) (.int .i64)))], [], [], [1]⟩, ⟨[], [], [], [2]⟩]⟩ [⟨(.exit 0), [], [0, 3], [.one (.ptr 0 0), .one (.own 1)], [.cells [.sh (.rows (.int .u8)), ck_i, .sh (.int .u64)], .rows (.pair (.int .i64) (.int .i64))], [⟨[], [], [], [1]⟩]⟩]),
  (2000011, .loop ⟨.normal, [], [3, 5], [.one (.own 2), ak_i], [.cells [.sh (.rows (.int .u8)), ck_i, .sh (.int .u64)], .gone, .rows (.pair (.int .i64) (.int .i64))], [⟨[], [], [], [1]⟩, ⟨[], [], [], [3]⟩]⟩ [⟨(.exit 3), [], [3], [.one (.own 2)], [.cells [.sh (.rows (.int .u8)), ck_i, .sh (.int .u64)], .gone, .rows (.pair (.int .i64) (.int .i64))], [⟨[], [], [], [2]⟩]⟩])]
noncomputable def spec_l1Cur_numbers.says (N : Nat) : List Say := [spec_l1Cur_pick.S N, spec_PutNumber.SB N]
noncomputable def spec_l1Cur_numbers.call (N : Nat) : CallK := callBy (spec_l1Cur_numbers.says N)
noncomputable def spec_l1Cur_numbers.qt (N : Nat) : FuncId → List PV → Sig → Cl := qtBy (spec_l1Cur_numbers.says N)
noncomputable def spec_l1Cur_numbers.l0.hd : Alt := ⟨.normal, [], [0, 3, 4], [.one (.ptr 0 0), .one (.own 1), ak_i], [.cells [.sh (.rows (.int .u8)), ck_i, .sh (.int .u64)], .rows (.pair (.int .i64) (.int .i64))], [⟨[(3, (.pair (.int .i64) (.int .i64)))], [], [], [1]⟩, ⟨[], [], [], [2]⟩]⟩
noncomputable def spec_l1Cur_numbers.l0.outs : List Alt := [⟨(.exit 0), [], [0, 3], [.one (.ptr 0 0), .one (.own 1)], [.cells [.sh (.rows (.int .u8)), ck_i, .sh (.int .u64)], .rows (.pair (.int .i64) (.int .i64))], [⟨[], [], [], [1]⟩]⟩]
noncomputable def spec_l1Cur_numbers.l0 (N : Nat) (n : Int) (p0_01 : (List Int)) (p0_11 : Int) (p0_21 : Int) (p1 : (List (Int × Int))) : Option ((Unit × (Unit × Unit)) × (((List Int) × (Int × (Int × Unit))) × ((List (Int × Int)) × Unit))) :=
  loopK Try.prog spec_l1Cur_numbers.call spec_l1Cur_numbers.qt spec_l1Cur_numbers.H (codeAt (bodyOf Try.f67) [1, 1, 0, 1, 0, 0]) 1 spec_l1Cur_numbers.l0.hd spec_l1Cur_numbers.l0.outs [] N (((), ((), (n, ()))), ((p0_01, (p0_11, (p0_21, ()))), (p1, ())))
noncomputable def spec_l1Cur_numbers.l1.hd : Alt := ⟨.normal, [], [3, 5], [.one (.own 2), ak_i], [.cells [.sh (.rows (.int .u8)), ck_i, .sh (.int .u64)], .gone, .rows (.pair (.int .i64) (.int .i64))], [⟨[], [], [], [1]⟩, ⟨[], [], [], [3]⟩]⟩
noncomputable def spec_l1Cur_numbers.l1.outs : List Alt := [⟨(.exit 3), [], [3], [.one (.own 2)], [.cells [.sh (.rows (.int .u8)), ck_i, .sh (.int .u64)], .gone, .rows (.pair (.int .i64) (.int .i64))], [⟨[], [], [], [2]⟩]⟩]
noncomputable def spec_l1Cur_numbers.l1 (N : Nat) (k : Int) (p0_02 : (List Int)) (p0_12 : Int) (p0_22 : Int) (p2 : (List (Int × Int))) : Option ((Unit × Unit) × (((List Int) × (Int × (Int × Unit))) × (Unit × ((List (Int × Int)) × Unit)))) :=
  loopK Try.prog spec_l1Cur_numbers.call spec_l1Cur_numbers.qt spec_l1Cur_numbers.H (codeAt (bodyOf Try.f67) [1, 1, 1, 0, 1, 0, 1, 1, 1, 0, 1, 0, 0]) 2 spec_l1Cur_numbers.l1.hd spec_l1Cur_numbers.l1.outs [] N (((), (k, ())), ((p0_02, (p0_12, (p0_22, ()))), ((), (p2, ()))))
noncomputable def spec_l1Cur_numbers (N : Nat) (p0_0 : (List Int)) (p0_1 : Int) (p0_2 : Int) : Option ((Unit × Unit) × (((List Int) × (Int × (Int × Unit))) × ((List (Int × Int)) × Unit))) :=
  ofFn Try.prog spec_l1Cur_numbers.call spec_l1Cur_numbers.qt spec_l1Cur_numbers.H N Try.f67 [.one (.ptr 0 0)] [.cells [.sh (.rows (.int .u8)), ck_i, .sh (.int .u64)]] [.one (.own 1)] [.cells [.sh (.rows (.int .u8)), ck_i, .sh (.int .u64)], .rows (.pair (.int .i64) (.int .i64))] [⟨[], [], [], [1]⟩, ⟨[], [], [], [2]⟩] ((), ()) ((p0_0, (p0_1, (p0_2, ()))), ())
noncomputable def spec_l1Cur_numbers.S (N : Nat) : Say := ⟨false, 67, [.one (.ptr 0 0)], [.cells [.sh (.rows (.int .u8)), ck_i, .sh (.int .u64)]], [.one (.own 1)], [.cells [.sh (.rows (.int .u8)), ck_i, .sh (.int .u64)], .rows (.pair (.int .i64) (.int .i64))], fun a s => spec_l1Cur_numbers N s.1.1 s.1.2.1 s.1.2.2.1⟩
set_option maxRecDepth 100000 in
theorem spec_l1Cur_numbers.l1.eq (N : Nat) (k : Int) (p0_02 : (List Int)) (p0_12 : Int) (p0_22 : Int) (p2 : (List (Int × Int))) : spec_l1Cur_numbers.l1 (N + 1) k p0_02 p0_12 p0_22 p2 =
 sel (decide (k < 21))
  (
  andK (spec_PutNumber N p2 (IntKind.i64.wrap (1000 - (IntKind.i64.wrap (3 * k))))) fun u8 =>
  spec_l1Cur_numbers.l1 N (IntKind.i64.wrap (k + 1)) p0_02 p0_12 p0_22 u8.2.1)
  (
  some ((((), ()), ((p0_02, (p0_12, (p0_22, ()))), ((), (p2, ())))))) := by kernel_rfl
set_option maxRecDepth 100000 in
theorem spec_l1Cur_numbers.l0.eq (N : Nat) (n : Int) (p0_01 : (List Int)) (p0_11 : Int) (p0_21 : Int) (p1 : (List (Int × Int))) : spec_l1Cur_numbers.l0 (N + 1) n p0_01 p0_11 p0_21 p1 =
 sel (decide (0 < n))
  (
  andK (spec_l1Cur_pick N 30 p0_01 p0_11 p0_21) fun u2 =>
  andK (spec_PutNumber N p1 u2.1.1) fun u3 =>
  spec_l1Cur_numbers.l0 N (IntKind.i64.wrap (n - 1)) u2.2.1.1 u2.2.1.2.1 u2.2.1.2.2.1 u3.2.1)
  (
  some ((((), ((), ())), ((p0_01, (p0_11, (p0_21, ()))), (p1, ()))))) := by kernel_rfl
set_option maxRecDepth 100000 in
theorem spec_l1Cur_numbers.eq (N : Nat) (p0_0 : (List Int)) (p0_1 : Int) (p0_2 : Int) : spec_l1Cur_numbers N p0_0 p0_1 p0_2 =
 andK (spec_l1Cur_pick N 8 p0_0 p0_1 p0_2) fun u1 =>
 andK (spec_l1Cur_numbers.l0 N u1.1.1 u1.2.1.1 u1.2.1.2.1 u1.2.1.2.2.1 []) fun l4 =>
 andK (spec_l1Cur_pick N 30 l4.2.1.1 l4.2.1.2.1 l4.2.1.2.2.1) fun u5 =>
 sel (decide (u5.1.1 = 0))
  (
  andK (spec_l1Cur_pick N 9 u5.2.1.1 u5.2.1.2.1 u5.2.1.2.2.1) fun u6 =>
  andK (spec_l1Cur_pick N 9 u6.2.1.1 u6.2.1.2.1 u6.2.1.2.2.1) fun u7 =>
  chk (decide (l4.2.2.1.length + 1 < most)) (
  some (((), ()), ((u7.2.1.1, (u7.2.1.2.1, (u7.2.1.2.2.1, ()))), ((l4.2.2.1 ++ [(u6.1.1, u7.1.1)]), ())))))
  (
  sel (decide (u5.1.1 = 1))
   (
   andK (spec_l1Cur_numbers.l1 N 0 u5.2.1.1 u5.2.1.2.1 u5.2.1.2.2.1 l4.2.2.1) fun l9 =>
   some (((), ()), ((l9.2.1.1, (l9.2.1.2.1, (l9.2.1.2.2.1, ()))), (l9.2.2.2.1, ()))))
   (
   some (((), ()), ((u5.2.1.1, (u5.2.1.2.1, (u5.2.1.2.2.1, ()))), (l4.2.2.1, ()))))) := by kernel_rfl
set_option maxRecDepth 100000 in
theorem spec_l1Cur_numbers.say (N : Nat) : SayOk Try.prog (spec_l1Cur_numbers.S N) := sayOk_mk (N := N) (H := spec_l1Cur_numbers.H) (preps := [⟨[], [], [], [1]⟩, ⟨[], [], [], [2]⟩]) (l := spec_l1Cur_numbers.says) (fn := Try.f67) (c := bodyOf Try.f67)
  (by kernel_rfl) (by kernel_rfl) (by kernel_rfl) (by kernel_rfl) (by kernel_rfl) (by kernel_rfl) (by kernel_rfl)
  (fun N => SayAll.cons (spec_l1Cur_pick.say N) (SayAll.cons (spec_PutNumber.sayB N) (SayAll.nil))) (fun a s => by kernel_rfl)

/-! ### loop.example/g00206/spec.DrawPutNumber: function 29 -/
noncomputable def spec_DrawPutNumber.H : Hints := hintsOf [(5, .join [⟨.normal, [], [4, 5], [.one (.ptr 0 0), ak_i], [.cells [.sh (.rows (.int .u8)), ck_i, .sh (.int .u64)]], [⟨[], [], [], []⟩]⟩])]
noncomputable def spec_DrawPutNumber.says (N : Nat) : List Say := [spec_l1Cur_pick.S N, spec_l1Cur_one.S N, spec_l1Cur_among.S N, spec_l1Cur_numbers.S N]
noncomputable def spec_DrawPutNumber.call (N : Nat) : CallK := callBy (spec_DrawPutNumber.says N)
noncomputable def spec_DrawPutNumber.qt (N : Nat) : FuncId → List PV → Sig → Cl := qtBy (spec_DrawPutNumber.says N)
noncomputable def spec_DrawPutNumber (N : Nat) (code : (List Int)) : Option ((Unit × (Int × Unit)) × ((List (Int × Int)) × Unit)) :=
  ofFn Try.prog spec_DrawPutNumber.call spec_DrawPutNumber.qt spec_DrawPutNumber.H N Try.f29 [.one (.sh (.rows (.int .u8)))] [] [.one (.own 0), ak_i] [.rows (.pair (.int .i64) (.int .i64))] [⟨[], [], [], [1]⟩] (code, ()) ()
noncomputable def spec_DrawPutNumber.S (N : Nat) : Say := ⟨false, 29, [.one (.sh (.rows (.int .u8)))], [], [.one (.own 0), ak_i], [.rows (.pair (.int .i64) (.int .i64))], fun a s => spec_DrawPutNumber N a.1⟩
set_option maxRecDepth 100000 in
theorem spec_DrawPutNumber.eq (N : Nat) (code : (List Int)) : spec_DrawPutNumber N code =
 andK (spec_l1Cur_pick N 40 code 0 0) fun u1 =>
 andK (α := ((Unit × (Int × Unit)) × (((List Int) × (Int × (Int × Unit))) × Unit))) (
  andK (spec_l1Cur_one N 20 u1.2.1.1 u1.2.1.2.1 u1.2.1.2.2.1) fun u2 =>
  sel u2.1.1
   (
   andK (spec_l1Cur_among N [(-1), 4611686018427387903, 4611686018427387904] u2.2.1.1 u2.2.1.2.1 u2.2.1.2.2.1) fun u3 =>
   some ((((), (u3.1.1, ())), ((u3.2.1.1, (u3.2.1.2.1, (u3.2.1.2.2.1, ()))), ()))))
   (
   some ((((), (u1.1.1, ())), ((u2.2.1.1, (u2.2.1.2.1, (u2.2.1.2.2.1, ()))), ()))))) fun j4 =>
 andK (spec_l1Cur_numbers N j4.2.1.1 j4.2.1.2.1 j4.2.1.2.2.1) fun u5 =>
 some (((), (j4.1.2.1, ())), (u5.2.2.1, ())) := by kernel_rfl
set_option maxRecDepth 100000 in
theorem spec_DrawPutNumber.say (N : Nat) : SayOk Try.prog (spec_DrawPutNumber.S N) := sayOk_mk (N := N) (H := spec_DrawPutNumber.H) (preps := [⟨[], [], [], [1]⟩]) (l := spec_DrawPutNumber.says) (fn := Try.f29) (c := bodyOf Try.f29)
  (by kernel_rfl) (by kernel_rfl) (by kernel_rfl) (by kernel_rfl) (by kernel_rfl) (by kernel_rfl) (by kernel_rfl)
  (fun N => SayAll.cons (spec_l1Cur_pick.say N) (SayAll.cons (spec_l1Cur_one.say N) (SayAll.cons (spec_l1Cur_among.say N) (SayAll.cons (spec_l1Cur_numbers.say N) (SayAll.nil))))) (fun a s => by kernel_rfl)

/-! ### loop.example/g00206/impl.in: function 60 -/
noncomputable def impl_in.H : Hints := hintsOf []
noncomputable def impl_in.says (N : Nat) : List Say := []
noncomputable def impl_in.call (N : Nat) : CallK := callBy (impl_in.says N)
noncomputable def impl_in.qt (N : Nat) : FuncId → List PV → Sig → Cl := qtBy (impl_in.says N)
noncomputable def impl_in (N : Nat) (n : Int) (low : Int) (high : Int) : Option ((Bool × Unit) × Unit) :=
  ofFn Try.prog impl_in.call impl_in.qt impl_in.H N Try.f60 [ak_i, ak_i, ak_i] [] [ak_b] [] [⟨[], [], [], []⟩] (n, (low, (high, ()))) ()
noncomputable def impl_in.S (N : Nat) : Say := ⟨false, 60, [ak_i, ak_i, ak_i], [], [ak_b], [], fun a s => impl_in N a.1 a.2.1 a.2.2.1⟩
set_option maxRecDepth 100000 in
theorem impl_in.eq (N : Nat) (n : Int) (low : Int) (high : Int) : impl_in N n low high =
 sel (decide (low ≤ n))
  (
  some (((decide (n ≤ high)), ()), ()))
  (
  some ((false, ()), ())) := by kernel_rfl
set_option maxRecDepth 100000 in
theorem impl_in.say (N : Nat) : SayOk Try.prog (impl_in.S N) := sayOk_mk (N := N) (H := impl_in.H) (preps := [⟨[], [], [], []⟩]) (l := impl_in.says) (fn := Try.f60) (c := bodyOf Try.f60)
  (by kernel_rfl) (by kernel_rfl) (by kernel_rfl) (by kernel_rfl) (by kernel_rfl) (by kernel_rfl) (by kernel_rfl)
  (fun N => SayAll.nil) (fun a s => by kernel_rfl)

/-! ### loop.example/g00206/impl.isVarint: function 65 -/
noncomputable def impl_isVarint.H : Hints := hintsOf []
noncomputable def impl_isVarint.says (N : Nat) : List Say := [impl_in.S N]
noncomputable def impl_isVarint.call (N : Nat) : CallK := callBy (impl_isVarint.says N)
noncomputable def impl_isVarint.qt (N : Nat) : FuncId → List PV → Sig → Cl := qtBy (impl_isVarint.says N)
noncomputable def impl_isVarint (N : Nat) (n : Int) : Option ((Bool × Unit) × Unit) :=
  ofFn Try.prog impl_isVarint.call impl_isVarint.qt impl_isVarint.H N Try.f65 [ak_i] [] [ak_b] [] [⟨[], [], [], []⟩] (n, ()) ()
noncomputable def impl_isVarint.S (N : Nat) : Say := ⟨false, 65, [ak_i], [], [ak_b], [], fun a s => impl_isVarint N a.1⟩
set_option maxRecDepth 100000 in
theorem impl_isVarint.eq (N : Nat) (n : Int) : impl_isVarint N n =
 andK (impl_in N n 0 4611686018427387903) fun u1 =>
 some ((u1.1.1, ()), ()) := by kernel_rfl
set_option maxRecDepth 100000 in
theorem impl_isVarint.say (N : Nat) : SayOk Try.prog (impl_isVarint.S N) := sayOk_mk (N := N) (H := impl_isVarint.H) (preps := [⟨[], [], [], []⟩]) (l := impl_isVarint.says) (fn := Try.f65) (c := bodyOf Try.f65)
  (by kernel_rfl) (by kernel_rfl) (by kernel_rfl) (by kernel_rfl) (by kernel_rfl) (by kernel_rfl) (by kernel_rfl)
  (fun N => SayAll.cons (impl_in.say N) (SayAll.nil)) (fun a s => by kernel_rfl)

/-! ### loop.example/g00206/impl.rangesOk: function 64 -/
noncomputable def impl_rangesOk.H : Hints := hintsOf [(5000004, .join [⟨.normal, [0, 5, 6, 7], [44], [ak_b], [.cells [ck_i, ck_i]], [⟨[], [], [], []⟩]⟩]),
  (2000002, .loop ⟨.normal, [0, 5, 6], [7], [ak_i], [], [⟨[], [], [], []⟩]⟩ [⟨.ret, [], [2], [ak_b], [], [⟨[], [], [], []⟩]⟩, ⟨(.exit 0), [], [], [], [], [⟨[], [], [], []⟩]⟩])]
noncomputable def impl_rangesOk.says (N : Nat) : List Say := [impl_isVarint.S N]
noncomputable def impl_rangesOk.call (N : Nat) : CallK := callBy (impl_rangesOk.says N)
noncomputable def impl_rangesOk.qt (N : Nat) : FuncId → List PV → Sig → Cl := qtBy (impl_rangesOk.says N)
noncomputable def impl_rangesOk.l0.hd : Alt := ⟨.normal, [0, 5, 6], [7], [ak_i], [], [⟨[], [], [], []⟩]⟩
noncomputable def impl_rangesOk.l0.outs : List Alt := [⟨.ret, [], [2], [ak_b], [], [⟨[], [], [], []⟩]⟩, ⟨(.exit 0), [], [], [], [], [⟨[], [], [], []⟩]⟩]
noncomputable def impl_rangesOk.l0 (N : Nat) (l1 : (List (Int × Int))) (t5 : (List (Int × Int))) (t6 : Int) (t7 : Int) : Option (((Bool × Unit) × Unit) ⊕ (Unit × Unit)) :=
  loopK Try.prog impl_rangesOk.call impl_rangesOk.qt impl_rangesOk.H (codeAt (bodyOf Try.f64) [1, 0, 1, 0, 0]) 0 impl_rangesOk.l0.hd impl_rangesOk.l0.outs [(0, .rows false (.pair (.int .i64) (.int .i64)) l1), (5, .rows false (.pair (.int .i64) (.int .i64)) t5), (6, .v (.int .i64 t6))] N ((t7, ()), ())
noncomputable def impl_rangesOk (N : Nat) (l : (List (Int × Int))) : Option ((Bool × Unit) × Unit) :=
  ofFn Try.prog impl_rangesOk.call impl_rangesOk.qt impl_rangesOk.H N Try.f64 [.one (.sh (.rows (.pair (.int .i64) (.int .i64))))] [] [ak_b] [] [⟨[], [], [], []⟩] (l, ()) ()
noncomputable def impl_rangesOk.S (N : Nat) : Say := ⟨false, 64, [.one (.sh (.rows (.pair (.int .i64) (.int .i64))))], [], [ak_b], [], fun a s => impl_rangesOk N a.1⟩
set_option maxRecDepth 100000 in
theorem impl_rangesOk.l0.eq (N : Nat) (l1 : (List (Int × Int))) (t5 : (List (Int × Int))) (t6 : Int) (t7 : Int) : impl_rangesOk.l0 (N + 1) l1 t5 t6 t7 =
 sel (decide (t7 < t6))
  (
  chk ((decide (0 ≤ t7)) && (decide (t7 < (t5.length : Int)))) (
  andK (α := ((Bool × Unit) × ((Int × (Int × Unit)) × Unit))) (
   andK (impl_isVarint N (rdS (.pair (.int .i64) (.int .i64)) t5 (Int.toNat t7)).1) fun u1 =>
   sel (!u1.1.1)
    (
    some (((true, ()), (((rdS (.pair (.int .i64) (.int .i64)) t5 (Int.toNat t7)).1, ((rdS (.pair (.int .i64) (.int .i64)) t5 (Int.toNat t7)).2, ())), ()))))
    (
    andK (impl_isVarint N (rdS (.pair (.int .i64) (.int .i64)) t5 (Int.toNat t7)).2) fun u2 =>
    sel (!u2.1.1)
     (
     some (((true, ()), (((rdS (.pair (.int .i64) (.int .i64)) t5 (Int.toNat t7)).1, ((rdS (.pair (.int .i64) (.int .i64)) t5 (Int.toNat t7)).2, ())), ()))))
     (
     sel (decide ((rdS (.pair (.int .i64) (.int .i64)) t5 (Int.toNat t7)).2 < (rdS (.pair (.int .i64) (.int .i64)) t5 (Int.toNat t7)).1))
      (
      some (((true, ()), (((rdS (.pair (.int .i64) (.int .i64)) t5 (Int.toNat t7)).1, ((rdS (.pair (.int .i64) (.int .i64)) t5 (Int.toNat t7)).2, ())), ()))))
      (
      sel (decide (0 < t7))
       (
       chk ((decide (0 ≤ (IntKind.i64.wrap (t7 - 1)))) && (decide ((IntKind.i64.wrap (t7 - 1)) < (l1.length : Int)))) (
       some ((((decide ((rdS (.pair (.int .i64) (.int .i64)) l1 (Int.toNat (IntKind.i64.wrap (t7 - 1)))).1 < (IntKind.i64.wrap ((rdS (.pair (.int .i64) (.int .i64)) t5 (Int.toNat t7)).2 + 2)))), ()), (((rdS (.pair (.int .i64) (.int .i64)) t5 (Int.toNat t7)).1, ((rdS (.pair (.int .i64) (.int .i64)) t5 (Int.toNat t7)).2, ())), ())))))
       (
       some (((false, ()), (((rdS (.pair (.int .i64) (.int .i64)) t5 (Int.toNat t7)).1, ((rdS (.pair (.int .i64) (.int .i64)) t5 (Int.toNat t7)).2, ())), ())))))))) fun j3 =>
  sel j3.1.1
   (
   some (.inl ((false, ()), ())))
   (
   impl_rangesOk.l0 N l1 t5 t6 (IntKind.i64.wrap (t7 + 1)))))
  (
  some (.inr (((), ())))) := by kernel_rfl
set_option maxRecDepth 100000 in
theorem impl_rangesOk.eq (N : Nat) (l : (List (Int × Int))) : impl_rangesOk N l =
 andK (impl_rangesOk.l0 N l l (l.length : Int) 0) fun l4 =>
 orK l4 (fun x5 =>
  some ((x5.1.1, ()), ()))
  (fun x6 =>
  some ((true, ()), ())) := by kernel_rfl
set_option maxRecDepth 100000 in
theorem impl_rangesOk.say (N : Nat) : SayOk Try.prog (impl_rangesOk.S N) := sayOk_mk (N := N) (H := impl_rangesOk.H) (preps := [⟨[], [], [], []⟩]) (l := impl_rangesOk.says) (fn := Try.f64) (c := bodyOf Try.f64)
  (by kernel_rfl) (by kernel_rfl) (by kernel_rfl) (by kernel_rfl) (by kernel_rfl) (by kernel_rfl) (by kernel_rfl)
  (fun N => SayAll.cons (impl_isVarint.say N) (SayAll.nil)) (fun a s => by kernel_rfl)

/-! ### loop.example/g00206/impl.GoodRanges: function 36 -/
noncomputable def impl_GoodRanges.H : Hints := hintsOf []
noncomputable def impl_GoodRanges.says (N : Nat) : List Say := [impl_rangesOk.S N]
noncomputable def impl_GoodRanges.call (N : Nat) : CallK := callBy (impl_GoodRanges.says N)
noncomputable def impl_GoodRanges.qt (N : Nat) : FuncId → List PV → Sig → Cl := qtBy (impl_GoodRanges.says N)
noncomputable def impl_GoodRanges (N : Nat) (l : (List (Int × Int))) : Option ((Bool × Unit) × Unit) :=
  ofFn Try.prog impl_GoodRanges.call impl_GoodRanges.qt impl_GoodRanges.H N Try.f36 [.one (.sh (.rows (.pair (.int .i64) (.int .i64))))] [] [ak_b] [] [⟨[], [], [], []⟩] (l, ()) ()
noncomputable def impl_GoodRanges.S (N : Nat) : Say := ⟨false, 36, [.one (.sh (.rows (.pair (.int .i64) (.int .i64))))], [], [ak_b], [], fun a s => impl_GoodRanges N a.1⟩
set_option maxRecDepth 100000 in
theorem impl_GoodRanges.eq (N : Nat) (l : (List (Int × Int))) : impl_GoodRanges N l =
 sel (decide ((l.length : Int) ≤ 20))
  (
  andK (impl_rangesOk N l) fun u1 =>
  some ((u1.1.1, ()), ()))
  (
  some ((false, ()), ())) := by kernel_rfl
set_option maxRecDepth 100000 in
theorem impl_GoodRanges.say (N : Nat) : SayOk Try.prog (impl_GoodRanges.S N) := sayOk_mk (N := N) (H := impl_GoodRanges.H) (preps := [⟨[], [], [], []⟩]) (l := impl_GoodRanges.says) (fn := Try.f36) (c := bodyOf Try.f36)
  (by kernel_rfl) (by kernel_rfl) (by kernel_rfl) (by kernel_rfl) (by kernel_rfl) (by kernel_rfl) (by kernel_rfl)
  (fun N => SayAll.cons (impl_rangesOk.say N) (SayAll.nil)) (fun a s => by kernel_rfl)
noncomputable def impl_GoodRanges.SB (N : Nat) : Say := impl_GoodRanges.S N |>.lent
theorem impl_GoodRanges.sayB (N : Nat) : SayOk Try.prog (impl_GoodRanges.SB N) := (impl_GoodRanges.say N).lent

/-! ### slices.Clone[[]loop.example/g00206/impl.Range,loop.example/g00206/impl.Range]: function 83 -/
noncomputable def slices_Cloneimpl_Range_impl_Range (N : Nat) (s : (List (Int × Int))) : Option ((Unit × Unit) × ((List (Int × Int)) × Unit)) := chk (decide (s.length < most)) (some (((), ()), (s, ())))
noncomputable def slices_Cloneimpl_Range_impl_Range.S (N : Nat) : Say := ⟨false, 83, [.one (.sh (.rows (.pair (.int .i64) (.int .i64))))], [], [.one (.own 0)], [.rows (.pair (.int .i64) (.int .i64))], fun a s => slices_Cloneimpl_Range_impl_Range N a.1⟩
theorem slices_Cloneimpl_Range_impl_Range.eq (N : Nat) (s : (List (Int × Int))) : slices_Cloneimpl_Range_impl_Range N s =
 chk (decide (s.length < most)) (
 some (((), ()), (s, ()))) := rfl
set_option maxRecDepth 100000 in
theorem slices_Cloneimpl_Range_impl_Range.say (N : Nat) : SayOk Try.prog (slices_Cloneimpl_Range_impl_Range.S N) := sayOk_nil (H := hintsOf []) (fn := Try.f83) (c := bodyOf Try.f83) (preps := [⟨[(0, (.pair (.int .i64) (.int .i64)))], [], [], [0]⟩, ⟨[], [], [], [0]⟩])
  (by kernel_rfl) (by kernel_rfl) (by kernel_rfl) (by kernel_rfl) (by kernel_rfl) (by kernel_rfl) (by kernel_rfl)
  (fun cap => by kernel_rfl) (fun a cap => by kernel_rfl) (fun x xs => by kernel_rfl)
noncomputable def slices_Cloneimpl_Range_impl_Range.SB (N : Nat) : Say := slices_Cloneimpl_Range_impl_Range.S N |>.lent
theorem slices_Cloneimpl_Range_impl_Range.sayB (N : Nat) : SayOk Try.prog (slices_Cloneimpl_Range_impl_Range.SB N) := (slices_Cloneimpl_Range_impl_Range.say N).lent

/-! ### slices.SortFunc[[]loop.example/g00206/impl.Range,loop.example/g00206/impl.Range]: function 128 -/
noncomputable def slices_SortFuncimpl_Range_impl_Range (N : Nat) (p0 : (List (Int × Int))) : Option (Unit × ((List (Int × Int)) × Unit)) := sortF cmpTo p0
noncomputable def slices_SortFuncimpl_Range_impl_Range.S (N : Nat) : Say := sortS cmpTo 128 129
theorem slices_SortFuncimpl_Range_impl_Range.eq (N : Nat) (p0 : (List (Int × Int))) : slices_SortFuncimpl_Range_impl_Range N p0 =
 chk (decide (p0.length < 4611686018427387904)) (
 some ((), (sortL cmpTo p0, ()))) := rfl
theorem slices_SortFuncimpl_Range_impl_Range.say (N : Nat) : SayOk Try.prog (slices_SortFuncimpl_Range_impl_Range.S N) := sort_say_cmpTo

/-! ### loop.example/g00206/impl.united: function 82 -/
noncomputable def impl_united.H : Hints := hintsOf [(5000007, .join [⟨.normal, [6, 11, 12], [3, 5, 10, 31], [.one (.own 1), .one (.ptr 2 0), .one (.own 0), ak_b], [.rows (.pair (.int .i64) (.int .i64)) true, .rows (.pair (.int .i64) (.int .i64)), .cells [ck_i, ck_i]], [⟨[], [], [], []⟩]⟩]),
  (10, .join [⟨.normal, [11, 12], [3, 10], [.one (.own 1), .one (.own 0)], [.rows (.pair (.int .i64) (.int .i64)) true, .rows (.pair (.int .i64) (.int .i64))], [⟨[], [], [], []⟩]⟩]),
  (2000004, .loop ⟨.normal, [11], [3, 10, 12], [.one (.own 1), .one (.own 0), ak_i], [.rows (.pair (.int .i64) (.int .i64)) true, .rows (.pair (.int .i64) (.int .i64))], [⟨[(3, (.pair (.int .i64) (.int .i64)))], [], [], [1]⟩, ⟨[], [], [], [1]⟩]⟩ [⟨(.exit 0), [], [3], [.one (.own 1)], [.rows (.pair (.int .i64) (.int .i64)) true, .rows (.pair (.int .i64) (.int .i64))], [⟨[], [], [], [1]⟩]⟩])]
noncomputable def impl_united.says (N : Nat) : List Say := [slices_SortFuncimpl_Range_impl_Range.S N]
noncomputable def impl_united.call (N : Nat) : CallK := callBy (impl_united.says N)
noncomputable def impl_united.qt (N : Nat) : FuncId → List PV → Sig → Cl := qtBy (impl_united.says N)
noncomputable def impl_united.l0.hd : Alt := ⟨.normal, [11], [3, 10, 12], [.one (.own 1), .one (.own 0), ak_i], [.rows (.pair (.int .i64) (.int .i64)) true, .rows (.pair (.int .i64) (.int .i64))], [⟨[(3, (.pair (.int .i64) (.int .i64)))], [], [], [1]⟩, ⟨[], [], [], [1]⟩]⟩
noncomputable def impl_united.l0.outs : List Alt := [⟨(.exit 0), [], [3], [.one (.own 1)], [.rows (.pair (.int .i64) (.int .i64)) true, .rows (.pair (.int .i64) (.int .i64))], [⟨[], [], [], [1]⟩]⟩]
noncomputable def impl_united.l0 (N : Nat) (t11 : Int) (t12 : Int) (p01 : (List (Int × Int))) (p1 : (List (Int × Int))) : Option ((Unit × Unit) × ((List (Int × Int)) × ((List (Int × Int)) × Unit))) :=
  loopK Try.prog impl_united.call impl_united.qt impl_united.H (codeAt (bodyOf Try.f82) [1, 1, 1, 0, 1, 0, 0]) 1 impl_united.l0.hd impl_united.l0.outs [(11, .v (.int .i64 t11))] N (((), ((), (t12, ()))), (p01, (p1, ())))
noncomputable def impl_united (N : Nat) (p0 : (List (Int × Int))) : Option ((Unit × Unit) × ((List (Int × Int)) × ((List (Int × Int)) × Unit))) :=
  ofFn Try.prog impl_united.call impl_united.qt impl_united.H N Try.f82 [.one (.own 0)] [.rows (.pair (.int .i64) (.int .i64))] [.one (.own 1)] [.rows (.pair (.int .i64) (.int .i64)) true, .rows (.pair (.int .i64) (.int .i64))] [⟨[], [], [], [1]⟩] ((), ()) (p0, ())
noncomputable def impl_united.S (N : Nat) : Say := ⟨false, 82, [.one (.own 0)], [.rows (.pair (.int .i64) (.int .i64))], [.one (.own 1)], [.rows (.pair (.int .i64) (.int .i64)) true, .rows (.pair (.int .i64) (.int .i64))], fun a s => impl_united N s.1⟩
set_option maxRecDepth 100000 in
theorem impl_united.l0.eq (N : Nat) (t11 : Int) (t12 : Int) (p01 : (List (Int × Int))) (p1 : (List (Int × Int))) : impl_united.l0 (N + 1) t11 t12 p01 p1 =
 sel (decide (t12 < t11))
  (
  andK (α := ((Unit × (Unit × Unit)) × ((List (Int × Int)) × ((List (Int × Int)) × Unit)))) (
   chk ((decide (0 ≤ t12)) && (decide (t12 < (p01.length : Int)))) (
   andK (α := ((Unit × (Unit × (Unit × (Bool × Unit)))) × ((List (Int × Int)) × ((List (Int × Int)) × ((Int × (Int × Unit)) × Unit))))) (
    sel (decide (0 ≤ (IntKind.i64.wrap ((p1.length : Int) - 1))))
     (
     chk ((decide (0 ≤ (IntKind.i64.wrap ((p1.length : Int) - 1)))) && (decide ((IntKind.i64.wrap ((p1.length : Int) - 1)) < (p1.length : Int)))) (
     some ((((), ((), ((), ((decide ((rdS (.pair (.int .i64) (.int .i64)) p1 (Int.toNat (IntKind.i64.wrap ((p1.length : Int) - 1)))).1 ≤ (IntKind.i64.wrap ((rdS (.pair (.int .i64) (.int .i64)) p01 (Int.toNat t12)).2 + 1)))), ())))), (p01, (p1, (((rdS (.pair (.int .i64) (.int .i64)) p01 (Int.toNat t12)).1, ((rdS (.pair (.int .i64) (.int .i64)) p01 (Int.toNat t12)).2, ())), ())))))))
     (
     some ((((), ((), ((), (false, ())))), (p01, (p1, (((rdS (.pair (.int .i64) (.int .i64)) p01 (Int.toNat t12)).1, ((rdS (.pair (.int .i64) (.int .i64)) p01 (Int.toNat t12)).2, ())), ()))))))) fun j2 =>
   sel j2.1.2.2.2.1
    (
    chk ((decide (0 ≤ (IntKind.i64.wrap ((p1.length : Int) - 1)))) && (decide ((IntKind.i64.wrap ((p1.length : Int) - 1)) < (j2.2.2.1.length : Int)))) (
    chk ((decide (0 ≤ (IntKind.i64.wrap ((p1.length : Int) - 1)))) && (decide ((IntKind.i64.wrap ((p1.length : Int) - 1)) < (j2.2.2.1.length : Int)))) (
    some ((((), ((), ())), (j2.2.1, ((j2.2.2.1.set (Int.toNat (IntKind.i64.wrap ((p1.length : Int) - 1))) ((mmI false (rdS (.pair (.int .i64) (.int .i64)) j2.2.2.1 (Int.toNat (IntKind.i64.wrap ((p1.length : Int) - 1)))).1 j2.2.2.2.1.1), (rdS (.pair (.int .i64) (.int .i64)) j2.2.2.1 (Int.toNat (IntKind.i64.wrap ((p1.length : Int) - 1)))).2)), ())))))))
    (
    chk (decide (j2.2.2.1.length + 1 < most)) (
    some ((((), ((), ())), (j2.2.1, ((j2.2.2.1 ++ [(j2.2.2.2.1.1, j2.2.2.2.1.2.1)]), ())))))))) fun j3 =>
  impl_united.l0 N t11 (IntKind.i64.wrap (t12 + 1)) j3.2.1 j3.2.2.1)
  (
  some ((((), ()), (p01, (p1, ()))))) := by kernel_rfl
set_option maxRecDepth 100000 in
theorem impl_united.eq (N : Nat) (p0 : (List (Int × Int))) : impl_united N p0 =
 andK (slices_SortFuncimpl_Range_impl_Range N p0) fun u1 =>
 andK (impl_united.l0 N (u1.2.1.length : Int) 0 u1.2.1 []) fun l4 =>
 some (((), ()), (l4.2.1, (l4.2.2.1, ()))) := by kernel_rfl
set_option maxRecDepth 100000 in
theorem impl_united.say (N : Nat) : SayOk Try.prog (impl_united.S N) := sayOk_mk (N := N) (H := impl_united.H) (preps := [⟨[], [], [], [1]⟩]) (l := impl_united.says) (fn := Try.f82) (c := bodyOf Try.f82)
  (by kernel_rfl) (by kernel_rfl) (by kernel_rfl) (by kernel_rfl) (by kernel_rfl) (by kernel_rfl) (by kernel_rfl)
  (fun N => SayAll.cons (slices_SortFuncimpl_Range_impl_Range.say N) (SayAll.nil)) (fun a s => by kernel_rfl)

/-! ### loop.example/g00206/impl.PutNumber: function 30 -/
noncomputable def impl_PutNumber_2.H : Hints := hintsOf [(5000001, .join [⟨.normal, [1], [0, 14], [.one (.own 0), ak_b], [.rows (.pair (.int .i64) (.int .i64)) true], [⟨[], [], [], []⟩]⟩])]
noncomputable def impl_PutNumber_2.says (N : Nat) : List Say := [impl_GoodRanges.SB N, impl_isVarint.S N, slices_Cloneimpl_Range_impl_Range.SB N, impl_united.S N]
noncomputable def impl_PutNumber_2.call (N : Nat) : CallK := callBy (impl_PutNumber_2.says N)
noncomputable def impl_PutNumber_2.qt (N : Nat) : FuncId → List PV → Sig → Cl := qtBy (impl_PutNumber_2.says N)
noncomputable def impl_PutNumber_2 (N : Nat) (n : Int) (p0 : (List (Int × Int))) : Option (((List (Int × Int)) × (Bool × Unit)) × ((List (Int × Int)) × Unit)) :=
  ofFn Try.prog impl_PutNumber_2.call impl_PutNumber_2.qt impl_PutNumber_2.H N Try.f30 [.one (.own 0), ak_i] [.rows (.pair (.int .i64) (.int .i64))] [.one (.sh (.rows (.pair (.int .i64) (.int .i64)))), ak_b] [.rows (.pair (.int .i64) (.int .i64)) true] [⟨[], [], [], []⟩, ⟨[], [], [2], []⟩] ((), (n, ())) (p0, ())
noncomputable def impl_PutNumber_2.S (N : Nat) : Say := ⟨false, 30, [.one (.own 0), ak_i], [.rows (.pair (.int .i64) (.int .i64))], [.one (.sh (.rows (.pair (.int .i64) (.int .i64)))), ak_b], [.rows (.pair (.int .i64) (.int .i64)) true], fun a s => impl_PutNumber_2 N a.2.1 s.1⟩
set_option maxRecDepth 100000 in
theorem impl_PutNumber_2.eq (N : Nat) (n : Int) (p0 : (List (Int × Int))) : impl_PutNumber_2 N n p0 =
 andK (α := ((Unit × (Bool × Unit)) × ((List (Int × Int)) × Unit))) (
  andK (impl_GoodRanges N p0) fun u1 =>
  sel (!u1.1.1)
   (
   some ((((), (true, ())), (p0, ()))))
   (
   andK (impl_isVarint N n) fun u2 =>
   some ((((), ((!u2.1.1), ())), (p0, ()))))) fun j3 =>
 sel j3.1.2.1
  (
  some (([], (false, ())), (j3.2.1, ())))
  (
  andK (slices_Cloneimpl_Range_impl_Range N j3.2.1) fun u4 =>
  chk (decide (u4.2.1.length + 1 < most)) (
  andK (impl_united N (u4.2.1 ++ [(n, n)])) fun u5 =>
  chk ((decide (0 ≤ (mmI false (u5.2.2.1.length : Int) 20))) && ((decide ((mmI false (u5.2.2.1.length : Int) 20) = (mmI false (u5.2.2.1.length : Int) 20))) && (decide ((mmI false (u5.2.2.1.length : Int) 20) ≤ (u5.2.2.1.length : Int))))) (
  some ((((u5.2.2.1.drop 0).take ((Int.toNat (mmI false (u5.2.2.1.length : Int) 20)) - 0)), (true, ())), (j3.2.1, ()))))) := by kernel_rfl
set_option maxRecDepth 100000 in
theorem impl_PutNumber_2.say (N : Nat) : SayOk Try.prog (impl_PutNumber_2.S N) := sayOk_mk (N := N) (H := impl_PutNumber_2.H) (preps := [⟨[], [], [], []⟩, ⟨[], [], [2], []⟩]) (l := impl_PutNumber_2.says) (fn := Try.f30) (c := bodyOf Try.f30)
  (by kernel_rfl) (by kernel_rfl) (by kernel_rfl) (by kernel_rfl) (by kernel_rfl) (by kernel_rfl) (by kernel_rfl)
  (fun N => SayAll.cons (impl_GoodRanges.sayB N) (SayAll.cons (impl_isVarint.say N) (SayAll.cons (slices_Cloneimpl_Range_impl_Range.sayB N) (SayAll.cons (impl_united.say N) (SayAll.nil))))) (fun a s => by kernel_rfl)

/-! ### loop.example/g00206/laws.sameRanges: function 32 -/
noncomputable def laws_sameRanges.H : Hints := hintsOf [(2000004, .loop ⟨.normal, [0, 1, 12], [13], [ak_i], [], [⟨[], [], [], []⟩]⟩ [⟨.ret, [], [4], [ak_b], [], [⟨[], [], [], []⟩]⟩, ⟨(.exit 0), [], [], [], [], [⟨[], [], [], []⟩]⟩])]
noncomputable def laws_sameRanges.says (N : Nat) : List Say := []
noncomputable def laws_sameRanges.call (N : Nat) : CallK := callBy (laws_sameRanges.says N)
noncomputable def laws_sameRanges.qt (N : Nat) : FuncId → List PV → Sig → Cl := qtBy (laws_sameRanges.says N)
noncomputable def laws_sameRanges.l0.hd : Alt := ⟨.normal, [0, 1, 12], [13], [ak_i], [], [⟨[], [], [], []⟩]⟩
noncomputable def laws_sameRanges.l0.outs : List Alt := [⟨.ret, [], [4], [ak_b], [], [⟨[], [], [], []⟩]⟩, ⟨(.exit 0), [], [], [], [], [⟨[], [], [], []⟩]⟩]
noncomputable def laws_sameRanges.l0 (N : Nat) (a1 : (List (Int × Int))) (b1 : (List (Int × Int))) (t12 : Int) (t13 : Int) : Option (((Bool × Unit) × Unit) ⊕ (Unit × Unit)) :=
  loopK Try.prog laws_sameRanges.call laws_sameRanges.qt laws_sameRanges.H (codeAt (bodyOf Try.f32) [1, 1, 0, 1, 0, 0]) 0 laws_sameRanges.l0.hd laws_sameRanges.l0.outs [(0, .rows false (.pair (.int .i64) (.int .i64)) a1), (1, .rows false (.pair (.int .i64) (.int .i64)) b1), (12, .v (.int .i64 t12))] N ((t13, ()), ())
noncomputable def laws_sameRanges (N : Nat) (a : (List (Int × Int))) (b : (List (Int × Int))) : Option ((Bool × Unit) × Unit) :=
  ofFn Try.prog laws_sameRanges.call laws_sameRanges.qt laws_sameRanges.H N Try.f32 [.one (.sh (.rows (.pair (.int .i64) (.int .i64)))), .one (.sh (.rows (.pair (.int .i64) (.int .i64))))] [] [ak_b] [] [⟨[], [], [], []⟩] (a, (b, ())) ()
noncomputable def laws_sameRanges.S (N : Nat) : Say := ⟨false, 32, [.one (.sh (.rows (.pair (.int .i64) (.int .i64)))), .one (.sh (.rows (.pair (.int .i64) (.int .i64))))], [], [ak_b], [], fun a s => laws_sameRanges N a.1 a.2.1⟩
set_option maxRecDepth 100000 in
theorem laws_sameRanges.l0.eq (N : Nat) (a1 : (List (Int × Int))) (b1 : (List (Int × Int))) (t12 : Int) (t13 : Int) : laws_sameRanges.l0 (N + 1) a1 b1 t12 t13 =
 sel (decide (t13 < t12))
  (
  chk ((decide (0 ≤ t13)) && (decide (t13 < (a1.length : Int)))) (
  chk ((decide (0 ≤ t13)) && (decide (t13 < (b1.length : Int)))) (
  sel (!((decide ((rdS (.pair (.int .i64) (.int .i64)) a1 (Int.toNat t13)).1 = (rdS (.pair (.int .i64) (.int .i64)) b1 (Int.toNat t13)).1)) && (decide ((rdS (.pair (.int .i64) (.int .i64)) a1 (Int.toNat t13)).2 = (rdS (.pair (.int .i64) (.int .i64)) b1 (Int.toNat t13)).2))))
   (
   some (.inl ((false, ()), ())))
   (
   laws_sameRanges.l0 N a1 b1 t12 (IntKind.i64.wrap (t13 + 1))))))
  (
  some (.inr (((), ())))) := by kernel_rfl
set_option maxRecDepth 100000 in
theorem laws_sameRanges.eq (N : Nat) (a : (List (Int × Int))) (b : (List (Int × Int))) : laws_sameRanges N a b =
 sel (!(decide ((a.length : Int) = (b.length : Int))))
  (
  some ((false, ()), ()))
  (
  andK (laws_sameRanges.l0 N a b (a.length : Int) 0) fun l1 =>
  orK l1 (fun x2 =>
   some ((x2.1.1, ()), ()))
   (fun x3 =>
   some ((true, ()), ()))) := by kernel_rfl
set_option maxRecDepth 100000 in
theorem laws_sameRanges.say (N : Nat) : SayOk Try.prog (laws_sameRanges.S N) := sayOk_mk (N := N) (H := laws_sameRanges.H) (preps := [⟨[], [], [], []⟩]) (l := laws_sameRanges.says) (fn := Try.f32) (c := bodyOf Try.f32)
  (by kernel_rfl) (by kernel_rfl) (by kernel_rfl) (by kernel_rfl) (by kernel_rfl) (by kernel_rfl) (by kernel_rfl)
  (fun N => SayAll.nil) (fun a s => by kernel_rfl)
noncomputable def laws_sameRanges.SB (N : Nat) : Say := laws_sameRanges.S N |>.lent
theorem laws_sameRanges.sayB (N : Nat) : SayOk Try.prog (laws_sameRanges.SB N) := (laws_sameRanges.say N).lent

/-! ### loop.example/g00206/spec.DrawJoinRanges: function 33 -/
noncomputable def spec_DrawJoinRanges.H : Hints := hintsOf []
noncomputable def spec_DrawJoinRanges.says (N : Nat) : List Say := [spec_l1Cur_numbers.S N]
noncomputable def spec_DrawJoinRanges.call (N : Nat) : CallK := callBy (spec_DrawJoinRanges.says N)
noncomputable def spec_DrawJoinRanges.qt (N : Nat) : FuncId → List PV → Sig → Cl := qtBy (spec_DrawJoinRanges.says N)
noncomputable def spec_DrawJoinRanges (N : Nat) (code : (List Int)) : Option ((Unit × (Unit × Unit)) × ((List (Int × Int)) × ((List (Int × Int)) × Unit))) :=
  ofFn Try.prog spec_DrawJoinRanges.call spec_DrawJoinRanges.qt spec_DrawJoinRanges.H N Try.f33 [.one (.sh (.rows (.int .u8)))] [] [.one (.own 0), .one (.own 1)] [.rows (.pair (.int .i64) (.int .i64)), .rows (.pair (.int .i64) (.int .i64))] [⟨[], [], [], [1, 2]⟩] (code, ()) ()
noncomputable def spec_DrawJoinRanges.S (N : Nat) : Say := ⟨false, 33, [.one (.sh (.rows (.int .u8)))], [], [.one (.own 0), .one (.own 1)], [.rows (.pair (.int .i64) (.int .i64)), .rows (.pair (.int .i64) (.int .i64))], fun a s => spec_DrawJoinRanges N a.1⟩
set_option maxRecDepth 100000 in
theorem spec_DrawJoinRanges.eq (N : Nat) (code : (List Int)) : spec_DrawJoinRanges N code =
 andK (spec_l1Cur_numbers N code 0 0) fun u1 =>
 andK (spec_l1Cur_numbers N u1.2.1.1 u1.2.1.2.1 u1.2.1.2.2.1) fun u2 =>
 some (((), ((), ())), (u1.2.2.1, (u2.2.2.1, ()))) := by kernel_rfl
set_option maxRecDepth 100000 in
theorem spec_DrawJoinRanges.say (N : Nat) : SayOk Try.prog (spec_DrawJoinRanges.S N) := sayOk_mk (N := N) (H := spec_DrawJoinRanges.H) (preps := [⟨[], [], [], [1, 2]⟩]) (l := spec_DrawJoinRanges.says) (fn := Try.f33) (c := bodyOf Try.f33)
  (by kernel_rfl) (by kernel_rfl) (by kernel_rfl) (by kernel_rfl) (by kernel_rfl) (by kernel_rfl) (by kernel_rfl)
  (fun N => SayAll.cons (spec_l1Cur_numbers.say N) (SayAll.nil)) (fun a s => by kernel_rfl)

/-! ### slices.Grow[[]loop.example/g00206/impl.Range,loop.example/g00206/impl.Range]: function 131 -/
noncomputable def slices_Growimpl_Range_impl_Range.H : Hints := hintsOf [(8000005, .alts [25])]
noncomputable def slices_Growimpl_Range_impl_Range.says (N : Nat) : List Say := []
noncomputable def slices_Growimpl_Range_impl_Range.call (N : Nat) : CallK := callBy (slices_Growimpl_Range_impl_Range.says N)
noncomputable def slices_Growimpl_Range_impl_Range.qt (N : Nat) : FuncId → List PV → Sig → Cl := qtBy (slices_Growimpl_Range_impl_Range.says N)
noncomputable def slices_Growimpl_Range_impl_Range (N : Nat) (n : Int) : Option ((Unit × Unit) × ((List (Int × Int)) × Unit)) :=
  ofFn Try.prog slices_Growimpl_Range_impl_Range.call slices_Growimpl_Range_impl_Range.qt slices_Growimpl_Range_impl_Range.H N Try.f131 [.one .nil, ak_i] [] [.one (.own 0)] [.rows (.pair (.int .i64) (.int .i64))] [⟨[], [], [], [0]⟩, ⟨[(0, (.pair (.int .i64) (.int .i64)))], [], [], [0]⟩] ((), (n, ())) ()
noncomputable def slices_Growimpl_Range_impl_Range.S (N : Nat) : Say := ⟨false, 131, [.one .nil, ak_i], [], [.one (.own 0)], [.rows (.pair (.int .i64) (.int .i64))], fun a s => slices_Growimpl_Range_impl_Range N a.2.1⟩
set_option maxRecDepth 100000 in
theorem slices_Growimpl_Range_impl_Range.eq (N : Nat) (n : Int) : slices_Growimpl_Range_impl_Range N n =
 sel (decide (n < 0))
  (
  none)
  (
  sel (decide (0 < (IntKind.i64.wrap (n - 0))))
   (
   chk ((decide (0 ≤ (IntKind.i64.wrap (n - 0)))) && ((decide ((IntKind.i64.wrap (n - 0)) < 1000000000)) && (decide ((List.replicate (Int.toNat (IntKind.i64.wrap (n - 0))) ((0, 0) : (Int × Int))).length < most)))) (
   chk (decide (0 ≤ ((List.replicate (Int.toNat (IntKind.i64.wrap (n - 0))) ((0, 0) : (Int × Int))).length : Int))) (
   some (((), ()), (((List.replicate (Int.toNat (IntKind.i64.wrap (n - 0))) ((0, 0) : (Int × Int))).take 0), ())))))
   (
   some (((), ()), ([], ())))) := by kernel_rfl
set_option maxRecDepth 100000 in
theorem slices_Growimpl_Range_impl_Range.say (N : Nat) : SayOk Try.prog (slices_Growimpl_Range_impl_Range.S N) := sayOk_mk (N := N) (H := slices_Growimpl_Range_impl_Range.H) (preps := [⟨[], [], [], [0]⟩, ⟨[(0, (.pair (.int .i64) (.int .i64)))], [], [], [0]⟩]) (l := slices_Growimpl_Range_impl_Range.says) (fn := Try.f131) (c := bodyOf Try.f131)
  (by kernel_rfl) (by kernel_rfl) (by kernel_rfl) (by kernel_rfl) (by kernel_rfl) (by kernel_rfl) (by kernel_rfl)
  (fun N => SayAll.nil) (fun a s => by kernel_rfl)

/-! ### slices.Concat[[]loop.example/g00206/impl.Range,loop.example/g00206/impl.Range]: function 86 -/
noncomputable def slices_Concatimpl_Range_impl_Range.H : Hints := hintsOf [(2000003, .loop ⟨.normal, [0, 9, 10], [3, 11], [ak_i, ak_i], [], [⟨[], [], [], []⟩]⟩ [⟨(.exit 0), [0], [3], [ak_i], [], [⟨[], [], [], []⟩]⟩]),
  (2000011, .loop ⟨.normal, [25, 26], [6, 27], [.one (.own 0), ak_i], [.rows (.pair (.int .i64) (.int .i64))], [⟨[], [], [], []⟩]⟩ [⟨(.exit 2), [], [6], [.one (.own 0)], [.rows (.pair (.int .i64) (.int .i64))], [⟨[], [], [], []⟩]⟩])]
noncomputable def slices_Concatimpl_Range_impl_Range.says (N : Nat) : List Say := [slices_Growimpl_Range_impl_Range.S N]
noncomputable def slices_Concatimpl_Range_impl_Range.call (N : Nat) : CallK := callBy (slices_Concatimpl_Range_impl_Range.says N)
noncomputable def slices_Concatimpl_Range_impl_Range.qt (N : Nat) : FuncId → List PV → Sig → Cl := qtBy (slices_Concatimpl_Range_impl_Range.says N)
noncomputable def slices_Concatimpl_Range_impl_Range.l0.hd : Alt := ⟨.normal, [0, 9, 10], [3, 11], [ak_i, ak_i], [], [⟨[], [], [], []⟩]⟩
noncomputable def slices_Concatimpl_Range_impl_Range.l0.outs : List Alt := [⟨(.exit 0), [0], [3], [ak_i], [], [⟨[], [], [], []⟩]⟩]
noncomputable def slices_Concatimpl_Range_impl_Range.l0 (N : Nat) (slices1 : (List (List (Int × Int)))) (t9 : (List (List (Int × Int)))) (t10 : Int) (size : Int) (t11 : Int) : Option ((Int × Unit) × Unit) :=
  loopK Try.prog slices_Concatimpl_Range_impl_Range.call slices_Concatimpl_Range_impl_Range.qt slices_Concatimpl_Range_impl_Range.H (codeAt (bodyOf Try.f86) [1, 1, 0, 1, 0, 0]) 0 slices_Concatimpl_Range_impl_Range.l0.hd slices_Concatimpl_Range_impl_Range.l0.outs [(0, .rows false (.rows (.pair (.int .i64) (.int .i64))) slices1), (9, .rows false (.rows (.pair (.int .i64) (.int .i64))) t9), (10, .v (.int .i64 t10))] N ((size, (t11, ())), ())
noncomputable def slices_Concatimpl_Range_impl_Range.l1.hd : Alt := ⟨.normal, [25, 26], [6, 27], [.one (.own 0), ak_i], [.rows (.pair (.int .i64) (.int .i64))], [⟨[], [], [], []⟩]⟩
noncomputable def slices_Concatimpl_Range_impl_Range.l1.outs : List Alt := [⟨(.exit 2), [], [6], [.one (.own 0)], [.rows (.pair (.int .i64) (.int .i64))], [⟨[], [], [], []⟩]⟩]
noncomputable def slices_Concatimpl_Range_impl_Range.l1 (N : Nat) (t25 : (List (List (Int × Int)))) (t26 : Int) (t27 : Int) (p0 : (List (Int × Int))) : Option ((Unit × Unit) × ((List (Int × Int)) × Unit)) :=
  loopK Try.prog slices_Concatimpl_Range_impl_Range.call slices_Concatimpl_Range_impl_Range.qt slices_Concatimpl_Range_impl_Range.H (codeAt (bodyOf Try.f86) [1, 1, 1, 1, 0, 1, 0, 0]) 1 slices_Concatimpl_Range_impl_Range.l1.hd slices_Concatimpl_Range_impl_Range.l1.outs [(25, .rows false (.rows (.pair (.int .i64) (.int .i64))) t25), (26, .v (.int .i64 t26))] N (((), (t27, ())), (p0, ()))
noncomputable def slices_Concatimpl_Range_impl_Range (N : Nat) (slices : (List (List (Int × Int)))) : Option ((Unit × Unit) × ((List (Int × Int)) × Unit)) :=
  ofFn Try.prog slices_Concatimpl_Range_impl_Range.call slices_Concatimpl_Range_impl_Range.qt slices_Concatimpl_Range_impl_Range.H N Try.f86 [.one (.sh (.rows (.rows (.pair (.int .i64) (.int .i64)))))] [] [.one (.own 0)] [.rows (.pair (.int .i64) (.int .i64))] [⟨[], [], [], [0]⟩] (slices, ()) ()
noncomputable def slices_Concatimpl_Range_impl_Range.S (N : Nat) : Say := ⟨false, 86, [.one (.sh (.rows (.rows (.pair (.int .i64) (.int .i64)))))], [], [.one (.own 0)], [.rows (.pair (.int .i64) (.int .i64))], fun a s => slices_Concatimpl_Range_impl_Range N a.1⟩
set_option maxRecDepth 100000 in
theorem slices_Concatimpl_Range_impl_Range.l1.eq (N : Nat) (t25 : (List (List (Int × Int)))) (t26 : Int) (t27 : Int) (p0 : (List (Int × Int))) : slices_Concatimpl_Range_impl_Range.l1 (N + 1) t25 t26 t27 p0 =
 sel (decide (t27 < t26))
  (
  chk ((decide (0 ≤ t27)) && (decide (t27 < (t25.length : Int)))) (
  chk (decide (p0.length + (t25.getD (Int.toNat t27) []).length < most)) (
  slices_Concatimpl_Range_impl_Range.l1 N t25 t26 (IntKind.i64.wrap (t27 + 1)) (p0 ++ (t25.getD (Int.toNat t27) [])))))
  (
  some ((((), ()), (p0, ())))) := by kernel_rfl
set_option maxRecDepth 100000 in
theorem slices_Concatimpl_Range_impl_Range.l0.eq (N : Nat) (slices1 : (List (List (Int × Int)))) (t9 : (List (List (Int × Int)))) (t10 : Int) (size : Int) (t11 : Int) : slices_Concatimpl_Range_impl_Range.l0 (N + 1) slices1 t9 t10 size t11 =
 sel (decide (t11 < t10))
  (
  chk ((decide (0 ≤ t11)) && (decide (t11 < (t9.length : Int)))) (
  sel (decide ((IntKind.i64.wrap (size + ((t9.getD (Int.toNat t11) []).length : Int))) < 0))
   (
   none)
   (
   slices_Concatimpl_Range_impl_Range.l0 N slices1 t9 t10 (IntKind.i64.wrap (size + ((t9.getD (Int.toNat t11) []).length : Int))) (IntKind.i64.wrap (t11 + 1)))))
  (
  some (((size, ()), ()))) := by kernel_rfl
set_option maxRecDepth 100000 in
theorem slices_Concatimpl_Range_impl_Range.eq (N : Nat) (slices : (List (List (Int × Int)))) : slices_Concatimpl_Range_impl_Range N slices =
 andK (slices_Concatimpl_Range_impl_Range.l0 N slices slices (slices.length : Int) 0 0) fun l1 =>
 andK (slices_Growimpl_Range_impl_Range N l1.1.1) fun u2 =>
 andK (slices_Concatimpl_Range_impl_Range.l1 N slices (slices.length : Int) 0 u2.2.1) fun l3 =>
 some (((), ()), (l3.2.1, ())) := by kernel_rfl
set_option maxRecDepth 100000 in
theorem slices_Concatimpl_Range_impl_Range.say (N : Nat) : SayOk Try.prog (slices_Concatimpl_Range_impl_Range.S N) := sayOk_mk (N := N) (H := slices_Concatimpl_Range_impl_Range.H) (preps := [⟨[], [], [], [0]⟩]) (l := slices_Concatimpl_Range_impl_Range.says) (fn := Try.f86) (c := bodyOf Try.f86)
  (by kernel_rfl) (by kernel_rfl) (by kernel_rfl) (by kernel_rfl) (by kernel_rfl) (by kernel_rfl) (by kernel_rfl)
  (fun N => SayAll.cons (slices_Growimpl_Range_impl_Range.say N) (SayAll.nil)) (fun a s => by kernel_rfl)

/-! ### loop.example/g00206/impl.JoinRanges: function 34 -/
noncomputable def impl_JoinRanges.H : Hints := hintsOf [(5000001, .join [⟨.normal, [0, 1], [14], [ak_b], [], [⟨[], [], [], []⟩]⟩])]
noncomputable def impl_JoinRanges.says (N : Nat) : List Say := [impl_GoodRanges.S N, slices_Concatimpl_Range_impl_Range.S N, impl_united.S N]
noncomputable def impl_JoinRanges.call (N : Nat) : CallK := callBy (impl_JoinRanges.says N)
noncomputable def impl_JoinRanges.qt (N : Nat) : FuncId → List PV → Sig → Cl := qtBy (impl_JoinRanges.says N)
noncomputable def impl_JoinRanges (N : Nat) (a : (List (Int × Int))) (b : (List (Int × Int))) : Option ((Unit × (Bool × Unit)) × ((List (Int × Int)) × Unit)) :=
  ofFn Try.prog impl_JoinRanges.call impl_JoinRanges.qt impl_JoinRanges.H N Try.f34 [.one (.sh (.rows (.pair (.int .i64) (.int .i64)))), .one (.sh (.rows (.pair (.int .i64) (.int .i64))))] [] [.one (.own 0), ak_b] [.rows (.pair (.int .i64) (.int .i64))] [⟨[(0, (.pair (.int .i64) (.int .i64)))], [], [], [0]⟩, ⟨[(0, (.pair (.int .i64) (.int .i64)))], [], [], [2]⟩, ⟨[], [], [], [1]⟩] (a, (b, ())) ()
noncomputable def impl_JoinRanges.S (N : Nat) : Say := ⟨false, 34, [.one (.sh (.rows (.pair (.int .i64) (.int .i64)))), .one (.sh (.rows (.pair (.int .i64) (.int .i64))))], [], [.one (.own 0), ak_b], [.rows (.pair (.int .i64) (.int .i64))], fun a s => impl_JoinRanges N a.1 a.2.1⟩
set_option maxRecDepth 100000 in
theorem impl_JoinRanges.eq (N : Nat) (a : (List (Int × Int))) (b : (List (Int × Int))) : impl_JoinRanges N a b =
 andK (α := ((Bool × Unit) × Unit)) (
  andK (impl_GoodRanges N a) fun u1 =>
  sel (!u1.1.1)
   (
   some (((true, ()), ())))
   (
   andK (impl_GoodRanges N b) fun u2 =>
   some ((((!u2.1.1), ()), ())))) fun j3 =>
 sel j3.1.1
  (
  some (((), (false, ())), ([], ())))
  (
  andK (slices_Concatimpl_Range_impl_Range N [a, b]) fun u4 =>
  andK (impl_united N u4.2.1) fun u5 =>
  sel (decide (20 < (u5.2.2.1.length : Int)))
   (
   some (((), (false, ())), ([], ())))
   (
   some (((), (true, ())), (u5.2.2.1, ())))) := by kernel_rfl
set_option maxRecDepth 100000 in
theorem impl_JoinRanges.say (N : Nat) : SayOk Try.prog (impl_JoinRanges.S N) := sayOk_mk (N := N) (H := impl_JoinRanges.H) (preps := [⟨[(0, (.pair (.int .i64) (.int .i64)))], [], [], [0]⟩, ⟨[(0, (.pair (.int .i64) (.int .i64)))], [], [], [2]⟩, ⟨[], [], [], [1]⟩]) (l := impl_JoinRanges.says) (fn := Try.f34) (c := bodyOf Try.f34)
  (by kernel_rfl) (by kernel_rfl) (by kernel_rfl) (by kernel_rfl) (by kernel_rfl) (by kernel_rfl) (by kernel_rfl)
  (fun N => SayAll.cons (impl_GoodRanges.say N) (SayAll.cons (slices_Concatimpl_Range_impl_Range.say N) (SayAll.cons (impl_united.say N) (SayAll.nil)))) (fun a s => by kernel_rfl)
noncomputable def impl_JoinRanges.SB (N : Nat) : Say := impl_JoinRanges.S N |>.lent
theorem impl_JoinRanges.sayB (N : Nat) : SayOk Try.prog (impl_JoinRanges.SB N) := (impl_JoinRanges.say N).lent

/-! ### loop.example/g00206/spec.JoinRanges: function 35 -/
noncomputable def spec_JoinRanges_2.H : Hints := hintsOf [(5000001, .join [⟨.normal, [], [0, 1, 16], [.one (.own 0), .one (.own 1), ak_b], [.rows (.pair (.int .i64) (.int .i64)) true, .rows (.pair (.int .i64) (.int .i64)) true], [⟨[], [], [], []⟩]⟩]),
  (2000005, .loop ⟨.normal, [21], [6, 20, 22], [.one (.sh (.rows (.pair (.int .i64) (.int .i64)))), .one (.own 1), ak_i], [.rows (.pair (.int .i64) (.int .i64)) true, .rows (.pair (.int .i64) (.int .i64)) true, .gone], [⟨[], [], [2], []⟩, ⟨[], [], [4], []⟩]⟩ [⟨(.exit 0), [], [6], [.one (.sh (.rows (.pair (.int .i64) (.int .i64))))], [.rows (.pair (.int .i64) (.int .i64)) true, .rows (.pair (.int .i64) (.int .i64)) true, .gone], [⟨[], [], [], []⟩]⟩])]
noncomputable def spec_JoinRanges_2.says (N : Nat) : List Say := [spec_l12Ranges.SB N, spec_l12Put.S N]
noncomputable def spec_JoinRanges_2.call (N : Nat) : CallK := callBy (spec_JoinRanges_2.says N)
noncomputable def spec_JoinRanges_2.qt (N : Nat) : FuncId → List PV → Sig → Cl := qtBy (spec_JoinRanges_2.says N)
noncomputable def spec_JoinRanges_2.l0.hd : Alt := ⟨.normal, [21], [6, 20, 22], [.one (.sh (.rows (.pair (.int .i64) (.int .i64)))), .one (.own 1), ak_i], [.rows (.pair (.int .i64) (.int .i64)) true, .rows (.pair (.int .i64) (.int .i64)) true, .gone], [⟨[], [], [2], []⟩, ⟨[], [], [4], []⟩]⟩
noncomputable def spec_JoinRanges_2.l0.outs : List Alt := [⟨(.exit 0), [], [6], [.one (.sh (.rows (.pair (.int .i64) (.int .i64))))], [.rows (.pair (.int .i64) (.int .i64)) true, .rows (.pair (.int .i64) (.int .i64)) true, .gone], [⟨[], [], [], []⟩]⟩]
noncomputable def spec_JoinRanges_2.l0 (N : Nat) (t21 : Int) (out : (List (Int × Int))) (t22 : Int) (p01 : (List (Int × Int))) (p11 : (List (Int × Int))) : Option (((List (Int × Int)) × Unit) × ((List (Int × Int)) × ((List (Int × Int)) × (Unit × Unit)))) :=
  loopK Try.prog spec_JoinRanges_2.call spec_JoinRanges_2.qt spec_JoinRanges_2.H (codeAt (bodyOf Try.f35) [1, 1, 1, 0, 1, 0, 0]) 3 spec_JoinRanges_2.l0.hd spec_JoinRanges_2.l0.outs [(21, .v (.int .i64 t21))] N ((out, ((), (t22, ()))), (p01, (p11, ((), ()))))
noncomputable def spec_JoinRanges_2 (N : Nat) (p0 : (List (Int × Int))) (p1 : (List (Int × Int))) : Option (((List (Int × Int)) × (Bool × Unit)) × ((List (Int × Int)) × ((List (Int × Int)) × Unit))) :=
  ofFn Try.prog spec_JoinRanges_2.call spec_JoinRanges_2.qt spec_JoinRanges_2.H N Try.f35 [.one (.own 0), .one (.own 1)] [.rows (.pair (.int .i64) (.int .i64)), .rows (.pair (.int .i64) (.int .i64))] [.one (.sh (.rows (.pair (.int .i64) (.int .i64)))), ak_b] [.rows (.pair (.int .i64) (.int .i64)) true, .rows (.pair (.int .i64) (.int .i64)) true] [⟨[], [], [], []⟩] ((), ((), ())) (p0, (p1, ()))
noncomputable def spec_JoinRanges_2.S (N : Nat) : Say := ⟨false, 35, [.one (.own 0), .one (.own 1)], [.rows (.pair (.int .i64) (.int .i64)), .rows (.pair (.int .i64) (.int .i64))], [.one (.sh (.rows (.pair (.int .i64) (.int .i64)))), ak_b], [.rows (.pair (.int .i64) (.int .i64)) true, .rows (.pair (.int .i64) (.int .i64)) true], fun a s => spec_JoinRanges_2 N s.1 s.2.1⟩
set_option maxRecDepth 100000 in
theorem spec_JoinRanges_2.l0.eq (N : Nat) (t21 : Int) (out : (List (Int × Int))) (t22 : Int) (p01 : (List (Int × Int))) (p11 : (List (Int × Int))) : spec_JoinRanges_2.l0 (N + 1) t21 out t22 p01 p11 =
 sel (decide (t22 < t21))
  (
  chk ((decide (0 ≤ t22)) && (decide (t22 < (p11.length : Int)))) (
  andK (spec_l12Put N out (rdS (.pair (.int .i64) (.int .i64)) p11 (Int.toNat t22)).1 (rdS (.pair (.int .i64) (.int .i64)) p11 (Int.toNat t22)).2) fun u4 =>
  spec_JoinRanges_2.l0 N t21 u4.2.1 (IntKind.i64.wrap (t22 + 1)) p01 p11))
  (
  some (((out, ()), (p01, (p11, ((), ())))))) := by kernel_rfl
set_option maxRecDepth 100000 in
theorem spec_JoinRanges_2.eq (N : Nat) (p0 : (List (Int × Int))) (p1 : (List (Int × Int))) : spec_JoinRanges_2 N p0 p1 =
 andK (α := ((Unit × (Unit × (Bool × Unit))) × ((List (Int × Int)) × ((List (Int × Int)) × Unit)))) (
  andK (spec_l12Ranges N p0) fun u1 =>
  sel (!u1.1.1)
   (
   some ((((), ((), (true, ()))), (p0, (p1, ())))))
   (
   andK (spec_l12Ranges N p1) fun u2 =>
   some ((((), ((), ((!u2.1.1), ()))), (p0, (p1, ())))))) fun j3 =>
 sel j3.1.2.2.1
  (
  some (([], (false, ())), (j3.2.1, (j3.2.2.1, ()))))
  (
  chk (decide (j3.2.1.length < most)) (
  andK (spec_JoinRanges_2.l0 N (j3.2.2.1.length : Int) j3.2.1 0 j3.2.1 j3.2.2.1) fun l5 =>
  sel (decide (20 < (l5.1.1.length : Int)))
   (
   some (([], (false, ())), (l5.2.1, (l5.2.2.1, ()))))
   (
   some ((l5.1.1, (true, ())), (l5.2.1, (l5.2.2.1, ())))))) := by kernel_rfl
set_option maxRecDepth 100000 in
theorem spec_JoinRanges_2.say (N : Nat) : SayOk Try.prog (spec_JoinRanges_2.S N) := sayOk_mk (N := N) (H := spec_JoinRanges_2.H) (preps := [⟨[], [], [], []⟩]) (l := spec_JoinRanges_2.says) (fn := Try.f35) (c := bodyOf Try.f35)
  (by kernel_rfl) (by kernel_rfl) (by kernel_rfl) (by kernel_rfl) (by kernel_rfl) (by kernel_rfl) (by kernel_rfl)
  (fun N => SayAll.cons (spec_l12Ranges.sayB N) (SayAll.cons (spec_l12Put.say N) (SayAll.nil))) (fun a s => by kernel_rfl)

/-! ### loop.example/g00206/spec.l12Has: function 76 -/
noncomputable def spec_l12Has.H : Hints := hintsOf [(2000002, .loop ⟨.normal, [1, 7, 8], [9], [ak_i], [], [⟨[], [], [], []⟩]⟩ [⟨.ret, [], [4], [ak_b], [], [⟨[], [], [], []⟩]⟩, ⟨(.exit 0), [], [], [], [], [⟨[], [], [], []⟩]⟩])]
noncomputable def spec_l12Has.says (N : Nat) : List Say := [spec_l1In.S N]
noncomputable def spec_l12Has.call (N : Nat) : CallK := callBy (spec_l12Has.says N)
noncomputable def spec_l12Has.qt (N : Nat) : FuncId → List PV → Sig → Cl := qtBy (spec_l12Has.says N)
noncomputable def spec_l12Has.l0.hd : Alt := ⟨.normal, [1, 7, 8], [9], [ak_i], [], [⟨[], [], [], []⟩]⟩
noncomputable def spec_l12Has.l0.outs : List Alt := [⟨.ret, [], [4], [ak_b], [], [⟨[], [], [], []⟩]⟩, ⟨(.exit 0), [], [], [], [], [⟨[], [], [], []⟩]⟩]
noncomputable def spec_l12Has.l0 (N : Nat) (n1 : Int) (t7 : (List (Int × Int))) (t8 : Int) (t9 : Int) : Option (((Bool × Unit) × Unit) ⊕ (Unit × Unit)) :=
  loopK Try.prog spec_l12Has.call spec_l12Has.qt spec_l12Has.H (codeAt (bodyOf Try.f76) [1, 0, 1, 0, 0]) 0 spec_l12Has.l0.hd spec_l12Has.l0.outs [(1, .v (.int .i64 n1)), (7, .rows false (.pair (.int .i64) (.int .i64)) t7), (8, .v (.int .i64 t8))] N ((t9, ()), ())
noncomputable def spec_l12Has (N : Nat) (l : (List (Int × Int))) (n : Int) : Option ((Bool × Unit) × Unit) :=
  ofFn Try.prog spec_l12Has.call spec_l12Has.qt spec_l12Has.H N Try.f76 [.one (.sh (.rows (.pair (.int .i64) (.int .i64)))), ak_i] [] [ak_b] [] [⟨[], [], [], []⟩] (l, (n, ())) ()
noncomputable def spec_l12Has.S (N : Nat) : Say := ⟨false, 76, [.one (.sh (.rows (.pair (.int .i64) (.int .i64)))), ak_i], [], [ak_b], [], fun a s => spec_l12Has N a.1 a.2.1⟩
set_option maxRecDepth 100000 in
theorem spec_l12Has.l0.eq (N : Nat) (n1 : Int) (t7 : (List (Int × Int))) (t8 : Int) (t9 : Int) : spec_l12Has.l0 (N + 1) n1 t7 t8 t9 =
 sel (decide (t9 < t8))
  (
  chk ((decide (0 ≤ t9)) && (decide (t9 < (t7.length : Int)))) (
  andK (spec_l1In N n1 (rdS (.pair (.int .i64) (.int .i64)) t7 (Int.toNat t9)).1 (rdS (.pair (.int .i64) (.int .i64)) t7 (Int.toNat t9)).2) fun u1 =>
  sel u1.1.1
   (
   some (.inl ((true, ()), ())))
   (
   spec_l12Has.l0 N n1 t7 t8 (IntKind.i64.wrap (t9 + 1)))))
  (
  some (.inr (((), ())))) := by kernel_rfl
set_option maxRecDepth 100000 in
theorem spec_l12Has.eq (N : Nat) (l : (List (Int × Int))) (n : Int) : spec_l12Has N l n =
 andK (spec_l12Has.l0 N n l (l.length : Int) 0) fun l2 =>
 orK l2 (fun x3 =>
  some ((x3.1.1, ()), ()))
  (fun x4 =>
  some ((false, ()), ())) := by kernel_rfl
set_option maxRecDepth 100000 in
theorem spec_l12Has.say (N : Nat) : SayOk Try.prog (spec_l12Has.S N) := sayOk_mk (N := N) (H := spec_l12Has.H) (preps := [⟨[], [], [], []⟩]) (l := spec_l12Has.says) (fn := Try.f76) (c := bodyOf Try.f76)
  (by kernel_rfl) (by kernel_rfl) (by kernel_rfl) (by kernel_rfl) (by kernel_rfl) (by kernel_rfl) (by kernel_rfl)
  (fun N => SayAll.cons (spec_l1In.say N) (SayAll.nil)) (fun a s => by kernel_rfl)

/-! ### loop.example/g00206/spec.HasNumber: function 28 -/
noncomputable def spec_HasNumber.H : Hints := hintsOf []
noncomputable def spec_HasNumber.says (N : Nat) : List Say := [spec_l12Ranges.S N, spec_l12Has.S N]
noncomputable def spec_HasNumber.call (N : Nat) : CallK := callBy (spec_HasNumber.says N)
noncomputable def spec_HasNumber.qt (N : Nat) : FuncId → List PV → Sig → Cl := qtBy (spec_HasNumber.says N)
noncomputable def spec_HasNumber (N : Nat) (l : (List (Int × Int))) (n : Int) : Option ((Bool × (Bool × Unit)) × Unit) :=
  ofFn Try.prog spec_HasNumber.call spec_HasNumber.qt spec_HasNumber.H N Try.f28 [.one (.sh (.rows (.pair (.int .i64) (.int .i64)))), ak_i] [] [ak_b, ak_b] [] [⟨[], [], [], []⟩] (l, (n, ())) ()
noncomputable def spec_HasNumber.S (N : Nat) : Say := ⟨false, 28, [.one (.sh (.rows (.pair (.int .i64) (.int .i64)))), ak_i], [], [ak_b, ak_b], [], fun a s => spec_HasNumber N a.1 a.2.1⟩
set_option maxRecDepth 100000 in
theorem spec_HasNumber.eq (N : Nat) (l : (List (Int × Int))) (n : Int) : spec_HasNumber N l n =
 andK (spec_l12Ranges N l) fun u1 =>
 sel (!u1.1.1)
  (
  some ((false, (false, ())), ()))
  (
  andK (spec_l12Has N l n) fun u2 =>
  some ((u2.1.1, (true, ())), ())) := by kernel_rfl
set_option maxRecDepth 100000 in
theorem spec_HasNumber.say (N : Nat) : SayOk Try.prog (spec_HasNumber.S N) := sayOk_mk (N := N) (H := spec_HasNumber.H) (preps := [⟨[], [], [], []⟩]) (l := spec_HasNumber.says) (fn := Try.f28) (c := bodyOf Try.f28)
  (by kernel_rfl) (by kernel_rfl) (by kernel_rfl) (by kernel_rfl) (by kernel_rfl) (by kernel_rfl) (by kernel_rfl)
  (fun N => SayAll.cons (spec_l12Ranges.say N) (SayAll.cons (spec_l12Has.say N) (SayAll.nil))) (fun a s => by kernel_rfl)
noncomputable def spec_HasNumber.SB (N : Nat) : Say := spec_HasNumber.S N |>.lent
theorem spec_HasNumber.sayB (N : Nat) : SayOk Try.prog (spec_HasNumber.SB N) := (spec_HasNumber.say N).lent

/-! ### loop.example/g00206/impl.hasNumber$1: function 125 -/
noncomputable def impl_hasNumber_1.H : Hints := hintsOf []
noncomputable def impl_hasNumber_1.says (N : Nat) : List Say := [impl_in.S N]
noncomputable def impl_hasNumber_1.call (N : Nat) : CallK := callBy (impl_hasNumber_1.says N)
noncomputable def impl_hasNumber_1.qt (N : Nat) : FuncId → List PV → Sig → Cl := qtBy (impl_hasNumber_1.says N)
noncomputable def impl_hasNumber_1 (N : Nat) (r_0 : Int) (r_1 : Int) (p0_0 : Int) : Option ((Bool × Unit) × ((Int × Unit) × Unit)) :=
  ofFn Try.prog impl_hasNumber_1.call impl_hasNumber_1.qt impl_hasNumber_1.H N Try.f125 [.agg [ck_i, ck_i], .one (.ptr 0 0)] [.cells [ck_i]] [ak_b] [.cells [ck_i]] [⟨[], [], [], []⟩] ((r_0, (r_1, ())), ((), ())) ((p0_0, ()), ())
noncomputable def impl_hasNumber_1.S (N : Nat) : Say := ⟨false, 125, [.agg [ck_i, ck_i], .one (.ptr 0 0)], [.cells [ck_i]], [ak_b], [.cells [ck_i]], fun a s => impl_hasNumber_1 N a.1.1 a.1.2.1 s.1.1⟩
set_option maxRecDepth 100000 in
theorem impl_hasNumber_1.eq (N : Nat) (r_0 : Int) (r_1 : Int) (p0_0 : Int) : impl_hasNumber_1 N r_0 r_1 p0_0 =
 andK (impl_in N p0_0 r_0 r_1) fun u1 =>
 some ((u1.1.1, ()), ((p0_0, ()), ())) := by kernel_rfl
set_option maxRecDepth 100000 in
theorem impl_hasNumber_1.say (N : Nat) : SayOk Try.prog (impl_hasNumber_1.S N) := sayOk_mk (N := N) (H := impl_hasNumber_1.H) (preps := [⟨[], [], [], []⟩]) (l := impl_hasNumber_1.says) (fn := Try.f125) (c := bodyOf Try.f125)
  (by kernel_rfl) (by kernel_rfl) (by kernel_rfl) (by kernel_rfl) (by kernel_rfl) (by kernel_rfl) (by kernel_rfl)
  (fun N => SayAll.cons (impl_in.say N) (SayAll.nil)) (fun a s => by kernel_rfl)

/-! ### slices.IndexFunc[[]loop.example/g00206/impl.Range,loop.example/g00206/impl.Range]: function 142 -/
noncomputable def slices_IndexFuncimpl_Range_impl_Range.H : Hints := hintsOf [(2000002, .loop ⟨.normal, [0, 7], [1, 8], [.fn 125 [.ptr 0 0], ak_i], [.cells [ck_i]], [⟨[], [], [], []⟩]⟩ [⟨.ret, [], [4], [ak_i], [.cells [ck_i]], [⟨[], [], [], []⟩]⟩, ⟨(.exit 0), [], [], [], [.cells [ck_i]], [⟨[], [], [], []⟩]⟩])]
noncomputable def slices_IndexFuncimpl_Range_impl_Range.says (N : Nat) : List Say := [impl_hasNumber_1.S N]
noncomputable def slices_IndexFuncimpl_Range_impl_Range.call (N : Nat) : CallK := callBy (slices_IndexFuncimpl_Range_impl_Range.says N)
noncomputable def slices_IndexFuncimpl_Range_impl_Range.qt (N : Nat) : FuncId → List PV → Sig → Cl := qtBy (slices_IndexFuncimpl_Range_impl_Range.says N)
noncomputable def slices_IndexFuncimpl_Range_impl_Range.l0.hd : Alt := ⟨.normal, [0, 7], [1, 8], [.fn 125 [.ptr 0 0], ak_i], [.cells [ck_i]], [⟨[], [], [], []⟩]⟩
noncomputable def slices_IndexFuncimpl_Range_impl_Range.l0.outs : List Alt := [⟨.ret, [], [4], [ak_i], [.cells [ck_i]], [⟨[], [], [], []⟩]⟩, ⟨(.exit 0), [], [], [], [.cells [ck_i]], [⟨[], [], [], []⟩]⟩]
noncomputable def slices_IndexFuncimpl_Range_impl_Range.l0 (N : Nat) (s1 : (List (Int × Int))) (t7 : Int) (t8 : Int) (p0_01 : Int) : Option (((Int × Unit) × ((Int × Unit) × Unit)) ⊕ (Unit × ((Int × Unit) × Unit))) :=
  loopK Try.prog slices_IndexFuncimpl_Range_impl_Range.call slices_IndexFuncimpl_Range_impl_Range.qt slices_IndexFuncimpl_Range_impl_Range.H (codeAt (bodyOf Try.f142) [1, 0, 1, 0, 0]) 1 slices_IndexFuncimpl_Range_impl_Range.l0.hd slices_IndexFuncimpl_Range_impl_Range.l0.outs [(0, .rows false (.pair (.int .i64) (.int .i64)) s1), (7, .v (.int .i64 t7))] N ((((), ()), (t8, ())), ((p0_01, ()), ()))
noncomputable def slices_IndexFuncimpl_Range_impl_Range (N : Nat) (s : (List (Int × Int))) (p0_0 : Int) : Option ((Int × Unit) × ((Int × Unit) × Unit)) :=
  ofFn Try.prog slices_IndexFuncimpl_Range_impl_Range.call slices_IndexFuncimpl_Range_impl_Range.qt slices_IndexFuncimpl_Range_impl_Range.H N Try.f142 [.one (.sh (.rows (.pair (.int .i64) (.int .i64)))), .fn 125 [.ptr 0 0]] [.cells [ck_i]] [ak_i] [.cells [ck_i]] [⟨[], [], [], []⟩] (s, (((), ()), ())) ((p0_0, ()), ())
noncomputable def slices_IndexFuncimpl_Range_impl_Range.S (N : Nat) : Say := ⟨false, 142, [.one (.sh (.rows (.pair (.int .i64) (.int .i64)))), .fn 125 [.ptr 0 0]], [.cells [ck_i]], [ak_i], [.cells [ck_i]], fun a s => slices_IndexFuncimpl_Range_impl_Range N a.1 s.1.1⟩
set_option maxRecDepth 100000 in
theorem slices_IndexFuncimpl_Range_impl_Range.l0.eq (N : Nat) (s1 : (List (Int × Int))) (t7 : Int) (t8 : Int) (p0_01 : Int) : slices_IndexFuncimpl_Range_impl_Range.l0 (N + 1) s1 t7 t8 p0_01 =
 sel (decide (t8 < t7))
  (
  chk ((decide (0 ≤ t8)) && (decide (t8 < (s1.length : Int)))) (
  andK (impl_hasNumber_1 N (rdS (.pair (.int .i64) (.int .i64)) s1 (Int.toNat t8)).1 (rdS (.pair (.int .i64) (.int .i64)) s1 (Int.toNat t8)).2 p0_01) fun u1 =>
  sel u1.1.1
   (
   some (.inl ((t8, ()), ((u1.2.1.1, ()), ()))))
   (
   slices_IndexFuncimpl_Range_impl_Range.l0 N s1 t7 (IntKind.i64.wrap (t8 + 1)) u1.2.1.1)))
  (
  some (.inr (((), ((p0_01, ()), ()))))) := by kernel_rfl
set_option maxRecDepth 100000 in
theorem slices_IndexFuncimpl_Range_impl_Range.eq (N : Nat) (s : (List (Int × Int))) (p0_0 : Int) : slices_IndexFuncimpl_Range_impl_Range N s p0_0 =
 andK (slices_IndexFuncimpl_Range_impl_Range.l0 N s (s.length : Int) 0 p0_0) fun l2 =>
 orK l2 (fun x3 =>
  some ((x3.1.1, ()), ((x3.2.1.1, ()), ())))
  (fun x4 =>
  some (((-1), ()), ((x4.2.1.1, ()), ()))) := by kernel_rfl
set_option maxRecDepth 100000 in
theorem slices_IndexFuncimpl_Range_impl_Range.say (N : Nat) : SayOk Try.prog (slices_IndexFuncimpl_Range_impl_Range.S N) := sayOk_mk (N := N) (H := slices_IndexFuncimpl_Range_impl_Range.H) (preps := [⟨[], [], [], []⟩]) (l := slices_IndexFuncimpl_Range_impl_Range.says) (fn := Try.f142) (c := bodyOf Try.f142)
  (by kernel_rfl) (by kernel_rfl) (by kernel_rfl) (by kernel_rfl) (by kernel_rfl) (by kernel_rfl) (by kernel_rfl)
  (fun N => SayAll.cons (impl_hasNumber_1.say N) (SayAll.nil)) (fun a s => by kernel_rfl)

/-! ### slices.ContainsFunc[[]loop.example/g00206/impl.Range,loop.example/g00206/impl.Range]: function 124 -/
noncomputable def slices_ContainsFuncimpl_Range_impl_Range.H : Hints := hintsOf []
noncomputable def slices_ContainsFuncimpl_Range_impl_Range.says (N : Nat) : List Say := [slices_IndexFuncimpl_Range_impl_Range.S N]
noncomputable def slices_ContainsFuncimpl_Range_impl_Range.call (N : Nat) : CallK := callBy (slices_ContainsFuncimpl_Range_impl_Range.says N)
noncomputable def slices_ContainsFuncimpl_Range_impl_Range.qt (N : Nat) : FuncId → List PV → Sig → Cl := qtBy (slices_ContainsFuncimpl_Range_impl_Range.says N)
noncomputable def slices_ContainsFuncimpl_Range_impl_Range (N : Nat) (s : (List (Int × Int))) (p0_0 : Int) : Option ((Bool × Unit) × ((Int × Unit) × Unit)) :=
  ofFn Try.prog slices_ContainsFuncimpl_Range_impl_Range.call slices_ContainsFuncimpl_Range_impl_Range.qt slices_ContainsFuncimpl_Range_impl_Range.H N Try.f124 [.one (.sh (.rows (.pair (.int .i64) (.int .i64)))), .fn 125 [.ptr 0 0]] [.cells [ck_i]] [ak_b] [.cells [ck_i]] [⟨[], [], [], []⟩] (s, (((), ()), ())) ((p0_0, ()), ())
noncomputable def slices_ContainsFuncimpl_Range_impl_Range.S (N : Nat) : Say := ⟨false, 124, [.one (.sh (.rows (.pair (.int .i64) (.int .i64)))), .fn 125 [.ptr 0 0]], [.cells [ck_i]], [ak_b], [.cells [ck_i]], fun a s => slices_ContainsFuncimpl_Range_impl_Range N a.1 s.1.1⟩
set_option maxRecDepth 100000 in
theorem slices_ContainsFuncimpl_Range_impl_Range.eq (N : Nat) (s : (List (Int × Int))) (p0_0 : Int) : slices_ContainsFuncimpl_Range_impl_Range N s p0_0 =
 andK (slices_IndexFuncimpl_Range_impl_Range N s p0_0) fun u1 =>
 some (((decide (0 ≤ u1.1.1)), ()), ((u1.2.1.1, ()), ())) := by kernel_rfl
set_option maxRecDepth 100000 in
theorem slices_ContainsFuncimpl_Range_impl_Range.say (N : Nat) : SayOk Try.prog (slices_ContainsFuncimpl_Range_impl_Range.S N) := sayOk_mk (N := N) (H := slices_ContainsFuncimpl_Range_impl_Range.H) (preps := [⟨[], [], [], []⟩]) (l := slices_ContainsFuncimpl_Range_impl_Range.says) (fn := Try.f124) (c := bodyOf Try.f124)
  (by kernel_rfl) (by kernel_rfl) (by kernel_rfl) (by kernel_rfl) (by kernel_rfl) (by kernel_rfl) (by kernel_rfl)
  (fun N => SayAll.cons (slices_IndexFuncimpl_Range_impl_Range.say N) (SayAll.nil)) (fun a s => by kernel_rfl)

/-! ### loop.example/g00206/impl.hasNumber: function 69 -/
noncomputable def impl_hasNumber.H : Hints := hintsOf []
noncomputable def impl_hasNumber.says (N : Nat) : List Say := [slices_ContainsFuncimpl_Range_impl_Range.S N]
noncomputable def impl_hasNumber.call (N : Nat) : CallK := callBy (impl_hasNumber.says N)
noncomputable def impl_hasNumber.qt (N : Nat) : FuncId → List PV → Sig → Cl := qtBy (impl_hasNumber.says N)
noncomputable def impl_hasNumber (N : Nat) (l : (List (Int × Int))) (n : Int) : Option ((Bool × Unit) × Unit) :=
  ofFn Try.prog impl_hasNumber.call impl_hasNumber.qt impl_hasNumber.H N Try.f69 [.one (.sh (.rows (.pair (.int .i64) (.int .i64)))), ak_i] [] [ak_b] [] [⟨[], [], [], []⟩] (l, (n, ())) ()
noncomputable def impl_hasNumber.S (N : Nat) : Say := ⟨false, 69, [.one (.sh (.rows (.pair (.int .i64) (.int .i64)))), ak_i], [], [ak_b], [], fun a s => impl_hasNumber N a.1 a.2.1⟩
set_option maxRecDepth 100000 in
theorem impl_hasNumber.eq (N : Nat) (l : (List (Int × Int))) (n : Int) : impl_hasNumber N l n =
 andK (slices_ContainsFuncimpl_Range_impl_Range N l n) fun u1 =>
 some ((u1.1.1, ()), ()) := by kernel_rfl
set_option maxRecDepth 100000 in
theorem impl_hasNumber.say (N : Nat) : SayOk Try.prog (impl_hasNumber.S N) := sayOk_mk (N := N) (H := impl_hasNumber.H) (preps := [⟨[], [], [], []⟩]) (l := impl_hasNumber.says) (fn := Try.f69) (c := bodyOf Try.f69)
  (by kernel_rfl) (by kernel_rfl) (by kernel_rfl) (by kernel_rfl) (by kernel_rfl) (by kernel_rfl) (by kernel_rfl)
  (fun N => SayAll.cons (slices_ContainsFuncimpl_Range_impl_Range.say N) (SayAll.nil)) (fun a s => by kernel_rfl)

/-! ### loop.example/g00206/impl.HasNumber: function 37 -/
noncomputable def impl_HasNumber.H : Hints := hintsOf []
noncomputable def impl_HasNumber.says (N : Nat) : List Say := [impl_GoodRanges.S N, impl_isVarint.S N, impl_hasNumber.S N]
noncomputable def impl_HasNumber.call (N : Nat) : CallK := callBy (impl_HasNumber.says N)
noncomputable def impl_HasNumber.qt (N : Nat) : FuncId → List PV → Sig → Cl := qtBy (impl_HasNumber.says N)
noncomputable def impl_HasNumber (N : Nat) (l : (List (Int × Int))) (n : Int) : Option ((Bool × (Bool × Unit)) × Unit) :=
  ofFn Try.prog impl_HasNumber.call impl_HasNumber.qt impl_HasNumber.H N Try.f37 [.one (.sh (.rows (.pair (.int .i64) (.int .i64)))), ak_i] [] [ak_b, ak_b] [] [⟨[], [], [], []⟩] (l, (n, ())) ()
noncomputable def impl_HasNumber.S (N : Nat) : Say := ⟨false, 37, [.one (.sh (.rows (.pair (.int .i64) (.int .i64)))), ak_i], [], [ak_b, ak_b], [], fun a s => impl_HasNumber N a.1 a.2.1⟩
set_option maxRecDepth 100000 in
theorem impl_HasNumber.eq (N : Nat) (l : (List (Int × Int))) (n : Int) : impl_HasNumber N l n =
 andK (impl_GoodRanges N l) fun u1 =>
 sel (!u1.1.1)
  (
  some ((false, (false, ())), ()))
  (
  andK (impl_isVarint N n) fun u2 =>
  sel u2.1.1
   (
   andK (impl_hasNumber N l n) fun u3 =>
   some ((u3.1.1, (true, ())), ()))
   (
   some ((false, (true, ())), ()))) := by kernel_rfl
set_option maxRecDepth 100000 in
theorem impl_HasNumber.say (N : Nat) : SayOk Try.prog (impl_HasNumber.S N) := sayOk_mk (N := N) (H := impl_HasNumber.H) (preps := [⟨[], [], [], []⟩]) (l := impl_HasNumber.says) (fn := Try.f37) (c := bodyOf Try.f37)
  (by kernel_rfl) (by kernel_rfl) (by kernel_rfl) (by kernel_rfl) (by kernel_rfl) (by kernel_rfl) (by kernel_rfl)
  (fun N => SayAll.cons (impl_GoodRanges.say N) (SayAll.cons (impl_isVarint.say N) (SayAll.cons (impl_hasNumber.say N) (SayAll.nil)))) (fun a s => by kernel_rfl)
noncomputable def impl_HasNumber.SB (N : Nat) : Say := impl_HasNumber.S N |>.lent
theorem impl_HasNumber.sayB (N : Nat) : SayOk Try.prog (impl_HasNumber.SB N) := (impl_HasNumber.say N).lent

/-! ### loop.example/g00206/laws.FnRanges: function 6 -/
noncomputable def laws_FnRanges.H : Hints := hintsOf [(5000006, .join [⟨.normal, [1, 6, 7, 8], [5, 59], [.one (.own 0), ak_b], [.rows (.pair (.int .i64) (.int .i64)), .rows (.pair (.int .i64) (.int .i64))], [⟨[], [], [], []⟩]⟩]),
  (5000011, .join [⟨.normal, [6, 7, 8, 14], [5, 11, 12, 13, 95], [.one (.own 0), .one (.own 2), .one (.own 3), .one (.own 4), ak_b], [.rows (.pair (.int .i64) (.int .i64)), .rows (.pair (.int .i64) (.int .i64)), .rows (.pair (.int .i64) (.int .i64)), .rows (.pair (.int .i64) (.int .i64)), .rows (.pair (.int .i64) (.int .i64))], [⟨[], [], [], []⟩]⟩]),
  (5000016, .join [⟨.normal, [6, 7, 8, 14, 17], [5, 11, 12, 13, 105], [.one (.own 0), .one (.own 2), .one (.own 3), .one (.own 4), ak_b], [.rows (.pair (.int .i64) (.int .i64)), .rows (.pair (.int .i64) (.int .i64)), .rows (.pair (.int .i64) (.int .i64)), .rows (.pair (.int .i64) (.int .i64)), .rows (.pair (.int .i64) (.int .i64))], [⟨[], [], [], []⟩]⟩]),
  (5000019, .join [⟨.normal, [6, 7, 8, 14, 17], [5, 11, 12, 13, 129], [.one (.own 0), .one (.own 2), .one (.own 3), .one (.own 4), ak_b], [.rows (.pair (.int .i64) (.int .i64)), .rows (.pair (.int .i64) (.int .i64)), .rows (.pair (.int .i64) (.int .i64)), .rows (.pair (.int .i64) (.int .i64)), .rows (.pair (.int .i64) (.int .i64))], [⟨[], [], [], []⟩]⟩]),
  (21, .join [⟨.ret, [], [4], [ak_b], [.rows (.pair (.int .i64) (.int .i64)), .rows (.pair (.int .i64) (.int .i64)), .rows (.pair (.int .i64) (.int .i64)), .rows (.pair (.int .i64) (.int .i64)), .rows (.pair (.int .i64) (.int .i64))], [⟨[], [], [], []⟩]⟩, ⟨.normal, [6, 7, 8, 14, 17], [5, 11, 12, 13], [.one (.own 0), .one (.own 2), .one (.own 3), .one (.own 4)], [.rows (.pair (.int .i64) (.int .i64)), .rows (.pair (.int .i64) (.int .i64)), .rows (.pair (.int .i64) (.int .i64)), .rows (.pair (.int .i64) (.int .i64)), .rows (.pair (.int .i64) (.int .i64))], [⟨[], [], [], []⟩]⟩]),
  (5000025, .join [⟨.normal, [6, 7, 8, 14, 17], [5, 11, 12, 13, 158], [.one (.own 0), .one (.own 2), .one (.own 3), .one (.own 4), ak_b], [.rows (.pair (.int .i64) (.int .i64)), .rows (.pair (.int .i64) (.int .i64)), .rows (.pair (.int .i64) (.int .i64)), .rows (.pair (.int .i64) (.int .i64)), .rows (.pair (.int .i64) (.int .i64))], [⟨[], [], [], []⟩]⟩]),
  (15, .join [⟨.ret, [], [4], [ak_b], [.rows (.pair (.int .i64) (.int .i64)), .rows (.pair (.int .i64) (.int .i64)), .rows (.pair (.int .i64) (.int .i64)), .rows (.pair (.int .i64) (.int .i64)), .rows (.pair (.int .i64) (.int .i64))], [⟨[], [], [], []⟩]⟩, ⟨.normal, [6, 7, 8, 14, 17], [5, 11, 12, 13], [.one (.own 0), .one (.own 2), .one (.own 3), .one (.own 4)], [.rows (.pair (.int .i64) (.int .i64)), .rows (.pair (.int .i64) (.int .i64)), .rows (.pair (.int .i64) (.int .i64)), .rows (.pair (.int .i64) (.int .i64)), .rows (.pair (.int .i64) (.int .i64))], [⟨[], [], [], []⟩]⟩]),
  (2000014, .loop ⟨.normal, [6, 7, 8, 14], [5, 11, 12, 13, 17], [.one (.own 0), .one (.own 2), .one (.own 3), .one (.own 4), ak_i], [.rows (.pair (.int .i64) (.int .i64)), .rows (.pair (.int .i64) (.int .i64)), .rows (.pair (.int .i64) (.int .i64)), .rows (.pair (.int .i64) (.int .i64)), .rows (.pair (.int .i64) (.int .i64))], [⟨[], [], [], []⟩]⟩ [⟨.ret, [], [4], [ak_b], [.rows (.pair (.int .i64) (.int .i64)), .rows (.pair (.int .i64) (.int .i64)), .rows (.pair (.int .i64) (.int .i64)), .rows (.pair (.int .i64) (.int .i64)), .rows (.pair (.int .i64) (.int .i64))], [⟨[], [], [], []⟩]⟩, ⟨(.exit 0), [], [], [], [.rows (.pair (.int .i64) (.int .i64)), .rows (.pair (.int .i64) (.int .i64)), .rows (.pair (.int .i64) (.int .i64)), .rows (.pair (.int .i64) (.int .i64)), .rows (.pair (.int .i64) (.int .i64))], [⟨[], [], [], []⟩]⟩])]
noncomputable def laws_FnRanges.says (N : Nat) : List Say := [spec_DrawPutNumber.S N, impl_PutNumber_2.S N, spec_PutNumber.SB N, laws_sameRanges.SB N, spec_DrawJoinRanges.S N, impl_JoinRanges.SB N, spec_JoinRanges_2.S N, impl_GoodRanges.S N, impl_GoodRanges.SB N, spec_HasNumber.SB N, impl_HasNumber.S N, impl_HasNumber.SB N]
noncomputable def laws_FnRanges.call (N : Nat) : CallK := callBy (laws_FnRanges.says N)
noncomputable def laws_FnRanges.qt (N : Nat) : FuncId → List PV → Sig → Cl := qtBy (laws_FnRanges.says N)
noncomputable def laws_FnRanges.l0.hd : Alt := ⟨.normal, [6, 7, 8, 14], [5, 11, 12, 13, 17], [.one (.own 0), .one (.own 2), .one (.own 3), .one (.own 4), ak_i], [.rows (.pair (.int .i64) (.int .i64)), .rows (.pair (.int .i64) (.int .i64)), .rows (.pair (.int .i64) (.int .i64)), .rows (.pair (.int .i64) (.int .i64)), .rows (.pair (.int .i64) (.int .i64))], [⟨[], [], [], []⟩]⟩
noncomputable def laws_FnRanges.l0.outs : List Alt := [⟨.ret, [], [4], [ak_b], [.rows (.pair (.int .i64) (.int .i64)), .rows (.pair (.int .i64) (.int .i64)), .rows (.pair (.int .i64) (.int .i64)), .rows (.pair (.int .i64) (.int .i64)), .rows (.pair (.int .i64) (.int .i64))], [⟨[], [], [], []⟩]⟩, ⟨(.exit 0), [], [], [], [.rows (.pair (.int .i64) (.int .i64)), .rows (.pair (.int .i64) (.int .i64)), .rows (.pair (.int .i64) (.int .i64)), .rows (.pair (.int .i64) (.int .i64)), .rows (.pair (.int .i64) (.int .i64))], [⟨[], [], [], []⟩]⟩]
noncomputable def laws_FnRanges.l0 (N : Nat) (e : Int) (t : (List (Int × Int))) (t1 : Bool) (y : Bool) (t17 : Int) (p0 : (List (Int × Int))) (p1 : (List (Int × Int))) (p2 : (List (Int × Int))) (p3 : (List (Int × Int))) (p4 : (List (Int × Int))) : Option (((Bool × Unit) × ((List (Int × Int)) × ((List (Int × Int)) × ((List (Int × Int)) × ((List (Int × Int)) × ((List (Int × Int)) × Unit)))))) ⊕ (Unit × ((List (Int × Int)) × ((List (Int × Int)) × ((List (Int × Int)) × ((List (Int × Int)) × ((List (Int × Int)) × Unit))))))) :=
  loopK Try.prog laws_FnRanges.call laws_FnRanges.qt laws_FnRanges.H (codeAt (bodyOf Try.f6) [1, 1, 1, 1, 1, 1, 1, 1, 1, 1, 0, 1, 0, 0]) 5 laws_FnRanges.l0.hd laws_FnRanges.l0.outs [(6, .v (.int .i64 e)), (7, .rows false (.pair (.int .i64) (.int .i64)) t), (8, .v (.bool t1)), (14, .v (.bool y))] N (((), ((), ((), ((), (t17, ()))))), (p0, (p1, (p2, (p3, (p4, ()))))))
noncomputable def laws_FnRanges (N : Nat) (G : (List Int)) (o : (List Int)) : Option ((Bool × Unit) × Unit) :=
  ofFn Try.prog laws_FnRanges.call laws_FnRanges.qt laws_FnRanges.H N Try.f6 [.one (.sh (.rows (.int .u8))), .one (.sh (.rows (.int .u8)))] [] [ak_b] [] [⟨[], [], [], []⟩] (G, (o, ())) ()
noncomputable def laws_FnRanges.S (N : Nat) : Say := ⟨false, 6, [.one (.sh (.rows (.int .u8))), .one (.sh (.rows (.int .u8)))], [], [ak_b], [], fun a s => laws_FnRanges N a.1 a.2.1⟩
set_option maxRecDepth 100000 in
theorem laws_FnRanges.l0.eq (N : Nat) (e : Int) (t : (List (Int × Int))) (t1 : Bool) (y : Bool) (t17 : Int) (p0 : (List (Int × Int))) (p1 : (List (Int × Int))) (p2 : (List (Int × Int))) (p3 : (List (Int × Int))) (p4 : (List (Int × Int))) : laws_FnRanges.l0 (N + 1) e t t1 y t17 p0 p1 p2 p3 p4 =
 sel (decide (t17 < 45))
  (
  andK (α := (((Bool × Unit) × ((List (Int × Int)) × ((List (Int × Int)) × ((List (Int × Int)) × ((List (Int × Int)) × ((List (Int × Int)) × Unit)))))) ⊕ ((Unit × (Unit × (Unit × (Unit × Unit)))) × ((List (Int × Int)) × ((List (Int × Int)) × ((List (Int × Int)) × ((List (Int × Int)) × ((List (Int × Int)) × Unit)))))))) (
   andK (α := (((Bool × Unit) × ((List (Int × Int)) × ((List (Int × Int)) × ((List (Int × Int)) × ((List (Int × Int)) × ((List (Int × Int)) × Unit)))))) ⊕ ((Unit × (Unit × (Unit × (Unit × Unit)))) × ((List (Int × Int)) × ((List (Int × Int)) × ((List (Int × Int)) × ((List (Int × Int)) × ((List (Int × Int)) × Unit)))))))) (
    andK (α := ((Unit × (Unit × (Unit × (Unit × (Bool × Unit))))) × ((List (Int × Int)) × ((List (Int × Int)) × ((List (Int × Int)) × ((List (Int × Int)) × ((List (Int × Int)) × Unit))))))) (
     sel t1
      (
      some ((((), ((), ((), ((), ((decide ((p0.length : Int) < 20)), ()))))), (p0, (p1, (p2, (p3, (p4, ()))))))))
      (
      some ((((), ((), ((), ((), (false, ()))))), (p0, (p1, (p2, (p3, (p4, ()))))))))) fun j13 =>
    sel j13.1.2.2.2.2.1
     (
     andK (spec_HasNumber N j13.2.1 t17) fun u14 =>
     andK (impl_HasNumber N t t17) fun u15 =>
     andK (α := ((Unit × (Unit × (Unit × (Unit × (Bool × Unit))))) × ((List (Int × Int)) × ((List (Int × Int)) × ((List (Int × Int)) × ((List (Int × Int)) × ((List (Int × Int)) × Unit))))))) (
      sel (!u15.1.2.1)
       (
       some ((((), ((), ((), ((), (true, ()))))), (j13.2.1, (j13.2.2.1, (j13.2.2.2.1, (j13.2.2.2.2.1, (j13.2.2.2.2.2.1, ()))))))))
       (
       sel u14.1.1
        (
        some ((((), ((), ((), ((), ((!(u15.1.1 == true)), ()))))), (j13.2.1, (j13.2.2.1, (j13.2.2.2.1, (j13.2.2.2.2.1, (j13.2.2.2.2.2.1, ()))))))))
        (
        some ((((), ((), ((), ((), ((!(u15.1.1 == (decide (t17 = e)))), ()))))), (j13.2.1, (j13.2.2.1, (j13.2.2.2.1, (j13.2.2.2.2.1, (j13.2.2.2.2.2.1, ())))))))))) fun j16 =>
     sel j16.1.2.2.2.2.1
      (
      some (.inl ((false, ()), (j16.2.1, (j16.2.2.1, (j16.2.2.2.1, (j16.2.2.2.2.1, (j16.2.2.2.2.2.1, ()))))))))
      (
      some (.inr ((((), ((), ((), ((), ())))), (j16.2.1, (j16.2.2.1, (j16.2.2.2.1, (j16.2.2.2.2.1, (j16.2.2.2.2.2.1, ()))))))))))
     (
     some (.inr ((((), ((), ((), ((), ())))), (j13.2.1, (j13.2.2.1, (j13.2.2.2.1, (j13.2.2.2.2.1, (j13.2.2.2.2.2.1, ())))))))))) fun j17 =>
   orK j17 (fun x18 =>
    some (.inl ((x18.1.1, ()), (x18.2.1, (x18.2.2.1, (x18.2.2.2.1, (x18.2.2.2.2.1, (x18.2.2.2.2.2.1, ()))))))))
    (fun x19 =>
    sel y
     (
     andK (spec_HasNumber N x19.2.2.2.1 t17) fun u20 =>
     andK (spec_HasNumber N x19.2.2.2.2.1 t17) fun u21 =>
     andK (impl_HasNumber N x19.2.2.2.2.2.1 t17) fun u22 =>
     andK (α := ((Unit × (Unit × (Unit × (Unit × (Bool × Unit))))) × ((List (Int × Int)) × ((List (Int × Int)) × ((List (Int × Int)) × ((List (Int × Int)) × ((List (Int × Int)) × Unit))))))) (
      sel (!u22.1.2.1)
       (
       some ((((), ((), ((), ((), (true, ()))))), (x19.2.1, (x19.2.2.1, (x19.2.2.2.1, (x19.2.2.2.2.1, (x19.2.2.2.2.2.1, ()))))))))
       (
       sel u20.1.1
        (
        some ((((), ((), ((), ((), ((!(u22.1.1 == true)), ()))))), (x19.2.1, (x19.2.2.1, (x19.2.2.2.1, (x19.2.2.2.2.1, (x19.2.2.2.2.2.1, ()))))))))
        (
        some ((((), ((), ((), ((), ((!(u22.1.1 == u21.1.1)), ()))))), (x19.2.1, (x19.2.2.1, (x19.2.2.2.1, (x19.2.2.2.2.1, (x19.2.2.2.2.2.1, ())))))))))) fun j23 =>
     sel j23.1.2.2.2.2.1
      (
      some (.inl ((false, ()), (j23.2.1, (j23.2.2.1, (j23.2.2.2.1, (j23.2.2.2.2.1, (j23.2.2.2.2.2.1, ()))))))))
      (
      some (.inr ((((), ((), ((), ((), ())))), (j23.2.1, (j23.2.2.1, (j23.2.2.2.1, (j23.2.2.2.2.1, (j23.2.2.2.2.2.1, ()))))))))))
     (
     some (.inr ((((), ((), ((), ((), ())))), (x19.2.1, (x19.2.2.1, (x19.2.2.2.1, (x19.2.2.2.2.1, (x19.2.2.2.2.2.1, ()))))))))))) fun j24 =>
  orK j24 (fun x25 =>
   some (.inl ((x25.1.1, ()), (x25.2.1, (x25.2.2.1, (x25.2.2.2.1, (x25.2.2.2.2.1, (x25.2.2.2.2.2.1, ()))))))))
   (fun x26 =>
   laws_FnRanges.l0 N e t t1 y (IntKind.i64.wrap (t17 + 1)) x26.2.1 x26.2.2.1 x26.2.2.2.1 x26.2.2.2.2.1 x26.2.2.2.2.2.1))
  (
  some (.inr (((), (p0, (p1, (p2, (p3, (p4, ()))))))))) := by kernel_rfl
set_option maxRecDepth 100000 in
theorem laws_FnRanges.eq (N : Nat) (G : (List Int)) (o : (List Int)) : laws_FnRanges N G o =
 sel (decide (1048576 < (IntKind.i64.wrap ((G.length : Int) + (o.length : Int)))))
  (
  some ((true, ()), ()))
  (
  andK (spec_DrawPutNumber N G) fun u1 =>
  andK (impl_PutNumber_2 N u1.1.2.1 u1.2.1) fun u2 =>
  andK (spec_PutNumber N u2.2.1 u1.1.2.1) fun u3 =>
  andK (α := ((Unit × (Bool × Unit)) × ((List (Int × Int)) × ((List (Int × Int)) × Unit)))) (
   sel (!(u2.1.2.1 == u3.1.2.1))
    (
    some ((((), (true, ())), (u2.2.1, (u3.2.1, ())))))
    (
    andK (laws_sameRanges N u2.1.1 u3.2.1) fun u4 =>
    some ((((), ((!u4.1.1), ())), (u2.2.1, (u3.2.1, ())))))) fun j5 =>
  sel j5.1.2.1
   (
   some ((false, ()), ()))
   (
   andK (spec_DrawJoinRanges N o) fun u6 =>
   andK (impl_JoinRanges N u6.2.1 u6.2.2.1) fun u7 =>
   andK (spec_JoinRanges_2 N u6.2.1 u6.2.2.1) fun u8 =>
   andK (α := ((Unit × (Unit × (Unit × (Unit × (Bool × Unit))))) × ((List (Int × Int)) × ((List (Int × Int)) × ((List (Int × Int)) × ((List (Int × Int)) × ((List (Int × Int)) × Unit))))))) (
    sel (!(u7.1.2.1 == u8.1.2.1))
     (
     some ((((), ((), ((), ((), (true, ()))))), (j5.2.1, (j5.2.2.1, (u8.2.1, (u8.2.2.1, (u7.2.1, ()))))))))
     (
     sel u2.1.2.1
      (
      andK (impl_GoodRanges N u2.1.1) fun u9 =>
      sel (!u9.1.1)
       (
       some ((((), ((), ((), ((), (true, ()))))), (j5.2.1, (j5.2.2.1, (u8.2.1, (u8.2.2.1, (u7.2.1, ()))))))))
       (
       sel u7.1.2.1
        (
        andK (impl_GoodRanges N u7.2.1) fun u10 =>
        some ((((), ((), ((), ((), ((!u10.1.1), ()))))), (j5.2.1, (j5.2.2.1, (u8.2.1, (u8.2.2.1, (u7.2.1, ()))))))))
        (
        some ((((), ((), ((), ((), (false, ()))))), (j5.2.1, (j5.2.2.1, (u8.2.1, (u8.2.2.1, (u7.2.1, ()))))))))))
      (
      sel u7.1.2.1
       (
       andK (impl_GoodRanges N u7.2.1) fun u11 =>
       some ((((), ((), ((), ((), ((!u11.1.1), ()))))), (j5.2.1, (j5.2.2.1, (u8.2.1, (u8.2.2.1, (u7.2.1, ()))))))))
       (
       some ((((), ((), ((), ((), (false, ()))))), (j5.2.1, (j5.2.2.1, (u8.2.1, (u8.2.2.1, (u7.2.1, ()))))))))))) fun j12 =>
   sel j12.1.2.2.2.2.1
    (
    some ((false, ()), ()))
    (
    andK (laws_FnRanges.l0 N u1.1.2.1 u2.1.1 u2.1.2.1 u7.1.2.1 0 j12.2.1 j12.2.2.1 j12.2.2.2.1 j12.2.2.2.2.1 j12.2.2.2.2.2.1) fun l27 =>
    orK l27 (fun x28 =>
     some ((x28.1.1, ()), ()))
     (fun x29 =>
     some ((true, ()), ()))))) := by kernel_rfl
set_option maxRecDepth 100000 in
theorem laws_FnRanges.say (N : Nat) : SayOk Try.prog (laws_FnRanges.S N) := sayOk_mk (N := N) (H := laws_FnRanges.H) (preps := [⟨[], [], [], []⟩]) (l := laws_FnRanges.says) (fn := Try.f6) (c := bodyOf Try.f6)
  (by kernel_rfl) (by kernel_rfl) (by kernel_rfl) (by kernel_rfl) (by kernel_rfl) (by kernel_rfl) (by kernel_rfl)
  (fun N => SayAll.cons (spec_DrawPutNumber.say N) (SayAll.cons (impl_PutNumber_2.say N) (SayAll.cons (spec_PutNumber.sayB N) (SayAll.cons (laws_sameRanges.sayB N) (SayAll.cons (spec_DrawJoinRanges.say N) (SayAll.cons (impl_JoinRanges.sayB N) (SayAll.cons (spec_JoinRanges_2.say N) (SayAll.cons (impl_GoodRanges.say N) (SayAll.cons (impl_GoodRanges.sayB N) (SayAll.cons (spec_HasNumber.sayB N) (SayAll.cons (impl_HasNumber.say N) (SayAll.cons (impl_HasNumber.sayB N) (SayAll.nil))))))))))))) (fun a s => by kernel_rfl)

end Go.Proofs.Ytbfkfhadcmpndaa.GFnRanges
