-- Written by a program of this session out of the translation; Lean checks it.
import Derived.Test.YthkjjombaoffcaaDoorPmLaw
import Derived.Test.YthkjjombaoffcaaDoorProg
import Derived.Test.YthkjjombaoffcaaDoorTrim
set_option linter.unusedVariables false
namespace Go.Proofs.YthkjjombaoffcaaDoor.GFnFields
open Go Go.Proofs Go.Proofs.YthkjjombaoffcaaDoorPM

/-! ### (*loop.example/g00206/spec.l1Cur).next: function 78 -/
noncomputable def spec_l1Cur_next.H : Hints := hintsOf [(4, .join [⟨.normal, [], [0, 3], [.one (.ptr 0 0), ak_i], [.cells [.sh (.rows (.int .u8)), ck_i, .sh (.int .u64)]], [⟨[], [], [], []⟩]⟩])]
noncomputable def spec_l1Cur_next.says (N : Nat) : List Say := []
noncomputable def spec_l1Cur_next.call (N : Nat) : CallK := callBy (spec_l1Cur_next.says N)
noncomputable def spec_l1Cur_next.qt (N : Nat) : FuncId → List PV → Sig → Cl := qtBy (spec_l1Cur_next.says N)
noncomputable def spec_l1Cur_next (N : Nat) (p0_0 : (List Int)) (p0_1 : Int) (p0_2 : Int) : Option ((Int × Unit) × (((List Int) × (Int × (Int × Unit))) × Unit)) :=
  ofFn Tryd.prog spec_l1Cur_next.call spec_l1Cur_next.qt spec_l1Cur_next.H N Tryd.f78 [.one (.ptr 0 0)] [.cells [.sh (.rows (.int .u8)), ck_i, .sh (.int .u64)]] [ak_i] [.cells [.sh (.rows (.int .u8)), ck_i, .sh (.int .u64)]] [⟨[], [], [], []⟩] ((), ()) ((p0_0, (p0_1, (p0_2, ()))), ())
noncomputable def spec_l1Cur_next.S (N : Nat) : Say := ⟨false, 78, [.one (.ptr 0 0)], [.cells [.sh (.rows (.int .u8)), ck_i, .sh (.int .u64)]], [ak_i], [.cells [.sh (.rows (.int .u8)), ck_i, .sh (.int .u64)]], fun a s => spec_l1Cur_next N s.1.1 s.1.2.1 s.1.2.2.1⟩
set_option maxRecDepth 100000 in
theorem spec_l1Cur_next.eq (N : Nat) (p0_0 : (List Int)) (p0_1 : Int) (p0_2 : Int) : spec_l1Cur_next N p0_0 p0_1 p0_2 =
 andK (α := ((Unit × (Int × Unit)) × (((List Int) × (Int × (Int × Unit))) × Unit))) (
  sel (decide (p0_1 < (p0_0.length : Int)))
   (
   chk ((decide (0 ≤ p0_1)) && (decide (p0_1 < (p0_0.length : Int)))) (
   some ((((), ((IntKind.i64.wrap (p0_0.getD (Int.toNat p0_1) 0)), ())), ((p0_0, (p0_1, (p0_2, ()))), ())))))
   (
   some ((((), (0, ())), ((p0_0, (p0_1, (p0_2, ()))), ()))))) fun j1 =>
 sel (decide ((IntKind.i64.wrap (j1.2.1.2.1 + 1)) ≤ (j1.2.1.1.length : Int)))
  (
  some ((j1.1.2.1, ()), ((j1.2.1.1, ((IntKind.i64.wrap (j1.2.1.2.1 + 1)), ((IntKind.u64.wrap ((IntKind.u64.wrap ((IntKind.u64.wrap (j1.2.1.2.2.1 * 6364136223846793005)) + (IntKind.u64.wrap j1.1.2.1))) + 1442695040888963407)), ()))), ())))
  (
  some (((IntKind.i64.wrap (Go.bits .and .u64 (shrI .u64 (IntKind.u64.wrap ((IntKind.u64.wrap ((IntKind.u64.wrap (j1.2.1.2.2.1 * 6364136223846793005)) + (IntKind.u64.wrap j1.1.2.1))) + 1442695040888963407)) 40) 255)), ()), ((j1.2.1.1, ((IntKind.i64.wrap (j1.2.1.2.1 + 1)), ((IntKind.u64.wrap ((IntKind.u64.wrap ((IntKind.u64.wrap (j1.2.1.2.2.1 * 6364136223846793005)) + (IntKind.u64.wrap j1.1.2.1))) + 1442695040888963407)), ()))), ()))) := by kernel_rfl
set_option maxRecDepth 100000 in
theorem spec_l1Cur_next.say (N : Nat) : SayOk Tryd.prog (spec_l1Cur_next.S N) := sayOk_mk (N := N) (H := spec_l1Cur_next.H) (preps := [⟨[], [], [], []⟩]) (l := spec_l1Cur_next.says) (fn := Tryd.f78) (c := bodyOf Tryd.f78)
  (by kernel_rfl) (by kernel_rfl) (by kernel_rfl) (by kernel_rfl) (by kernel_rfl) (by kernel_rfl) (by kernel_rfl)
  (fun N => SayAll.nil) (fun a s => by kernel_rfl)

/-! ### (*loop.example/g00206/spec.l1Cur).pick: function 53 -/
noncomputable def spec_l1Cur_pick.H : Hints := hintsOf []
noncomputable def spec_l1Cur_pick.says (N : Nat) : List Say := [spec_l1Cur_next.S N]
noncomputable def spec_l1Cur_pick.call (N : Nat) : CallK := callBy (spec_l1Cur_pick.says N)
noncomputable def spec_l1Cur_pick.qt (N : Nat) : FuncId → List PV → Sig → Cl := qtBy (spec_l1Cur_pick.says N)
noncomputable def spec_l1Cur_pick (N : Nat) (n : Int) (p0_0 : (List Int)) (p0_1 : Int) (p0_2 : Int) : Option ((Int × Unit) × (((List Int) × (Int × (Int × Unit))) × Unit)) :=
  ofFn Tryd.prog spec_l1Cur_pick.call spec_l1Cur_pick.qt spec_l1Cur_pick.H N Tryd.f53 [.one (.ptr 0 0), ak_i] [.cells [.sh (.rows (.int .u8)), ck_i, .sh (.int .u64)]] [ak_i] [.cells [.sh (.rows (.int .u8)), ck_i, .sh (.int .u64)]] [⟨[], [], [], []⟩] ((), (n, ())) ((p0_0, (p0_1, (p0_2, ()))), ())
noncomputable def spec_l1Cur_pick.S (N : Nat) : Say := ⟨false, 53, [.one (.ptr 0 0), ak_i], [.cells [.sh (.rows (.int .u8)), ck_i, .sh (.int .u64)]], [ak_i], [.cells [.sh (.rows (.int .u8)), ck_i, .sh (.int .u64)]], fun a s => spec_l1Cur_pick N a.2.1 s.1.1 s.1.2.1 s.1.2.2.1⟩
set_option maxRecDepth 100000 in
theorem spec_l1Cur_pick.eq (N : Nat) (n : Int) (p0_0 : (List Int)) (p0_1 : Int) (p0_2 : Int) : spec_l1Cur_pick N n p0_0 p0_1 p0_2 =
 sel (decide (n ≤ 1))
  (
  some ((0, ()), ((p0_0, (p0_1, (p0_2, ()))), ())))
  (
  andK (spec_l1Cur_next N p0_0 p0_1 p0_2) fun u1 =>
  sel (decide (200 < n))
   (
   andK (spec_l1Cur_next N u1.2.1.1 u1.2.1.2.1 u1.2.1.2.2.1) fun u2 =>
   chk (n != 0) (
   some (((Int.tmod (IntKind.i64.wrap ((IntKind.i64.wrap (u1.1.1 * 256)) + u2.1.1)) n), ()), ((u2.2.1.1, (u2.2.1.2.1, (u2.2.1.2.2.1, ()))), ()))))
   (
   chk (n != 0) (
   some (((Int.tmod u1.1.1 n), ()), ((u1.2.1.1, (u1.2.1.2.1, (u1.2.1.2.2.1, ()))), ()))))) := by kernel_rfl
set_option maxRecDepth 100000 in
theorem spec_l1Cur_pick.say (N : Nat) : SayOk Tryd.prog (spec_l1Cur_pick.S N) := sayOk_mk (N := N) (H := spec_l1Cur_pick.H) (preps := [⟨[], [], [], []⟩]) (l := spec_l1Cur_pick.says) (fn := Tryd.f53) (c := bodyOf Tryd.f53)
  (by kernel_rfl) (by kernel_rfl) (by kernel_rfl) (by kernel_rfl) (by kernel_rfl) (by kernel_rfl) (by kernel_rfl)
  (fun N => SayAll.cons (spec_l1Cur_next.say N) (SayAll.nil)) (fun a s => by kernel_rfl)

/-! ### (*loop.example/g00206/spec.l1Cur).one: function 51 -/
noncomputable def spec_l1Cur_one.H : Hints := hintsOf []
noncomputable def spec_l1Cur_one.says (N : Nat) : List Say := [spec_l1Cur_pick.S N]
noncomputable def spec_l1Cur_one.call (N : Nat) : CallK := callBy (spec_l1Cur_one.says N)
noncomputable def spec_l1Cur_one.qt (N : Nat) : FuncId → List PV → Sig → Cl := qtBy (spec_l1Cur_one.says N)
noncomputable def spec_l1Cur_one (N : Nat) (n : Int) (p0_0 : (List Int)) (p0_1 : Int) (p0_2 : Int) : Option ((Bool × Unit) × (((List Int) × (Int × (Int × Unit))) × Unit)) :=
  ofFn Tryd.prog spec_l1Cur_one.call spec_l1Cur_one.qt spec_l1Cur_one.H N Tryd.f51 [.one (.ptr 0 0), ak_i] [.cells [.sh (.rows (.int .u8)), ck_i, .sh (.int .u64)]] [ak_b] [.cells [.sh (.rows (.int .u8)), ck_i, .sh (.int .u64)]] [⟨[], [], [], []⟩] ((), (n, ())) ((p0_0, (p0_1, (p0_2, ()))), ())
noncomputable def spec_l1Cur_one.S (N : Nat) : Say := ⟨false, 51, [.one (.ptr 0 0), ak_i], [.cells [.sh (.rows (.int .u8)), ck_i, .sh (.int .u64)]], [ak_b], [.cells [.sh (.rows (.int .u8)), ck_i, .sh (.int .u64)]], fun a s => spec_l1Cur_one N a.2.1 s.1.1 s.1.2.1 s.1.2.2.1⟩
set_option maxRecDepth 100000 in
theorem spec_l1Cur_one.eq (N : Nat) (n : Int) (p0_0 : (List Int)) (p0_1 : Int) (p0_2 : Int) : spec_l1Cur_one N n p0_0 p0_1 p0_2 =
 andK (spec_l1Cur_pick N n p0_0 p0_1 p0_2) fun u1 =>
 some (((decide (u1.1.1 = 0)), ()), ((u1.2.1.1, (u1.2.1.2.1, (u1.2.1.2.2.1, ()))), ())) := by kernel_rfl
set_option maxRecDepth 100000 in
theorem spec_l1Cur_one.say (N : Nat) : SayOk Tryd.prog (spec_l1Cur_one.S N) := sayOk_mk (N := N) (H := spec_l1Cur_one.H) (preps := [⟨[], [], [], []⟩]) (l := spec_l1Cur_one.says) (fn := Tryd.f51) (c := bodyOf Tryd.f51)
  (by kernel_rfl) (by kernel_rfl) (by kernel_rfl) (by kernel_rfl) (by kernel_rfl) (by kernel_rfl) (by kernel_rfl)
  (fun N => SayAll.cons (spec_l1Cur_pick.say N) (SayAll.nil)) (fun a s => by kernel_rfl)

/-! ### loop.example/g00206/spec.l15Static: function 47 -/
noncomputable def spec_l15Static.H : Hints := hintsOf []
noncomputable def spec_l15Static.says (N : Nat) : List Say := []
noncomputable def spec_l15Static.call (N : Nat) : CallK := callBy (spec_l15Static.says N)
noncomputable def spec_l15Static.qt (N : Nat) : FuncId → List PV → Sig → Cl := qtBy (spec_l15Static.says N)
noncomputable def spec_l15Static (N : Nat) : Option (((List (ByteArray × ByteArray)) × Unit) × Unit) :=
  ofFn Tryd.prog spec_l15Static.call spec_l15Static.qt spec_l15Static.H N Tryd.f47 [] [] [.one (.sh (.rows (.pair .str .str)))] [] [⟨[], [], [], []⟩] () ()
noncomputable def spec_l15Static.S (N : Nat) : Say := ⟨false, 47, [], [], [.one (.sh (.rows (.pair .str .str)))], [], fun a s => spec_l15Static N⟩
set_option maxRecDepth 100000 in
theorem spec_l15Static.eq (N : Nat) : spec_l15Static N =
 some (([((⟨#[58, 97, 117, 116, 104, 111, 114, 105, 116, 121]⟩ : ByteArray), (⟨#[]⟩ : ByteArray)), ((⟨#[58, 112, 97, 116, 104]⟩ : ByteArray), (⟨#[47]⟩ : ByteArray)), ((⟨#[58, 109, 101, 116, 104, 111, 100]⟩ : ByteArray), (⟨#[67, 79, 78, 78, 69, 67, 84]⟩ : ByteArray)), ((⟨#[58, 109, 101, 116, 104, 111, 100]⟩ : ByteArray), (⟨#[71, 69, 84]⟩ : ByteArray)), ((⟨#[58, 109, 101, 116, 104, 111, 100]⟩ : ByteArray), (⟨#[80, 79, 83, 84]⟩ : ByteArray)), ((⟨#[58, 115, 99, 104, 101, 109, 101]⟩ : ByteArray), (⟨#[104, 116, 116, 112]⟩ : ByteArray)), ((⟨#[58, 115, 99, 104, 101, 109, 101]⟩ : ByteArray), (⟨#[104, 116, 116, 112, 115]⟩ : ByteArray)), ((⟨#[58, 115, 116, 97, 116, 117, 115]⟩ : ByteArray), (⟨#[50, 48, 48]⟩ : ByteArray)), ((⟨#[58, 115, 116, 97, 116, 117, 115]⟩ : ByteArray), (⟨#[52, 48, 52]⟩ : ByteArray)), ((⟨#[58, 115, 116, 97, 116, 117, 115]⟩ : ByteArray), (⟨#[53, 48, 51]⟩ : ByteArray)), ((⟨#[58, 112, 114, 111, 116, 111, 99, 111, 108]⟩ : ByteArray), (⟨#[99, 111, 110, 110, 101, 99, 116, 45, 117, 100, 112]⟩ : ByteArray)), ((⟨#[99, 97, 112, 115, 117, 108, 101, 45, 112, 114, 111, 116, 111, 99, 111, 108]⟩ : ByteArray), (⟨#[63, 49]⟩ : ByteArray)), ((⟨#[99, 111, 110, 116, 101, 110, 116, 45, 108, 101, 110, 103, 116, 104]⟩ : ByteArray), (⟨#[48]⟩ : ByteArray)), ((⟨#[100, 97, 116, 101]⟩ : ByteArray), (⟨#[]⟩ : ByteArray)), ((⟨#[117, 115, 101, 114, 45, 97, 103, 101, 110, 116]⟩ : ByteArray), (⟨#[]⟩ : ByteArray)), ((⟨#[97, 99, 99, 101, 112, 116]⟩ : ByteArray), (⟨#[42, 47, 42]⟩ : ByteArray))], ()), ()) := by kernel_rfl
set_option maxRecDepth 100000 in
theorem spec_l15Static.say (N : Nat) : SayOk Tryd.prog (spec_l15Static.S N) := sayOk_mk (N := N) (H := spec_l15Static.H) (preps := [⟨[], [], [], []⟩]) (l := spec_l15Static.says) (fn := Tryd.f47) (c := bodyOf Tryd.f47)
  (by kernel_rfl) (by kernel_rfl) (by kernel_rfl) (by kernel_rfl) (by kernel_rfl) (by kernel_rfl) (by kernel_rfl)
  (fun N => SayAll.nil) (fun a s => by kernel_rfl)

/-! ### (*loop.example/g00206/spec.l1Cur).of: function 52 -/
noncomputable def spec_l1Cur_of.H : Hints := hintsOf []
noncomputable def spec_l1Cur_of.says (N : Nat) : List Say := [spec_l1Cur_pick.S N]
noncomputable def spec_l1Cur_of.call (N : Nat) : CallK := callBy (spec_l1Cur_of.says N)
noncomputable def spec_l1Cur_of.qt (N : Nat) : FuncId → List PV → Sig → Cl := qtBy (spec_l1Cur_of.says N)
noncomputable def spec_l1Cur_of (N : Nat) (list : (List ByteArray)) (p0_0 : (List Int)) (p0_1 : Int) (p0_2 : Int) : Option ((ByteArray × Unit) × (((List Int) × (Int × (Int × Unit))) × Unit)) :=
  ofFn Tryd.prog spec_l1Cur_of.call spec_l1Cur_of.qt spec_l1Cur_of.H N Tryd.f52 [.one (.ptr 0 0), .one (.sh (.rows .str))] [.cells [.sh (.rows (.int .u8)), ck_i, .sh (.int .u64)]] [ak_s] [.cells [.sh (.rows (.int .u8)), ck_i, .sh (.int .u64)]] [⟨[], [], [], []⟩] ((), (list, ())) ((p0_0, (p0_1, (p0_2, ()))), ())
noncomputable def spec_l1Cur_of.S (N : Nat) : Say := ⟨false, 52, [.one (.ptr 0 0), .one (.sh (.rows .str))], [.cells [.sh (.rows (.int .u8)), ck_i, .sh (.int .u64)]], [ak_s], [.cells [.sh (.rows (.int .u8)), ck_i, .sh (.int .u64)]], fun a s => spec_l1Cur_of N a.2.1 s.1.1 s.1.2.1 s.1.2.2.1⟩
set_option maxRecDepth 100000 in
theorem spec_l1Cur_of.eq (N : Nat) (list : (List ByteArray)) (p0_0 : (List Int)) (p0_1 : Int) (p0_2 : Int) : spec_l1Cur_of N list p0_0 p0_1 p0_2 =
 andK (spec_l1Cur_pick N (list.length : Int) p0_0 p0_1 p0_2) fun u1 =>
 chk ((decide (0 ≤ u1.1.1)) && (decide (u1.1.1 < (list.length : Int)))) (
 some (((list.getD (Int.toNat u1.1.1) (⟨#[]⟩ : ByteArray)), ()), ((u1.2.1.1, (u1.2.1.2.1, (u1.2.1.2.2.1, ()))), ()))) := by kernel_rfl
set_option maxRecDepth 100000 in
theorem spec_l1Cur_of.say (N : Nat) : SayOk Tryd.prog (spec_l1Cur_of.S N) := sayOk_mk (N := N) (H := spec_l1Cur_of.H) (preps := [⟨[], [], [], []⟩]) (l := spec_l1Cur_of.says) (fn := Tryd.f52) (c := bodyOf Tryd.f52)
  (by kernel_rfl) (by kernel_rfl) (by kernel_rfl) (by kernel_rfl) (by kernel_rfl) (by kernel_rfl) (by kernel_rfl)
  (fun N => SayAll.cons (spec_l1Cur_pick.say N) (SayAll.nil)) (fun a s => by kernel_rfl)

/-! ### (*loop.example/g00206/spec.l1Cur).field: function 91 -/
noncomputable def spec_l1Cur_field.H : Hints := hintsOf [(5, .join [⟨.normal, [], [2, 3], [.one (.ptr 1 0), .one (.ptr 2 0)], [.cells [.sh (.rows (.int .u8)), ck_i, .sh (.int .u64)], .cells [ck_s, ck_s], .cells [ck_s, ck_s]], [⟨[], [], [], []⟩]⟩]),
  (2000015, .loop ⟨.normal, [48], [2, 4, 5, 49], [.one (.ptr 1 0), .one (.ptr 2 0), .one (.own 3), ak_i], [.cells [.sh (.rows (.int .u8)), ck_i, .sh (.int .u64)], .cells [ck_s, ck_s], .cells [ck_s, ck_s], .rows (.int .u8)], [⟨[], [], [], []⟩]⟩ [⟨(.exit 1), [], [2, 4, 5], [.one (.ptr 1 0), .one (.ptr 2 0), .one (.own 3)], [.cells [.sh (.rows (.int .u8)), ck_i, .sh (.int .u64)], .cells [ck_s, ck_s], .cells [ck_s, ck_s], .rows (.int .u8)], [⟨[], [], [], []⟩]⟩])]
noncomputable def spec_l1Cur_field.says (N : Nat) : List Say := [spec_l1Cur_one.S N, spec_l15Static.S N, spec_l1Cur_pick.S N, spec_l1Cur_of.S N]
noncomputable def spec_l1Cur_field.call (N : Nat) : CallK := callBy (spec_l1Cur_field.says N)
noncomputable def spec_l1Cur_field.qt (N : Nat) : FuncId → List PV → Sig → Cl := qtBy (spec_l1Cur_field.says N)
noncomputable def spec_l1Cur_field.l0.hd : Alt := ⟨.normal, [48], [2, 4, 5, 49], [.one (.ptr 1 0), .one (.ptr 2 0), .one (.own 3), ak_i], [.cells [.sh (.rows (.int .u8)), ck_i, .sh (.int .u64)], .cells [ck_s, ck_s], .cells [ck_s, ck_s], .rows (.int .u8)], [⟨[], [], [], []⟩]⟩
noncomputable def spec_l1Cur_field.l0.outs : List Alt := [⟨(.exit 1), [], [2, 4, 5], [.one (.ptr 1 0), .one (.ptr 2 0), .one (.own 3)], [.cells [.sh (.rows (.int .u8)), ck_i, .sh (.int .u64)], .cells [ck_s, ck_s], .cells [ck_s, ck_s], .rows (.int .u8)], [⟨[], [], [], []⟩]⟩]
noncomputable def spec_l1Cur_field.l0 (N : Nat) (t48 : Int) (t49 : Int) (p0_01 : (List Int)) (p0_11 : Int) (p0_21 : Int) (p1_0 : ByteArray) (p1_1 : ByteArray) (p2_0 : ByteArray) (p2_1 : ByteArray) (p3 : (List Int)) : Option ((Unit × (Unit × (Unit × Unit))) × (((List Int) × (Int × (Int × Unit))) × ((ByteArray × (ByteArray × Unit)) × ((ByteArray × (ByteArray × Unit)) × ((List Int) × Unit))))) :=
  loopK Tryd.prog spec_l1Cur_field.call spec_l1Cur_field.qt spec_l1Cur_field.H (codeAt (bodyOf Tryd.f91) [1, 1, 1, 0, 1, 0, 1, 1, 1, 1, 1, 0, 1, 0, 1, 0, 0]) 4 spec_l1Cur_field.l0.hd spec_l1Cur_field.l0.outs [(48, .v (.int .i64 t48))] N (((), ((), ((), (t49, ())))), ((p0_01, (p0_11, (p0_21, ()))), ((p1_0, (p1_1, ())), ((p2_0, (p2_1, ())), (p3, ())))))
noncomputable def spec_l1Cur_field (N : Nat) (p0_0 : (List Int)) (p0_1 : Int) (p0_2 : Int) : Option (((ByteArray × (ByteArray × Unit)) × Unit) × (((List Int) × (Int × (Int × Unit))) × Unit)) :=
  ofFn Tryd.prog spec_l1Cur_field.call spec_l1Cur_field.qt spec_l1Cur_field.H N Tryd.f91 [.one (.ptr 0 0)] [.cells [.sh (.rows (.int .u8)), ck_i, .sh (.int .u64)]] [.agg [ck_s, ck_s]] [.cells [.sh (.rows (.int .u8)), ck_i, .sh (.int .u64)]] [⟨[], [], [], []⟩] ((), ()) ((p0_0, (p0_1, (p0_2, ()))), ())
noncomputable def spec_l1Cur_field.S (N : Nat) : Say := ⟨false, 91, [.one (.ptr 0 0)], [.cells [.sh (.rows (.int .u8)), ck_i, .sh (.int .u64)]], [.agg [ck_s, ck_s]], [.cells [.sh (.rows (.int .u8)), ck_i, .sh (.int .u64)]], fun a s => spec_l1Cur_field N s.1.1 s.1.2.1 s.1.2.2.1⟩
set_option maxRecDepth 100000 in
theorem spec_l1Cur_field.l0.eq (N : Nat) (t48 : Int) (t49 : Int) (p0_01 : (List Int)) (p0_11 : Int) (p0_21 : Int) (p1_0 : ByteArray) (p1_1 : ByteArray) (p2_0 : ByteArray) (p2_1 : ByteArray) (p3 : (List Int)) : spec_l1Cur_field.l0 (N + 1) t48 t49 p0_01 p0_11 p0_21 p1_0 p1_1 p2_0 p2_1 p3 =
 sel (decide (t49 < t48))
  (
  chk ((decide (0 ≤ t49)) && (decide (t49 < (p3.length : Int)))) (
  spec_l1Cur_field.l0 N t48 (IntKind.i64.wrap (t49 + 1)) p0_01 p0_11 p0_21 p1_0 p1_1 p2_0 p2_1 (p3.set (Int.toNat t49) 97)))
  (
  some ((((), ((), ((), ()))), ((p0_01, (p0_11, (p0_21, ()))), ((p1_0, (p1_1, ())), ((p2_0, (p2_1, ())), (p3, ()))))))) := by kernel_rfl
set_option maxRecDepth 100000 in
theorem spec_l1Cur_field.eq (N : Nat) (p0_0 : (List Int)) (p0_1 : Int) (p0_2 : Int) : spec_l1Cur_field N p0_0 p0_1 p0_2 =
 andK (spec_l1Cur_one N 2 p0_0 p0_1 p0_2) fun u1 =>
 sel u1.1.1
  (
  andK (spec_l15Static N) fun u2 =>
  andK (spec_l1Cur_pick N 16 u1.2.1.1 u1.2.1.2.1 u1.2.1.2.2.1) fun u3 =>
  chk ((decide (0 ≤ u3.1.1)) && (decide (u3.1.1 < (u2.1.1.length : Int)))) (
  andK (α := ((Unit × (Unit × Unit)) × (((List Int) × (Int × (Int × Unit))) × ((ByteArray × (ByteArray × Unit)) × ((ByteArray × (ByteArray × Unit)) × Unit))))) (
   andK (spec_l1Cur_one N 2 u3.2.1.1 u3.2.1.2.1 u3.2.1.2.2.1) fun u4 =>
   sel u4.1.1
    (
    andK (spec_l1Cur_of N [(⟨#[]⟩ : ByteArray), (⟨#[120]⟩ : ByteArray), (⟨#[118, 97, 108, 117, 101, 32, 111, 110, 101]⟩ : ByteArray)] u4.2.1.1 u4.2.1.2.1 u4.2.1.2.2.1) fun u5 =>
    some ((((), ((), ())), ((u5.2.1.1, (u5.2.1.2.1, (u5.2.1.2.2.1, ()))), (((⟨#[]⟩ : ByteArray), ((⟨#[]⟩ : ByteArray), ())), (((rdS (.pair .str .str) u2.1.1 (Int.toNat u3.1.1)).1, (u5.1.1, ())), ()))))))
    (
    some ((((), ((), ())), ((u4.2.1.1, (u4.2.1.2.1, (u4.2.1.2.2.1, ()))), (((⟨#[]⟩ : ByteArray), ((⟨#[]⟩ : ByteArray), ())), (((rdS (.pair .str .str) u2.1.1 (Int.toNat u3.1.1)).1, ((rdS (.pair .str .str) u2.1.1 (Int.toNat u3.1.1)).2, ())), ()))))))) fun j6 =>
  some (((j6.2.2.2.1.1, (j6.2.2.2.1.2.1, ())), ()), ((j6.2.1.1, (j6.2.1.2.1, (j6.2.1.2.2.1, ()))), ()))))
  (
  andK (spec_l1Cur_of N [(⟨#[120]⟩ : ByteArray), (⟨#[110, 97, 109, 101, 45, 116, 119, 111]⟩ : ByteArray), (⟨#[58, 111, 116, 104, 101, 114]⟩ : ByteArray), (⟨#[108, 111, 110, 103, 101, 114, 45, 110, 97, 109, 101, 45, 104, 101, 114, 101]⟩ : ByteArray)] u1.2.1.1 u1.2.1.2.1 u1.2.1.2.2.1) fun u7 =>
  andK (spec_l1Cur_of N [(⟨#[]⟩ : ByteArray), (⟨#[118]⟩ : ByteArray), (⟨#[118, 97, 108, 117, 101]⟩ : ByteArray)] u7.2.1.1 u7.2.1.2.1 u7.2.1.2.2.1) fun u8 =>
  andK (spec_l1Cur_pick N 30 u8.2.1.1 u8.2.1.2.1 u8.2.1.2.2.1) fun u9 =>
  sel (decide (u9.1.1 = 0))
   (
   andK (spec_l1Cur_of N [(⟨#[]⟩ : ByteArray), (⟨#[65]⟩ : ByteArray), (⟨#[97, 58, 98]⟩ : ByteArray)] u9.2.1.1 u9.2.1.2.1 u9.2.1.2.2.1) fun u10 =>
   some (((u10.1.1, (u8.1.1, ())), ()), ((u10.2.1.1, (u10.2.1.2.1, (u10.2.1.2.2.1, ()))), ())))
   (
   sel (decide (u9.1.1 = 1))
    (
    some (((u7.1.1, ((strL (List.replicate 3 (0 : Int))), ())), ()), ((u9.2.1.1, (u9.2.1.2.1, (u9.2.1.2.2.1, ()))), ())))
    (
    sel (decide (u9.1.1 = 2))
     (
     andK (spec_l1Cur_pick N 2 u9.2.1.1 u9.2.1.2.1 u9.2.1.2.2.1) fun u11 =>
     chk ((decide (0 ≤ (IntKind.i64.wrap (100 + u11.1.1)))) && ((smallI (IntKind.i64.wrap (100 + u11.1.1))) && (decide ((IntKind.i64.wrap (100 + u11.1.1)) = (IntKind.i64.wrap (100 + u11.1.1)))))) (
     andK (spec_l1Cur_field.l0 N ((List.replicate (Int.toNat (IntKind.i64.wrap (100 + u11.1.1))) (0 : Int)).length : Int) 0 u11.2.1.1 u11.2.1.2.1 u11.2.1.2.2.1 (⟨#[]⟩ : ByteArray) (⟨#[]⟩ : ByteArray) u7.1.1 u8.1.1 (List.replicate (Int.toNat (IntKind.i64.wrap (100 + u11.1.1))) (0 : Int))) fun l12 =>
     some (((l12.2.2.2.1.1, ((strL l12.2.2.2.2.1), ())), ()), ((l12.2.1.1, (l12.2.1.2.1, (l12.2.1.2.2.1, ()))), ()))))
     (
     some (((u7.1.1, (u8.1.1, ())), ()), ((u9.2.1.1, (u9.2.1.2.1, (u9.2.1.2.2.1, ()))), ())))))) := by kernel_rfl
set_option maxRecDepth 100000 in
theorem spec_l1Cur_field.say (N : Nat) : SayOk Tryd.prog (spec_l1Cur_field.S N) := sayOk_mk (N := N) (H := spec_l1Cur_field.H) (preps := [⟨[], [], [], []⟩]) (l := spec_l1Cur_field.says) (fn := Tryd.f91) (c := bodyOf Tryd.f91)
  (by kernel_rfl) (by kernel_rfl) (by kernel_rfl) (by kernel_rfl) (by kernel_rfl) (by kernel_rfl) (by kernel_rfl)
  (fun N => SayAll.cons (spec_l1Cur_one.say N) (SayAll.cons (spec_l15Static.say N) (SayAll.cons (spec_l1Cur_pick.say N) (SayAll.cons (spec_l1Cur_of.say N) (SayAll.nil))))) (fun a s => by kernel_rfl)

/-! ### loop.example/g00206/spec.l1In: function 46 -/
noncomputable def spec_l1In.H : Hints := hintsOf []
noncomputable def spec_l1In.says (N : Nat) : List Say := []
noncomputable def spec_l1In.call (N : Nat) : CallK := callBy (spec_l1In.says N)
noncomputable def spec_l1In.qt (N : Nat) : FuncId → List PV → Sig → Cl := qtBy (spec_l1In.says N)
noncomputable def spec_l1In (N : Nat) (n : Int) (lo : Int) (hi : Int) : Option ((Bool × Unit) × Unit) :=
  ofFn Tryd.prog spec_l1In.call spec_l1In.qt spec_l1In.H N Tryd.f46 [ak_i, ak_i, ak_i] [] [ak_b] [] [⟨[], [], [], []⟩] (n, (lo, (hi, ()))) ()
noncomputable def spec_l1In.S (N : Nat) : Say := ⟨false, 46, [ak_i, ak_i, ak_i], [], [ak_b], [], fun a s => spec_l1In N a.1 a.2.1 a.2.2.1⟩
set_option maxRecDepth 100000 in
theorem spec_l1In.eq (N : Nat) (n : Int) (lo : Int) (hi : Int) : spec_l1In N n lo hi =
 sel (decide (lo ≤ n))
  (
  some (((decide (n ≤ hi)), ()), ()))
  (
  some ((false, ()), ())) := by kernel_rfl
set_option maxRecDepth 100000 in
theorem spec_l1In.say (N : Nat) : SayOk Tryd.prog (spec_l1In.S N) := sayOk_mk (N := N) (H := spec_l1In.H) (preps := [⟨[], [], [], []⟩]) (l := spec_l1In.says) (fn := Tryd.f46) (c := bodyOf Tryd.f46)
  (by kernel_rfl) (by kernel_rfl) (by kernel_rfl) (by kernel_rfl) (by kernel_rfl) (by kernel_rfl) (by kernel_rfl)
  (fun N => SayAll.nil) (fun a s => by kernel_rfl)

/-! ### loop.example/g00206/spec.l15Name: function 73 -/
noncomputable def spec_l15Name.H : Hints := hintsOf [(5000005, .join [⟨.normal, [0, 3], [40], [ak_b], [], [⟨[], [], [], []⟩]⟩]),
  (2000002, .loop ⟨.normal, [0], [3], [ak_i], [], [⟨[], [], [], []⟩]⟩ [⟨.ret, [], [2], [ak_b], [], [⟨[], [], [], []⟩]⟩, ⟨(.exit 0), [0], [], [], [], [⟨[], [], [], []⟩]⟩])]
noncomputable def spec_l15Name.says (N : Nat) : List Say := [spec_l1In.S N]
noncomputable def spec_l15Name.call (N : Nat) : CallK := callBy (spec_l15Name.says N)
noncomputable def spec_l15Name.qt (N : Nat) : FuncId → List PV → Sig → Cl := qtBy (spec_l15Name.says N)
noncomputable def spec_l15Name.l0.hd : Alt := ⟨.normal, [0], [3], [ak_i], [], [⟨[], [], [], []⟩]⟩
noncomputable def spec_l15Name.l0.outs : List Alt := [⟨.ret, [], [2], [ak_b], [], [⟨[], [], [], []⟩]⟩, ⟨(.exit 0), [0], [], [], [], [⟨[], [], [], []⟩]⟩]
noncomputable def spec_l15Name.l0 (N : Nat) (s1 : ByteArray) (i : Int) : Option (((Bool × Unit) × Unit) ⊕ (Unit × Unit)) :=
  loopK Tryd.prog spec_l15Name.call spec_l15Name.qt spec_l15Name.H (codeAt (bodyOf Tryd.f73) [1, 0, 1, 0, 0]) 0 spec_l15Name.l0.hd spec_l15Name.l0.outs [(0, .v (.string s1))] N ((i, ()), ())
noncomputable def spec_l15Name (N : Nat) (s : ByteArray) : Option ((Bool × Unit) × Unit) :=
  ofFn Tryd.prog spec_l15Name.call spec_l15Name.qt spec_l15Name.H N Tryd.f73 [ak_s] [] [ak_b] [] [⟨[], [], [], []⟩] (s, ()) ()
noncomputable def spec_l15Name.S (N : Nat) : Say := ⟨false, 73, [ak_s], [], [ak_b], [], fun a s => spec_l15Name N a.1⟩
set_option maxRecDepth 100000 in
theorem spec_l15Name.l0.eq (N : Nat) (s1 : ByteArray) (i : Int) : spec_l15Name.l0 (N + 1) s1 i =
 sel (decide (i < (s1.size : Int)))
  (
  chk ((decide (0 ≤ i)) && (decide (i < (s1.size : Int)))) (
  andK (α := ((Bool × Unit) × Unit)) (
   sel (decide (97 ≤ ((bytesL s1).getD (Int.toNat i) 0)))
    (
    sel (decide (((bytesL s1).getD (Int.toNat i) 0) ≤ 122))
     (
     some (((false, ()), ())))
     (
     sel (decide (48 ≤ ((bytesL s1).getD (Int.toNat i) 0)))
      (
      sel (decide (((bytesL s1).getD (Int.toNat i) 0) ≤ 57))
       (
       some (((false, ()), ())))
       (
       sel (decide (((bytesL s1).getD (Int.toNat i) 0) = 45))
        (
        some (((false, ()), ())))
        (
        sel (decide (((bytesL s1).getD (Int.toNat i) 0) = 58))
         (
         some ((((!(decide (i = 0))), ()), ())))
         (
         some (((true, ()), ()))))))
      (
      sel (decide (((bytesL s1).getD (Int.toNat i) 0) = 45))
       (
       some (((false, ()), ())))
       (
       sel (decide (((bytesL s1).getD (Int.toNat i) 0) = 58))
        (
        some ((((!(decide (i = 0))), ()), ())))
        (
        some (((true, ()), ())))))))
    (
    sel (decide (48 ≤ ((bytesL s1).getD (Int.toNat i) 0)))
     (
     sel (decide (((bytesL s1).getD (Int.toNat i) 0) ≤ 57))
      (
      some (((false, ()), ())))
      (
      sel (decide (((bytesL s1).getD (Int.toNat i) 0) = 45))
       (
       some (((false, ()), ())))
       (
       sel (decide (((bytesL s1).getD (Int.toNat i) 0) = 58))
        (
        some ((((!(decide (i = 0))), ()), ())))
        (
        some (((true, ()), ()))))))
     (
     sel (decide (((bytesL s1).getD (Int.toNat i) 0) = 45))
      (
      some (((false, ()), ())))
      (
      sel (decide (((bytesL s1).getD (Int.toNat i) 0) = 58))
       (
       some ((((!(decide (i = 0))), ()), ())))
       (
       some (((true, ()), ()))))))) fun j1 =>
  sel j1.1.1
   (
   some (.inl ((false, ()), ())))
   (
   spec_l15Name.l0 N s1 (IntKind.i64.wrap (i + 1)))))
  (
  some (.inr (((), ())))) := by kernel_rfl
set_option maxRecDepth 100000 in
theorem spec_l15Name.eq (N : Nat) (s : ByteArray) : spec_l15Name N s =
 andK (spec_l15Name.l0 N s 0) fun l2 =>
 orK l2 (fun x3 =>
  some ((x3.1.1, ()), ()))
  (fun x4 =>
  andK (spec_l1In N (s.size : Int) 1 100) fun u5 =>
  some ((u5.1.1, ()), ())) := by kernel_rfl
set_option maxRecDepth 100000 in
theorem spec_l15Name.say (N : Nat) : SayOk Tryd.prog (spec_l15Name.S N) := sayOk_mk (N := N) (H := spec_l15Name.H) (preps := [⟨[], [], [], []⟩]) (l := spec_l15Name.says) (fn := Tryd.f73) (c := bodyOf Tryd.f73)
  (by kernel_rfl) (by kernel_rfl) (by kernel_rfl) (by kernel_rfl) (by kernel_rfl) (by kernel_rfl) (by kernel_rfl)
  (fun N => SayAll.cons (spec_l1In.say N) (SayAll.nil)) (fun a s => by kernel_rfl)

/-! ### loop.example/g00206/spec.l15Value: function 74 -/
noncomputable def spec_l15Value.H : Hints := hintsOf [(5000004, .join [⟨.normal, [0, 3], [19], [ak_b], [], [⟨[], [], [], []⟩]⟩]),
  (2000002, .loop ⟨.normal, [0], [3], [ak_i], [], [⟨[], [], [], []⟩]⟩ [⟨.ret, [], [2], [ak_b], [], [⟨[], [], [], []⟩]⟩, ⟨(.exit 0), [0], [], [], [], [⟨[], [], [], []⟩]⟩])]
noncomputable def spec_l15Value.says (N : Nat) : List Say := []
noncomputable def spec_l15Value.call (N : Nat) : CallK := callBy (spec_l15Value.says N)
noncomputable def spec_l15Value.qt (N : Nat) : FuncId → List PV → Sig → Cl := qtBy (spec_l15Value.says N)
noncomputable def spec_l15Value.l0.hd : Alt := ⟨.normal, [0], [3], [ak_i], [], [⟨[], [], [], []⟩]⟩
noncomputable def spec_l15Value.l0.outs : List Alt := [⟨.ret, [], [2], [ak_b], [], [⟨[], [], [], []⟩]⟩, ⟨(.exit 0), [0], [], [], [], [⟨[], [], [], []⟩]⟩]
noncomputable def spec_l15Value.l0 (N : Nat) (s1 : ByteArray) (i : Int) : Option (((Bool × Unit) × Unit) ⊕ (Unit × Unit)) :=
  loopK Tryd.prog spec_l15Value.call spec_l15Value.qt spec_l15Value.H (codeAt (bodyOf Tryd.f74) [1, 0, 1, 0, 0]) 0 spec_l15Value.l0.hd spec_l15Value.l0.outs [(0, .v (.string s1))] N ((i, ()), ())
noncomputable def spec_l15Value (N : Nat) (s : ByteArray) : Option ((Bool × Unit) × Unit) :=
  ofFn Tryd.prog spec_l15Value.call spec_l15Value.qt spec_l15Value.H N Tryd.f74 [ak_s] [] [ak_b] [] [⟨[], [], [], []⟩] (s, ()) ()
noncomputable def spec_l15Value.S (N : Nat) : Say := ⟨false, 74, [ak_s], [], [ak_b], [], fun a s => spec_l15Value N a.1⟩
set_option maxRecDepth 100000 in
theorem spec_l15Value.l0.eq (N : Nat) (s1 : ByteArray) (i : Int) : spec_l15Value.l0 (N + 1) s1 i =
 sel (decide (i < (s1.size : Int)))
  (
  andK (α := ((Bool × Unit) × Unit)) (
   chk ((decide (0 ≤ i)) && (decide (i < (s1.size : Int)))) (
   sel (decide (((bytesL s1).getD (Int.toNat i) 0) < 32))
    (
    some (((true, ()), ())))
    (
    chk ((decide (0 ≤ i)) && (decide (i < (s1.size : Int)))) (
    some ((((decide (126 < ((bytesL s1).getD (Int.toNat i) 0))), ()), ())))))) fun j1 =>
  sel j1.1.1
   (
   some (.inl ((false, ()), ())))
   (
   spec_l15Value.l0 N s1 (IntKind.i64.wrap (i + 1))))
  (
  some (.inr (((), ())))) := by kernel_rfl
set_option maxRecDepth 100000 in
theorem spec_l15Value.eq (N : Nat) (s : ByteArray) : spec_l15Value N s =
 andK (spec_l15Value.l0 N s 0) fun l2 =>
 orK l2 (fun x3 =>
  some ((x3.1.1, ()), ()))
  (fun x4 =>
  some (((decide ((s.size : Int) ≤ 100)), ()), ())) := by kernel_rfl
set_option maxRecDepth 100000 in
theorem spec_l15Value.say (N : Nat) : SayOk Tryd.prog (spec_l15Value.S N) := sayOk_mk (N := N) (H := spec_l15Value.H) (preps := [⟨[], [], [], []⟩]) (l := spec_l15Value.says) (fn := Tryd.f74) (c := bodyOf Tryd.f74)
  (by kernel_rfl) (by kernel_rfl) (by kernel_rfl) (by kernel_rfl) (by kernel_rfl) (by kernel_rfl) (by kernel_rfl)
  (fun N => SayAll.nil) (fun a s => by kernel_rfl)

/-! ### loop.example/g00206/spec.GoodFields: function 40 -/
noncomputable def spec_GoodFields.H : Hints := hintsOf [(5000004, .join [⟨.normal, [0, 5, 6, 7], [20], [ak_b], [.cells [ck_s, ck_s]], [⟨[], [], [], []⟩]⟩]),
  (2000002, .loop ⟨.normal, [0, 5, 6], [7], [ak_i], [], [⟨[], [], [], []⟩]⟩ [⟨.ret, [], [2], [ak_b], [], [⟨[], [], [], []⟩]⟩, ⟨(.exit 0), [0], [], [], [], [⟨[], [], [], []⟩]⟩])]
noncomputable def spec_GoodFields.says (N : Nat) : List Say := [spec_l15Name.S N, spec_l15Value.S N]
noncomputable def spec_GoodFields.call (N : Nat) : CallK := callBy (spec_GoodFields.says N)
noncomputable def spec_GoodFields.qt (N : Nat) : FuncId → List PV → Sig → Cl := qtBy (spec_GoodFields.says N)
noncomputable def spec_GoodFields.l0.hd : Alt := ⟨.normal, [0, 5, 6], [7], [ak_i], [], [⟨[], [], [], []⟩]⟩
noncomputable def spec_GoodFields.l0.outs : List Alt := [⟨.ret, [], [2], [ak_b], [], [⟨[], [], [], []⟩]⟩, ⟨(.exit 0), [0], [], [], [], [⟨[], [], [], []⟩]⟩]
noncomputable def spec_GoodFields.l0 (N : Nat) (l1 : (List (ByteArray × ByteArray))) (t5 : (List (ByteArray × ByteArray))) (t6 : Int) (t7 : Int) : Option (((Bool × Unit) × Unit) ⊕ (Unit × Unit)) :=
  loopK Tryd.prog spec_GoodFields.call spec_GoodFields.qt spec_GoodFields.H (codeAt (bodyOf Tryd.f40) [1, 0, 1, 0, 0]) 0 spec_GoodFields.l0.hd spec_GoodFields.l0.outs [(0, .rows false (.pair .str .str) l1), (5, .rows false (.pair .str .str) t5), (6, .v (.int .i64 t6))] N ((t7, ()), ())
noncomputable def spec_GoodFields (N : Nat) (l : (List (ByteArray × ByteArray))) : Option ((Bool × Unit) × Unit) :=
  ofFn Tryd.prog spec_GoodFields.call spec_GoodFields.qt spec_GoodFields.H N Tryd.f40 [.one (.sh (.rows (.pair .str .str)))] [] [ak_b] [] [⟨[], [], [], []⟩] (l, ()) ()
noncomputable def spec_GoodFields.S (N : Nat) : Say := ⟨false, 40, [.one (.sh (.rows (.pair .str .str)))], [], [ak_b], [], fun a s => spec_GoodFields N a.1⟩
set_option maxRecDepth 100000 in
theorem spec_GoodFields.l0.eq (N : Nat) (l1 : (List (ByteArray × ByteArray))) (t5 : (List (ByteArray × ByteArray))) (t6 : Int) (t7 : Int) : spec_GoodFields.l0 (N + 1) l1 t5 t6 t7 =
 sel (decide (t7 < t6))
  (
  chk ((decide (0 ≤ t7)) && (decide (t7 < (t5.length : Int)))) (
  andK (α := ((Bool × Unit) × ((ByteArray × (ByteArray × Unit)) × Unit))) (
   andK (spec_l15Name N (rdS (.pair .str .str) t5 (Int.toNat t7)).1) fun u1 =>
   sel (!u1.1.1)
    (
    some (((true, ()), (((rdS (.pair .str .str) t5 (Int.toNat t7)).1, ((rdS (.pair .str .str) t5 (Int.toNat t7)).2, ())), ()))))
    (
    andK (spec_l15Value N (rdS (.pair .str .str) t5 (Int.toNat t7)).2) fun u2 =>
    some ((((!u2.1.1), ()), (((rdS (.pair .str .str) t5 (Int.toNat t7)).1, ((rdS (.pair .str .str) t5 (Int.toNat t7)).2, ())), ()))))) fun j3 =>
  sel j3.1.1
   (
   some (.inl ((false, ()), ())))
   (
   spec_GoodFields.l0 N l1 t5 t6 (IntKind.i64.wrap (t7 + 1)))))
  (
  some (.inr (((), ())))) := by kernel_rfl
set_option maxRecDepth 100000 in
theorem spec_GoodFields.eq (N : Nat) (l : (List (ByteArray × ByteArray))) : spec_GoodFields N l =
 andK (spec_GoodFields.l0 N l l (l.length : Int) 0) fun l4 =>
 orK l4 (fun x5 =>
  some ((x5.1.1, ()), ()))
  (fun x6 =>
  some (((decide ((l.length : Int) ≤ 30)), ()), ())) := by kernel_rfl
set_option maxRecDepth 100000 in
theorem spec_GoodFields.say (N : Nat) : SayOk Tryd.prog (spec_GoodFields.S N) := sayOk_mk (N := N) (H := spec_GoodFields.H) (preps := [⟨[], [], [], []⟩]) (l := spec_GoodFields.says) (fn := Tryd.f40) (c := bodyOf Tryd.f40)
  (by kernel_rfl) (by kernel_rfl) (by kernel_rfl) (by kernel_rfl) (by kernel_rfl) (by kernel_rfl) (by kernel_rfl)
  (fun N => SayAll.cons (spec_l15Name.say N) (SayAll.cons (spec_l15Value.say N) (SayAll.nil))) (fun a s => by kernel_rfl)

/-! ### (*loop.example/g00206/spec.l1Cur).fields: function 68 -/
noncomputable def spec_l1Cur_fields.H : Hints := hintsOf [(5, .join [⟨.normal, [3], [0, 4], [.one (.ptr 0 0), ak_i], [.cells [.sh (.rows (.int .u8)), ck_i, .sh (.int .u64)]], [⟨[], [], [], []⟩]⟩]),
  (5000008, .join [⟨.normal, [4], [0, 3, 5, 25], [.one (.ptr 0 0), .one (.own 1), .one (.ptr 2 0), ak_b], [.cells [.sh (.rows (.int .u8)), ck_i, .sh (.int .u64)], .rows (.pair .str .str), .cells [ck_s, ck_s]], [⟨[], [], [], []⟩]⟩]),
  (6, .join [⟨.normal, [4], [0, 3], [.one (.ptr 0 0), .one (.own 1)], [.cells [.sh (.rows (.int .u8)), ck_i, .sh (.int .u64)], .rows (.pair .str .str)], [⟨[], [], [], []⟩]⟩]),
  (2000005, .loop ⟨.normal, [], [0, 3, 4], [.one (.ptr 0 0), .one (.own 1), ak_i], [.cells [.sh (.rows (.int .u8)), ck_i, .sh (.int .u64)], .rows (.pair .str .str)], [⟨[(3, (.pair .str .str))], [], [], [1]⟩, ⟨[], [], [], [1]⟩]⟩ [⟨(.exit 0), [], [3], [.one (.own 1)], [.cells [.sh (.rows (.int .u8)), ck_i, .sh (.int .u64)], .rows (.pair .str .str)], [⟨[], [], [], [1]⟩]⟩])]
noncomputable def spec_l1Cur_fields.says (N : Nat) : List Say := [spec_l1Cur_pick.S N, spec_l1Cur_one.S N, spec_l1Cur_field.S N, spec_GoodFields.S N]
noncomputable def spec_l1Cur_fields.call (N : Nat) : CallK := callBy (spec_l1Cur_fields.says N)
noncomputable def spec_l1Cur_fields.qt (N : Nat) : FuncId → List PV → Sig → Cl := qtBy (spec_l1Cur_fields.says N)
noncomputable def spec_l1Cur_fields.l0.hd : Alt := ⟨.normal, [], [0, 3, 4], [.one (.ptr 0 0), .one (.own 1), ak_i], [.cells [.sh (.rows (.int .u8)), ck_i, .sh (.int .u64)], .rows (.pair .str .str)], [⟨[(3, (.pair .str .str))], [], [], [1]⟩, ⟨[], [], [], [1]⟩]⟩
noncomputable def spec_l1Cur_fields.l0.outs : List Alt := [⟨(.exit 0), [], [3], [.one (.own 1)], [.cells [.sh (.rows (.int .u8)), ck_i, .sh (.int .u64)], .rows (.pair .str .str)], [⟨[], [], [], [1]⟩]⟩]
noncomputable def spec_l1Cur_fields.l0 (N : Nat) (n : Int) (p0_01 : (List Int)) (p0_11 : Int) (p0_21 : Int) (p1 : (List (ByteArray × ByteArray))) : Option ((Unit × Unit) × (((List Int) × (Int × (Int × Unit))) × ((List (ByteArray × ByteArray)) × Unit))) :=
  loopK Tryd.prog spec_l1Cur_fields.call spec_l1Cur_fields.qt spec_l1Cur_fields.H (codeAt (bodyOf Tryd.f68) [1, 1, 1, 1, 0, 0, 0]) 1 spec_l1Cur_fields.l0.hd spec_l1Cur_fields.l0.outs [] N (((), ((), (n, ()))), ((p0_01, (p0_11, (p0_21, ()))), (p1, ())))
noncomputable def spec_l1Cur_fields (N : Nat) (p0_0 : (List Int)) (p0_1 : Int) (p0_2 : Int) : Option ((Unit × Unit) × (((List Int) × (Int × (Int × Unit))) × ((List (ByteArray × ByteArray)) × Unit))) :=
  ofFn Tryd.prog spec_l1Cur_fields.call spec_l1Cur_fields.qt spec_l1Cur_fields.H N Tryd.f68 [.one (.ptr 0 0)] [.cells [.sh (.rows (.int .u8)), ck_i, .sh (.int .u64)]] [.one (.own 1)] [.cells [.sh (.rows (.int .u8)), ck_i, .sh (.int .u64)], .rows (.pair .str .str)] [⟨[], [], [], [1]⟩] ((), ()) ((p0_0, (p0_1, (p0_2, ()))), ())
noncomputable def spec_l1Cur_fields.S (N : Nat) : Say := ⟨false, 68, [.one (.ptr 0 0)], [.cells [.sh (.rows (.int .u8)), ck_i, .sh (.int .u64)]], [.one (.own 1)], [.cells [.sh (.rows (.int .u8)), ck_i, .sh (.int .u64)], .rows (.pair .str .str)], fun a s => spec_l1Cur_fields N s.1.1 s.1.2.1 s.1.2.2.1⟩
set_option maxRecDepth 100000 in
theorem spec_l1Cur_fields.l0.eq (N : Nat) (n : Int) (p0_01 : (List Int)) (p0_11 : Int) (p0_21 : Int) (p1 : (List (ByteArray × ByteArray))) : spec_l1Cur_fields.l0 (N + 1) n p0_01 p0_11 p0_21 p1 =
 sel (decide (0 < n))
  (
  andK (α := ((Unit × (Unit × Unit)) × (((List Int) × (Int × (Int × Unit))) × ((List (ByteArray × ByteArray)) × Unit)))) (
   andK (spec_l1Cur_field N p0_01 p0_11 p0_21) fun u5 =>
   andK (α := ((Unit × (Unit × (Unit × (Bool × Unit)))) × (((List Int) × (Int × (Int × Unit))) × ((List (ByteArray × ByteArray)) × ((ByteArray × (ByteArray × Unit)) × Unit))))) (
    andK (spec_GoodFields N [(u5.1.1.1, u5.1.1.2.1)]) fun u6 =>
    sel u6.1.1
     (
     some ((((), ((), ((), (true, ())))), ((u5.2.1.1, (u5.2.1.2.1, (u5.2.1.2.2.1, ()))), (p1, ((u5.1.1.1, (u5.1.1.2.1, ())), ()))))))
     (
     andK (spec_l1Cur_one N 8 u5.2.1.1 u5.2.1.2.1 u5.2.1.2.2.1) fun u7 =>
     some ((((), ((), ((), (u7.1.1, ())))), ((u7.2.1.1, (u7.2.1.2.1, (u7.2.1.2.2.1, ()))), (p1, ((u5.1.1.1, (u5.1.1.2.1, ())), ()))))))) fun j8 =>
   sel j8.1.2.2.2.1
    (
    chk (decide (j8.2.2.1.length + 1 < most)) (
    some ((((), ((), ())), ((j8.2.1.1, (j8.2.1.2.1, (j8.2.1.2.2.1, ()))), ((j8.2.2.1 ++ [(j8.2.2.2.1.1, j8.2.2.2.1.2.1)]), ()))))))
    (
    some ((((), ((), ())), ((j8.2.1.1, (j8.2.1.2.1, (j8.2.1.2.2.1, ()))), (j8.2.2.1, ())))))) fun j9 =>
  spec_l1Cur_fields.l0 N (IntKind.i64.wrap (n - 1)) j9.2.1.1 j9.2.1.2.1 j9.2.1.2.2.1 j9.2.2.1)
  (
  some ((((), ()), ((p0_01, (p0_11, (p0_21, ()))), (p1, ()))))) := by kernel_rfl
set_option maxRecDepth 100000 in
theorem spec_l1Cur_fields.eq (N : Nat) (p0_0 : (List Int)) (p0_1 : Int) (p0_2 : Int) : spec_l1Cur_fields N p0_0 p0_1 p0_2 =
 andK (spec_l1Cur_pick N 7 p0_0 p0_1 p0_2) fun u1 =>
 andK (α := ((Unit × (Int × Unit)) × (((List Int) × (Int × (Int × Unit))) × Unit))) (
  andK (spec_l1Cur_one N 30 u1.2.1.1 u1.2.1.2.1 u1.2.1.2.2.1) fun u2 =>
  sel u2.1.1
   (
   andK (spec_l1Cur_pick N 2 u2.2.1.1 u2.2.1.2.1 u2.2.1.2.2.1) fun u3 =>
   some ((((), ((IntKind.i64.wrap (30 + u3.1.1)), ())), ((u3.2.1.1, (u3.2.1.2.1, (u3.2.1.2.2.1, ()))), ()))))
   (
   some ((((), (u1.1.1, ())), ((u2.2.1.1, (u2.2.1.2.1, (u2.2.1.2.2.1, ()))), ()))))) fun j4 =>
 andK (spec_l1Cur_fields.l0 N j4.1.2.1 j4.2.1.1 j4.2.1.2.1 j4.2.1.2.2.1 []) fun l10 =>
 some (((), ()), ((l10.2.1.1, (l10.2.1.2.1, (l10.2.1.2.2.1, ()))), (l10.2.2.1, ()))) := by kernel_rfl
set_option maxRecDepth 100000 in
theorem spec_l1Cur_fields.say (N : Nat) : SayOk Tryd.prog (spec_l1Cur_fields.S N) := sayOk_mk (N := N) (H := spec_l1Cur_fields.H) (preps := [⟨[], [], [], [1]⟩]) (l := spec_l1Cur_fields.says) (fn := Tryd.f68) (c := bodyOf Tryd.f68)
  (by kernel_rfl) (by kernel_rfl) (by kernel_rfl) (by kernel_rfl) (by kernel_rfl) (by kernel_rfl) (by kernel_rfl)
  (fun N => SayAll.cons (spec_l1Cur_pick.say N) (SayAll.cons (spec_l1Cur_one.say N) (SayAll.cons (spec_l1Cur_field.say N) (SayAll.cons (spec_GoodFields.say N) (SayAll.nil))))) (fun a s => by kernel_rfl)

/-! ### loop.example/g00206/spec.DrawGoodFields: function 37 -/
noncomputable def spec_DrawGoodFields.H : Hints := hintsOf []
noncomputable def spec_DrawGoodFields.says (N : Nat) : List Say := [spec_l1Cur_fields.S N]
noncomputable def spec_DrawGoodFields.call (N : Nat) : CallK := callBy (spec_DrawGoodFields.says N)
noncomputable def spec_DrawGoodFields.qt (N : Nat) : FuncId → List PV → Sig → Cl := qtBy (spec_DrawGoodFields.says N)
noncomputable def spec_DrawGoodFields (N : Nat) (code : (List Int)) : Option ((Unit × Unit) × ((List (ByteArray × ByteArray)) × Unit)) :=
  ofFn Tryd.prog spec_DrawGoodFields.call spec_DrawGoodFields.qt spec_DrawGoodFields.H N Tryd.f37 [.one (.sh (.rows (.int .u8)))] [] [.one (.own 0)] [.rows (.pair .str .str)] [⟨[], [], [], [1]⟩] (code, ()) ()
noncomputable def spec_DrawGoodFields.S (N : Nat) : Say := ⟨false, 37, [.one (.sh (.rows (.int .u8)))], [], [.one (.own 0)], [.rows (.pair .str .str)], fun a s => spec_DrawGoodFields N a.1⟩
set_option maxRecDepth 100000 in
theorem spec_DrawGoodFields.eq (N : Nat) (code : (List Int)) : spec_DrawGoodFields N code =
 andK (spec_l1Cur_fields N code 0 0) fun u1 =>
 some (((), ()), (u1.2.2.1, ())) := by kernel_rfl
set_option maxRecDepth 100000 in
theorem spec_DrawGoodFields.say (N : Nat) : SayOk Tryd.prog (spec_DrawGoodFields.S N) := sayOk_mk (N := N) (H := spec_DrawGoodFields.H) (preps := [⟨[], [], [], [1]⟩]) (l := spec_DrawGoodFields.says) (fn := Tryd.f37) (c := bodyOf Tryd.f37)
  (by kernel_rfl) (by kernel_rfl) (by kernel_rfl) (by kernel_rfl) (by kernel_rfl) (by kernel_rfl) (by kernel_rfl)
  (fun N => SayAll.cons (spec_l1Cur_fields.say N) (SayAll.nil)) (fun a s => by kernel_rfl)

/-! ### loop.example/g00206/spec.DrawFieldsBytes: function 12 -/
noncomputable def spec_DrawFieldsBytes.H : Hints := hintsOf []
noncomputable def spec_DrawFieldsBytes.says (N : Nat) : List Say := [spec_DrawGoodFields.S N]
noncomputable def spec_DrawFieldsBytes.call (N : Nat) : CallK := callBy (spec_DrawFieldsBytes.says N)
noncomputable def spec_DrawFieldsBytes.qt (N : Nat) : FuncId → List PV → Sig → Cl := qtBy (spec_DrawFieldsBytes.says N)
noncomputable def spec_DrawFieldsBytes (N : Nat) (code : (List Int)) : Option ((Unit × Unit) × ((List (ByteArray × ByteArray)) × Unit)) :=
  ofFn Tryd.prog spec_DrawFieldsBytes.call spec_DrawFieldsBytes.qt spec_DrawFieldsBytes.H N Tryd.f12 [.one (.sh (.rows (.int .u8)))] [] [.one (.own 0)] [.rows (.pair .str .str)] [⟨[], [], [], [0]⟩] (code, ()) ()
noncomputable def spec_DrawFieldsBytes.S (N : Nat) : Say := ⟨false, 12, [.one (.sh (.rows (.int .u8)))], [], [.one (.own 0)], [.rows (.pair .str .str)], fun a s => spec_DrawFieldsBytes N a.1⟩
set_option maxRecDepth 100000 in
theorem spec_DrawFieldsBytes.eq (N : Nat) (code : (List Int)) : spec_DrawFieldsBytes N code =
 andK (spec_DrawGoodFields N code) fun u1 =>
 some (((), ()), (u1.2.1, ())) := by kernel_rfl
set_option maxRecDepth 100000 in
theorem spec_DrawFieldsBytes.say (N : Nat) : SayOk Tryd.prog (spec_DrawFieldsBytes.S N) := sayOk_mk (N := N) (H := spec_DrawFieldsBytes.H) (preps := [⟨[], [], [], [0]⟩]) (l := spec_DrawFieldsBytes.says) (fn := Tryd.f12) (c := bodyOf Tryd.f12)
  (by kernel_rfl) (by kernel_rfl) (by kernel_rfl) (by kernel_rfl) (by kernel_rfl) (by kernel_rfl) (by kernel_rfl)
  (fun N => SayAll.cons (spec_DrawGoodFields.say N) (SayAll.nil)) (fun a s => by kernel_rfl)

/-! ### loop.example/g00206/impl.in: function 44 -/
noncomputable def impl_in.H : Hints := hintsOf []
noncomputable def impl_in.says (N : Nat) : List Say := []
noncomputable def impl_in.call (N : Nat) : CallK := callBy (impl_in.says N)
noncomputable def impl_in.qt (N : Nat) : FuncId → List PV → Sig → Cl := qtBy (impl_in.says N)
noncomputable def impl_in (N : Nat) (n : Int) (low : Int) (high : Int) : Option ((Bool × Unit) × Unit) :=
  ofFn Tryd.prog impl_in.call impl_in.qt impl_in.H N Tryd.f44 [ak_i, ak_i, ak_i] [] [ak_b] [] [⟨[], [], [], []⟩] (n, (low, (high, ()))) ()
noncomputable def impl_in.S (N : Nat) : Say := ⟨false, 44, [ak_i, ak_i, ak_i], [], [ak_b], [], fun a s => impl_in N a.1 a.2.1 a.2.2.1⟩
set_option maxRecDepth 100000 in
theorem impl_in.eq (N : Nat) (n : Int) (low : Int) (high : Int) : impl_in N n low high =
 sel (decide (low ≤ n))
  (
  some (((decide (n ≤ high)), ()), ()))
  (
  some ((false, ()), ())) := by kernel_rfl
set_option maxRecDepth 100000 in
theorem impl_in.say (N : Nat) : SayOk Tryd.prog (impl_in.S N) := sayOk_mk (N := N) (H := impl_in.H) (preps := [⟨[], [], [], []⟩]) (l := impl_in.says) (fn := Tryd.f44) (c := bodyOf Tryd.f44)
  (by kernel_rfl) (by kernel_rfl) (by kernel_rfl) (by kernel_rfl) (by kernel_rfl) (by kernel_rfl) (by kernel_rfl)
  (fun N => SayAll.nil) (fun a s => by kernel_rfl)

/-! ### strings.Trim: function 108 -/
noncomputable def strings_Trim (N : Nat) (s : ByteArray) (cs : ByteArray) : Option ((ByteArray × Unit) × Unit) := trimF s cs
noncomputable def strings_Trim.S (N : Nat) : Say := trimS 108
theorem strings_Trim.eq (N : Nat) (s : ByteArray) (cs : ByteArray) : strings_Trim N s cs =
 chk (decide (s.size ≤ 9223372036854775807)) (
 chk (decide (cs.size < 4294967281)) (
 chk (asciiB cs) (
 some (((trimL s cs), ()), ())))) := trimF_eq s cs
set_option maxRecDepth 100000 in
theorem strings_Trim.say (N : Nat) : SayOk Tryd.prog (strings_Trim.S N) := trim_say

/-! ### loop.example/g00206/impl.over: function 92 -/
noncomputable def impl_over.H : Hints := hintsOf []
noncomputable def impl_over.says (N : Nat) : List Say := [strings_Trim.S N]
noncomputable def impl_over.call (N : Nat) : CallK := callBy (impl_over.says N)
noncomputable def impl_over.qt (N : Nat) : FuncId → List PV → Sig → Cl := qtBy (impl_over.says N)
noncomputable def impl_over (N : Nat) (s : ByteArray) (signs : ByteArray) : Option ((Bool × Unit) × Unit) :=
  ofFn Tryd.prog impl_over.call impl_over.qt impl_over.H N Tryd.f92 [ak_s, ak_s] [] [ak_b] [] [⟨[], [], [], []⟩] (s, (signs, ())) ()
noncomputable def impl_over.S (N : Nat) : Say := ⟨false, 92, [ak_s, ak_s], [], [ak_b], [], fun a s => impl_over N a.1 a.2.1⟩
set_option maxRecDepth 100000 in
theorem impl_over.eq (N : Nat) (s : ByteArray) (signs : ByteArray) : impl_over N s signs =
 andK (strings_Trim N s signs) fun u1 =>
 some (((decide (u1.1.1 = (⟨#[]⟩ : ByteArray))), ()), ()) := by kernel_rfl
set_option maxRecDepth 100000 in
theorem impl_over.say (N : Nat) : SayOk Tryd.prog (impl_over.S N) := sayOk_mk (N := N) (H := impl_over.H) (preps := [⟨[], [], [], []⟩]) (l := impl_over.says) (fn := Tryd.f92) (c := bodyOf Tryd.f92)
  (by kernel_rfl) (by kernel_rfl) (by kernel_rfl) (by kernel_rfl) (by kernel_rfl) (by kernel_rfl) (by kernel_rfl)
  (fun N => SayAll.cons (strings_Trim.say N) (SayAll.nil)) (fun a s => by kernel_rfl)

/-! ### loop.example/g00206/impl.goodField: function 71 -/
noncomputable def impl_goodField.H : Hints := hintsOf [(5000001, .join [⟨.normal, [], [1, 15], [.one (.ptr 0 0), ak_b], [.cells [ck_s, ck_s]], [⟨[], [], [], []⟩]⟩]),
  (2000004, .loop ⟨.normal, [18], [1, 19], [.one (.ptr 0 0), ak_i], [.cells [ck_s, ck_s]], [⟨[], [], [], []⟩]⟩ [⟨.ret, [], [2], [ak_b], [.cells [ck_s, ck_s]], [⟨[], [], [], []⟩]⟩, ⟨(.exit 0), [], [1], [.one (.ptr 0 0)], [.cells [ck_s, ck_s]], [⟨[], [], [], []⟩]⟩]),
  (12, .join [⟨.normal, [], [4], [ak_s], [.cells [ck_s, ck_s]], [⟨[], [], [], []⟩]⟩])]
noncomputable def impl_goodField.says (N : Nat) : List Say := [impl_in.S N, impl_over.S N]
noncomputable def impl_goodField.call (N : Nat) : CallK := callBy (impl_goodField.says N)
noncomputable def impl_goodField.qt (N : Nat) : FuncId → List PV → Sig → Cl := qtBy (impl_goodField.says N)
noncomputable def impl_goodField.l0.hd : Alt := ⟨.normal, [18], [1, 19], [.one (.ptr 0 0), ak_i], [.cells [ck_s, ck_s]], [⟨[], [], [], []⟩]⟩
noncomputable def impl_goodField.l0.outs : List Alt := [⟨.ret, [], [2], [ak_b], [.cells [ck_s, ck_s]], [⟨[], [], [], []⟩]⟩, ⟨(.exit 0), [], [1], [.one (.ptr 0 0)], [.cells [ck_s, ck_s]], [⟨[], [], [], []⟩]⟩]
noncomputable def impl_goodField.l0 (N : Nat) (t18 : Int) (t19 : Int) (p0_0 : ByteArray) (p0_1 : ByteArray) : Option (((Bool × Unit) × ((ByteArray × (ByteArray × Unit)) × Unit)) ⊕ ((Unit × Unit) × ((ByteArray × (ByteArray × Unit)) × Unit))) :=
  loopK Tryd.prog impl_goodField.call impl_goodField.qt impl_goodField.H (codeAt (bodyOf Tryd.f71) [1, 1, 0, 1, 0, 0]) 1 impl_goodField.l0.hd impl_goodField.l0.outs [(18, .v (.int .i64 t18))] N (((), (t19, ())), ((p0_0, (p0_1, ())), ()))
noncomputable def impl_goodField (N : Nat) (f_0 : ByteArray) (f_1 : ByteArray) : Option ((Bool × Unit) × Unit) :=
  ofFn Tryd.prog impl_goodField.call impl_goodField.qt impl_goodField.H N Tryd.f71 [.agg [ck_s, ck_s]] [] [ak_b] [] [⟨[], [], [], []⟩] ((f_0, (f_1, ())), ()) ()
noncomputable def impl_goodField.S (N : Nat) : Say := ⟨false, 71, [.agg [ck_s, ck_s]], [], [ak_b], [], fun a s => impl_goodField N a.1.1 a.1.2.1⟩
set_option maxRecDepth 100000 in
theorem impl_goodField.l0.eq (N : Nat) (t18 : Int) (t19 : Int) (p0_0 : ByteArray) (p0_1 : ByteArray) : impl_goodField.l0 (N + 1) t18 t19 p0_0 p0_1 =
 sel (decide (t19 < t18))
  (
  chk ((decide (0 ≤ t19)) && (decide (t19 < (p0_1.size : Int)))) (
  andK (impl_in N (IntKind.i64.wrap ((bytesL p0_1).getD (Int.toNat t19) 0)) 32 126) fun u3 =>
  sel (!u3.1.1)
   (
   some (.inl ((false, ()), ((p0_0, (p0_1, ())), ()))))
   (
   impl_goodField.l0 N t18 (IntKind.i64.wrap (t19 + 1)) p0_0 p0_1)))
  (
  some (.inr ((((), ()), ((p0_0, (p0_1, ())), ()))))) := by kernel_rfl
set_option maxRecDepth 100000 in
theorem impl_goodField.eq (N : Nat) (f_0 : ByteArray) (f_1 : ByteArray) : impl_goodField N f_0 f_1 =
 andK (α := ((Unit × (Bool × Unit)) × ((ByteArray × (ByteArray × Unit)) × Unit))) (
  andK (impl_in N (f_0.size : Int) 1 100) fun u1 =>
  sel (!u1.1.1)
   (
   some ((((), (true, ())), ((f_0, (f_1, ())), ()))))
   (
   some ((((), ((decide (100 < (f_1.size : Int))), ())), ((f_0, (f_1, ())), ()))))) fun j2 =>
 sel j2.1.2.1
  (
  some ((false, ()), ()))
  (
  andK (impl_goodField.l0 N (j2.2.1.2.1.size : Int) 0 j2.2.1.1 j2.2.1.2.1) fun l4 =>
  orK l4 (fun x5 =>
   some ((x5.1.1, ()), ()))
   (fun x6 =>
   andK (α := ((ByteArray × Unit) × ((ByteArray × (ByteArray × Unit)) × Unit))) (
    chk (decide (0 < (x6.2.1.1.size : Int))) (
    sel (decide (((bytesL x6.2.1.1).getD 0 0) = 58))
     (
     chk ((decide (1 ≤ (x6.2.1.1.size : Int))) && (decide ((x6.2.1.1.size : Int) ≤ (x6.2.1.1.size : Int)))) (
     some ((((x6.2.1.1.extract 1 (Int.toNat (x6.2.1.1.size : Int))), ()), ((x6.2.1.1, (x6.2.1.2.1, ())), ())))))
     (
     some (((x6.2.1.1, ()), ((x6.2.1.1, (x6.2.1.2.1, ())), ())))))) fun j7 =>
   andK (impl_over N j7.1.1 (⟨#[97, 98, 99, 100, 101, 102, 103, 104, 105, 106, 107, 108, 109, 110, 111, 112, 113, 114, 115, 116, 117, 118, 119, 120, 121, 122, 48, 49, 50, 51, 52, 53, 54, 55, 56, 57, 45]⟩ : ByteArray)) fun u8 =>
   some ((u8.1.1, ()), ()))) := by kernel_rfl
set_option maxRecDepth 100000 in
theorem impl_goodField.say (N : Nat) : SayOk Tryd.prog (impl_goodField.S N) := sayOk_mk (N := N) (H := impl_goodField.H) (preps := [⟨[], [], [], []⟩]) (l := impl_goodField.says) (fn := Tryd.f71) (c := bodyOf Tryd.f71)
  (by kernel_rfl) (by kernel_rfl) (by kernel_rfl) (by kernel_rfl) (by kernel_rfl) (by kernel_rfl) (by kernel_rfl)
  (fun N => SayAll.cons (impl_in.say N) (SayAll.cons (impl_over.say N) (SayAll.nil))) (fun a s => by kernel_rfl)

/-! ### loop.example/g00206/impl.GoodFields$1: function 70 -/
noncomputable def impl_GoodFields_1.H : Hints := hintsOf []
noncomputable def impl_GoodFields_1.says (N : Nat) : List Say := [impl_goodField.S N]
noncomputable def impl_GoodFields_1.call (N : Nat) : CallK := callBy (impl_GoodFields_1.says N)
noncomputable def impl_GoodFields_1.qt (N : Nat) : FuncId → List PV → Sig → Cl := qtBy (impl_GoodFields_1.says N)
noncomputable def impl_GoodFields_1 (N : Nat) (f_0 : ByteArray) (f_1 : ByteArray) : Option ((Bool × Unit) × Unit) :=
  ofFn Tryd.prog impl_GoodFields_1.call impl_GoodFields_1.qt impl_GoodFields_1.H N Tryd.f70 [.agg [ck_s, ck_s]] [] [ak_b] [] [⟨[], [], [], []⟩] ((f_0, (f_1, ())), ()) ()
noncomputable def impl_GoodFields_1.S (N : Nat) : Say := ⟨false, 70, [.agg [ck_s, ck_s]], [], [ak_b], [], fun a s => impl_GoodFields_1 N a.1.1 a.1.2.1⟩
set_option maxRecDepth 100000 in
theorem impl_GoodFields_1.eq (N : Nat) (f_0 : ByteArray) (f_1 : ByteArray) : impl_GoodFields_1 N f_0 f_1 =
 andK (impl_goodField N f_0 f_1) fun u1 =>
 some (((!u1.1.1), ()), ()) := by kernel_rfl
set_option maxRecDepth 100000 in
theorem impl_GoodFields_1.say (N : Nat) : SayOk Tryd.prog (impl_GoodFields_1.S N) := sayOk_mk (N := N) (H := impl_GoodFields_1.H) (preps := [⟨[], [], [], []⟩]) (l := impl_GoodFields_1.says) (fn := Tryd.f70) (c := bodyOf Tryd.f70)
  (by kernel_rfl) (by kernel_rfl) (by kernel_rfl) (by kernel_rfl) (by kernel_rfl) (by kernel_rfl) (by kernel_rfl)
  (fun N => SayAll.cons (impl_goodField.say N) (SayAll.nil)) (fun a s => by kernel_rfl)

/-! ### slices.IndexFunc[[]loop.example/g00206/impl.Field,loop.example/g00206/impl.Field]: function 49 -/
noncomputable def slices_IndexFuncimpl_Field_impl_Field.H : Hints := hintsOf [(2000002, .loop ⟨.normal, [0, 1, 7], [8], [ak_i], [], [⟨[], [], [], []⟩]⟩ [⟨.ret, [], [4], [ak_i], [], [⟨[], [], [], []⟩]⟩, ⟨(.exit 0), [], [], [], [], [⟨[], [], [], []⟩]⟩])]
noncomputable def slices_IndexFuncimpl_Field_impl_Field.says (N : Nat) : List Say := [impl_GoodFields_1.S N]
noncomputable def slices_IndexFuncimpl_Field_impl_Field.call (N : Nat) : CallK := callBy (slices_IndexFuncimpl_Field_impl_Field.says N)
noncomputable def slices_IndexFuncimpl_Field_impl_Field.qt (N : Nat) : FuncId → List PV → Sig → Cl := qtBy (slices_IndexFuncimpl_Field_impl_Field.says N)
noncomputable def slices_IndexFuncimpl_Field_impl_Field.l0.hd : Alt := ⟨.normal, [0, 1, 7], [8], [ak_i], [], [⟨[], [], [], []⟩]⟩
noncomputable def slices_IndexFuncimpl_Field_impl_Field.l0.outs : List Alt := [⟨.ret, [], [4], [ak_i], [], [⟨[], [], [], []⟩]⟩, ⟨(.exit 0), [], [], [], [], [⟨[], [], [], []⟩]⟩]
noncomputable def slices_IndexFuncimpl_Field_impl_Field.l0 (N : Nat) (s1 : (List (ByteArray × ByteArray))) (t7 : Int) (t8 : Int) : Option (((Int × Unit) × Unit) ⊕ (Unit × Unit)) :=
  loopK Tryd.prog slices_IndexFuncimpl_Field_impl_Field.call slices_IndexFuncimpl_Field_impl_Field.qt slices_IndexFuncimpl_Field_impl_Field.H (codeAt (bodyOf Tryd.f49) [1, 0, 1, 0, 0]) 0 slices_IndexFuncimpl_Field_impl_Field.l0.hd slices_IndexFuncimpl_Field_impl_Field.l0.outs [(0, .rows false (.pair .str .str) s1), (1, .fn 70 []), (7, .v (.int .i64 t7))] N ((t8, ()), ())
noncomputable def slices_IndexFuncimpl_Field_impl_Field (N : Nat) (s : (List (ByteArray × ByteArray))) : Option ((Int × Unit) × Unit) :=
  ofFn Tryd.prog slices_IndexFuncimpl_Field_impl_Field.call slices_IndexFuncimpl_Field_impl_Field.qt slices_IndexFuncimpl_Field_impl_Field.H N Tryd.f49 [.one (.sh (.rows (.pair .str .str))), .fn 70 []] [] [ak_i] [] [⟨[], [], [], []⟩] (s, ((), ())) ()
noncomputable def slices_IndexFuncimpl_Field_impl_Field.S (N : Nat) : Say := ⟨false, 49, [.one (.sh (.rows (.pair .str .str))), .fn 70 []], [], [ak_i], [], fun a s => slices_IndexFuncimpl_Field_impl_Field N a.1⟩
set_option maxRecDepth 100000 in
theorem slices_IndexFuncimpl_Field_impl_Field.l0.eq (N : Nat) (s1 : (List (ByteArray × ByteArray))) (t7 : Int) (t8 : Int) : slices_IndexFuncimpl_Field_impl_Field.l0 (N + 1) s1 t7 t8 =
 sel (decide (t8 < t7))
  (
  chk ((decide (0 ≤ t8)) && (decide (t8 < (s1.length : Int)))) (
  andK (impl_GoodFields_1 N (rdS (.pair .str .str) s1 (Int.toNat t8)).1 (rdS (.pair .str .str) s1 (Int.toNat t8)).2) fun u1 =>
  sel u1.1.1
   (
   some (.inl ((t8, ()), ())))
   (
   slices_IndexFuncimpl_Field_impl_Field.l0 N s1 t7 (IntKind.i64.wrap (t8 + 1)))))
  (
  some (.inr (((), ())))) := by kernel_rfl
set_option maxRecDepth 100000 in
theorem slices_IndexFuncimpl_Field_impl_Field.eq (N : Nat) (s : (List (ByteArray × ByteArray))) : slices_IndexFuncimpl_Field_impl_Field N s =
 andK (slices_IndexFuncimpl_Field_impl_Field.l0 N s (s.length : Int) 0) fun l2 =>
 orK l2 (fun x3 =>
  some ((x3.1.1, ()), ()))
  (fun x4 =>
  some (((-1), ()), ())) := by kernel_rfl
set_option maxRecDepth 100000 in
theorem slices_IndexFuncimpl_Field_impl_Field.say (N : Nat) : SayOk Tryd.prog (slices_IndexFuncimpl_Field_impl_Field.S N) := sayOk_mk (N := N) (H := slices_IndexFuncimpl_Field_impl_Field.H) (preps := [⟨[], [], [], []⟩]) (l := slices_IndexFuncimpl_Field_impl_Field.says) (fn := Tryd.f49) (c := bodyOf Tryd.f49)
  (by kernel_rfl) (by kernel_rfl) (by kernel_rfl) (by kernel_rfl) (by kernel_rfl) (by kernel_rfl) (by kernel_rfl)
  (fun N => SayAll.cons (impl_GoodFields_1.say N) (SayAll.nil)) (fun a s => by kernel_rfl)

/-! ### slices.ContainsFunc[[]loop.example/g00206/impl.Field,loop.example/g00206/impl.Field]: function 69 -/
noncomputable def slices_ContainsFuncimpl_Field_impl_Field.H : Hints := hintsOf []
noncomputable def slices_ContainsFuncimpl_Field_impl_Field.says (N : Nat) : List Say := [slices_IndexFuncimpl_Field_impl_Field.S N]
noncomputable def slices_ContainsFuncimpl_Field_impl_Field.call (N : Nat) : CallK := callBy (slices_ContainsFuncimpl_Field_impl_Field.says N)
noncomputable def slices_ContainsFuncimpl_Field_impl_Field.qt (N : Nat) : FuncId → List PV → Sig → Cl := qtBy (slices_ContainsFuncimpl_Field_impl_Field.says N)
noncomputable def slices_ContainsFuncimpl_Field_impl_Field (N : Nat) (s : (List (ByteArray × ByteArray))) : Option ((Bool × Unit) × Unit) :=
  ofFn Tryd.prog slices_ContainsFuncimpl_Field_impl_Field.call slices_ContainsFuncimpl_Field_impl_Field.qt slices_ContainsFuncimpl_Field_impl_Field.H N Tryd.f69 [.one (.sh (.rows (.pair .str .str))), .fn 70 []] [] [ak_b] [] [⟨[], [], [], []⟩] (s, ((), ())) ()
noncomputable def slices_ContainsFuncimpl_Field_impl_Field.S (N : Nat) : Say := ⟨false, 69, [.one (.sh (.rows (.pair .str .str))), .fn 70 []], [], [ak_b], [], fun a s => slices_ContainsFuncimpl_Field_impl_Field N a.1⟩
set_option maxRecDepth 100000 in
theorem slices_ContainsFuncimpl_Field_impl_Field.eq (N : Nat) (s : (List (ByteArray × ByteArray))) : slices_ContainsFuncimpl_Field_impl_Field N s =
 andK (slices_IndexFuncimpl_Field_impl_Field N s) fun u1 =>
 some (((decide (0 ≤ u1.1.1)), ()), ()) := by kernel_rfl
set_option maxRecDepth 100000 in
theorem slices_ContainsFuncimpl_Field_impl_Field.say (N : Nat) : SayOk Tryd.prog (slices_ContainsFuncimpl_Field_impl_Field.S N) := sayOk_mk (N := N) (H := slices_ContainsFuncimpl_Field_impl_Field.H) (preps := [⟨[], [], [], []⟩]) (l := slices_ContainsFuncimpl_Field_impl_Field.says) (fn := Tryd.f69) (c := bodyOf Tryd.f69)
  (by kernel_rfl) (by kernel_rfl) (by kernel_rfl) (by kernel_rfl) (by kernel_rfl) (by kernel_rfl) (by kernel_rfl)
  (fun N => SayAll.cons (slices_IndexFuncimpl_Field_impl_Field.say N) (SayAll.nil)) (fun a s => by kernel_rfl)

/-! ### loop.example/g00206/impl.GoodFields: function 38 -/
noncomputable def impl_GoodFields.H : Hints := hintsOf []
noncomputable def impl_GoodFields.says (N : Nat) : List Say := [slices_ContainsFuncimpl_Field_impl_Field.S N]
noncomputable def impl_GoodFields.call (N : Nat) : CallK := callBy (impl_GoodFields.says N)
noncomputable def impl_GoodFields.qt (N : Nat) : FuncId → List PV → Sig → Cl := qtBy (impl_GoodFields.says N)
noncomputable def impl_GoodFields (N : Nat) (l : (List (ByteArray × ByteArray))) : Option ((Bool × Unit) × Unit) :=
  ofFn Tryd.prog impl_GoodFields.call impl_GoodFields.qt impl_GoodFields.H N Tryd.f38 [.one (.sh (.rows (.pair .str .str)))] [] [ak_b] [] [⟨[], [], [], []⟩] (l, ()) ()
noncomputable def impl_GoodFields.S (N : Nat) : Say := ⟨false, 38, [.one (.sh (.rows (.pair .str .str)))], [], [ak_b], [], fun a s => impl_GoodFields N a.1⟩
set_option maxRecDepth 100000 in
theorem impl_GoodFields.eq (N : Nat) (l : (List (ByteArray × ByteArray))) : impl_GoodFields N l =
 sel (decide ((l.length : Int) ≤ 30))
  (
  andK (slices_ContainsFuncimpl_Field_impl_Field N l) fun u1 =>
  some (((!u1.1.1), ()), ()))
  (
  some ((false, ()), ())) := by kernel_rfl
set_option maxRecDepth 100000 in
theorem impl_GoodFields.say (N : Nat) : SayOk Tryd.prog (impl_GoodFields.S N) := sayOk_mk (N := N) (H := impl_GoodFields.H) (preps := [⟨[], [], [], []⟩]) (l := impl_GoodFields.says) (fn := Tryd.f38) (c := bodyOf Tryd.f38)
  (by kernel_rfl) (by kernel_rfl) (by kernel_rfl) (by kernel_rfl) (by kernel_rfl) (by kernel_rfl) (by kernel_rfl)
  (fun N => SayAll.cons (slices_ContainsFuncimpl_Field_impl_Field.say N) (SayAll.nil)) (fun a s => by kernel_rfl)
noncomputable def impl_GoodFields.SB (N : Nat) : Say := impl_GoodFields.S N |>.lent
theorem impl_GoodFields.sayB (N : Nat) : SayOk Tryd.prog (impl_GoodFields.SB N) := (impl_GoodFields.say N).lent

/-! ### loop.example/g00206/impl.bigEndian: function 109 -/
noncomputable def impl_bigEndian.H : Hints := hintsOf [(2000003, .loop ⟨.normal, [], [0, 5, 6], [.one (.sh (.int .u64)), .one (.own 0), ak_i], [.rows (.int .u8)], [⟨[], [], [], []⟩]⟩ [⟨(.exit 0), [], [5], [.one (.own 0)], [.rows (.int .u8)], [⟨[], [], [], []⟩]⟩])]
noncomputable def impl_bigEndian.says (N : Nat) : List Say := []
noncomputable def impl_bigEndian.call (N : Nat) : CallK := callBy (impl_bigEndian.says N)
noncomputable def impl_bigEndian.qt (N : Nat) : FuncId → List PV → Sig → Cl := qtBy (impl_bigEndian.says N)
noncomputable def impl_bigEndian.l0.hd : Alt := ⟨.normal, [], [0, 5, 6], [.one (.sh (.int .u64)), .one (.own 0), ak_i], [.rows (.int .u8)], [⟨[], [], [], []⟩]⟩
noncomputable def impl_bigEndian.l0.outs : List Alt := [⟨(.exit 0), [], [5], [.one (.own 0)], [.rows (.int .u8)], [⟨[], [], [], []⟩]⟩]
noncomputable def impl_bigEndian.l0 (N : Nat) (n1 : Int) (i : Int) (p0 : (List Int)) : Option ((Unit × Unit) × ((List Int) × Unit)) :=
  loopK Tryd.prog impl_bigEndian.call impl_bigEndian.qt impl_bigEndian.H (codeAt (bodyOf Tryd.f109) [1, 1, 0, 1, 0, 0]) 1 impl_bigEndian.l0.hd impl_bigEndian.l0.outs [] N ((n1, ((), (i, ()))), (p0, ()))
noncomputable def impl_bigEndian (N : Nat) (n : Int) (many : Int) : Option ((ByteArray × Unit) × Unit) :=
  ofFn Tryd.prog impl_bigEndian.call impl_bigEndian.qt impl_bigEndian.H N Tryd.f109 [.one (.sh (.int .u64)), ak_i] [] [ak_s] [] [⟨[], [], [], []⟩] (n, (many, ())) ()
noncomputable def impl_bigEndian.S (N : Nat) : Say := ⟨false, 109, [.one (.sh (.int .u64)), ak_i], [], [ak_s], [], fun a s => impl_bigEndian N a.1 a.2.1⟩
set_option maxRecDepth 100000 in
theorem impl_bigEndian.l0.eq (N : Nat) (n1 : Int) (i : Int) (p0 : (List Int)) : impl_bigEndian.l0 (N + 1) n1 i p0 =
 sel (decide (0 ≤ i))
  (
  chk ((decide (0 ≤ i)) && (decide (i < (p0.length : Int)))) (
  impl_bigEndian.l0 N (shrI .u64 n1 8) (IntKind.i64.wrap (i - 1)) (p0.set (Int.toNat i) (IntKind.u8.wrap n1))))
  (
  some ((((), ()), (p0, ())))) := by kernel_rfl
set_option maxRecDepth 100000 in
theorem impl_bigEndian.eq (N : Nat) (n : Int) (many : Int) : impl_bigEndian N n many =
 chk ((decide (0 ≤ many)) && ((smallI many) && (decide (many = many)))) (
 andK (impl_bigEndian.l0 N n (IntKind.i64.wrap (many - 1)) (List.replicate (Int.toNat many) (0 : Int))) fun l1 =>
 some (((strL l1.2.1), ()), ())) := by kernel_rfl
set_option maxRecDepth 100000 in
theorem impl_bigEndian.say (N : Nat) : SayOk Tryd.prog (impl_bigEndian.S N) := sayOk_mk (N := N) (H := impl_bigEndian.H) (preps := [⟨[], [], [], []⟩]) (l := impl_bigEndian.says) (fn := Tryd.f109) (c := bodyOf Tryd.f109)
  (by kernel_rfl) (by kernel_rfl) (by kernel_rfl) (by kernel_rfl) (by kernel_rfl) (by kernel_rfl) (by kernel_rfl)
  (fun N => SayAll.nil) (fun a s => by kernel_rfl)

/-! ### loop.example/g00206/impl.prefixed: function 93 -/
noncomputable def impl_prefixed.H : Hints := hintsOf [(2000006, .loop ⟨.normal, [], [0, 8], [ak_i, ak_s], [], [⟨[], [], [], []⟩]⟩ [⟨(.exit 0), [], [0, 8], [ak_i, ak_s], [], [⟨[], [], [], []⟩]⟩])]
noncomputable def impl_prefixed.says (N : Nat) : List Say := [impl_bigEndian.S N]
noncomputable def impl_prefixed.call (N : Nat) : CallK := callBy (impl_prefixed.says N)
noncomputable def impl_prefixed.qt (N : Nat) : FuncId → List PV → Sig → Cl := qtBy (impl_prefixed.says N)
noncomputable def impl_prefixed.l0.hd : Alt := ⟨.normal, [], [0, 8], [ak_i, ak_s], [], [⟨[], [], [], []⟩]⟩
noncomputable def impl_prefixed.l0.outs : List Alt := [⟨(.exit 0), [], [0, 8], [ak_i, ak_s], [], [⟨[], [], [], []⟩]⟩]
noncomputable def impl_prefixed.l0 (N : Nat) (n1 : Int) (out : ByteArray) : Option ((Int × (ByteArray × Unit)) × Unit) :=
  loopK Tryd.prog impl_prefixed.call impl_prefixed.qt impl_prefixed.H (codeAt (bodyOf Tryd.f93) [1, 1, 1, 1, 0, 1, 0, 0]) 0 impl_prefixed.l0.hd impl_prefixed.l0.outs [] N ((n1, (out, ())), ())
noncomputable def impl_prefixed (N : Nat) (n : Int) (bits : Int) (first : Int) : Option ((ByteArray × Unit) × Unit) :=
  ofFn Tryd.prog impl_prefixed.call impl_prefixed.qt impl_prefixed.H N Tryd.f93 [ak_i, ak_i, ak_i] [] [ak_s] [] [⟨[], [], [], []⟩] (n, (bits, (first, ()))) ()
noncomputable def impl_prefixed.S (N : Nat) : Say := ⟨false, 93, [ak_i, ak_i, ak_i], [], [ak_s], [], fun a s => impl_prefixed N a.1 a.2.1 a.2.2.1⟩
set_option maxRecDepth 100000 in
theorem impl_prefixed.l0.eq (N : Nat) (n1 : Int) (out : ByteArray) : impl_prefixed.l0 (N + 1) n1 out =
 sel (decide (128 ≤ n1))
  (
  andK (impl_bigEndian N (IntKind.u64.wrap (IntKind.i64.wrap ((Int.tmod n1 128) + 128))) 1) fun u3 =>
  chk (decide (out.size + u3.1.1.size ≤ 9223372036854775807)) (
  impl_prefixed.l0 N (IntKind.i64.wrap (Int.tdiv n1 128)) (out ++ u3.1.1)))
  (
  some (((n1, (out, ())), ()))) := by kernel_rfl
set_option maxRecDepth 100000 in
theorem impl_prefixed.eq (N : Nat) (n : Int) (bits : Int) (first : Int) : impl_prefixed N n bits first =
 chk (decide (0 ≤ bits)) (
 sel (decide (n < (IntKind.i64.wrap ((shlI .i64 1 bits) - 1))))
  (
  andK (impl_bigEndian N (IntKind.u64.wrap (IntKind.i64.wrap (first + n))) 1) fun u1 =>
  some ((u1.1.1, ()), ()))
  (
  andK (impl_bigEndian N (IntKind.u64.wrap (IntKind.i64.wrap (first + (IntKind.i64.wrap ((shlI .i64 1 bits) - 1))))) 1) fun u2 =>
  andK (impl_prefixed.l0 N (IntKind.i64.wrap (n - (IntKind.i64.wrap ((shlI .i64 1 bits) - 1)))) u2.1.1) fun l4 =>
  andK (impl_bigEndian N (IntKind.u64.wrap l4.1.1) 1) fun u5 =>
  chk (decide (l4.1.2.1.size + u5.1.1.size ≤ 9223372036854775807)) (
  some (((l4.1.2.1 ++ u5.1.1), ()), ())))) := by kernel_rfl
set_option maxRecDepth 100000 in
theorem impl_prefixed.say (N : Nat) : SayOk Tryd.prog (impl_prefixed.S N) := sayOk_mk (N := N) (H := impl_prefixed.H) (preps := [⟨[], [], [], []⟩]) (l := impl_prefixed.says) (fn := Tryd.f93) (c := bodyOf Tryd.f93)
  (by kernel_rfl) (by kernel_rfl) (by kernel_rfl) (by kernel_rfl) (by kernel_rfl) (by kernel_rfl) (by kernel_rfl)
  (fun N => SayAll.cons (impl_bigEndian.say N) (SayAll.nil)) (fun a s => by kernel_rfl)

/-! ### loop.example/g00206/impl.static: function 45 -/
noncomputable def impl_static.H : Hints := hintsOf []
noncomputable def impl_static.says (N : Nat) : List Say := []
noncomputable def impl_static.call (N : Nat) : CallK := callBy (impl_static.says N)
noncomputable def impl_static.qt (N : Nat) : FuncId → List PV → Sig → Cl := qtBy (impl_static.says N)
noncomputable def impl_static (N : Nat) : Option (((List (ByteArray × ByteArray)) × Unit) × Unit) :=
  ofFn Tryd.prog impl_static.call impl_static.qt impl_static.H N Tryd.f45 [] [] [.one (.sh (.rows (.pair .str .str)))] [] [⟨[], [], [], []⟩] () ()
noncomputable def impl_static.S (N : Nat) : Say := ⟨false, 45, [], [], [.one (.sh (.rows (.pair .str .str)))], [], fun a s => impl_static N⟩
set_option maxRecDepth 100000 in
theorem impl_static.eq (N : Nat) : impl_static N =
 some (([((⟨#[58, 97, 117, 116, 104, 111, 114, 105, 116, 121]⟩ : ByteArray), (⟨#[]⟩ : ByteArray)), ((⟨#[58, 112, 97, 116, 104]⟩ : ByteArray), (⟨#[47]⟩ : ByteArray)), ((⟨#[58, 109, 101, 116, 104, 111, 100]⟩ : ByteArray), (⟨#[67, 79, 78, 78, 69, 67, 84]⟩ : ByteArray)), ((⟨#[58, 109, 101, 116, 104, 111, 100]⟩ : ByteArray), (⟨#[71, 69, 84]⟩ : ByteArray)), ((⟨#[58, 109, 101, 116, 104, 111, 100]⟩ : ByteArray), (⟨#[80, 79, 83, 84]⟩ : ByteArray)), ((⟨#[58, 115, 99, 104, 101, 109, 101]⟩ : ByteArray), (⟨#[104, 116, 116, 112]⟩ : ByteArray)), ((⟨#[58, 115, 99, 104, 101, 109, 101]⟩ : ByteArray), (⟨#[104, 116, 116, 112, 115]⟩ : ByteArray)), ((⟨#[58, 115, 116, 97, 116, 117, 115]⟩ : ByteArray), (⟨#[50, 48, 48]⟩ : ByteArray)), ((⟨#[58, 115, 116, 97, 116, 117, 115]⟩ : ByteArray), (⟨#[52, 48, 52]⟩ : ByteArray)), ((⟨#[58, 115, 116, 97, 116, 117, 115]⟩ : ByteArray), (⟨#[53, 48, 51]⟩ : ByteArray)), ((⟨#[58, 112, 114, 111, 116, 111, 99, 111, 108]⟩ : ByteArray), (⟨#[99, 111, 110, 110, 101, 99, 116, 45, 117, 100, 112]⟩ : ByteArray)), ((⟨#[99, 97, 112, 115, 117, 108, 101, 45, 112, 114, 111, 116, 111, 99, 111, 108]⟩ : ByteArray), (⟨#[63, 49]⟩ : ByteArray)), ((⟨#[99, 111, 110, 116, 101, 110, 116, 45, 108, 101, 110, 103, 116, 104]⟩ : ByteArray), (⟨#[48]⟩ : ByteArray)), ((⟨#[100, 97, 116, 101]⟩ : ByteArray), (⟨#[]⟩ : ByteArray)), ((⟨#[117, 115, 101, 114, 45, 97, 103, 101, 110, 116]⟩ : ByteArray), (⟨#[]⟩ : ByteArray)), ((⟨#[97, 99, 99, 101, 112, 116]⟩ : ByteArray), (⟨#[42, 47, 42]⟩ : ByteArray))], ()), ()) := by kernel_rfl
set_option maxRecDepth 100000 in
theorem impl_static.say (N : Nat) : SayOk Tryd.prog (impl_static.S N) := sayOk_mk (N := N) (H := impl_static.H) (preps := [⟨[], [], [], []⟩]) (l := impl_static.says) (fn := Tryd.f45) (c := bodyOf Tryd.f45)
  (by kernel_rfl) (by kernel_rfl) (by kernel_rfl) (by kernel_rfl) (by kernel_rfl) (by kernel_rfl) (by kernel_rfl)
  (fun N => SayAll.nil) (fun a s => by kernel_rfl)

/-! ### slices.Index[[]loop.example/g00206/impl.Field,loop.example/g00206/impl.Field]: function 48 -/
noncomputable def slices_Indeximpl_Field_impl_Field.H : Hints := hintsOf [(2000002, .loop ⟨.normal, [0, 7], [3, 8], [.one (.ptr 0 0), ak_i], [.cells [ck_s, ck_s]], [⟨[], [], [], []⟩]⟩ [⟨.ret, [], [4], [ak_i], [.cells [ck_s, ck_s]], [⟨[], [], [], []⟩]⟩, ⟨(.exit 0), [], [], [], [.cells [ck_s, ck_s]], [⟨[], [], [], []⟩]⟩])]
noncomputable def slices_Indeximpl_Field_impl_Field.says (N : Nat) : List Say := []
noncomputable def slices_Indeximpl_Field_impl_Field.call (N : Nat) : CallK := callBy (slices_Indeximpl_Field_impl_Field.says N)
noncomputable def slices_Indeximpl_Field_impl_Field.qt (N : Nat) : FuncId → List PV → Sig → Cl := qtBy (slices_Indeximpl_Field_impl_Field.says N)
noncomputable def slices_Indeximpl_Field_impl_Field.l0.hd : Alt := ⟨.normal, [0, 7], [3, 8], [.one (.ptr 0 0), ak_i], [.cells [ck_s, ck_s]], [⟨[], [], [], []⟩]⟩
noncomputable def slices_Indeximpl_Field_impl_Field.l0.outs : List Alt := [⟨.ret, [], [4], [ak_i], [.cells [ck_s, ck_s]], [⟨[], [], [], []⟩]⟩, ⟨(.exit 0), [], [], [], [.cells [ck_s, ck_s]], [⟨[], [], [], []⟩]⟩]
noncomputable def slices_Indeximpl_Field_impl_Field.l0 (N : Nat) (s1 : (List (ByteArray × ByteArray))) (t7 : Int) (t8 : Int) (p0_0 : ByteArray) (p0_1 : ByteArray) : Option (((Int × Unit) × ((ByteArray × (ByteArray × Unit)) × Unit)) ⊕ (Unit × ((ByteArray × (ByteArray × Unit)) × Unit))) :=
  loopK Tryd.prog slices_Indeximpl_Field_impl_Field.call slices_Indeximpl_Field_impl_Field.qt slices_Indeximpl_Field_impl_Field.H (codeAt (bodyOf Tryd.f48) [1, 0, 1, 0, 0]) 1 slices_Indeximpl_Field_impl_Field.l0.hd slices_Indeximpl_Field_impl_Field.l0.outs [(0, .rows false (.pair .str .str) s1), (7, .v (.int .i64 t7))] N (((), (t8, ())), ((p0_0, (p0_1, ())), ()))
noncomputable def slices_Indeximpl_Field_impl_Field (N : Nat) (s : (List (ByteArray × ByteArray))) (v_0 : ByteArray) (v_1 : ByteArray) : Option ((Int × Unit) × Unit) :=
  ofFn Tryd.prog slices_Indeximpl_Field_impl_Field.call slices_Indeximpl_Field_impl_Field.qt slices_Indeximpl_Field_impl_Field.H N Tryd.f48 [.one (.sh (.rows (.pair .str .str))), .agg [ck_s, ck_s]] [] [ak_i] [] [⟨[], [], [], []⟩] (s, ((v_0, (v_1, ())), ())) ()
noncomputable def slices_Indeximpl_Field_impl_Field.S (N : Nat) : Say := ⟨false, 48, [.one (.sh (.rows (.pair .str .str))), .agg [ck_s, ck_s]], [], [ak_i], [], fun a s => slices_Indeximpl_Field_impl_Field N a.1 a.2.1.1 a.2.1.2.1⟩
set_option maxRecDepth 100000 in
theorem slices_Indeximpl_Field_impl_Field.l0.eq (N : Nat) (s1 : (List (ByteArray × ByteArray))) (t7 : Int) (t8 : Int) (p0_0 : ByteArray) (p0_1 : ByteArray) : slices_Indeximpl_Field_impl_Field.l0 (N + 1) s1 t7 t8 p0_0 p0_1 =
 sel (decide (t8 < t7))
  (
  chk ((decide (0 ≤ t8)) && (decide (t8 < (s1.length : Int)))) (
  sel ((decide (p0_0 = (rdS (.pair .str .str) s1 (Int.toNat t8)).1)) && (decide (p0_1 = (rdS (.pair .str .str) s1 (Int.toNat t8)).2)))
   (
   some (.inl ((t8, ()), ((p0_0, (p0_1, ())), ()))))
   (
   slices_Indeximpl_Field_impl_Field.l0 N s1 t7 (IntKind.i64.wrap (t8 + 1)) p0_0 p0_1)))
  (
  some (.inr (((), ((p0_0, (p0_1, ())), ()))))) := by kernel_rfl
set_option maxRecDepth 100000 in
theorem slices_Indeximpl_Field_impl_Field.eq (N : Nat) (s : (List (ByteArray × ByteArray))) (v_0 : ByteArray) (v_1 : ByteArray) : slices_Indeximpl_Field_impl_Field N s v_0 v_1 =
 andK (slices_Indeximpl_Field_impl_Field.l0 N s (s.length : Int) 0 v_0 v_1) fun l1 =>
 orK l1 (fun x2 =>
  some ((x2.1.1, ()), ()))
  (fun x3 =>
  some (((-1), ()), ())) := by kernel_rfl
set_option maxRecDepth 100000 in
theorem slices_Indeximpl_Field_impl_Field.say (N : Nat) : SayOk Tryd.prog (slices_Indeximpl_Field_impl_Field.S N) := sayOk_mk (N := N) (H := slices_Indeximpl_Field_impl_Field.H) (preps := [⟨[], [], [], []⟩]) (l := slices_Indeximpl_Field_impl_Field.says) (fn := Tryd.f48) (c := bodyOf Tryd.f48)
  (by kernel_rfl) (by kernel_rfl) (by kernel_rfl) (by kernel_rfl) (by kernel_rfl) (by kernel_rfl) (by kernel_rfl)
  (fun N => SayAll.nil) (fun a s => by kernel_rfl)

/-! ### loop.example/g00206/impl.StaticAt$1: function 50 -/
noncomputable def impl_StaticAt_1.H : Hints := hintsOf []
noncomputable def impl_StaticAt_1.says (N : Nat) : List Say := []
noncomputable def impl_StaticAt_1.call (N : Nat) : CallK := callBy (impl_StaticAt_1.says N)
noncomputable def impl_StaticAt_1.qt (N : Nat) : FuncId → List PV → Sig → Cl := qtBy (impl_StaticAt_1.says N)
noncomputable def impl_StaticAt_1 (N : Nat) (g_0 : ByteArray) (g_1 : ByteArray) (p0_0 : ByteArray) (p0_1 : ByteArray) : Option ((Bool × Unit) × ((ByteArray × (ByteArray × Unit)) × Unit)) :=
  ofFn Tryd.prog impl_StaticAt_1.call impl_StaticAt_1.qt impl_StaticAt_1.H N Tryd.f50 [.agg [ck_s, ck_s], .one (.ptr 0 0)] [.cells [ck_s, ck_s]] [ak_b] [.cells [ck_s, ck_s]] [⟨[], [], [], []⟩] ((g_0, (g_1, ())), ((), ())) ((p0_0, (p0_1, ())), ())
noncomputable def impl_StaticAt_1.S (N : Nat) : Say := ⟨false, 50, [.agg [ck_s, ck_s], .one (.ptr 0 0)], [.cells [ck_s, ck_s]], [ak_b], [.cells [ck_s, ck_s]], fun a s => impl_StaticAt_1 N a.1.1 a.1.2.1 s.1.1 s.1.2.1⟩
set_option maxRecDepth 100000 in
theorem impl_StaticAt_1.eq (N : Nat) (g_0 : ByteArray) (g_1 : ByteArray) (p0_0 : ByteArray) (p0_1 : ByteArray) : impl_StaticAt_1 N g_0 g_1 p0_0 p0_1 =
 some (((decide (g_0 = p0_0)), ()), ((p0_0, (p0_1, ())), ())) := by kernel_rfl
set_option maxRecDepth 100000 in
theorem impl_StaticAt_1.say (N : Nat) : SayOk Tryd.prog (impl_StaticAt_1.S N) := sayOk_mk (N := N) (H := impl_StaticAt_1.H) (preps := [⟨[], [], [], []⟩]) (l := impl_StaticAt_1.says) (fn := Tryd.f50) (c := bodyOf Tryd.f50)
  (by kernel_rfl) (by kernel_rfl) (by kernel_rfl) (by kernel_rfl) (by kernel_rfl) (by kernel_rfl) (by kernel_rfl)
  (fun N => SayAll.nil) (fun a s => by kernel_rfl)

/-! ### slices.IndexFunc[[]loop.example/g00206/impl.Field,loop.example/g00206/impl.Field]: function 49 -/
noncomputable def slices_IndexFuncimpl_Field_impl_Field_2.H : Hints := hintsOf [(2000002, .loop ⟨.normal, [0, 7], [1, 8], [.fn 50 [.ptr 0 0], ak_i], [.cells [ck_s, ck_s]], [⟨[], [], [], []⟩]⟩ [⟨.ret, [], [4], [ak_i], [.cells [ck_s, ck_s]], [⟨[], [], [], []⟩]⟩, ⟨(.exit 0), [], [], [], [.cells [ck_s, ck_s]], [⟨[], [], [], []⟩]⟩])]
noncomputable def slices_IndexFuncimpl_Field_impl_Field_2.says (N : Nat) : List Say := [impl_StaticAt_1.S N]
noncomputable def slices_IndexFuncimpl_Field_impl_Field_2.call (N : Nat) : CallK := callBy (slices_IndexFuncimpl_Field_impl_Field_2.says N)
noncomputable def slices_IndexFuncimpl_Field_impl_Field_2.qt (N : Nat) : FuncId → List PV → Sig → Cl := qtBy (slices_IndexFuncimpl_Field_impl_Field_2.says N)
noncomputable def slices_IndexFuncimpl_Field_impl_Field_2.l0.hd : Alt := ⟨.normal, [0, 7], [1, 8], [.fn 50 [.ptr 0 0], ak_i], [.cells [ck_s, ck_s]], [⟨[], [], [], []⟩]⟩
noncomputable def slices_IndexFuncimpl_Field_impl_Field_2.l0.outs : List Alt := [⟨.ret, [], [4], [ak_i], [.cells [ck_s, ck_s]], [⟨[], [], [], []⟩]⟩, ⟨(.exit 0), [], [], [], [.cells [ck_s, ck_s]], [⟨[], [], [], []⟩]⟩]
noncomputable def slices_IndexFuncimpl_Field_impl_Field_2.l0 (N : Nat) (s1 : (List (ByteArray × ByteArray))) (t7 : Int) (t8 : Int) (p0_01 : ByteArray) (p0_11 : ByteArray) : Option (((Int × Unit) × ((ByteArray × (ByteArray × Unit)) × Unit)) ⊕ (Unit × ((ByteArray × (ByteArray × Unit)) × Unit))) :=
  loopK Tryd.prog slices_IndexFuncimpl_Field_impl_Field_2.call slices_IndexFuncimpl_Field_impl_Field_2.qt slices_IndexFuncimpl_Field_impl_Field_2.H (codeAt (bodyOf Tryd.f49) [1, 0, 1, 0, 0]) 1 slices_IndexFuncimpl_Field_impl_Field_2.l0.hd slices_IndexFuncimpl_Field_impl_Field_2.l0.outs [(0, .rows false (.pair .str .str) s1), (7, .v (.int .i64 t7))] N ((((), ()), (t8, ())), ((p0_01, (p0_11, ())), ()))
noncomputable def slices_IndexFuncimpl_Field_impl_Field_2 (N : Nat) (s : (List (ByteArray × ByteArray))) (p0_0 : ByteArray) (p0_1 : ByteArray) : Option ((Int × Unit) × ((ByteArray × (ByteArray × Unit)) × Unit)) :=
  ofFn Tryd.prog slices_IndexFuncimpl_Field_impl_Field_2.call slices_IndexFuncimpl_Field_impl_Field_2.qt slices_IndexFuncimpl_Field_impl_Field_2.H N Tryd.f49 [.one (.sh (.rows (.pair .str .str))), .fn 50 [.ptr 0 0]] [.cells [ck_s, ck_s]] [ak_i] [.cells [ck_s, ck_s]] [⟨[], [], [], []⟩] (s, (((), ()), ())) ((p0_0, (p0_1, ())), ())
noncomputable def slices_IndexFuncimpl_Field_impl_Field_2.S (N : Nat) : Say := ⟨false, 49, [.one (.sh (.rows (.pair .str .str))), .fn 50 [.ptr 0 0]], [.cells [ck_s, ck_s]], [ak_i], [.cells [ck_s, ck_s]], fun a s => slices_IndexFuncimpl_Field_impl_Field_2 N a.1 s.1.1 s.1.2.1⟩
set_option maxRecDepth 100000 in
theorem slices_IndexFuncimpl_Field_impl_Field_2.l0.eq (N : Nat) (s1 : (List (ByteArray × ByteArray))) (t7 : Int) (t8 : Int) (p0_01 : ByteArray) (p0_11 : ByteArray) : slices_IndexFuncimpl_Field_impl_Field_2.l0 (N + 1) s1 t7 t8 p0_01 p0_11 =
 sel (decide (t8 < t7))
  (
  chk ((decide (0 ≤ t8)) && (decide (t8 < (s1.length : Int)))) (
  andK (impl_StaticAt_1 N (rdS (.pair .str .str) s1 (Int.toNat t8)).1 (rdS (.pair .str .str) s1 (Int.toNat t8)).2 p0_01 p0_11) fun u1 =>
  sel u1.1.1
   (
   some (.inl ((t8, ()), ((u1.2.1.1, (u1.2.1.2.1, ())), ()))))
   (
   slices_IndexFuncimpl_Field_impl_Field_2.l0 N s1 t7 (IntKind.i64.wrap (t8 + 1)) u1.2.1.1 u1.2.1.2.1)))
  (
  some (.inr (((), ((p0_01, (p0_11, ())), ()))))) := by kernel_rfl
set_option maxRecDepth 100000 in
theorem slices_IndexFuncimpl_Field_impl_Field_2.eq (N : Nat) (s : (List (ByteArray × ByteArray))) (p0_0 : ByteArray) (p0_1 : ByteArray) : slices_IndexFuncimpl_Field_impl_Field_2 N s p0_0 p0_1 =
 andK (slices_IndexFuncimpl_Field_impl_Field_2.l0 N s (s.length : Int) 0 p0_0 p0_1) fun l2 =>
 orK l2 (fun x3 =>
  some ((x3.1.1, ()), ((x3.2.1.1, (x3.2.1.2.1, ())), ())))
  (fun x4 =>
  some (((-1), ()), ((x4.2.1.1, (x4.2.1.2.1, ())), ()))) := by kernel_rfl
set_option maxRecDepth 100000 in
theorem slices_IndexFuncimpl_Field_impl_Field_2.say (N : Nat) : SayOk Tryd.prog (slices_IndexFuncimpl_Field_impl_Field_2.S N) := sayOk_mk (N := N) (H := slices_IndexFuncimpl_Field_impl_Field_2.H) (preps := [⟨[], [], [], []⟩]) (l := slices_IndexFuncimpl_Field_impl_Field_2.says) (fn := Tryd.f49) (c := bodyOf Tryd.f49)
  (by kernel_rfl) (by kernel_rfl) (by kernel_rfl) (by kernel_rfl) (by kernel_rfl) (by kernel_rfl) (by kernel_rfl)
  (fun N => SayAll.cons (impl_StaticAt_1.say N) (SayAll.nil)) (fun a s => by kernel_rfl)

/-! ### loop.example/g00206/impl.StaticAt: function 19 -/
noncomputable def impl_StaticAt.H : Hints := hintsOf []
noncomputable def impl_StaticAt.says (N : Nat) : List Say := [impl_static.S N, slices_Indeximpl_Field_impl_Field.S N, slices_IndexFuncimpl_Field_impl_Field_2.S N]
noncomputable def impl_StaticAt.call (N : Nat) : CallK := callBy (impl_StaticAt.says N)
noncomputable def impl_StaticAt.qt (N : Nat) : FuncId → List PV → Sig → Cl := qtBy (impl_StaticAt.says N)
noncomputable def impl_StaticAt (N : Nat) (f_0 : ByteArray) (f_1 : ByteArray) : Option ((Int × (Int × Unit)) × Unit) :=
  ofFn Tryd.prog impl_StaticAt.call impl_StaticAt.qt impl_StaticAt.H N Tryd.f19 [.agg [ck_s, ck_s]] [] [ak_i, ak_i] [] [⟨[], [], [], []⟩] ((f_0, (f_1, ())), ()) ()
noncomputable def impl_StaticAt.S (N : Nat) : Say := ⟨false, 19, [.agg [ck_s, ck_s]], [], [ak_i, ak_i], [], fun a s => impl_StaticAt N a.1.1 a.1.2.1⟩
set_option maxRecDepth 100000 in
theorem impl_StaticAt.eq (N : Nat) (f_0 : ByteArray) (f_1 : ByteArray) : impl_StaticAt N f_0 f_1 =
 andK (impl_static N) fun u1 =>
 andK (slices_Indeximpl_Field_impl_Field N u1.1.1 f_0 f_1) fun u2 =>
 andK (impl_static N) fun u3 =>
 andK (slices_IndexFuncimpl_Field_impl_Field_2 N u3.1.1 f_0 f_1) fun u4 =>
 some ((u2.1.1, (u4.1.1, ())), ()) := by kernel_rfl
set_option maxRecDepth 100000 in
theorem impl_StaticAt.say (N : Nat) : SayOk Tryd.prog (impl_StaticAt.S N) := sayOk_mk (N := N) (H := impl_StaticAt.H) (preps := [⟨[], [], [], []⟩]) (l := impl_StaticAt.says) (fn := Tryd.f19) (c := bodyOf Tryd.f19)
  (by kernel_rfl) (by kernel_rfl) (by kernel_rfl) (by kernel_rfl) (by kernel_rfl) (by kernel_rfl) (by kernel_rfl)
  (fun N => SayAll.cons (impl_static.say N) (SayAll.cons (slices_Indeximpl_Field_impl_Field.say N) (SayAll.cons (slices_IndexFuncimpl_Field_impl_Field_2.say N) (SayAll.nil)))) (fun a s => by kernel_rfl)

/-! ### (loop.example/g00206/impl.Field).bytes: function 72 -/
noncomputable def impl_Field_bytes.H : Hints := hintsOf []
noncomputable def impl_Field_bytes.says (N : Nat) : List Say := [impl_prefixed.S N, impl_StaticAt.S N]
noncomputable def impl_Field_bytes.call (N : Nat) : CallK := callBy (impl_Field_bytes.says N)
noncomputable def impl_Field_bytes.qt (N : Nat) : FuncId → List PV → Sig → Cl := qtBy (impl_Field_bytes.says N)
noncomputable def impl_Field_bytes (N : Nat) (f_0 : ByteArray) (f_1 : ByteArray) : Option ((ByteArray × Unit) × Unit) :=
  ofFn Tryd.prog impl_Field_bytes.call impl_Field_bytes.qt impl_Field_bytes.H N Tryd.f72 [.agg [ck_s, ck_s]] [] [ak_s] [] [⟨[], [], [], []⟩] ((f_0, (f_1, ())), ()) ()
noncomputable def impl_Field_bytes.S (N : Nat) : Say := ⟨false, 72, [.agg [ck_s, ck_s]], [], [ak_s], [], fun a s => impl_Field_bytes N a.1.1 a.1.2.1⟩
set_option maxRecDepth 100000 in
theorem impl_Field_bytes.eq (N : Nat) (f_0 : ByteArray) (f_1 : ByteArray) : impl_Field_bytes N f_0 f_1 =
 andK (impl_prefixed N (f_1.size : Int) 7 0) fun u1 =>
 chk (decide (u1.1.1.size + f_1.size ≤ 9223372036854775807)) (
 andK (impl_StaticAt N f_0 f_1) fun u2 =>
 sel (decide (0 ≤ u2.1.1))
  (
  andK (impl_prefixed N u2.1.1 6 192) fun u3 =>
  some ((u3.1.1, ()), ()))
  (
  sel (decide (0 ≤ u2.1.2.1))
   (
   andK (impl_prefixed N u2.1.2.1 4 80) fun u4 =>
   chk (decide (u4.1.1.size + (u1.1.1 ++ f_1).size ≤ 9223372036854775807)) (
   some (((u4.1.1 ++ (u1.1.1 ++ f_1)), ()), ())))
   (
   andK (impl_prefixed N (f_0.size : Int) 3 32) fun u5 =>
   chk (decide (u5.1.1.size + f_0.size ≤ 9223372036854775807)) (
   chk (decide ((u5.1.1 ++ f_0).size + (u1.1.1 ++ f_1).size ≤ 9223372036854775807)) (
   some ((((u5.1.1 ++ f_0) ++ (u1.1.1 ++ f_1)), ()), ())))))) := by kernel_rfl
set_option maxRecDepth 100000 in
theorem impl_Field_bytes.say (N : Nat) : SayOk Tryd.prog (impl_Field_bytes.S N) := sayOk_mk (N := N) (H := impl_Field_bytes.H) (preps := [⟨[], [], [], []⟩]) (l := impl_Field_bytes.says) (fn := Tryd.f72) (c := bodyOf Tryd.f72)
  (by kernel_rfl) (by kernel_rfl) (by kernel_rfl) (by kernel_rfl) (by kernel_rfl) (by kernel_rfl) (by kernel_rfl)
  (fun N => SayAll.cons (impl_prefixed.say N) (SayAll.cons (impl_StaticAt.say N) (SayAll.nil))) (fun a s => by kernel_rfl)

/-! ### loop.example/g00206/impl.fieldsBytes: function 39 -/
noncomputable def impl_fieldsBytes.H : Hints := hintsOf [(2000003, .loop ⟨.normal, [6, 7], [3, 8], [ak_s, ak_i], [], [⟨[], [], [], []⟩]⟩ [⟨(.exit 0), [], [3], [ak_s], [], [⟨[], [], [], []⟩]⟩])]
noncomputable def impl_fieldsBytes.says (N : Nat) : List Say := [impl_Field_bytes.S N]
noncomputable def impl_fieldsBytes.call (N : Nat) : CallK := callBy (impl_fieldsBytes.says N)
noncomputable def impl_fieldsBytes.qt (N : Nat) : FuncId → List PV → Sig → Cl := qtBy (impl_fieldsBytes.says N)
noncomputable def impl_fieldsBytes.l0.hd : Alt := ⟨.normal, [6, 7], [3, 8], [ak_s, ak_i], [], [⟨[], [], [], []⟩]⟩
noncomputable def impl_fieldsBytes.l0.outs : List Alt := [⟨(.exit 0), [], [3], [ak_s], [], [⟨[], [], [], []⟩]⟩]
noncomputable def impl_fieldsBytes.l0 (N : Nat) (t6 : (List (ByteArray × ByteArray))) (t7 : Int) (out : ByteArray) (t8 : Int) : Option ((ByteArray × Unit) × Unit) :=
  loopK Tryd.prog impl_fieldsBytes.call impl_fieldsBytes.qt impl_fieldsBytes.H (codeAt (bodyOf Tryd.f39) [1, 1, 0, 1, 0, 0]) 0 impl_fieldsBytes.l0.hd impl_fieldsBytes.l0.outs [(6, .rows false (.pair .str .str) t6), (7, .v (.int .i64 t7))] N ((out, (t8, ())), ())
noncomputable def impl_fieldsBytes (N : Nat) (l : (List (ByteArray × ByteArray))) : Option ((ByteArray × Unit) × Unit) :=
  ofFn Tryd.prog impl_fieldsBytes.call impl_fieldsBytes.qt impl_fieldsBytes.H N Tryd.f39 [.one (.sh (.rows (.pair .str .str)))] [] [ak_s] [] [⟨[], [], [], []⟩] (l, ()) ()
noncomputable def impl_fieldsBytes.S (N : Nat) : Say := ⟨false, 39, [.one (.sh (.rows (.pair .str .str)))], [], [ak_s], [], fun a s => impl_fieldsBytes N a.1⟩
set_option maxRecDepth 100000 in
theorem impl_fieldsBytes.l0.eq (N : Nat) (t6 : (List (ByteArray × ByteArray))) (t7 : Int) (out : ByteArray) (t8 : Int) : impl_fieldsBytes.l0 (N + 1) t6 t7 out t8 =
 sel (decide (t8 < t7))
  (
  chk ((decide (0 ≤ t8)) && (decide (t8 < (t6.length : Int)))) (
  andK (impl_Field_bytes N (rdS (.pair .str .str) t6 (Int.toNat t8)).1 (rdS (.pair .str .str) t6 (Int.toNat t8)).2) fun u1 =>
  chk (decide (out.size + u1.1.1.size ≤ 9223372036854775807)) (
  impl_fieldsBytes.l0 N t6 t7 (out ++ u1.1.1) (IntKind.i64.wrap (t8 + 1)))))
  (
  some (((out, ()), ()))) := by kernel_rfl
set_option maxRecDepth 100000 in
theorem impl_fieldsBytes.eq (N : Nat) (l : (List (ByteArray × ByteArray))) : impl_fieldsBytes N l =
 andK (impl_fieldsBytes.l0 N l (l.length : Int) (⟨#[0, 0]⟩ : ByteArray) 0) fun l2 =>
 some ((l2.1.1, ()), ()) := by kernel_rfl
set_option maxRecDepth 100000 in
theorem impl_fieldsBytes.say (N : Nat) : SayOk Tryd.prog (impl_fieldsBytes.S N) := sayOk_mk (N := N) (H := impl_fieldsBytes.H) (preps := [⟨[], [], [], []⟩]) (l := impl_fieldsBytes.says) (fn := Tryd.f39) (c := bodyOf Tryd.f39)
  (by kernel_rfl) (by kernel_rfl) (by kernel_rfl) (by kernel_rfl) (by kernel_rfl) (by kernel_rfl) (by kernel_rfl)
  (fun N => SayAll.cons (impl_Field_bytes.say N) (SayAll.nil)) (fun a s => by kernel_rfl)
noncomputable def impl_fieldsBytes.SB (N : Nat) : Say := impl_fieldsBytes.S N |>.lent
theorem impl_fieldsBytes.sayB (N : Nat) : SayOk Tryd.prog (impl_fieldsBytes.SB N) := (impl_fieldsBytes.say N).lent

/-! ### loop.example/g00206/impl.FieldsBytes: function 13 -/
noncomputable def impl_FieldsBytes.H : Hints := hintsOf []
noncomputable def impl_FieldsBytes.says (N : Nat) : List Say := [impl_GoodFields.S N, impl_fieldsBytes.S N]
noncomputable def impl_FieldsBytes.call (N : Nat) : CallK := callBy (impl_FieldsBytes.says N)
noncomputable def impl_FieldsBytes.qt (N : Nat) : FuncId → List PV → Sig → Cl := qtBy (impl_FieldsBytes.says N)
noncomputable def impl_FieldsBytes (N : Nat) (l : (List (ByteArray × ByteArray))) : Option ((ByteArray × (Bool × Unit)) × Unit) :=
  ofFn Tryd.prog impl_FieldsBytes.call impl_FieldsBytes.qt impl_FieldsBytes.H N Tryd.f13 [.one (.sh (.rows (.pair .str .str)))] [] [ak_s, ak_b] [] [⟨[], [], [], []⟩] (l, ()) ()
noncomputable def impl_FieldsBytes.S (N : Nat) : Say := ⟨false, 13, [.one (.sh (.rows (.pair .str .str)))], [], [ak_s, ak_b], [], fun a s => impl_FieldsBytes N a.1⟩
set_option maxRecDepth 100000 in
theorem impl_FieldsBytes.eq (N : Nat) (l : (List (ByteArray × ByteArray))) : impl_FieldsBytes N l =
 andK (impl_GoodFields N l) fun u1 =>
 sel (!u1.1.1)
  (
  some (((⟨#[]⟩ : ByteArray), (false, ())), ()))
  (
  andK (impl_fieldsBytes N l) fun u2 =>
  some ((u2.1.1, (true, ())), ())) := by kernel_rfl
set_option maxRecDepth 100000 in
theorem impl_FieldsBytes.say (N : Nat) : SayOk Tryd.prog (impl_FieldsBytes.S N) := sayOk_mk (N := N) (H := impl_FieldsBytes.H) (preps := [⟨[], [], [], []⟩]) (l := impl_FieldsBytes.says) (fn := Tryd.f13) (c := bodyOf Tryd.f13)
  (by kernel_rfl) (by kernel_rfl) (by kernel_rfl) (by kernel_rfl) (by kernel_rfl) (by kernel_rfl) (by kernel_rfl)
  (fun N => SayAll.cons (impl_GoodFields.say N) (SayAll.cons (impl_fieldsBytes.say N) (SayAll.nil))) (fun a s => by kernel_rfl)
noncomputable def impl_FieldsBytes.SB (N : Nat) : Say := impl_FieldsBytes.S N |>.lent
theorem impl_FieldsBytes.sayB (N : Nat) : SayOk Tryd.prog (impl_FieldsBytes.SB N) := (impl_FieldsBytes.say N).lent

/-! ### loop.example/g00206/spec.l15At: function 75 -/
noncomputable def spec_l15At.H : Hints := hintsOf [(5000006, .join [⟨.normal, [4, 5, 6, 8, 9, 10], [1, 7, 21], [.one (.ptr 0 0), .one (.ptr 1 0), ak_b], [.cells [ck_s, ck_s], .cells [ck_s, ck_s]], [⟨[], [], [], []⟩]⟩]),
  (8, .join [⟨.normal, [5, 6, 8, 9, 10], [1, 4, 7], [.one (.ptr 0 0), ak_i, .one (.ptr 1 0)], [.cells [ck_s, ck_s], .cells [ck_s, ck_s]], [⟨[], [], [], []⟩]⟩]),
  (5000008, .join [⟨.normal, [4, 5, 6, 8, 9, 10], [1, 31], [.one (.ptr 0 0), ak_b], [.cells [ck_s, ck_s], .cells [ck_s, ck_s]], [⟨[], [], [], []⟩]⟩]),
  (10, .join [⟨.normal, [8, 9, 10], [1, 4, 5], [.one (.ptr 0 0), ak_i, ak_i], [.cells [ck_s, ck_s]], [⟨[], [], [], []⟩]⟩]),
  (2000004, .loop ⟨.normal, [8, 9], [1, 4, 5, 10], [.one (.ptr 0 0), ak_i, ak_i, ak_i], [.cells [ck_s, ck_s]], [⟨[], [], [], []⟩]⟩ [⟨(.exit 0), [], [4, 5], [ak_i, ak_i], [.cells [ck_s, ck_s]], [⟨[], [], [], []⟩]⟩])]
noncomputable def spec_l15At.says (N : Nat) : List Say := [spec_l15Static.S N]
noncomputable def spec_l15At.call (N : Nat) : CallK := callBy (spec_l15At.says N)
noncomputable def spec_l15At.qt (N : Nat) : FuncId → List PV → Sig → Cl := qtBy (spec_l15At.says N)
noncomputable def spec_l15At.l0.hd : Alt := ⟨.normal, [8, 9], [1, 4, 5, 10], [.one (.ptr 0 0), ak_i, ak_i, ak_i], [.cells [ck_s, ck_s]], [⟨[], [], [], []⟩]⟩
noncomputable def spec_l15At.l0.outs : List Alt := [⟨(.exit 0), [], [4, 5], [ak_i, ak_i], [.cells [ck_s, ck_s]], [⟨[], [], [], []⟩]⟩]
noncomputable def spec_l15At.l0 (N : Nat) (t8 : (List (ByteArray × ByteArray))) (t9 : Int) (a : Int) (b : Int) (t10 : Int) (p0_0 : ByteArray) (p0_1 : ByteArray) : Option ((Int × (Int × Unit)) × ((ByteArray × (ByteArray × Unit)) × Unit)) :=
  loopK Tryd.prog spec_l15At.call spec_l15At.qt spec_l15At.H (codeAt (bodyOf Tryd.f75) [1, 1, 1, 0, 1, 0, 0]) 1 spec_l15At.l0.hd spec_l15At.l0.outs [(8, .rows false (.pair .str .str) t8), (9, .v (.int .i64 t9))] N (((), (a, (b, (t10, ())))), ((p0_0, (p0_1, ())), ()))
noncomputable def spec_l15At (N : Nat) (f_0 : ByteArray) (f_1 : ByteArray) : Option ((Int × (Int × Unit)) × Unit) :=
  ofFn Tryd.prog spec_l15At.call spec_l15At.qt spec_l15At.H N Tryd.f75 [.agg [ck_s, ck_s]] [] [ak_i, ak_i] [] [⟨[], [], [], []⟩] ((f_0, (f_1, ())), ()) ()
noncomputable def spec_l15At.S (N : Nat) : Say := ⟨false, 75, [.agg [ck_s, ck_s]], [], [ak_i, ak_i], [], fun a s => spec_l15At N a.1.1 a.1.2.1⟩
set_option maxRecDepth 100000 in
theorem spec_l15At.l0.eq (N : Nat) (t8 : (List (ByteArray × ByteArray))) (t9 : Int) (a : Int) (b : Int) (t10 : Int) (p0_0 : ByteArray) (p0_1 : ByteArray) : spec_l15At.l0 (N + 1) t8 t9 a b t10 p0_0 p0_1 =
 sel (decide (t10 < t9))
  (
  andK (α := ((Unit × (Int × (Int × Unit))) × ((ByteArray × (ByteArray × Unit)) × Unit))) (
   chk ((decide (0 ≤ t10)) && (decide (t10 < (t8.length : Int)))) (
   andK (α := ((Unit × (Int × (Unit × Unit))) × ((ByteArray × (ByteArray × Unit)) × ((ByteArray × (ByteArray × Unit)) × Unit)))) (
    andK (α := ((Unit × (Unit × (Bool × Unit))) × ((ByteArray × (ByteArray × Unit)) × ((ByteArray × (ByteArray × Unit)) × Unit)))) (
     sel (decide (a < 0))
      (
      some ((((), ((), (((decide ((rdS (.pair .str .str) t8 (Int.toNat t10)).1 = p0_0)) && (decide ((rdS (.pair .str .str) t8 (Int.toNat t10)).2 = p0_1))), ()))), ((p0_0, (p0_1, ())), (((rdS (.pair .str .str) t8 (Int.toNat t10)).1, ((rdS (.pair .str .str) t8 (Int.toNat t10)).2, ())), ())))))
      (
      some ((((), ((), (false, ()))), ((p0_0, (p0_1, ())), (((rdS (.pair .str .str) t8 (Int.toNat t10)).1, ((rdS (.pair .str .str) t8 (Int.toNat t10)).2, ())), ())))))) fun j2 =>
    sel j2.1.2.2.1
     (
     some ((((), (t10, ((), ()))), ((j2.2.1.1, (j2.2.1.2.1, ())), ((j2.2.2.1.1, (j2.2.2.1.2.1, ())), ())))))
     (
     some ((((), (a, ((), ()))), ((j2.2.1.1, (j2.2.1.2.1, ())), ((j2.2.2.1.1, (j2.2.2.1.2.1, ())), ())))))) fun j3 =>
   andK (α := ((Unit × (Bool × Unit)) × ((ByteArray × (ByteArray × Unit)) × ((ByteArray × (ByteArray × Unit)) × Unit)))) (
    sel (decide (b < 0))
     (
     some ((((), ((decide (j3.2.2.1.1 = j3.2.1.1)), ())), ((j3.2.1.1, (j3.2.1.2.1, ())), ((j3.2.2.1.1, (j3.2.2.1.2.1, ())), ())))))
     (
     some ((((), (false, ())), ((j3.2.1.1, (j3.2.1.2.1, ())), ((j3.2.2.1.1, (j3.2.2.1.2.1, ())), ())))))) fun j4 =>
   sel j4.1.2.1
    (
    some ((((), (j3.1.2.1, (t10, ()))), ((j4.2.1.1, (j4.2.1.2.1, ())), ()))))
    (
    some ((((), (j3.1.2.1, (b, ()))), ((j4.2.1.1, (j4.2.1.2.1, ())), ())))))) fun j5 =>
  spec_l15At.l0 N t8 t9 j5.1.2.1 j5.1.2.2.1 (IntKind.i64.wrap (t10 + 1)) j5.2.1.1 j5.2.1.2.1)
  (
  some (((a, (b, ())), ((p0_0, (p0_1, ())), ())))) := by kernel_rfl
set_option maxRecDepth 100000 in
theorem spec_l15At.eq (N : Nat) (f_0 : ByteArray) (f_1 : ByteArray) : spec_l15At N f_0 f_1 =
 andK (spec_l15Static N) fun u1 =>
 andK (spec_l15At.l0 N u1.1.1 (u1.1.1.length : Int) (-1) (-1) 0 f_0 f_1) fun l6 =>
 some ((l6.1.1, (l6.1.2.1, ())), ()) := by kernel_rfl
set_option maxRecDepth 100000 in
theorem spec_l15At.say (N : Nat) : SayOk Tryd.prog (spec_l15At.S N) := sayOk_mk (N := N) (H := spec_l15At.H) (preps := [⟨[], [], [], []⟩]) (l := spec_l15At.says) (fn := Tryd.f75) (c := bodyOf Tryd.f75)
  (by kernel_rfl) (by kernel_rfl) (by kernel_rfl) (by kernel_rfl) (by kernel_rfl) (by kernel_rfl) (by kernel_rfl)
  (fun N => SayAll.cons (spec_l15Static.say N) (SayAll.nil)) (fun a s => by kernel_rfl)

/-! ### loop.example/g00206/spec.l1Fixed: function 94 -/
noncomputable def spec_l1Fixed.H : Hints := hintsOf [(2000003, .loop ⟨.normal, [0], [5, 6], [.one (.own 0), ak_i], [.rows (.int .u8)], [⟨[(5, (.int .u8))], [], [], [0]⟩, ⟨[], [], [], [0]⟩]⟩ [⟨(.exit 0), [], [5], [.one (.own 0)], [.rows (.int .u8)], [⟨[], [], [], [0]⟩]⟩])]
noncomputable def spec_l1Fixed.says (N : Nat) : List Say := []
noncomputable def spec_l1Fixed.call (N : Nat) : CallK := callBy (spec_l1Fixed.says N)
noncomputable def spec_l1Fixed.qt (N : Nat) : FuncId → List PV → Sig → Cl := qtBy (spec_l1Fixed.says N)
noncomputable def spec_l1Fixed.l0.hd : Alt := ⟨.normal, [0], [5, 6], [.one (.own 0), ak_i], [.rows (.int .u8)], [⟨[(5, (.int .u8))], [], [], [0]⟩, ⟨[], [], [], [0]⟩]⟩
noncomputable def spec_l1Fixed.l0.outs : List Alt := [⟨(.exit 0), [], [5], [.one (.own 0)], [.rows (.int .u8)], [⟨[], [], [], [0]⟩]⟩]
noncomputable def spec_l1Fixed.l0 (N : Nat) (n1 : Int) (k : Int) (p0 : (List Int)) : Option ((Unit × Unit) × ((List Int) × Unit)) :=
  loopK Tryd.prog spec_l1Fixed.call spec_l1Fixed.qt spec_l1Fixed.H (codeAt (bodyOf Tryd.f94) [1, 1, 0, 1, 0, 0]) 0 spec_l1Fixed.l0.hd spec_l1Fixed.l0.outs [(0, .v (.int .i64 n1))] N (((), (k, ())), (p0, ()))
noncomputable def spec_l1Fixed (N : Nat) (n : Int) (many : Int) : Option ((ByteArray × Unit) × Unit) :=
  ofFn Tryd.prog spec_l1Fixed.call spec_l1Fixed.qt spec_l1Fixed.H N Tryd.f94 [ak_i, ak_i] [] [ak_s] [] [⟨[], [], [], []⟩] (n, (many, ())) ()
noncomputable def spec_l1Fixed.S (N : Nat) : Say := ⟨false, 94, [ak_i, ak_i], [], [ak_s], [], fun a s => spec_l1Fixed N a.1 a.2.1⟩
set_option maxRecDepth 100000 in
theorem spec_l1Fixed.l0.eq (N : Nat) (n1 : Int) (k : Int) (p0 : (List Int)) : spec_l1Fixed.l0 (N + 1) n1 k p0 =
 sel (decide (0 ≤ k))
  (
  chk (decide (0 ≤ (IntKind.u64.wrap (IntKind.i64.wrap (8 * k))))) (
  chk (decide (p0.length + 1 < most)) (
  spec_l1Fixed.l0 N n1 (IntKind.i64.wrap (k - 1)) (p0 ++ [(IntKind.u8.wrap (shrI .i64 n1 (IntKind.u64.wrap (IntKind.i64.wrap (8 * k)))))]))))
  (
  some ((((), ()), (p0, ())))) := by kernel_rfl
set_option maxRecDepth 100000 in
theorem spec_l1Fixed.eq (N : Nat) (n : Int) (many : Int) : spec_l1Fixed N n many =
 andK (spec_l1Fixed.l0 N n (IntKind.i64.wrap (many - 1)) []) fun l1 =>
 some (((strL l1.2.1), ()), ()) := by kernel_rfl
set_option maxRecDepth 100000 in
theorem spec_l1Fixed.say (N : Nat) : SayOk Tryd.prog (spec_l1Fixed.S N) := sayOk_mk (N := N) (H := spec_l1Fixed.H) (preps := [⟨[], [], [], []⟩]) (l := spec_l1Fixed.says) (fn := Tryd.f94) (c := bodyOf Tryd.f94)
  (by kernel_rfl) (by kernel_rfl) (by kernel_rfl) (by kernel_rfl) (by kernel_rfl) (by kernel_rfl) (by kernel_rfl)
  (fun N => SayAll.nil) (fun a s => by kernel_rfl)

/-! ### loop.example/g00206/spec.l15Prefix: function 76 -/
noncomputable def spec_l15Prefix.H : Hints := hintsOf [(2000006, .loop ⟨.normal, [], [0, 8], [ak_i, ak_s], [], [⟨[], [], [], []⟩]⟩ [⟨(.exit 0), [], [0, 8], [ak_i, ak_s], [], [⟨[], [], [], []⟩]⟩])]
noncomputable def spec_l15Prefix.says (N : Nat) : List Say := [spec_l1Fixed.S N]
noncomputable def spec_l15Prefix.call (N : Nat) : CallK := callBy (spec_l15Prefix.says N)
noncomputable def spec_l15Prefix.qt (N : Nat) : FuncId → List PV → Sig → Cl := qtBy (spec_l15Prefix.says N)
noncomputable def spec_l15Prefix.l0.hd : Alt := ⟨.normal, [], [0, 8], [ak_i, ak_s], [], [⟨[], [], [], []⟩]⟩
noncomputable def spec_l15Prefix.l0.outs : List Alt := [⟨(.exit 0), [], [0, 8], [ak_i, ak_s], [], [⟨[], [], [], []⟩]⟩]
noncomputable def spec_l15Prefix.l0 (N : Nat) (n1 : Int) (s : ByteArray) : Option ((Int × (ByteArray × Unit)) × Unit) :=
  loopK Tryd.prog spec_l15Prefix.call spec_l15Prefix.qt spec_l15Prefix.H (codeAt (bodyOf Tryd.f76) [1, 1, 1, 1, 1, 0, 0, 0]) 0 spec_l15Prefix.l0.hd spec_l15Prefix.l0.outs [] N ((n1, (s, ())), ())
noncomputable def spec_l15Prefix (N : Nat) (n : Int) (bits : Int) (first : Int) : Option ((ByteArray × Unit) × Unit) :=
  ofFn Tryd.prog spec_l15Prefix.call spec_l15Prefix.qt spec_l15Prefix.H N Tryd.f76 [ak_i, ak_i, ak_i] [] [ak_s] [] [⟨[], [], [], []⟩] (n, (bits, (first, ()))) ()
noncomputable def spec_l15Prefix.S (N : Nat) : Say := ⟨false, 76, [ak_i, ak_i, ak_i], [], [ak_s], [], fun a s => spec_l15Prefix N a.1 a.2.1 a.2.2.1⟩
set_option maxRecDepth 100000 in
theorem spec_l15Prefix.l0.eq (N : Nat) (n1 : Int) (s : ByteArray) : spec_l15Prefix.l0 (N + 1) n1 s =
 sel (decide (127 < n1))
  (
  andK (spec_l1Fixed N (Go.bits .or .i64 (Go.bits .and .i64 n1 127) 128) 1) fun u3 =>
  chk (decide (s.size + u3.1.1.size ≤ 9223372036854775807)) (
  spec_l15Prefix.l0 N (shrI .i64 n1 7) (s ++ u3.1.1)))
  (
  some (((n1, (s, ())), ()))) := by kernel_rfl
set_option maxRecDepth 100000 in
theorem spec_l15Prefix.eq (N : Nat) (n : Int) (bits : Int) (first : Int) : spec_l15Prefix N n bits first =
 chk (decide (0 ≤ (IntKind.u64.wrap bits))) (
 sel (decide (n < (IntKind.i64.wrap ((shlI .i64 1 (IntKind.u64.wrap bits)) - 1))))
  (
  andK (spec_l1Fixed N (Go.bits .or .i64 first n) 1) fun u1 =>
  some ((u1.1.1, ()), ()))
  (
  andK (spec_l1Fixed N (Go.bits .or .i64 first (IntKind.i64.wrap ((shlI .i64 1 (IntKind.u64.wrap bits)) - 1))) 1) fun u2 =>
  andK (spec_l15Prefix.l0 N (IntKind.i64.wrap (n - (IntKind.i64.wrap ((shlI .i64 1 (IntKind.u64.wrap bits)) - 1)))) u2.1.1) fun l4 =>
  andK (spec_l1Fixed N l4.1.1 1) fun u5 =>
  chk (decide (l4.1.2.1.size + u5.1.1.size ≤ 9223372036854775807)) (
  some (((l4.1.2.1 ++ u5.1.1), ()), ())))) := by kernel_rfl
set_option maxRecDepth 100000 in
theorem spec_l15Prefix.say (N : Nat) : SayOk Tryd.prog (spec_l15Prefix.S N) := sayOk_mk (N := N) (H := spec_l15Prefix.H) (preps := [⟨[], [], [], []⟩]) (l := spec_l15Prefix.says) (fn := Tryd.f76) (c := bodyOf Tryd.f76)
  (by kernel_rfl) (by kernel_rfl) (by kernel_rfl) (by kernel_rfl) (by kernel_rfl) (by kernel_rfl) (by kernel_rfl)
  (fun N => SayAll.cons (spec_l1Fixed.say N) (SayAll.nil)) (fun a s => by kernel_rfl)

/-! ### loop.example/g00206/spec.l15Bytes: function 41 -/
noncomputable def spec_l15Bytes.H : Hints := hintsOf [(12, .join [⟨.normal, [9, 10, 11], [3], [ak_s], [], [⟨[], [], [], []⟩]⟩]),
  (2000003, .loop ⟨.normal, [9, 10], [3, 11], [ak_s, ak_i], [], [⟨[], [], [], []⟩]⟩ [⟨(.exit 0), [], [3], [ak_s], [], [⟨[], [], [], []⟩]⟩])]
noncomputable def spec_l15Bytes.says (N : Nat) : List Say := [spec_l15At.S N, spec_l15Prefix.S N]
noncomputable def spec_l15Bytes.call (N : Nat) : CallK := callBy (spec_l15Bytes.says N)
noncomputable def spec_l15Bytes.qt (N : Nat) : FuncId → List PV → Sig → Cl := qtBy (spec_l15Bytes.says N)
noncomputable def spec_l15Bytes.l0.hd : Alt := ⟨.normal, [9, 10], [3, 11], [ak_s, ak_i], [], [⟨[], [], [], []⟩]⟩
noncomputable def spec_l15Bytes.l0.outs : List Alt := [⟨(.exit 0), [], [3], [ak_s], [], [⟨[], [], [], []⟩]⟩]
noncomputable def spec_l15Bytes.l0 (N : Nat) (t9 : (List (ByteArray × ByteArray))) (t10 : Int) (s : ByteArray) (t11 : Int) : Option ((ByteArray × Unit) × Unit) :=
  loopK Tryd.prog spec_l15Bytes.call spec_l15Bytes.qt spec_l15Bytes.H (codeAt (bodyOf Tryd.f41) [1, 1, 0, 1, 0, 0]) 0 spec_l15Bytes.l0.hd spec_l15Bytes.l0.outs [(9, .rows false (.pair .str .str) t9), (10, .v (.int .i64 t10))] N ((s, (t11, ())), ())
noncomputable def spec_l15Bytes (N : Nat) (l : (List (ByteArray × ByteArray))) : Option ((ByteArray × Unit) × Unit) :=
  ofFn Tryd.prog spec_l15Bytes.call spec_l15Bytes.qt spec_l15Bytes.H N Tryd.f41 [.one (.sh (.rows (.pair .str .str)))] [] [ak_s] [] [⟨[], [], [], []⟩] (l, ()) ()
noncomputable def spec_l15Bytes.S (N : Nat) : Say := ⟨false, 41, [.one (.sh (.rows (.pair .str .str)))], [], [ak_s], [], fun a s => spec_l15Bytes N a.1⟩
set_option maxRecDepth 100000 in
theorem spec_l15Bytes.l0.eq (N : Nat) (t9 : (List (ByteArray × ByteArray))) (t10 : Int) (s : ByteArray) (t11 : Int) : spec_l15Bytes.l0 (N + 1) t9 t10 s t11 =
 sel (decide (t11 < t10))
  (
  andK (α := ((ByteArray × Unit) × Unit)) (
   chk ((decide (0 ≤ t11)) && (decide (t11 < (t9.length : Int)))) (
   andK (spec_l15At N (rdS (.pair .str .str) t9 (Int.toNat t11)).1 (rdS (.pair .str .str) t9 (Int.toNat t11)).2) fun u1 =>
   andK (spec_l15Prefix N ((rdS (.pair .str .str) t9 (Int.toNat t11)).2.size : Int) 7 0) fun u2 =>
   chk (decide (u2.1.1.size + (rdS (.pair .str .str) t9 (Int.toNat t11)).2.size ≤ 9223372036854775807)) (
   sel (decide (0 ≤ u1.1.1))
    (
    andK (spec_l15Prefix N u1.1.1 6 192) fun u3 =>
    chk (decide (s.size + u3.1.1.size ≤ 9223372036854775807)) (
    some ((((s ++ u3.1.1), ()), ()))))
    (
    sel (decide (0 ≤ u1.1.2.1))
     (
     andK (spec_l15Prefix N u1.1.2.1 4 80) fun u4 =>
     chk (decide (u4.1.1.size + (u2.1.1 ++ (rdS (.pair .str .str) t9 (Int.toNat t11)).2).size ≤ 9223372036854775807)) (
     chk (decide (s.size + (u4.1.1 ++ (u2.1.1 ++ (rdS (.pair .str .str) t9 (Int.toNat t11)).2)).size ≤ 9223372036854775807)) (
     some ((((s ++ (u4.1.1 ++ (u2.1.1 ++ (rdS (.pair .str .str) t9 (Int.toNat t11)).2))), ()), ())))))
     (
     andK (spec_l15Prefix N ((rdS (.pair .str .str) t9 (Int.toNat t11)).1.size : Int) 3 32) fun u5 =>
     chk (decide (u5.1.1.size + (rdS (.pair .str .str) t9 (Int.toNat t11)).1.size ≤ 9223372036854775807)) (
     chk (decide ((u5.1.1 ++ (rdS (.pair .str .str) t9 (Int.toNat t11)).1).size + (u2.1.1 ++ (rdS (.pair .str .str) t9 (Int.toNat t11)).2).size ≤ 9223372036854775807)) (
     chk (decide (s.size + ((u5.1.1 ++ (rdS (.pair .str .str) t9 (Int.toNat t11)).1) ++ (u2.1.1 ++ (rdS (.pair .str .str) t9 (Int.toNat t11)).2)).size ≤ 9223372036854775807)) (
     some ((((s ++ ((u5.1.1 ++ (rdS (.pair .str .str) t9 (Int.toNat t11)).1) ++ (u2.1.1 ++ (rdS (.pair .str .str) t9 (Int.toNat t11)).2))), ()), ())))))))))) fun j6 =>
  spec_l15Bytes.l0 N t9 t10 j6.1.1 (IntKind.i64.wrap (t11 + 1)))
  (
  some (((s, ()), ()))) := by kernel_rfl
set_option maxRecDepth 100000 in
theorem spec_l15Bytes.eq (N : Nat) (l : (List (ByteArray × ByteArray))) : spec_l15Bytes N l =
 andK (spec_l15Bytes.l0 N l (l.length : Int) (⟨#[0, 0]⟩ : ByteArray) 0) fun l7 =>
 some ((l7.1.1, ()), ()) := by kernel_rfl
set_option maxRecDepth 100000 in
theorem spec_l15Bytes.say (N : Nat) : SayOk Tryd.prog (spec_l15Bytes.S N) := sayOk_mk (N := N) (H := spec_l15Bytes.H) (preps := [⟨[], [], [], []⟩]) (l := spec_l15Bytes.says) (fn := Tryd.f41) (c := bodyOf Tryd.f41)
  (by kernel_rfl) (by kernel_rfl) (by kernel_rfl) (by kernel_rfl) (by kernel_rfl) (by kernel_rfl) (by kernel_rfl)
  (fun N => SayAll.cons (spec_l15At.say N) (SayAll.cons (spec_l15Prefix.say N) (SayAll.nil))) (fun a s => by kernel_rfl)

/-! ### loop.example/g00206/spec.FieldsBytes: function 14 -/
noncomputable def spec_FieldsBytes.H : Hints := hintsOf []
noncomputable def spec_FieldsBytes.says (N : Nat) : List Say := [spec_GoodFields.S N, spec_l15Bytes.S N]
noncomputable def spec_FieldsBytes.call (N : Nat) : CallK := callBy (spec_FieldsBytes.says N)
noncomputable def spec_FieldsBytes.qt (N : Nat) : FuncId → List PV → Sig → Cl := qtBy (spec_FieldsBytes.says N)
noncomputable def spec_FieldsBytes (N : Nat) (l : (List (ByteArray × ByteArray))) : Option ((ByteArray × (Bool × Unit)) × Unit) :=
  ofFn Tryd.prog spec_FieldsBytes.call spec_FieldsBytes.qt spec_FieldsBytes.H N Tryd.f14 [.one (.sh (.rows (.pair .str .str)))] [] [ak_s, ak_b] [] [⟨[], [], [], []⟩] (l, ()) ()
noncomputable def spec_FieldsBytes.S (N : Nat) : Say := ⟨false, 14, [.one (.sh (.rows (.pair .str .str)))], [], [ak_s, ak_b], [], fun a s => spec_FieldsBytes N a.1⟩
set_option maxRecDepth 100000 in
theorem spec_FieldsBytes.eq (N : Nat) (l : (List (ByteArray × ByteArray))) : spec_FieldsBytes N l =
 andK (spec_GoodFields N l) fun u1 =>
 sel (!u1.1.1)
  (
  some (((⟨#[]⟩ : ByteArray), (false, ())), ()))
  (
  andK (spec_l15Bytes N l) fun u2 =>
  some ((u2.1.1, (true, ())), ())) := by kernel_rfl
set_option maxRecDepth 100000 in
theorem spec_FieldsBytes.say (N : Nat) : SayOk Tryd.prog (spec_FieldsBytes.S N) := sayOk_mk (N := N) (H := spec_FieldsBytes.H) (preps := [⟨[], [], [], []⟩]) (l := spec_FieldsBytes.says) (fn := Tryd.f14) (c := bodyOf Tryd.f14)
  (by kernel_rfl) (by kernel_rfl) (by kernel_rfl) (by kernel_rfl) (by kernel_rfl) (by kernel_rfl) (by kernel_rfl)
  (fun N => SayAll.cons (spec_GoodFields.say N) (SayAll.cons (spec_l15Bytes.say N) (SayAll.nil))) (fun a s => by kernel_rfl)
noncomputable def spec_FieldsBytes.SB (N : Nat) : Say := spec_FieldsBytes.S N |>.lent
theorem spec_FieldsBytes.sayB (N : Nat) : SayOk Tryd.prog (spec_FieldsBytes.SB N) := (spec_FieldsBytes.say N).lent

/-! ### (*loop.example/g00206/impl.cursor).take: function 42 -/
noncomputable def impl_cursor_take.H : Hints := hintsOf [(5000001, .join [⟨.normal, [1], [0, 18], [.one (.ptr 0 0), ak_b], [.cells [ck_s, ck_b]], [⟨[], [], [], []⟩]⟩])]
noncomputable def impl_cursor_take.says (N : Nat) : List Say := []
noncomputable def impl_cursor_take.call (N : Nat) : CallK := callBy (impl_cursor_take.says N)
noncomputable def impl_cursor_take.qt (N : Nat) : FuncId → List PV → Sig → Cl := qtBy (impl_cursor_take.says N)
noncomputable def impl_cursor_take (N : Nat) (n : Int) (p0_0 : ByteArray) (p0_1 : Bool) : Option ((ByteArray × Unit) × ((ByteArray × (Bool × Unit)) × Unit)) :=
  ofFn Tryd.prog impl_cursor_take.call impl_cursor_take.qt impl_cursor_take.H N Tryd.f42 [.one (.ptr 0 0), ak_i] [.cells [ck_s, ck_b]] [ak_s] [.cells [ck_s, ck_b]] [⟨[], [], [], []⟩] ((), (n, ())) ((p0_0, (p0_1, ())), ())
noncomputable def impl_cursor_take.S (N : Nat) : Say := ⟨false, 42, [.one (.ptr 0 0), ak_i], [.cells [ck_s, ck_b]], [ak_s], [.cells [ck_s, ck_b]], fun a s => impl_cursor_take N a.2.1 s.1.1 s.1.2.1⟩
set_option maxRecDepth 100000 in
theorem impl_cursor_take.eq (N : Nat) (n : Int) (p0_0 : ByteArray) (p0_1 : Bool) : impl_cursor_take N n p0_0 p0_1 =
 andK (α := ((Unit × (Bool × Unit)) × ((ByteArray × (Bool × Unit)) × Unit))) (
  sel p0_1
   (
   some ((((), (true, ())), ((p0_0, (p0_1, ())), ()))))
   (
   some ((((), ((decide ((p0_0.size : Int) < n)), ())), ((p0_0, (p0_1, ())), ()))))) fun j1 =>
 sel j1.1.2.1
  (
  some (((⟨#[]⟩ : ByteArray), ()), ((j1.2.1.1, (true, ())), ())))
  (
  chk ((decide (0 ≤ n)) && (decide (n ≤ (j1.2.1.1.size : Int)))) (
  chk ((decide (0 ≤ n)) && ((decide (n ≤ (j1.2.1.1.size : Int))) && (decide ((j1.2.1.1.size : Int) ≤ (j1.2.1.1.size : Int))))) (
  some (((j1.2.1.1.extract 0 (Int.toNat n)), ()), (((j1.2.1.1.extract (Int.toNat n) (Int.toNat (j1.2.1.1.size : Int))), (j1.2.1.2.1, ())), ()))))) := by kernel_rfl
set_option maxRecDepth 100000 in
theorem impl_cursor_take.say (N : Nat) : SayOk Tryd.prog (impl_cursor_take.S N) := sayOk_mk (N := N) (H := impl_cursor_take.H) (preps := [⟨[], [], [], []⟩]) (l := impl_cursor_take.says) (fn := Tryd.f42) (c := bodyOf Tryd.f42)
  (by kernel_rfl) (by kernel_rfl) (by kernel_rfl) (by kernel_rfl) (by kernel_rfl) (by kernel_rfl) (by kernel_rfl)
  (fun N => SayAll.nil) (fun a s => by kernel_rfl)

/-! ### loop.example/g00206/impl.bitsOk: function 110 -/
noncomputable def impl_bitsOk.H : Hints := hintsOf []
noncomputable def impl_bitsOk.says (N : Nat) : List Say := [impl_in.S N]
noncomputable def impl_bitsOk.call (N : Nat) : CallK := callBy (impl_bitsOk.says N)
noncomputable def impl_bitsOk.qt (N : Nat) : FuncId → List PV → Sig → Cl := qtBy (impl_bitsOk.says N)
noncomputable def impl_bitsOk (N : Nat) (bits : Int) : Option ((Bool × Unit) × Unit) :=
  ofFn Tryd.prog impl_bitsOk.call impl_bitsOk.qt impl_bitsOk.H N Tryd.f110 [ak_i] [] [ak_b] [] [⟨[], [], [], []⟩] (bits, ()) ()
noncomputable def impl_bitsOk.S (N : Nat) : Say := ⟨false, 110, [ak_i], [], [ak_b], [], fun a s => impl_bitsOk N a.1⟩
set_option maxRecDepth 100000 in
theorem impl_bitsOk.eq (N : Nat) (bits : Int) : impl_bitsOk N bits =
 andK (impl_in N bits 3 8) fun u1 =>
 some ((u1.1.1, ()), ()) := by kernel_rfl
set_option maxRecDepth 100000 in
theorem impl_bitsOk.say (N : Nat) : SayOk Tryd.prog (impl_bitsOk.S N) := sayOk_mk (N := N) (H := impl_bitsOk.H) (preps := [⟨[], [], [], []⟩]) (l := impl_bitsOk.says) (fn := Tryd.f110) (c := bodyOf Tryd.f110)
  (by kernel_rfl) (by kernel_rfl) (by kernel_rfl) (by kernel_rfl) (by kernel_rfl) (by kernel_rfl) (by kernel_rfl)
  (fun N => SayAll.cons (impl_in.say N) (SayAll.nil)) (fun a s => by kernel_rfl)

/-! ### loop.example/g00206/impl.TakePrefix: function 95 -/
noncomputable def impl_TakePrefix.H : Hints := hintsOf [(5000001, .join [⟨.normal, [0, 1], [17], [ak_b], [], [⟨[], [], [], []⟩]⟩]),
  (5000008, .join [⟨.normal, [0, 8, 9, 10], [43], [ak_b], [], [⟨[], [], [], []⟩]⟩]),
  (2000008, .loop ⟨.normal, [0, 9], [8, 10], [ak_i, ak_i], [], [⟨[], [], [], []⟩]⟩ [⟨.ret, [], [4, 5, 6], [ak_i, ak_i, ak_i], [], [⟨[], [], [], []⟩]⟩, ⟨(.exit 0), [], [], [], [], [⟨[], [], [], []⟩]⟩])]
noncomputable def impl_TakePrefix.says (N : Nat) : List Say := [impl_bitsOk.S N]
noncomputable def impl_TakePrefix.call (N : Nat) : CallK := callBy (impl_TakePrefix.says N)
noncomputable def impl_TakePrefix.qt (N : Nat) : FuncId → List PV → Sig → Cl := qtBy (impl_TakePrefix.says N)
noncomputable def impl_TakePrefix.l0.hd : Alt := ⟨.normal, [0, 9], [8, 10], [ak_i, ak_i], [], [⟨[], [], [], []⟩]⟩
noncomputable def impl_TakePrefix.l0.outs : List Alt := [⟨.ret, [], [4, 5, 6], [ak_i, ak_i, ak_i], [], [⟨[], [], [], []⟩]⟩, ⟨(.exit 0), [], [], [], [], [⟨[], [], [], []⟩]⟩]
noncomputable def impl_TakePrefix.l0 (N : Nat) (G1 : ByteArray) (o1 : Int) (t : Int) (A : Int) : Option (((Int × (Int × (Int × Unit))) × Unit) ⊕ (Unit × Unit)) :=
  loopK Tryd.prog impl_TakePrefix.call impl_TakePrefix.qt impl_TakePrefix.H (codeAt (bodyOf Tryd.f95) [1, 1, 1, 1, 1, 0, 1, 0, 0]) 0 impl_TakePrefix.l0.hd impl_TakePrefix.l0.outs [(0, .v (.string G1)), (9, .v (.int .i64 o1))] N ((t, (A, ())), ())
noncomputable def impl_TakePrefix (N : Nat) (G : ByteArray) (o : Int) : Option ((Int × (Int × (Int × Unit))) × Unit) :=
  ofFn Tryd.prog impl_TakePrefix.call impl_TakePrefix.qt impl_TakePrefix.H N Tryd.f95 [ak_s, ak_i] [] [ak_i, ak_i, ak_i] [] [⟨[], [], [], []⟩] (G, (o, ())) ()
noncomputable def impl_TakePrefix.S (N : Nat) : Say := ⟨false, 95, [ak_s, ak_i], [], [ak_i, ak_i, ak_i], [], fun a s => impl_TakePrefix N a.1 a.2.1⟩
set_option maxRecDepth 100000 in
theorem impl_TakePrefix.l0.eq (N : Nat) (G1 : ByteArray) (o1 : Int) (t : Int) (A : Int) : impl_TakePrefix.l0 (N + 1) G1 o1 t A =
 andK (α := ((Bool × Unit) × Unit)) (
  sel (decide (A < (G1.size : Int)))
   (
   some ((((decide (A ≤ 5)), ()), ())))
   (
   some (((false, ()), ())))) fun j3 =>
 sel j3.1.1
  (
  chk ((decide (0 ≤ A)) && (decide (A < (G1.size : Int)))) (
  chk (decide (0 ≤ (IntKind.i64.wrap (7 * (IntKind.i64.wrap (A - 1)))))) (
  chk ((decide (0 ≤ A)) && (decide (A < (G1.size : Int)))) (
  sel (decide (((bytesL G1).getD (Int.toNat A) 0) < 128))
   (
   sel (decide (1000000000 < (IntKind.i64.wrap (t + (shlI .i64 (IntKind.i64.wrap (Int.tmod ((bytesL G1).getD (Int.toNat A) 0) 128)) (IntKind.i64.wrap (7 * (IntKind.i64.wrap (A - 1)))))))))
    (
    some (.inl ((0, (0, (0, ()))), ())))
    (
    some (.inl (((IntKind.i64.wrap (t + (shlI .i64 (IntKind.i64.wrap (Int.tmod ((bytesL G1).getD (Int.toNat A) 0) 128)) (IntKind.i64.wrap (7 * (IntKind.i64.wrap (A - 1))))))), (o1, ((IntKind.i64.wrap (A + 1)), ()))), ()))))
   (
   impl_TakePrefix.l0 N G1 o1 (IntKind.i64.wrap (t + (shlI .i64 (IntKind.i64.wrap (Int.tmod ((bytesL G1).getD (Int.toNat A) 0) 128)) (IntKind.i64.wrap (7 * (IntKind.i64.wrap (A - 1))))))) (IntKind.i64.wrap (A + 1)))))))
  (
  some (.inr (((), ())))) := by kernel_rfl
set_option maxRecDepth 100000 in
theorem impl_TakePrefix.eq (N : Nat) (G : ByteArray) (o : Int) : impl_TakePrefix N G o =
 andK (α := ((Bool × Unit) × Unit)) (
  andK (impl_bitsOk N o) fun u1 =>
  sel (!u1.1.1)
   (
   some (((true, ()), ())))
   (
   some ((((decide (G = (⟨#[]⟩ : ByteArray))), ()), ())))) fun j2 =>
 sel j2.1.1
  (
  some ((0, (0, (0, ()))), ()))
  (
  chk (decide (0 ≤ o)) (
  chk (decide (0 < (G.size : Int))) (
  chk (decide (0 < (G.size : Int))) (
  sel (decide ((Go.bits .and .i64 (IntKind.i64.wrap ((bytesL G).getD 0 0)) (IntKind.i64.wrap ((shlI .i64 1 o) - 1))) < (IntKind.i64.wrap ((shlI .i64 1 o) - 1))))
   (
   some (((Go.bits .and .i64 (IntKind.i64.wrap ((bytesL G).getD 0 0)) (IntKind.i64.wrap ((shlI .i64 1 o) - 1))), ((Go.bits .andNot .i64 (IntKind.i64.wrap ((bytesL G).getD 0 0)) (IntKind.i64.wrap ((shlI .i64 1 o) - 1))), (1, ()))), ()))
   (
   andK (impl_TakePrefix.l0 N G (Go.bits .andNot .i64 (IntKind.i64.wrap ((bytesL G).getD 0 0)) (IntKind.i64.wrap ((shlI .i64 1 o) - 1))) (Go.bits .and .i64 (IntKind.i64.wrap ((bytesL G).getD 0 0)) (IntKind.i64.wrap ((shlI .i64 1 o) - 1))) 1) fun l4 =>
   orK l4 (fun x5 =>
    some ((x5.1.1, (x5.1.2.1, (x5.1.2.2.1, ()))), ()))
    (fun x6 =>
    some ((0, (0, (0, ()))), ()))))))) := by kernel_rfl
set_option maxRecDepth 100000 in
theorem impl_TakePrefix.say (N : Nat) : SayOk Tryd.prog (impl_TakePrefix.S N) := sayOk_mk (N := N) (H := impl_TakePrefix.H) (preps := [⟨[], [], [], []⟩]) (l := impl_TakePrefix.says) (fn := Tryd.f95) (c := bodyOf Tryd.f95)
  (by kernel_rfl) (by kernel_rfl) (by kernel_rfl) (by kernel_rfl) (by kernel_rfl) (by kernel_rfl) (by kernel_rfl)
  (fun N => SayAll.cons (impl_bitsOk.say N) (SayAll.nil)) (fun a s => by kernel_rfl)

/-! ### (*loop.example/g00206/impl.cursor).prefix: function 77 -/
noncomputable def impl_cursor_prefix.H : Hints := hintsOf [(4, .join [⟨.normal, [5, 7], [0], [.one (.ptr 0 0)], [.cells [ck_s, ck_b]], [⟨[], [], [], []⟩]⟩])]
noncomputable def impl_cursor_prefix.says (N : Nat) : List Say := [impl_TakePrefix.S N]
noncomputable def impl_cursor_prefix.call (N : Nat) : CallK := callBy (impl_cursor_prefix.says N)
noncomputable def impl_cursor_prefix.qt (N : Nat) : FuncId → List PV → Sig → Cl := qtBy (impl_cursor_prefix.says N)
noncomputable def impl_cursor_prefix (N : Nat) (bits : Int) (p0_0 : ByteArray) (p0_1 : Bool) : Option ((Int × Unit) × ((ByteArray × (Bool × Unit)) × Unit)) :=
  ofFn Tryd.prog impl_cursor_prefix.call impl_cursor_prefix.qt impl_cursor_prefix.H N Tryd.f77 [.one (.ptr 0 0), ak_i] [.cells [ck_s, ck_b]] [ak_i] [.cells [ck_s, ck_b]] [⟨[], [], [], []⟩] ((), (bits, ())) ((p0_0, (p0_1, ())), ())
noncomputable def impl_cursor_prefix.S (N : Nat) : Say := ⟨false, 77, [.one (.ptr 0 0), ak_i], [.cells [ck_s, ck_b]], [ak_i], [.cells [ck_s, ck_b]], fun a s => impl_cursor_prefix N a.2.1 s.1.1 s.1.2.1⟩
set_option maxRecDepth 100000 in
theorem impl_cursor_prefix.eq (N : Nat) (bits : Int) (p0_0 : ByteArray) (p0_1 : Bool) : impl_cursor_prefix N bits p0_0 p0_1 =
 andK (impl_TakePrefix N p0_0 bits) fun u1 =>
 andK (α := ((Unit × Unit) × ((ByteArray × (Bool × Unit)) × Unit))) (
  sel (decide (u1.1.2.2.1 = 0))
   (
   some ((((), ()), ((p0_0, (true, ())), ()))))
   (
   some ((((), ()), ((p0_0, (p0_1, ())), ()))))) fun j2 =>
 chk ((decide (0 ≤ u1.1.2.2.1)) && ((decide (u1.1.2.2.1 ≤ (j2.2.1.1.size : Int))) && (decide ((j2.2.1.1.size : Int) ≤ (j2.2.1.1.size : Int))))) (
 some ((u1.1.1, ()), (((j2.2.1.1.extract (Int.toNat u1.1.2.2.1) (Int.toNat (j2.2.1.1.size : Int))), (j2.2.1.2.1, ())), ()))) := by kernel_rfl
set_option maxRecDepth 100000 in
theorem impl_cursor_prefix.say (N : Nat) : SayOk Tryd.prog (impl_cursor_prefix.S N) := sayOk_mk (N := N) (H := impl_cursor_prefix.H) (preps := [⟨[], [], [], []⟩]) (l := impl_cursor_prefix.says) (fn := Tryd.f77) (c := bodyOf Tryd.f77)
  (by kernel_rfl) (by kernel_rfl) (by kernel_rfl) (by kernel_rfl) (by kernel_rfl) (by kernel_rfl) (by kernel_rfl)
  (fun N => SayAll.cons (impl_TakePrefix.say N) (SayAll.nil)) (fun a s => by kernel_rfl)

/-! ### loop.example/g00206/impl.StaticField: function 17 -/
noncomputable def impl_StaticField.H : Hints := hintsOf []
noncomputable def impl_StaticField.says (N : Nat) : List Say := [impl_static.S N, impl_in.S N]
noncomputable def impl_StaticField.call (N : Nat) : CallK := callBy (impl_StaticField.says N)
noncomputable def impl_StaticField.qt (N : Nat) : FuncId → List PV → Sig → Cl := qtBy (impl_StaticField.says N)
noncomputable def impl_StaticField (N : Nat) (k : Int) : Option (((ByteArray × (ByteArray × Unit)) × (Bool × Unit)) × Unit) :=
  ofFn Tryd.prog impl_StaticField.call impl_StaticField.qt impl_StaticField.H N Tryd.f17 [ak_i] [] [.agg [ck_s, ck_s], ak_b] [] [⟨[], [], [], []⟩] (k, ()) ()
noncomputable def impl_StaticField.S (N : Nat) : Say := ⟨false, 17, [ak_i], [], [.agg [ck_s, ck_s], ak_b], [], fun a s => impl_StaticField N a.1⟩
set_option maxRecDepth 100000 in
theorem impl_StaticField.eq (N : Nat) (k : Int) : impl_StaticField N k =
 andK (impl_static N) fun u1 =>
 andK (impl_in N k 0 (IntKind.i64.wrap ((u1.1.1.length : Int) - 1))) fun u2 =>
 sel (!u2.1.1)
  (
  some ((((⟨#[]⟩ : ByteArray), ((⟨#[]⟩ : ByteArray), ())), (false, ())), ()))
  (
  andK (impl_static N) fun u3 =>
  chk ((decide (0 ≤ k)) && (decide (k < (u3.1.1.length : Int)))) (
  some ((((rdS (.pair .str .str) u3.1.1 (Int.toNat k)).1, ((rdS (.pair .str .str) u3.1.1 (Int.toNat k)).2, ())), (true, ())), ()))) := by kernel_rfl
set_option maxRecDepth 100000 in
theorem impl_StaticField.say (N : Nat) : SayOk Tryd.prog (impl_StaticField.S N) := sayOk_mk (N := N) (H := impl_StaticField.H) (preps := [⟨[], [], [], []⟩]) (l := impl_StaticField.says) (fn := Tryd.f17) (c := bodyOf Tryd.f17)
  (by kernel_rfl) (by kernel_rfl) (by kernel_rfl) (by kernel_rfl) (by kernel_rfl) (by kernel_rfl) (by kernel_rfl)
  (fun N => SayAll.cons (impl_static.say N) (SayAll.cons (impl_in.say N) (SayAll.nil))) (fun a s => by kernel_rfl)

/-! ### (*loop.example/g00206/impl.cursor).field: function 43 -/
noncomputable def impl_cursor_field.H : Hints := hintsOf [(10, .join [⟨.ret, [], [2], [.one (.ptr 1 0)], [.cells [ck_s, ck_b], .cells [ck_s, ck_s], .cells [ck_s, ck_s]], [⟨[], [], [], []⟩]⟩, ⟨.normal, [], [0, 2, 3], [.one (.ptr 0 0), .one (.ptr 1 0), .one (.ptr 2 0)], [.cells [ck_s, ck_b], .cells [ck_s, ck_s], .cells [ck_s, ck_s]], [⟨[], [], [], []⟩]⟩])]
noncomputable def impl_cursor_field.says (N : Nat) : List Say := [impl_cursor_prefix.S N, impl_StaticField.S N, impl_cursor_take.S N]
noncomputable def impl_cursor_field.call (N : Nat) : CallK := callBy (impl_cursor_field.says N)
noncomputable def impl_cursor_field.qt (N : Nat) : FuncId → List PV → Sig → Cl := qtBy (impl_cursor_field.says N)
noncomputable def impl_cursor_field (N : Nat) (p0_0 : ByteArray) (p0_1 : Bool) : Option (((ByteArray × (ByteArray × Unit)) × Unit) × ((ByteArray × (Bool × Unit)) × Unit)) :=
  ofFn Tryd.prog impl_cursor_field.call impl_cursor_field.qt impl_cursor_field.H N Tryd.f43 [.one (.ptr 0 0)] [.cells [ck_s, ck_b]] [.agg [ck_s, ck_s]] [.cells [ck_s, ck_b]] [⟨[], [], [], []⟩] ((), ()) ((p0_0, (p0_1, ())), ())
noncomputable def impl_cursor_field.S (N : Nat) : Say := ⟨false, 43, [.one (.ptr 0 0)], [.cells [ck_s, ck_b]], [.agg [ck_s, ck_s]], [.cells [ck_s, ck_b]], fun a s => impl_cursor_field N s.1.1 s.1.2.1⟩
set_option maxRecDepth 100000 in
theorem impl_cursor_field.eq (N : Nat) (p0_0 : ByteArray) (p0_1 : Bool) : impl_cursor_field N p0_0 p0_1 =
 andK (α := (((Unit × Unit) × ((ByteArray × (Bool × Unit)) × ((ByteArray × (ByteArray × Unit)) × ((ByteArray × (ByteArray × Unit)) × Unit)))) ⊕ ((Unit × (Unit × (Unit × Unit))) × ((ByteArray × (Bool × Unit)) × ((ByteArray × (ByteArray × Unit)) × ((ByteArray × (ByteArray × Unit)) × Unit)))))) (
  chk (decide (0 < (p0_0.size : Int))) (
  sel (decide (192 ≤ (IntKind.i64.wrap ((bytesL p0_0).getD 0 0))))
   (
   andK (impl_cursor_prefix N 6 p0_0 p0_1) fun u1 =>
   andK (impl_StaticField N u1.1.1) fun u2 =>
   some (.inl (((), ()), ((u1.2.1.1, (u1.2.1.2.1, ())), ((u2.1.1.1, (u2.1.1.2.1, ())), ((u2.1.1.1, (u2.1.1.2.1, ())), ()))))))
   (
   sel (decide (80 ≤ (IntKind.i64.wrap ((bytesL p0_0).getD 0 0))))
    (
    andK (impl_cursor_prefix N 4 p0_0 p0_1) fun u3 =>
    andK (impl_StaticField N u3.1.1) fun u4 =>
    some (.inr ((((), ((), ((), ()))), ((u3.2.1.1, (u3.2.1.2.1, ())), (((⟨#[]⟩ : ByteArray), ((⟨#[]⟩ : ByteArray), ())), ((u4.1.1.1, ((⟨#[]⟩ : ByteArray), ())), ())))))))
    (
    andK (impl_cursor_prefix N 3 p0_0 p0_1) fun u5 =>
    andK (impl_cursor_take N u5.1.1 u5.2.1.1 u5.2.1.2.1) fun u6 =>
    some (.inr ((((), ((), ((), ()))), ((u6.2.1.1, (u6.2.1.2.1, ())), (((⟨#[]⟩ : ByteArray), ((⟨#[]⟩ : ByteArray), ())), ((u6.1.1, ((⟨#[]⟩ : ByteArray), ())), ())))))))))) fun j7 =>
 orK j7 (fun x8 =>
  some (((x8.2.2.1.1, (x8.2.2.1.2.1, ())), ()), ((x8.2.1.1, (x8.2.1.2.1, ())), ())))
  (fun x9 =>
  andK (impl_cursor_prefix N 7 x9.2.1.1 x9.2.1.2.1) fun u10 =>
  andK (impl_cursor_take N u10.1.1 u10.2.1.1 u10.2.1.2.1) fun u11 =>
  some (((x9.2.2.2.1.1, (u11.1.1, ())), ()), ((u11.2.1.1, (u11.2.1.2.1, ())), ()))) := by kernel_rfl
set_option maxRecDepth 100000 in
theorem impl_cursor_field.say (N : Nat) : SayOk Tryd.prog (impl_cursor_field.S N) := sayOk_mk (N := N) (H := impl_cursor_field.H) (preps := [⟨[], [], [], []⟩]) (l := impl_cursor_field.says) (fn := Tryd.f43) (c := bodyOf Tryd.f43)
  (by kernel_rfl) (by kernel_rfl) (by kernel_rfl) (by kernel_rfl) (by kernel_rfl) (by kernel_rfl) (by kernel_rfl)
  (fun N => SayAll.cons (impl_cursor_prefix.say N) (SayAll.cons (impl_StaticField.say N) (SayAll.cons (impl_cursor_take.say N) (SayAll.nil)))) (fun a s => by kernel_rfl)

/-! ### loop.example/g00206/impl.ReadFields: function 15 -/
noncomputable def impl_ReadFields.H : Hints := hintsOf [(5000003, .join [⟨.normal, [0], [4, 5, 28], [.one (.ptr 0 0), .one (.own 1), ak_b], [.cells [ck_s, ck_b], .rows (.pair .str .str)], [⟨[], [], [], []⟩]⟩]),
  (2000003, .loop ⟨.normal, [0], [4, 5], [.one (.ptr 0 0), .one (.own 1)], [.cells [ck_s, ck_b], .rows (.pair .str .str)], [⟨[(5, (.pair .str .str))], [], [], [1]⟩, ⟨[], [], [], [1]⟩]⟩ [⟨(.exit 0), [0], [4, 5], [.one (.ptr 0 0), .one (.own 1)], [.cells [ck_s, ck_b], .rows (.pair .str .str)], [⟨[], [], [], [1]⟩]⟩])]
noncomputable def impl_ReadFields.says (N : Nat) : List Say := [impl_cursor_take.S N, impl_cursor_field.S N, impl_GoodFields.SB N, impl_fieldsBytes.SB N]
noncomputable def impl_ReadFields.call (N : Nat) : CallK := callBy (impl_ReadFields.says N)
noncomputable def impl_ReadFields.qt (N : Nat) : FuncId → List PV → Sig → Cl := qtBy (impl_ReadFields.says N)
noncomputable def impl_ReadFields.l0.hd : Alt := ⟨.normal, [0], [4, 5], [.one (.ptr 0 0), .one (.own 1)], [.cells [ck_s, ck_b], .rows (.pair .str .str)], [⟨[(5, (.pair .str .str))], [], [], [1]⟩, ⟨[], [], [], [1]⟩]⟩
noncomputable def impl_ReadFields.l0.outs : List Alt := [⟨(.exit 0), [0], [4, 5], [.one (.ptr 0 0), .one (.own 1)], [.cells [ck_s, ck_b], .rows (.pair .str .str)], [⟨[], [], [], [1]⟩]⟩]
noncomputable def impl_ReadFields.l0 (N : Nat) (s1 : ByteArray) (p0_0 : ByteArray) (p0_1 : Bool) (p1 : (List (ByteArray × ByteArray))) : Option ((Unit × (Unit × Unit)) × ((ByteArray × (Bool × Unit)) × ((List (ByteArray × ByteArray)) × Unit))) :=
  loopK Tryd.prog impl_ReadFields.call impl_ReadFields.qt impl_ReadFields.H (codeAt (bodyOf Tryd.f15) [1, 1, 1, 0, 0, 0]) 1 impl_ReadFields.l0.hd impl_ReadFields.l0.outs [(0, .v (.string s1))] N (((), ((), ())), ((p0_0, (p0_1, ())), (p1, ())))
noncomputable def impl_ReadFields (N : Nat) (s : ByteArray) : Option ((Unit × (Bool × Unit)) × ((List (ByteArray × ByteArray)) × Unit)) :=
  ofFn Tryd.prog impl_ReadFields.call impl_ReadFields.qt impl_ReadFields.H N Tryd.f15 [ak_s] [] [.one (.own 0), ak_b] [.rows (.pair .str .str)] [⟨[(0, (.pair .str .str))], [], [], [2]⟩, ⟨[], [], [], [1]⟩] (s, ()) ()
noncomputable def impl_ReadFields.S (N : Nat) : Say := ⟨false, 15, [ak_s], [], [.one (.own 0), ak_b], [.rows (.pair .str .str)], fun a s => impl_ReadFields N a.1⟩
set_option maxRecDepth 100000 in
theorem impl_ReadFields.l0.eq (N : Nat) (s1 : ByteArray) (p0_0 : ByteArray) (p0_1 : Bool) (p1 : (List (ByteArray × ByteArray))) : impl_ReadFields.l0 (N + 1) s1 p0_0 p0_1 p1 =
 andK (α := ((Unit × (Unit × (Bool × Unit))) × ((ByteArray × (Bool × Unit)) × ((List (ByteArray × ByteArray)) × Unit)))) (
  sel (!(decide (p0_0 = (⟨#[]⟩ : ByteArray))))
   (
   sel (!p0_1)
    (
    some ((((), ((), ((decide ((p1.length : Int) ≤ 30)), ()))), ((p0_0, (p0_1, ())), (p1, ())))))
    (
    some ((((), ((), (false, ()))), ((p0_0, (p0_1, ())), (p1, ()))))))
   (
   some ((((), ((), (false, ()))), ((p0_0, (p0_1, ())), (p1, ())))))) fun j2 =>
 sel j2.1.2.2.1
  (
  andK (impl_cursor_field N j2.2.1.1 j2.2.1.2.1) fun u3 =>
  chk (decide (j2.2.2.1.length + 1 < most)) (
  impl_ReadFields.l0 N s1 u3.2.1.1 u3.2.1.2.1 (j2.2.2.1 ++ [(u3.1.1.1, u3.1.1.2.1)])))
  (
  some ((((), ((), ())), ((j2.2.1.1, (j2.2.1.2.1, ())), (j2.2.2.1, ()))))) := by kernel_rfl
set_option maxRecDepth 100000 in
theorem impl_ReadFields.eq (N : Nat) (s : ByteArray) : impl_ReadFields N s =
 andK (impl_cursor_take N 2 s false) fun u1 =>
 andK (impl_ReadFields.l0 N s u1.2.1.1 u1.2.1.2.1 []) fun l4 =>
 sel l4.2.1.2.1
  (
  some (((), (false, ())), ([], ())))
  (
  andK (impl_GoodFields N l4.2.2.1) fun u5 =>
  sel (!u5.1.1)
   (
   some (((), (false, ())), ([], ())))
   (
   andK (impl_fieldsBytes N l4.2.2.1) fun u6 =>
   sel (!(decide (u6.1.1 = s)))
    (
    some (((), (false, ())), ([], ())))
    (
    some (((), (true, ())), (l4.2.2.1, ()))))) := by kernel_rfl
set_option maxRecDepth 100000 in
theorem impl_ReadFields.say (N : Nat) : SayOk Tryd.prog (impl_ReadFields.S N) := sayOk_mk (N := N) (H := impl_ReadFields.H) (preps := [⟨[(0, (.pair .str .str))], [], [], [2]⟩, ⟨[], [], [], [1]⟩]) (l := impl_ReadFields.says) (fn := Tryd.f15) (c := bodyOf Tryd.f15)
  (by kernel_rfl) (by kernel_rfl) (by kernel_rfl) (by kernel_rfl) (by kernel_rfl) (by kernel_rfl) (by kernel_rfl)
  (fun N => SayAll.cons (impl_cursor_take.say N) (SayAll.cons (impl_cursor_field.say N) (SayAll.cons (impl_GoodFields.sayB N) (SayAll.cons (impl_fieldsBytes.sayB N) (SayAll.nil))))) (fun a s => by kernel_rfl)

/-! ### loop.example/g00206/laws.numberOf: function 16 -/
noncomputable def laws_numberOf.H : Hints := hintsOf [(2000003, .loop ⟨.normal, [6, 7], [3, 8], [ak_i, ak_i], [], [⟨[], [], [], []⟩]⟩ [⟨(.exit 0), [], [3], [ak_i], [], [⟨[], [], [], []⟩]⟩])]
noncomputable def laws_numberOf.says (N : Nat) : List Say := []
noncomputable def laws_numberOf.call (N : Nat) : CallK := callBy (laws_numberOf.says N)
noncomputable def laws_numberOf.qt (N : Nat) : FuncId → List PV → Sig → Cl := qtBy (laws_numberOf.says N)
noncomputable def laws_numberOf.l0.hd : Alt := ⟨.normal, [6, 7], [3, 8], [ak_i, ak_i], [], [⟨[], [], [], []⟩]⟩
noncomputable def laws_numberOf.l0.outs : List Alt := [⟨(.exit 0), [], [3], [ak_i], [], [⟨[], [], [], []⟩]⟩]
noncomputable def laws_numberOf.l0 (N : Nat) (t6 : (List Int)) (t7 : Int) (n : Int) (t8 : Int) : Option ((Int × Unit) × Unit) :=
  loopK Tryd.prog laws_numberOf.call laws_numberOf.qt laws_numberOf.H (codeAt (bodyOf Tryd.f16) [1, 1, 0, 1, 0, 0]) 0 laws_numberOf.l0.hd laws_numberOf.l0.outs [(6, .rows false (.int .u8) t6), (7, .v (.int .i64 t7))] N ((n, (t8, ())), ())
noncomputable def laws_numberOf (N : Nat) (b : (List Int)) : Option ((Int × Unit) × Unit) :=
  ofFn Tryd.prog laws_numberOf.call laws_numberOf.qt laws_numberOf.H N Tryd.f16 [.one (.sh (.rows (.int .u8)))] [] [ak_i] [] [⟨[], [], [], []⟩] (b, ()) ()
noncomputable def laws_numberOf.S (N : Nat) : Say := ⟨false, 16, [.one (.sh (.rows (.int .u8)))], [], [ak_i], [], fun a s => laws_numberOf N a.1⟩
set_option maxRecDepth 100000 in
theorem laws_numberOf.l0.eq (N : Nat) (t6 : (List Int)) (t7 : Int) (n : Int) (t8 : Int) : laws_numberOf.l0 (N + 1) t6 t7 n t8 =
 sel (decide (t8 < t7))
  (
  chk ((decide (0 ≤ t8)) && (decide (t8 < (t6.length : Int)))) (
  laws_numberOf.l0 N t6 t7 (Int.tmod (IntKind.i64.wrap ((IntKind.i64.wrap (31 * n)) + (IntKind.i64.wrap (t6.getD (Int.toNat t8) 0)))) 1000003) (IntKind.i64.wrap (t8 + 1))))
  (
  some (((n, ()), ()))) := by kernel_rfl
set_option maxRecDepth 100000 in
theorem laws_numberOf.eq (N : Nat) (b : (List Int)) : laws_numberOf N b =
 andK (laws_numberOf.l0 N b (b.length : Int) 0 0) fun l1 =>
 some ((l1.1.1, ()), ()) := by kernel_rfl
set_option maxRecDepth 100000 in
theorem laws_numberOf.say (N : Nat) : SayOk Tryd.prog (laws_numberOf.S N) := sayOk_mk (N := N) (H := laws_numberOf.H) (preps := [⟨[], [], [], []⟩]) (l := laws_numberOf.says) (fn := Tryd.f16) (c := bodyOf Tryd.f16)
  (by kernel_rfl) (by kernel_rfl) (by kernel_rfl) (by kernel_rfl) (by kernel_rfl) (by kernel_rfl) (by kernel_rfl)
  (fun N => SayAll.nil) (fun a s => by kernel_rfl)

/-! ### loop.example/g00206/spec.StaticField: function 18 -/
noncomputable def spec_StaticField.H : Hints := hintsOf []
noncomputable def spec_StaticField.says (N : Nat) : List Say := [spec_l1In.S N, spec_l15Static.S N]
noncomputable def spec_StaticField.call (N : Nat) : CallK := callBy (spec_StaticField.says N)
noncomputable def spec_StaticField.qt (N : Nat) : FuncId → List PV → Sig → Cl := qtBy (spec_StaticField.says N)
noncomputable def spec_StaticField (N : Nat) (k : Int) : Option (((ByteArray × (ByteArray × Unit)) × (Bool × Unit)) × Unit) :=
  ofFn Tryd.prog spec_StaticField.call spec_StaticField.qt spec_StaticField.H N Tryd.f18 [ak_i] [] [.agg [ck_s, ck_s], ak_b] [] [⟨[], [], [], []⟩] (k, ()) ()
noncomputable def spec_StaticField.S (N : Nat) : Say := ⟨false, 18, [ak_i], [], [.agg [ck_s, ck_s], ak_b], [], fun a s => spec_StaticField N a.1⟩
set_option maxRecDepth 100000 in
theorem spec_StaticField.eq (N : Nat) (k : Int) : spec_StaticField N k =
 andK (spec_l1In N k 0 15) fun u1 =>
 sel (!u1.1.1)
  (
  some ((((⟨#[]⟩ : ByteArray), ((⟨#[]⟩ : ByteArray), ())), (false, ())), ()))
  (
  andK (spec_l15Static N) fun u2 =>
  chk ((decide (0 ≤ k)) && (decide (k < (u2.1.1.length : Int)))) (
  some ((((rdS (.pair .str .str) u2.1.1 (Int.toNat k)).1, ((rdS (.pair .str .str) u2.1.1 (Int.toNat k)).2, ())), (true, ())), ()))) := by kernel_rfl
set_option maxRecDepth 100000 in
theorem spec_StaticField.say (N : Nat) : SayOk Tryd.prog (spec_StaticField.S N) := sayOk_mk (N := N) (H := spec_StaticField.H) (preps := [⟨[], [], [], []⟩]) (l := spec_StaticField.says) (fn := Tryd.f18) (c := bodyOf Tryd.f18)
  (by kernel_rfl) (by kernel_rfl) (by kernel_rfl) (by kernel_rfl) (by kernel_rfl) (by kernel_rfl) (by kernel_rfl)
  (fun N => SayAll.cons (spec_l1In.say N) (SayAll.cons (spec_l15Static.say N) (SayAll.nil))) (fun a s => by kernel_rfl)

/-! ### loop.example/g00206/laws.FnFields: function 4 -/
noncomputable def laws_FnFields.H : Hints := hintsOf [(5000006, .join [⟨.normal, [1, 6, 7], [5, 47], [.one (.own 0), ak_b], [.rows (.pair .str .str)], [⟨[], [], [], []⟩]⟩]),
  (5000010, .join [⟨.normal, [1], [5, 10, 62], [.one (.own 0), .one (.own 1), ak_b], [.rows (.pair .str .str), .rows (.pair .str .str)], [⟨[], [], [], []⟩]⟩]),
  (2000013, .loop ⟨.normal, [1, 64], [5, 10, 65], [.one (.own 0), .one (.own 1), ak_i], [.rows (.pair .str .str), .rows (.pair .str .str)], [⟨[], [], [], []⟩]⟩ [⟨.ret, [], [4], [ak_b], [.rows (.pair .str .str), .rows (.pair .str .str)], [⟨[], [], [], []⟩]⟩, ⟨(.exit 0), [1], [], [], [.rows (.pair .str .str), .rows (.pair .str .str)], [⟨[], [], [], []⟩]⟩]),
  (18, .join [⟨.ret, [], [4], [ak_b], [.rows (.pair .str .str)], [⟨[], [], [], []⟩]⟩, ⟨.normal, [1], [], [], [.rows (.pair .str .str)], [⟨[], [], [], []⟩]⟩])]
noncomputable def laws_FnFields.says (N : Nat) : List Say := [spec_DrawFieldsBytes.S N, impl_FieldsBytes.SB N, spec_FieldsBytes.SB N, impl_ReadFields.S N, laws_numberOf.S N, impl_StaticField.S N, spec_StaticField.S N, impl_StaticAt.S N, impl_FieldsBytes.S N]
noncomputable def laws_FnFields.call (N : Nat) : CallK := callBy (laws_FnFields.says N)
noncomputable def laws_FnFields.qt (N : Nat) : FuncId → List PV → Sig → Cl := qtBy (laws_FnFields.says N)
noncomputable def laws_FnFields.l0.hd : Alt := ⟨.normal, [1, 64], [5, 10, 65], [.one (.own 0), .one (.own 1), ak_i], [.rows (.pair .str .str), .rows (.pair .str .str)], [⟨[], [], [], []⟩]⟩
noncomputable def laws_FnFields.l0.outs : List Alt := [⟨.ret, [], [4], [ak_b], [.rows (.pair .str .str), .rows (.pair .str .str)], [⟨[], [], [], []⟩]⟩, ⟨(.exit 0), [1], [], [], [.rows (.pair .str .str), .rows (.pair .str .str)], [⟨[], [], [], []⟩]⟩]
noncomputable def laws_FnFields.l0 (N : Nat) (o1 : (List Int)) (t64 : Int) (t65 : Int) (p0 : (List (ByteArray × ByteArray))) (p1 : (List (ByteArray × ByteArray))) : Option (((Bool × Unit) × ((List (ByteArray × ByteArray)) × ((List (ByteArray × ByteArray)) × Unit))) ⊕ (Unit × ((List (ByteArray × ByteArray)) × ((List (ByteArray × ByteArray)) × Unit)))) :=
  loopK Tryd.prog laws_FnFields.call laws_FnFields.qt laws_FnFields.H (codeAt (bodyOf Tryd.f4) [1, 1, 1, 1, 1, 1, 0, 1, 0, 1, 1, 1, 0, 0]) 2 laws_FnFields.l0.hd laws_FnFields.l0.outs [(1, .rows false (.int .u8) o1), (64, .v (.int .i64 t64))] N (((), ((), (t65, ()))), (p0, (p1, ())))
noncomputable def laws_FnFields (N : Nat) (G : (List Int)) (o : (List Int)) : Option ((Bool × Unit) × Unit) :=
  ofFn Tryd.prog laws_FnFields.call laws_FnFields.qt laws_FnFields.H N Tryd.f4 [.one (.sh (.rows (.int .u8))), .one (.sh (.rows (.int .u8)))] [] [ak_b] [] [⟨[], [], [], []⟩] (G, (o, ())) ()
noncomputable def laws_FnFields.S (N : Nat) : Say := ⟨false, 4, [.one (.sh (.rows (.int .u8))), .one (.sh (.rows (.int .u8)))], [], [ak_b], [], fun a s => laws_FnFields N a.1 a.2.1⟩
set_option maxRecDepth 100000 in
theorem laws_FnFields.l0.eq (N : Nat) (o1 : (List Int)) (t64 : Int) (t65 : Int) (p0 : (List (ByteArray × ByteArray))) (p1 : (List (ByteArray × ByteArray))) : laws_FnFields.l0 (N + 1) o1 t64 t65 p0 p1 =
 sel (decide (t65 < t64))
  (
  chk ((decide (0 ≤ t65)) && (decide (t65 < (p1.length : Int)))) (
  chk ((decide (0 ≤ t65)) && (decide (t65 < (p0.length : Int)))) (
  sel (!((decide ((rdS (.pair .str .str) p1 (Int.toNat t65)).1 = (rdS (.pair .str .str) p0 (Int.toNat t65)).1)) && (decide ((rdS (.pair .str .str) p1 (Int.toNat t65)).2 = (rdS (.pair .str .str) p0 (Int.toNat t65)).2))))
   (
   some (.inl ((false, ()), (p0, (p1, ())))))
   (
   laws_FnFields.l0 N o1 t64 (IntKind.i64.wrap (t65 + 1)) p0 p1))))
  (
  some (.inr (((), (p0, (p1, ())))))) := by kernel_rfl
set_option maxRecDepth 100000 in
theorem laws_FnFields.eq (N : Nat) (G : (List Int)) (o : (List Int)) : laws_FnFields N G o =
 sel (decide (1048576 < (IntKind.i64.wrap ((G.length : Int) + (o.length : Int)))))
  (
  some ((true, ()), ()))
  (
  andK (spec_DrawFieldsBytes N G) fun u1 =>
  andK (impl_FieldsBytes N u1.2.1) fun u2 =>
  andK (spec_FieldsBytes N u1.2.1) fun u3 =>
  andK (α := ((Unit × (Bool × Unit)) × ((List (ByteArray × ByteArray)) × Unit))) (
   sel (!(u2.1.2.1 == u3.1.2.1))
    (
    some ((((), (true, ())), (u1.2.1, ()))))
    (
    some ((((), ((!(decide (u2.1.1 = u3.1.1))), ())), (u1.2.1, ()))))) fun j4 =>
  sel j4.1.2.1
   (
   some ((false, ()), ()))
   (
   andK (α := (((Bool × Unit) × ((List (ByteArray × ByteArray)) × Unit)) ⊕ (Unit × ((List (ByteArray × ByteArray)) × Unit)))) (
    sel u2.1.2.1
     (
     andK (impl_ReadFields N u2.1.1) fun u5 =>
     andK (α := ((Unit × (Unit × (Bool × Unit))) × ((List (ByteArray × ByteArray)) × ((List (ByteArray × ByteArray)) × Unit)))) (
      sel (!u5.1.2.1)
       (
       some ((((), ((), (true, ()))), (j4.2.1, (u5.2.1, ())))))
       (
       some ((((), ((), ((!(decide ((u5.2.1.length : Int) = (j4.2.1.length : Int)))), ()))), (j4.2.1, (u5.2.1, ())))))) fun j6 =>
     sel j6.1.2.2.1
      (
      some (.inl ((false, ()), (j6.2.1, ()))))
      (
      andK (laws_FnFields.l0 N o (j6.2.1.length : Int) 0 j6.2.1 j6.2.2.1) fun l7 =>
      orK l7 (fun x8 =>
       some (.inl ((x8.1.1, ()), (x8.2.1, ()))))
       (fun x9 =>
       some (.inr (((), (x9.2.1, ())))))))
     (
     some (.inr (((), (j4.2.1, ())))))) fun j10 =>
   orK j10 (fun x11 =>
    some ((x11.1.1, ()), ()))
    (fun x12 =>
    andK (laws_numberOf N o) fun u13 =>
    andK (impl_StaticField N (Int.tmod u13.1.1 16)) fun u14 =>
    andK (spec_StaticField N (Int.tmod u13.1.1 16)) fun u15 =>
    andK (impl_StaticAt N u14.1.1.1 u14.1.1.2.1) fun u16 =>
    andK (impl_FieldsBytes N [(u14.1.1.1, u14.1.1.2.1)]) fun u17 =>
    sel u14.1.2.1
     (
     sel u17.1.2.1
      (
      sel ((decide (u14.1.1.1 = u15.1.1.1)) && (decide (u14.1.1.2.1 = u15.1.1.2.1)))
       (
       sel (decide (u16.1.1 = (Int.tmod u13.1.1 16)))
        (
        sel (decide (u16.1.2.1 ≤ (Int.tmod u13.1.1 16)))
         (
         some (((decide ((u17.1.1.size : Int) = 3)), ()), ()))
         (
         some ((false, ()), ())))
        (
        some ((false, ()), ())))
       (
       some ((false, ()), ())))
      (
      some ((false, ()), ())))
     (
     some ((false, ()), ()))))) := by kernel_rfl
set_option maxRecDepth 100000 in
theorem laws_FnFields.say (N : Nat) : SayOk Tryd.prog (laws_FnFields.S N) := sayOk_mk (N := N) (H := laws_FnFields.H) (preps := [⟨[], [], [], []⟩]) (l := laws_FnFields.says) (fn := Tryd.f4) (c := bodyOf Tryd.f4)
  (by kernel_rfl) (by kernel_rfl) (by kernel_rfl) (by kernel_rfl) (by kernel_rfl) (by kernel_rfl) (by kernel_rfl)
  (fun N => SayAll.cons (spec_DrawFieldsBytes.say N) (SayAll.cons (impl_FieldsBytes.sayB N) (SayAll.cons (spec_FieldsBytes.sayB N) (SayAll.cons (impl_ReadFields.say N) (SayAll.cons (laws_numberOf.say N) (SayAll.cons (impl_StaticField.say N) (SayAll.cons (spec_StaticField.say N) (SayAll.cons (impl_StaticAt.say N) (SayAll.cons (impl_FieldsBytes.say N) (SayAll.nil)))))))))) (fun a s => by kernel_rfl)

end Go.Proofs.YthkjjombaoffcaaDoor.GFnFields
