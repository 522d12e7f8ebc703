-- Written by a program of this session out of the translation; Lean checks it.
import Derived.Test.YtbfkfhadcmpndaaPmLaw
import Derived.Test.YtbfkfhadcmpndaaProg
set_option linter.unusedVariables false
namespace Go.Proofs.Ytbfkfhadcmpndaa.GFnPieces
open Go Go.Proofs Go.Proofs.YtbfkfhadcmpndaaPM

/-! ### (*loop.example/g00206/spec.l1Cur).next: function 117 -/
noncomputable def spec_l1Cur_next.H : Hints := hintsOf [(4, .join [⟨.normal, [], [0, 3], [.one (.ptr 0 0), ak_i], [.cells [.sh (.rows (.int .u8)), ck_i, .sh (.int .u64)]], [⟨[], [], [], []⟩]⟩])]
noncomputable def spec_l1Cur_next.says (N : Nat) : List Say := []
noncomputable def spec_l1Cur_next.call (N : Nat) : CallK := callBy (spec_l1Cur_next.says N)
noncomputable def spec_l1Cur_next.qt (N : Nat) : FuncId → List PV → Sig → Cl := qtBy (spec_l1Cur_next.says N)
noncomputable def spec_l1Cur_next (N : Nat) (p0_0 : (List Int)) (p0_1 : Int) (p0_2 : Int) : Option ((Int × Unit) × (((List Int) × (Int × (Int × Unit))) × Unit)) :=
  ofFn Try.prog spec_l1Cur_next.call spec_l1Cur_next.qt spec_l1Cur_next.H N Try.f117 [.one (.ptr 0 0)] [.cells [.sh (.rows (.int .u8)), ck_i, .sh (.int .u64)]] [ak_i] [.cells [.sh (.rows (.int .u8)), ck_i, .sh (.int .u64)]] [⟨[], [], [], []⟩] ((), ()) ((p0_0, (p0_1, (p0_2, ()))), ())
noncomputable def spec_l1Cur_next.S (N : Nat) : Say := ⟨false, 117, [.one (.ptr 0 0)], [.cells [.sh (.rows (.int .u8)), ck_i, .sh (.int .u64)]], [ak_i], [.cells [.sh (.rows (.int .u8)), ck_i, .sh (.int .u64)]], fun a s => spec_l1Cur_next N s.1.1 s.1.2.1 s.1.2.2.1⟩
set_option maxRecDepth 100000 in
theorem spec_l1Cur_next.eq (N : Nat) (p0_0 : (List Int)) (p0_1 : Int) (p0_2 : Int) : spec_l1Cur_next N p0_0 p0_1 p0_2 =
 andK (α := ((Unit × (Int × Unit)) × (((List Int) × (Int × (Int × Unit))) × Unit))) (
  sel (decide (p0_1 < (p0_0.length : Int)))
   (
   chk ((decide (0 ≤ p0_1)) && (decide (p0_1 < (p0_0.length : Int)))) (
   some ((((), ((IntKind.i64.wrap (p0_0.getD (Int.toNat p0_1) 0)), ())), ((p0_0, (p0_1, (p0_2, ()))), ())))))
   (
   some ((((), (0, ())), ((p0_0, (p0_1, (p0_2, ()))), ()))))) fun j1 =>
 sel (decide ((IntKind.i64.wrap (j1.2.1.2.1 + 1)) ≤ (j1.2.1.1.length : Int)))
  (
  some ((j1.1.2.1, ()), ((j1.2.1.1, ((IntKind.i64.wrap (j1.2.1.2.1 + 1)), ((IntKind.u64.wrap ((IntKind.u64.wrap ((IntKind.u64.wrap (j1.2.1.2.2.1 * 6364136223846793005)) + (IntKind.u64.wrap j1.1.2.1))) + 1442695040888963407)), ()))), ())))
  (
  some (((IntKind.i64.wrap (Go.bits .and .u64 (shrI .u64 (IntKind.u64.wrap ((IntKind.u64.wrap ((IntKind.u64.wrap (j1.2.1.2.2.1 * 6364136223846793005)) + (IntKind.u64.wrap j1.1.2.1))) + 1442695040888963407)) 40) 255)), ()), ((j1.2.1.1, ((IntKind.i64.wrap (j1.2.1.2.1 + 1)), ((IntKind.u64.wrap ((IntKind.u64.wrap ((IntKind.u64.wrap (j1.2.1.2.2.1 * 6364136223846793005)) + (IntKind.u64.wrap j1.1.2.1))) + 1442695040888963407)), ()))), ()))) := by kernel_rfl
set_option maxRecDepth 100000 in
theorem spec_l1Cur_next.say (N : Nat) : SayOk Try.prog (spec_l1Cur_next.S N) := sayOk_mk (N := N) (H := spec_l1Cur_next.H) (preps := [⟨[], [], [], []⟩]) (l := spec_l1Cur_next.says) (fn := Try.f117) (c := bodyOf Try.f117)
  (by kernel_rfl) (by kernel_rfl) (by kernel_rfl) (by kernel_rfl) (by kernel_rfl) (by kernel_rfl) (by kernel_rfl)
  (fun N => SayAll.nil) (fun a s => by kernel_rfl)

/-! ### (*loop.example/g00206/spec.l1Cur).pick: function 54 -/
noncomputable def spec_l1Cur_pick.H : Hints := hintsOf []
noncomputable def spec_l1Cur_pick.says (N : Nat) : List Say := [spec_l1Cur_next.S N]
noncomputable def spec_l1Cur_pick.call (N : Nat) : CallK := callBy (spec_l1Cur_pick.says N)
noncomputable def spec_l1Cur_pick.qt (N : Nat) : FuncId → List PV → Sig → Cl := qtBy (spec_l1Cur_pick.says N)
noncomputable def spec_l1Cur_pick (N : Nat) (n : Int) (p0_0 : (List Int)) (p0_1 : Int) (p0_2 : Int) : Option ((Int × Unit) × (((List Int) × (Int × (Int × Unit))) × Unit)) :=
  ofFn Try.prog spec_l1Cur_pick.call spec_l1Cur_pick.qt spec_l1Cur_pick.H N Try.f54 [.one (.ptr 0 0), ak_i] [.cells [.sh (.rows (.int .u8)), ck_i, .sh (.int .u64)]] [ak_i] [.cells [.sh (.rows (.int .u8)), ck_i, .sh (.int .u64)]] [⟨[], [], [], []⟩] ((), (n, ())) ((p0_0, (p0_1, (p0_2, ()))), ())
noncomputable def spec_l1Cur_pick.S (N : Nat) : Say := ⟨false, 54, [.one (.ptr 0 0), ak_i], [.cells [.sh (.rows (.int .u8)), ck_i, .sh (.int .u64)]], [ak_i], [.cells [.sh (.rows (.int .u8)), ck_i, .sh (.int .u64)]], fun a s => spec_l1Cur_pick N a.2.1 s.1.1 s.1.2.1 s.1.2.2.1⟩
set_option maxRecDepth 100000 in
theorem spec_l1Cur_pick.eq (N : Nat) (n : Int) (p0_0 : (List Int)) (p0_1 : Int) (p0_2 : Int) : spec_l1Cur_pick N n p0_0 p0_1 p0_2 =
 sel (decide (n ≤ 1))
  (
  some ((0, ()), ((p0_0, (p0_1, (p0_2, ()))), ())))
  (
  andK (spec_l1Cur_next N p0_0 p0_1 p0_2) fun u1 =>
  sel (decide (200 < n))
   (
   andK (spec_l1Cur_next N u1.2.1.1 u1.2.1.2.1 u1.2.1.2.2.1) fun u2 =>
   chk (n != 0) (
   some (((Int.tmod (IntKind.i64.wrap ((IntKind.i64.wrap (u1.1.1 * 256)) + u2.1.1)) n), ()), u2.2)))
   (
   chk (n != 0) (
   some (((Int.tmod u1.1.1 n), ()), u1.2)))) := by kernel_rfl
set_option maxRecDepth 100000 in
theorem spec_l1Cur_pick.say (N : Nat) : SayOk Try.prog (spec_l1Cur_pick.S N) := sayOk_mk (N := N) (H := spec_l1Cur_pick.H) (preps := [⟨[], [], [], []⟩]) (l := spec_l1Cur_pick.says) (fn := Try.f54) (c := bodyOf Try.f54)
  (by kernel_rfl) (by kernel_rfl) (by kernel_rfl) (by kernel_rfl) (by kernel_rfl) (by kernel_rfl) (by kernel_rfl)
  (fun N => SayAll.cons (spec_l1Cur_next.say N) (SayAll.nil)) (fun a s => by kernel_rfl)

/-! ### (*loop.example/g00206/spec.l1Cur).streamData: function 98 -/
noncomputable def spec_l1Cur_streamData.H : Hints := hintsOf [(2000003, .loop ⟨.normal, [9], [3, 10], [.one (.own 1), ak_i], [.cells [.sh (.rows (.int .u8)), ck_i, .sh (.int .u64)], .rows (.int .u8)], [⟨[], [], [], []⟩]⟩ [⟨(.exit 0), [], [3], [.one (.own 1)], [.cells [.sh (.rows (.int .u8)), ck_i, .sh (.int .u64)], .rows (.int .u8)], [⟨[], [], [], []⟩]⟩])]
noncomputable def spec_l1Cur_streamData.says (N : Nat) : List Say := [spec_l1Cur_pick.S N]
noncomputable def spec_l1Cur_streamData.call (N : Nat) : CallK := callBy (spec_l1Cur_streamData.says N)
noncomputable def spec_l1Cur_streamData.qt (N : Nat) : FuncId → List PV → Sig → Cl := qtBy (spec_l1Cur_streamData.says N)
noncomputable def spec_l1Cur_streamData.l0.hd : Alt := ⟨.normal, [9], [3, 10], [.one (.own 1), ak_i], [.cells [.sh (.rows (.int .u8)), ck_i, .sh (.int .u64)], .rows (.int .u8)], [⟨[], [], [], []⟩]⟩
noncomputable def spec_l1Cur_streamData.l0.outs : List Alt := [⟨(.exit 0), [], [3], [.one (.own 1)], [.cells [.sh (.rows (.int .u8)), ck_i, .sh (.int .u64)], .rows (.int .u8)], [⟨[], [], [], []⟩]⟩]
noncomputable def spec_l1Cur_streamData.l0 (N : Nat) (t9 : Int) (t10 : Int) (p0_01 : (List Int)) (p0_11 : Int) (p0_21 : Int) (p1 : (List Int)) : Option ((Unit × Unit) × (((List Int) × (Int × (Int × Unit))) × ((List Int) × Unit))) :=
  loopK Try.prog spec_l1Cur_streamData.call spec_l1Cur_streamData.qt spec_l1Cur_streamData.H (codeAt (bodyOf Try.f98) [1, 1, 0, 1, 0, 0]) 2 spec_l1Cur_streamData.l0.hd spec_l1Cur_streamData.l0.outs [(9, .v (.int .i64 t9))] N (((), (t10, ())), ((p0_01, (p0_11, (p0_21, ()))), (p1, ())))
noncomputable def spec_l1Cur_streamData (N : Nat) (p0_0 : (List Int)) (p0_1 : Int) (p0_2 : Int) : Option ((ByteArray × Unit) × (((List Int) × (Int × (Int × Unit))) × Unit)) :=
  ofFn Try.prog spec_l1Cur_streamData.call spec_l1Cur_streamData.qt spec_l1Cur_streamData.H N Try.f98 [.one (.ptr 0 0)] [.cells [.sh (.rows (.int .u8)), ck_i, .sh (.int .u64)]] [ak_s] [.cells [.sh (.rows (.int .u8)), ck_i, .sh (.int .u64)]] [⟨[], [], [], []⟩] ((), ()) ((p0_0, (p0_1, (p0_2, ()))), ())
noncomputable def spec_l1Cur_streamData.S (N : Nat) : Say := ⟨false, 98, [.one (.ptr 0 0)], [.cells [.sh (.rows (.int .u8)), ck_i, .sh (.int .u64)]], [ak_s], [.cells [.sh (.rows (.int .u8)), ck_i, .sh (.int .u64)]], fun a s => spec_l1Cur_streamData N s.1.1 s.1.2.1 s.1.2.2.1⟩
set_option maxRecDepth 100000 in
theorem spec_l1Cur_streamData.l0.eq (N : Nat) (t9 : Int) (t10 : Int) (p0_01 : (List Int)) (p0_11 : Int) (p0_21 : Int) (p1 : (List Int)) : spec_l1Cur_streamData.l0 (N + 1) t9 t10 p0_01 p0_11 p0_21 p1 =
 sel (decide (t10 < t9))
  (
  chk ((decide (0 ≤ t10)) && (decide (t10 < (p1.length : Int)))) (
  spec_l1Cur_streamData.l0 N t9 (IntKind.i64.wrap (t10 + 1)) p0_01 p0_11 p0_21 (p1.set (Int.toNat t10) (IntKind.u8.wrap (IntKind.i64.wrap (97 + (Int.tmod (IntKind.i64.wrap (t10 * 7)) 26)))))))
  (
  some ((((), ()), ((p0_01, (p0_11, (p0_21, ()))), (p1, ()))))) := by kernel_rfl
set_option maxRecDepth 100000 in
theorem spec_l1Cur_streamData.eq (N : Nat) (p0_0 : (List Int)) (p0_1 : Int) (p0_2 : Int) : spec_l1Cur_streamData N p0_0 p0_1 p0_2 =
 andK (spec_l1Cur_pick N 60 p0_0 p0_1 p0_2) fun u1 =>
 chk ((decide (0 ≤ u1.1.1)) && ((smallI u1.1.1) && (decide (u1.1.1 = u1.1.1)))) (
 andK (spec_l1Cur_streamData.l0 N ((List.replicate (Int.toNat u1.1.1) (0 : Int)).length : Int) 0 u1.2.1.1 u1.2.1.2.1 u1.2.1.2.2.1 (List.replicate (Int.toNat u1.1.1) (0 : Int))) fun l2 =>
 some (((strL l2.2.2.1), ()), (l2.2.1, ()))) := by kernel_rfl
set_option maxRecDepth 100000 in
theorem spec_l1Cur_streamData.say (N : Nat) : SayOk Try.prog (spec_l1Cur_streamData.S N) := sayOk_mk (N := N) (H := spec_l1Cur_streamData.H) (preps := [⟨[], [], [], []⟩]) (l := spec_l1Cur_streamData.says) (fn := Try.f98) (c := bodyOf Try.f98)
  (by kernel_rfl) (by kernel_rfl) (by kernel_rfl) (by kernel_rfl) (by kernel_rfl) (by kernel_rfl) (by kernel_rfl)
  (fun N => SayAll.cons (spec_l1Cur_pick.say N) (SayAll.nil)) (fun a s => by kernel_rfl)

/-! ### (*loop.example/g00206/spec.l1Cur).one: function 55 -/
noncomputable def spec_l1Cur_one.H : Hints := hintsOf []
noncomputable def spec_l1Cur_one.says (N : Nat) : List Say := [spec_l1Cur_pick.S N]
noncomputable def spec_l1Cur_one.call (N : Nat) : CallK := callBy (spec_l1Cur_one.says N)
noncomputable def spec_l1Cur_one.qt (N : Nat) : FuncId → List PV → Sig → Cl := qtBy (spec_l1Cur_one.says N)
noncomputable def spec_l1Cur_one (N : Nat) (n : Int) (p0_0 : (List Int)) (p0_1 : Int) (p0_2 : Int) : Option ((Bool × Unit) × (((List Int) × (Int × (Int × Unit))) × Unit)) :=
  ofFn Try.prog spec_l1Cur_one.call spec_l1Cur_one.qt spec_l1Cur_one.H N Try.f55 [.one (.ptr 0 0), ak_i] [.cells [.sh (.rows (.int .u8)), ck_i, .sh (.int .u64)]] [ak_b] [.cells [.sh (.rows (.int .u8)), ck_i, .sh (.int .u64)]] [⟨[], [], [], []⟩] ((), (n, ())) ((p0_0, (p0_1, (p0_2, ()))), ())
noncomputable def spec_l1Cur_one.S (N : Nat) : Say := ⟨false, 55, [.one (.ptr 0 0), ak_i], [.cells [.sh (.rows (.int .u8)), ck_i, .sh (.int .u64)]], [ak_b], [.cells [.sh (.rows (.int .u8)), ck_i, .sh (.int .u64)]], fun a s => spec_l1Cur_one N a.2.1 s.1.1 s.1.2.1 s.1.2.2.1⟩
set_option maxRecDepth 100000 in
theorem spec_l1Cur_one.eq (N : Nat) (n : Int) (p0_0 : (List Int)) (p0_1 : Int) (p0_2 : Int) : spec_l1Cur_one N n p0_0 p0_1 p0_2 =
 andK (spec_l1Cur_pick N n p0_0 p0_1 p0_2) fun u1 =>
 some (((decide (u1.1.1 = 0)), ()), u1.2) := by kernel_rfl
set_option maxRecDepth 100000 in
theorem spec_l1Cur_one.say (N : Nat) : SayOk Try.prog (spec_l1Cur_one.S N) := sayOk_mk (N := N) (H := spec_l1Cur_one.H) (preps := [⟨[], [], [], []⟩]) (l := spec_l1Cur_one.says) (fn := Try.f55) (c := bodyOf Try.f55)
  (by kernel_rfl) (by kernel_rfl) (by kernel_rfl) (by kernel_rfl) (by kernel_rfl) (by kernel_rfl) (by kernel_rfl)
  (fun N => SayAll.cons (spec_l1Cur_pick.say N) (SayAll.nil)) (fun a s => by kernel_rfl)

/-! ### (*loop.example/g00206/spec.l1Cur).outflow: function 59 -/
noncomputable def spec_l1Cur_outflow.H : Hints := hintsOf [(5000003, .join [⟨.normal, [], [2, 3, 27], [.one (.ptr 1 0), .one (.ptr 2 0), ak_b], [.cells [.sh (.rows (.int .u8)), ck_i, .sh (.int .u64)], .cells [ck_i, ck_i, ck_s, ck_b], .cells [ck_i, ck_i, ck_s, ck_b]], [⟨[], [], [], []⟩]⟩])]
noncomputable def spec_l1Cur_outflow.says (N : Nat) : List Say := [spec_l1Cur_pick.S N, spec_l1Cur_streamData.S N, spec_l1Cur_one.S N]
noncomputable def spec_l1Cur_outflow.call (N : Nat) : CallK := callBy (spec_l1Cur_outflow.says N)
noncomputable def spec_l1Cur_outflow.qt (N : Nat) : FuncId → List PV → Sig → Cl := qtBy (spec_l1Cur_outflow.says N)
noncomputable def spec_l1Cur_outflow (N : Nat) (p0_0 : (List Int)) (p0_1 : Int) (p0_2 : Int) : Option (((Int × (Int × (ByteArray × (Bool × Unit)))) × Unit) × (((List Int) × (Int × (Int × Unit))) × Unit)) :=
  ofFn Try.prog spec_l1Cur_outflow.call spec_l1Cur_outflow.qt spec_l1Cur_outflow.H N Try.f59 [.one (.ptr 0 0)] [.cells [.sh (.rows (.int .u8)), ck_i, .sh (.int .u64)]] [.agg [ck_i, ck_i, ck_s, ck_b]] [.cells [.sh (.rows (.int .u8)), ck_i, .sh (.int .u64)]] [⟨[], [], [], []⟩] ((), ()) ((p0_0, (p0_1, (p0_2, ()))), ())
noncomputable def spec_l1Cur_outflow.S (N : Nat) : Say := ⟨false, 59, [.one (.ptr 0 0)], [.cells [.sh (.rows (.int .u8)), ck_i, .sh (.int .u64)]], [.agg [ck_i, ck_i, ck_s, ck_b]], [.cells [.sh (.rows (.int .u8)), ck_i, .sh (.int .u64)]], fun a s => spec_l1Cur_outflow N s.1.1 s.1.2.1 s.1.2.2.1⟩
set_option maxRecDepth 100000 in
theorem spec_l1Cur_outflow.eq (N : Nat) (p0_0 : (List Int)) (p0_1 : Int) (p0_2 : Int) : spec_l1Cur_outflow N p0_0 p0_1 p0_2 =
 andK (spec_l1Cur_pick N 80 p0_0 p0_1 p0_2) fun u1 =>
 andK (spec_l1Cur_streamData N u1.2.1.1 u1.2.1.2.1 u1.2.1.2.2.1) fun u2 =>
 andK (spec_l1Cur_one N 2 u2.2.1.1 u2.2.1.2.1 u2.2.1.2.2.1) fun u3 =>
 andK (spec_l1Cur_pick N (IntKind.i64.wrap ((u2.1.1.size : Int) + 1)) u3.2.1.1 u3.2.1.2.1 u3.2.1.2.2.1) fun u4 =>
 andK (α := ((Unit × (Unit × (Bool × Unit))) × (((List Int) × (Int × (Int × Unit))) × ((Int × (Int × (ByteArray × (Bool × Unit)))) × ((Int × (Int × (ByteArray × (Bool × Unit)))) × Unit))))) (
  sel (decide (u1.1.1 < u4.1.1))
   (
   andK (spec_l1Cur_one N 12 u4.2.1.1 u4.2.1.2.1 u4.2.1.2.2.1) fun u5 =>
   some ((((), ((), ((!u5.1.1), ()))), (u5.2.1, ((0, (0, ((⟨#[]⟩ : ByteArray), (false, ())))), ((u1.1.1, (u4.1.1, (u2.1.1, (u3.1.1, ())))), ()))))))
   (
   some ((((), ((), (false, ()))), (u4.2.1, ((0, (0, ((⟨#[]⟩ : ByteArray), (false, ())))), ((u1.1.1, (u4.1.1, (u2.1.1, (u3.1.1, ())))), ()))))))) fun j6 =>
 sel j6.1.2.2.1
  (
  some (((j6.2.2.2.1.1, (j6.2.2.2.1.1, (j6.2.2.2.1.2.2.1, (j6.2.2.2.1.2.2.2.1, ())))), ()), (j6.2.1, ())))
  (
  some ((j6.2.2.2.1, ()), (j6.2.1, ()))) := by kernel_rfl
set_option maxRecDepth 100000 in
theorem spec_l1Cur_outflow.say (N : Nat) : SayOk Try.prog (spec_l1Cur_outflow.S N) := sayOk_mk (N := N) (H := spec_l1Cur_outflow.H) (preps := [⟨[], [], [], []⟩]) (l := spec_l1Cur_outflow.says) (fn := Try.f59) (c := bodyOf Try.f59)
  (by kernel_rfl) (by kernel_rfl) (by kernel_rfl) (by kernel_rfl) (by kernel_rfl) (by kernel_rfl) (by kernel_rfl)
  (fun N => SayAll.cons (spec_l1Cur_pick.say N) (SayAll.cons (spec_l1Cur_streamData.say N) (SayAll.cons (spec_l1Cur_one.say N) (SayAll.nil)))) (fun a s => by kernel_rfl)

/-! ### loop.example/g00206/spec.DrawNextPiece: function 18 -/
noncomputable def spec_DrawNextPiece.H : Hints := hintsOf []
noncomputable def spec_DrawNextPiece.says (N : Nat) : List Say := [spec_l1Cur_outflow.S N, spec_l1Cur_pick.S N]
noncomputable def spec_DrawNextPiece.call (N : Nat) : CallK := callBy (spec_DrawNextPiece.says N)
noncomputable def spec_DrawNextPiece.qt (N : Nat) : FuncId → List PV → Sig → Cl := qtBy (spec_DrawNextPiece.says N)
noncomputable def spec_DrawNextPiece (N : Nat) (code : (List Int)) : Option (((Int × (Int × (ByteArray × (Bool × Unit)))) × (Int × Unit)) × Unit) :=
  ofFn Try.prog spec_DrawNextPiece.call spec_DrawNextPiece.qt spec_DrawNextPiece.H N Try.f18 [.one (.sh (.rows (.int .u8)))] [] [.agg [ck_i, ck_i, ck_s, ck_b], ak_i] [] [⟨[], [], [], []⟩] (code, ()) ()
noncomputable def spec_DrawNextPiece.S (N : Nat) : Say := ⟨false, 18, [.one (.sh (.rows (.int .u8)))], [], [.agg [ck_i, ck_i, ck_s, ck_b], ak_i], [], fun a s => spec_DrawNextPiece N a.1⟩
set_option maxRecDepth 100000 in
theorem spec_DrawNextPiece.eq (N : Nat) (code : (List Int)) : spec_DrawNextPiece N code =
 andK (spec_l1Cur_outflow N code 0 0) fun u1 =>
 andK (spec_l1Cur_pick N 20 u1.2.1.1 u1.2.1.2.1 u1.2.1.2.2.1) fun u2 =>
 some ((u1.1.1, (u2.1.1, ())), ()) := by kernel_rfl
set_option maxRecDepth 100000 in
theorem spec_DrawNextPiece.say (N : Nat) : SayOk Try.prog (spec_DrawNextPiece.S N) := sayOk_mk (N := N) (H := spec_DrawNextPiece.H) (preps := [⟨[], [], [], []⟩]) (l := spec_DrawNextPiece.says) (fn := Try.f18) (c := bodyOf Try.f18)
  (by kernel_rfl) (by kernel_rfl) (by kernel_rfl) (by kernel_rfl) (by kernel_rfl) (by kernel_rfl) (by kernel_rfl)
  (fun N => SayAll.cons (spec_l1Cur_outflow.say N) (SayAll.cons (spec_l1Cur_pick.say N) (SayAll.nil))) (fun a s => by kernel_rfl)

/-! ### loop.example/g00206/impl.in: function 60 -/
noncomputable def impl_in.H : Hints := hintsOf []
noncomputable def impl_in.says (N : Nat) : List Say := []
noncomputable def impl_in.call (N : Nat) : CallK := callBy (impl_in.says N)
noncomputable def impl_in.qt (N : Nat) : FuncId → List PV → Sig → Cl := qtBy (impl_in.says N)
noncomputable def impl_in (N : Nat) (n : Int) (low : Int) (high : Int) : Option ((Bool × Unit) × Unit) :=
  ofFn Try.prog impl_in.call impl_in.qt impl_in.H N Try.f60 [ak_i, ak_i, ak_i] [] [ak_b] [] [⟨[], [], [], []⟩] (n, (low, (high, ()))) ()
noncomputable def impl_in.S (N : Nat) : Say := ⟨false, 60, [ak_i, ak_i, ak_i], [], [ak_b], [], fun a s => impl_in N a.1 a.2.1 a.2.2.1⟩
set_option maxRecDepth 100000 in
theorem impl_in.eq (N : Nat) (n : Int) (low : Int) (high : Int) : impl_in N n low high =
 sel (decide (low ≤ n))
  (
  some (((decide (n ≤ high)), ()), ()))
  (
  some ((false, ()), ())) := by kernel_rfl
set_option maxRecDepth 100000 in
theorem impl_in.say (N : Nat) : SayOk Try.prog (impl_in.S N) := sayOk_mk (N := N) (H := impl_in.H) (preps := [⟨[], [], [], []⟩]) (l := impl_in.says) (fn := Try.f60) (c := bodyOf Try.f60)
  (by kernel_rfl) (by kernel_rfl) (by kernel_rfl) (by kernel_rfl) (by kernel_rfl) (by kernel_rfl) (by kernel_rfl)
  (fun N => SayAll.nil) (fun a s => by kernel_rfl)

/-! ### loop.example/g00206/impl.isVarint: function 65 -/
noncomputable def impl_isVarint.H : Hints := hintsOf []
noncomputable def impl_isVarint.says (N : Nat) : List Say := [impl_in.S N]
noncomputable def impl_isVarint.call (N : Nat) : CallK := callBy (impl_isVarint.says N)
noncomputable def impl_isVarint.qt (N : Nat) : FuncId → List PV → Sig → Cl := qtBy (impl_isVarint.says N)
noncomputable def impl_isVarint (N : Nat) (n : Int) : Option ((Bool × Unit) × Unit) :=
  ofFn Try.prog impl_isVarint.call impl_isVarint.qt impl_isVarint.H N Try.f65 [ak_i] [] [ak_b] [] [⟨[], [], [], []⟩] (n, ()) ()
noncomputable def impl_isVarint.S (N : Nat) : Say := ⟨false, 65, [ak_i], [], [ak_b], [], fun a s => impl_isVarint N a.1⟩
set_option maxRecDepth 100000 in
theorem impl_isVarint.eq (N : Nat) (n : Int) : impl_isVarint N n =
 andK (impl_in N n 0 4611686018427387903) fun u1 =>
 some (u1.1, ()) := by kernel_rfl
set_option maxRecDepth 100000 in
theorem impl_isVarint.say (N : Nat) : SayOk Try.prog (impl_isVarint.S N) := sayOk_mk (N := N) (H := impl_isVarint.H) (preps := [⟨[], [], [], []⟩]) (l := impl_isVarint.says) (fn := Try.f65) (c := bodyOf Try.f65)
  (by kernel_rfl) (by kernel_rfl) (by kernel_rfl) (by kernel_rfl) (by kernel_rfl) (by kernel_rfl) (by kernel_rfl)
  (fun N => SayAll.cons (impl_in.say N) (SayAll.nil)) (fun a s => by kernel_rfl)

/-! ### loop.example/g00206/impl.GoodOutflow: function 22 -/
noncomputable def impl_GoodOutflow.H : Hints := hintsOf []
noncomputable def impl_GoodOutflow.says (N : Nat) : List Say := [impl_isVarint.S N, impl_in.S N]
noncomputable def impl_GoodOutflow.call (N : Nat) : CallK := callBy (impl_GoodOutflow.says N)
noncomputable def impl_GoodOutflow.qt (N : Nat) : FuncId → List PV → Sig → Cl := qtBy (impl_GoodOutflow.says N)
noncomputable def impl_GoodOutflow (N : Nat) (s_0 : Int) (s_1 : Int) (s_2 : ByteArray) (s_3 : Bool) : Option ((Bool × Unit) × Unit) :=
  ofFn Try.prog impl_GoodOutflow.call impl_GoodOutflow.qt impl_GoodOutflow.H N Try.f22 [.agg [ck_i, ck_i, ck_s, ck_b]] [] [ak_b] [] [⟨[], [], [], []⟩] ((s_0, (s_1, (s_2, (s_3, ())))), ()) ()
noncomputable def impl_GoodOutflow.S (N : Nat) : Say := ⟨false, 22, [.agg [ck_i, ck_i, ck_s, ck_b]], [], [ak_b], [], fun a s => impl_GoodOutflow N a.1.1 a.1.2.1 a.1.2.2.1 a.1.2.2.2.1⟩
set_option maxRecDepth 100000 in
theorem impl_GoodOutflow.eq (N : Nat) (s_0 : Int) (s_1 : Int) (s_2 : ByteArray) (s_3 : Bool) : impl_GoodOutflow N s_0 s_1 s_2 s_3 =
 andK (impl_isVarint N s_0) fun u1 =>
 sel u1.1.1
  (
  sel (decide ((s_2.size : Int) ≤ 4000))
   (
   andK (impl_in N s_1 0 (s_2.size : Int)) fun u2 =>
   sel u2.1.1
    (
    some (((decide (s_1 ≤ s_0)), ()), ()))
    (
    some ((false, ()), ())))
   (
   some ((false, ()), ())))
  (
  some ((false, ()), ())) := by kernel_rfl
set_option maxRecDepth 100000 in
theorem impl_GoodOutflow.say (N : Nat) : SayOk Try.prog (impl_GoodOutflow.S N) := sayOk_mk (N := N) (H := impl_GoodOutflow.H) (preps := [⟨[], [], [], []⟩]) (l := impl_GoodOutflow.says) (fn := Try.f22) (c := bodyOf Try.f22)
  (by kernel_rfl) (by kernel_rfl) (by kernel_rfl) (by kernel_rfl) (by kernel_rfl) (by kernel_rfl) (by kernel_rfl)
  (fun N => SayAll.cons (impl_isVarint.say N) (SayAll.cons (impl_in.say N) (SayAll.nil))) (fun a s => by kernel_rfl)

/-! ### loop.example/g00206/impl.NextPiece: function 19 -/
noncomputable def impl_NextPiece.H : Hints := hintsOf [(5000001, .join [⟨.normal, [1], [2, 4, 5, 16], [.one (.ptr 0 0), .one (.ptr 1 0), .one (.ptr 2 0), ak_b], [.cells [ck_i, ck_i, ck_s, ck_b], .cells [ck_i, ck_i, ck_s, ck_b], .cells [ck_i, ck_i, ck_i, ck_i, ck_b, ck_s, .nil]], [⟨[], [], [], []⟩]⟩]),
  (5000005, .join [⟨.normal, [7], [2, 4, 5, 8], [.one (.ptr 0 0), .one (.ptr 1 0), .one (.ptr 2 0), .one (.ptr 3 0)], [.cells [ck_i, ck_i, ck_s, ck_b], .cells [ck_i, ck_i, ck_s, ck_b], .cells [ck_i, ck_i, ck_i, ck_i, ck_b, ck_s, .nil], .cells [ck_i, ck_i, ck_i, ck_i, ck_b, ck_s, .nil]], [⟨[], [], [], []⟩]⟩]),
  (5000006, .join [⟨.normal, [7], [2, 4, 5, 8, 63], [.one (.ptr 0 0), .one (.ptr 1 0), .one (.ptr 2 0), .one (.ptr 3 0), ak_b], [.cells [ck_i, ck_i, ck_s, ck_b], .cells [ck_i, ck_i, ck_s, ck_b], .cells [ck_i, ck_i, ck_i, ck_i, ck_b, ck_s, .nil], .cells [ck_i, ck_i, ck_i, ck_i, ck_b, ck_s, .nil]], [⟨[], [], [], []⟩]⟩])]
noncomputable def impl_NextPiece.says (N : Nat) : List Say := [impl_GoodOutflow.S N, impl_in.S N]
noncomputable def impl_NextPiece.call (N : Nat) : CallK := callBy (impl_NextPiece.says N)
noncomputable def impl_NextPiece.qt (N : Nat) : FuncId → List PV → Sig → Cl := qtBy (impl_NextPiece.says N)
noncomputable def impl_NextPiece (N : Nat) (G_0 : Int) (G_1 : Int) (G_2 : ByteArray) (G_3 : Bool) (o : Int) : Option (((Int × (Int × (ByteArray × (Bool × Unit)))) × ((Int × (Int × (Int × (Int × (Bool × (ByteArray × (Unit × Unit))))))) × (Bool × Unit))) × Unit) :=
  ofFn Try.prog impl_NextPiece.call impl_NextPiece.qt impl_NextPiece.H N Try.f19 [.agg [ck_i, ck_i, ck_s, ck_b], ak_i] [] [.agg [ck_i, ck_i, ck_s, ck_b], .agg [ck_i, ck_i, ck_i, ck_i, ck_b, ck_s, .nil], ak_b] [] [⟨[], [], [], []⟩] ((G_0, (G_1, (G_2, (G_3, ())))), (o, ())) ()
noncomputable def impl_NextPiece.S (N : Nat) : Say := ⟨false, 19, [.agg [ck_i, ck_i, ck_s, ck_b], ak_i], [], [.agg [ck_i, ck_i, ck_s, ck_b], .agg [ck_i, ck_i, ck_i, ck_i, ck_b, ck_s, .nil], ak_b], [], fun a s => impl_NextPiece N a.1.1 a.1.2.1 a.1.2.2.1 a.1.2.2.2.1 a.2.1⟩
set_option maxRecDepth 100000 in
theorem impl_NextPiece.eq (N : Nat) (G_0 : Int) (G_1 : Int) (G_2 : ByteArray) (G_3 : Bool) (o : Int) : impl_NextPiece N G_0 G_1 G_2 G_3 o =
 andK (α := ((Unit × (Unit × (Unit × (Bool × Unit)))) × ((Int × (Int × (ByteArray × (Bool × Unit)))) × ((Int × (Int × (ByteArray × (Bool × Unit)))) × ((Int × (Int × (Int × (Int × (Bool × (ByteArray × (Unit × Unit))))))) × Unit))))) (
  andK (impl_GoodOutflow N G_0 G_1 G_2 G_3) fun u1 =>
  sel (!u1.1.1)
   (
   some ((((), ((), ((), (true, ())))), ((G_0, (G_1, (G_2, (G_3, ())))), ((0, (0, ((⟨#[]⟩ : ByteArray), (false, ())))), ((0, (0, (0, (0, (false, ((⟨#[]⟩ : ByteArray), ((), ()))))))), ()))))))
   (
   andK (impl_in N o 1 200) fun u2 =>
   some ((((), ((), ((), ((!u2.1.1), ())))), ((G_0, (G_1, (G_2, (G_3, ())))), ((0, (0, ((⟨#[]⟩ : ByteArray), (false, ())))), ((0, (0, (0, (0, (false, ((⟨#[]⟩ : ByteArray), ((), ()))))))), ()))))))) fun j3 =>
 sel j3.1.2.2.2.1
  (
  some (((0, (0, ((⟨#[]⟩ : ByteArray), (false, ())))), ((0, (0, (0, (0, (false, ((⟨#[]⟩ : ByteArray), ((), ()))))))), (false, ()))), ()))
  (
  chk ((decide (0 ≤ j3.2.1.2.1)) && ((decide (j3.2.1.2.1 ≤ (IntKind.i64.wrap (j3.2.1.2.1 + (mmI false (mmI false o (IntKind.i64.wrap (j3.2.1.1 - j3.2.1.2.1))) (IntKind.i64.wrap ((j3.2.1.2.2.1.size : Int) - j3.2.1.2.1))))))) && (decide ((IntKind.i64.wrap (j3.2.1.2.1 + (mmI false (mmI false o (IntKind.i64.wrap (j3.2.1.1 - j3.2.1.2.1))) (IntKind.i64.wrap ((j3.2.1.2.2.1.size : Int) - j3.2.1.2.1))))) ≤ (j3.2.1.2.2.1.size : Int))))) (
  andK (α := ((Unit × (Unit × (Unit × (Unit × Unit)))) × ((Int × (Int × (ByteArray × (Bool × Unit)))) × ((Int × (Int × (ByteArray × (Bool × Unit)))) × ((Int × (Int × (Int × (Int × (Bool × (ByteArray × (Unit × Unit))))))) × ((Int × (Int × (Int × (Int × (Bool × (ByteArray × (Unit × Unit))))))) × Unit)))))) (
   sel j3.2.1.2.2.2.1
    (
    some ((((), ((), ((), ((), ())))), (j3.2.1, (j3.2.2.1, (j3.2.2.2.1, ((8, (0, (j3.2.1.2.1, (0, ((decide ((IntKind.i64.wrap (j3.2.1.2.1 + (mmI false (mmI false o (IntKind.i64.wrap (j3.2.1.1 - j3.2.1.2.1))) (IntKind.i64.wrap ((j3.2.1.2.2.1.size : Int) - j3.2.1.2.1))))) = (j3.2.1.2.2.1.size : Int))), ((j3.2.1.2.2.1.extract (Int.toNat j3.2.1.2.1) (Int.toNat (IntKind.i64.wrap (j3.2.1.2.1 + (mmI false (mmI false o (IntKind.i64.wrap (j3.2.1.1 - j3.2.1.2.1))) (IntKind.i64.wrap ((j3.2.1.2.2.1.size : Int) - j3.2.1.2.1))))))), ((), ()))))))), ())))))))
    (
    some ((((), ((), ((), ((), ())))), (j3.2.1, (j3.2.2.1, (j3.2.2.2.1, ((8, (0, (j3.2.1.2.1, (0, (false, ((j3.2.1.2.2.1.extract (Int.toNat j3.2.1.2.1) (Int.toNat (IntKind.i64.wrap (j3.2.1.2.1 + (mmI false (mmI false o (IntKind.i64.wrap (j3.2.1.1 - j3.2.1.2.1))) (IntKind.i64.wrap ((j3.2.1.2.2.1.size : Int) - j3.2.1.2.1))))))), ((), ()))))))), ())))))))) fun j4 =>
  andK (α := ((Unit × (Unit × (Unit × (Unit × (Bool × Unit))))) × ((Int × (Int × (ByteArray × (Bool × Unit)))) × ((Int × (Int × (ByteArray × (Bool × Unit)))) × ((Int × (Int × (Int × (Int × (Bool × (ByteArray × (Unit × Unit))))))) × ((Int × (Int × (Int × (Int × (Bool × (ByteArray × (Unit × Unit))))))) × Unit)))))) (
   sel (decide ((mmI false (mmI false o (IntKind.i64.wrap (j3.2.1.1 - j3.2.1.2.1))) (IntKind.i64.wrap ((j3.2.1.2.2.1.size : Int) - j3.2.1.2.1))) = 0))
    (
    some ((((), ((), ((), ((), ((!j4.2.2.2.2.1.2.2.2.2.1), ()))))), j4.2)))
    (
    some ((((), ((), ((), ((), (false, ()))))), j4.2)))) fun j5 =>
  sel j5.1.2.2.2.2.1
   (
   some (((0, (0, ((⟨#[]⟩ : ByteArray), (false, ())))), ((0, (0, (0, (0, (false, ((⟨#[]⟩ : ByteArray), ((), ()))))))), (false, ()))), ()))
   (
   some (((j5.2.1.1, ((IntKind.i64.wrap (j5.2.1.2.1 + (mmI false (mmI false o (IntKind.i64.wrap (j3.2.1.1 - j3.2.1.2.1))) (IntKind.i64.wrap ((j3.2.1.2.2.1.size : Int) - j3.2.1.2.1))))), (j5.2.1.2.2.1, (j5.2.1.2.2.2.1, ())))), (j5.2.2.2.2.1, (true, ()))), ())))) := by kernel_rfl
set_option maxRecDepth 100000 in
theorem impl_NextPiece.say (N : Nat) : SayOk Try.prog (impl_NextPiece.S N) := sayOk_mk (N := N) (H := impl_NextPiece.H) (preps := [⟨[], [], [], []⟩]) (l := impl_NextPiece.says) (fn := Try.f19) (c := bodyOf Try.f19)
  (by kernel_rfl) (by kernel_rfl) (by kernel_rfl) (by kernel_rfl) (by kernel_rfl) (by kernel_rfl) (by kernel_rfl)
  (fun N => SayAll.cons (impl_GoodOutflow.say N) (SayAll.cons (impl_in.say N) (SayAll.nil))) (fun a s => by kernel_rfl)

/-! ### loop.example/g00206/spec.l1In: function 62 -/
noncomputable def spec_l1In.H : Hints := hintsOf []
noncomputable def spec_l1In.says (N : Nat) : List Say := []
noncomputable def spec_l1In.call (N : Nat) : CallK := callBy (spec_l1In.says N)
noncomputable def spec_l1In.qt (N : Nat) : FuncId → List PV → Sig → Cl := qtBy (spec_l1In.says N)
noncomputable def spec_l1In (N : Nat) (n : Int) (lo : Int) (hi : Int) : Option ((Bool × Unit) × Unit) :=
  ofFn Try.prog spec_l1In.call spec_l1In.qt spec_l1In.H N Try.f62 [ak_i, ak_i, ak_i] [] [ak_b] [] [⟨[], [], [], []⟩] (n, (lo, (hi, ()))) ()
noncomputable def spec_l1In.S (N : Nat) : Say := ⟨false, 62, [ak_i, ak_i, ak_i], [], [ak_b], [], fun a s => spec_l1In N a.1 a.2.1 a.2.2.1⟩
set_option maxRecDepth 100000 in
theorem spec_l1In.eq (N : Nat) (n : Int) (lo : Int) (hi : Int) : spec_l1In N n lo hi =
 sel (decide (lo ≤ n))
  (
  some (((decide (n ≤ hi)), ()), ()))
  (
  some ((false, ()), ())) := by kernel_rfl
set_option maxRecDepth 100000 in
theorem spec_l1In.say (N : Nat) : SayOk Try.prog (spec_l1In.S N) := sayOk_mk (N := N) (H := spec_l1In.H) (preps := [⟨[], [], [], []⟩]) (l := spec_l1In.says) (fn := Try.f62) (c := bodyOf Try.f62)
  (by kernel_rfl) (by kernel_rfl) (by kernel_rfl) (by kernel_rfl) (by kernel_rfl) (by kernel_rfl) (by kernel_rfl)
  (fun N => SayAll.nil) (fun a s => by kernel_rfl)

/-! ### loop.example/g00206/spec.l1Known: function 84 -/
noncomputable def spec_l1Known.H : Hints := hintsOf []
noncomputable def spec_l1Known.says (N : Nat) : List Say := [spec_l1In.S N]
noncomputable def spec_l1Known.call (N : Nat) : CallK := callBy (spec_l1Known.says N)
noncomputable def spec_l1Known.qt (N : Nat) : FuncId → List PV → Sig → Cl := qtBy (spec_l1Known.says N)
noncomputable def spec_l1Known (N : Nat) (n : Int) : Option ((Bool × Unit) × Unit) :=
  ofFn Try.prog spec_l1Known.call spec_l1Known.qt spec_l1Known.H N Try.f84 [ak_i] [] [ak_b] [] [⟨[], [], [], []⟩] (n, ()) ()
noncomputable def spec_l1Known.S (N : Nat) : Say := ⟨false, 84, [ak_i], [], [ak_b], [], fun a s => spec_l1Known N a.1⟩
set_option maxRecDepth 100000 in
theorem spec_l1Known.eq (N : Nat) (n : Int) : spec_l1Known N n =
 andK (spec_l1In N n 0 4611686018427387903) fun u1 =>
 some (u1.1, ()) := by kernel_rfl
set_option maxRecDepth 100000 in
theorem spec_l1Known.say (N : Nat) : SayOk Try.prog (spec_l1Known.S N) := sayOk_mk (N := N) (H := spec_l1Known.H) (preps := [⟨[], [], [], []⟩]) (l := spec_l1Known.says) (fn := Try.f84) (c := bodyOf Try.f84)
  (by kernel_rfl) (by kernel_rfl) (by kernel_rfl) (by kernel_rfl) (by kernel_rfl) (by kernel_rfl) (by kernel_rfl)
  (fun N => SayAll.cons (spec_l1In.say N) (SayAll.nil)) (fun a s => by kernel_rfl)

/-! ### loop.example/g00206/spec.GoodOutflow: function 61 -/
noncomputable def spec_GoodOutflow.H : Hints := hintsOf []
noncomputable def spec_GoodOutflow.says (N : Nat) : List Say := [spec_l1Known.S N, spec_l1In.S N]
noncomputable def spec_GoodOutflow.call (N : Nat) : CallK := callBy (spec_GoodOutflow.says N)
noncomputable def spec_GoodOutflow.qt (N : Nat) : FuncId → List PV → Sig → Cl := qtBy (spec_GoodOutflow.says N)
noncomputable def spec_GoodOutflow (N : Nat) (s_0 : Int) (s_1 : Int) (s_2 : ByteArray) (s_3 : Bool) : Option ((Bool × Unit) × Unit) :=
  ofFn Try.prog spec_GoodOutflow.call spec_GoodOutflow.qt spec_GoodOutflow.H N Try.f61 [.agg [ck_i, ck_i, ck_s, ck_b]] [] [ak_b] [] [⟨[], [], [], []⟩] ((s_0, (s_1, (s_2, (s_3, ())))), ()) ()
noncomputable def spec_GoodOutflow.S (N : Nat) : Say := ⟨false, 61, [.agg [ck_i, ck_i, ck_s, ck_b]], [], [ak_b], [], fun a s => spec_GoodOutflow N a.1.1 a.1.2.1 a.1.2.2.1 a.1.2.2.2.1⟩
set_option maxRecDepth 100000 in
theorem spec_GoodOutflow.eq (N : Nat) (s_0 : Int) (s_1 : Int) (s_2 : ByteArray) (s_3 : Bool) : spec_GoodOutflow N s_0 s_1 s_2 s_3 =
 andK (spec_l1Known N s_0) fun u1 =>
 sel u1.1.1
  (
  sel (decide ((s_2.size : Int) ≤ 4000))
   (
   andK (spec_l1In N s_1 0 (s_2.size : Int)) fun u2 =>
   sel u2.1.1
    (
    some (((decide (s_1 ≤ s_0)), ()), ()))
    (
    some ((false, ()), ())))
   (
   some ((false, ()), ())))
  (
  some ((false, ()), ())) := by kernel_rfl
set_option maxRecDepth 100000 in
theorem spec_GoodOutflow.say (N : Nat) : SayOk Try.prog (spec_GoodOutflow.S N) := sayOk_mk (N := N) (H := spec_GoodOutflow.H) (preps := [⟨[], [], [], []⟩]) (l := spec_GoodOutflow.says) (fn := Try.f61) (c := bodyOf Try.f61)
  (by kernel_rfl) (by kernel_rfl) (by kernel_rfl) (by kernel_rfl) (by kernel_rfl) (by kernel_rfl) (by kernel_rfl)
  (fun N => SayAll.cons (spec_l1Known.say N) (SayAll.cons (spec_l1In.say N) (SayAll.nil))) (fun a s => by kernel_rfl)

/-! ### loop.example/g00206/spec.NextPiece: function 20 -/
noncomputable def spec_NextPiece.H : Hints := hintsOf [(5000001, .join [⟨.normal, [1], [2, 4, 5, 16], [.one (.ptr 0 0), .one (.ptr 1 0), .one (.ptr 2 0), ak_b], [.cells [ck_i, ck_i, ck_s, ck_b], .cells [ck_i, ck_i, ck_s, ck_b], .cells [ck_i, ck_i, ck_i, ck_i, ck_b, ck_s, .nil]], [⟨[], [], [], []⟩]⟩]),
  (6, .join [⟨.normal, [], [2, 4, 5, 7], [.one (.ptr 0 0), .one (.ptr 1 0), .one (.ptr 2 0), ak_i], [.cells [ck_i, ck_i, ck_s, ck_b], .cells [ck_i, ck_i, ck_s, ck_b], .cells [ck_i, ck_i, ck_i, ck_i, ck_b, ck_s, .nil]], [⟨[], [], [], []⟩]⟩]),
  (8, .join [⟨.normal, [], [2, 4, 5, 7], [.one (.ptr 0 0), .one (.ptr 1 0), .one (.ptr 2 0), ak_i], [.cells [ck_i, ck_i, ck_s, ck_b], .cells [ck_i, ck_i, ck_s, ck_b], .cells [ck_i, ck_i, ck_i, ck_i, ck_b, ck_s, .nil]], [⟨[], [], [], []⟩]⟩]),
  (5000008, .join [⟨.normal, [7], [2, 4, 5, 8], [.one (.ptr 0 0), .one (.ptr 1 0), .one (.ptr 2 0), .one (.ptr 3 0)], [.cells [ck_i, ck_i, ck_s, ck_b], .cells [ck_i, ck_i, ck_s, ck_b], .cells [ck_i, ck_i, ck_i, ck_i, ck_b, ck_s, .nil], .cells [ck_i, ck_i, ck_i, ck_i, ck_b, ck_s, .nil]], [⟨[], [], [], [3]⟩]⟩]),
  (5000009, .join [⟨.normal, [7], [2, 4, 5, 8, 62], [.one (.ptr 0 0), .one (.ptr 1 0), .one (.ptr 2 0), .one (.ptr 3 0), ak_b], [.cells [ck_i, ck_i, ck_s, ck_b], .cells [ck_i, ck_i, ck_s, ck_b], .cells [ck_i, ck_i, ck_i, ck_i, ck_b, ck_s, .nil], .cells [ck_i, ck_i, ck_i, ck_i, ck_b, ck_s, .nil]], [⟨[], [], [], []⟩]⟩])]
noncomputable def spec_NextPiece.says (N : Nat) : List Say := [spec_GoodOutflow.S N, spec_l1In.S N]
noncomputable def spec_NextPiece.call (N : Nat) : CallK := callBy (spec_NextPiece.says N)
noncomputable def spec_NextPiece.qt (N : Nat) : FuncId → List PV → Sig → Cl := qtBy (spec_NextPiece.says N)
noncomputable def spec_NextPiece (N : Nat) (G_0 : Int) (G_1 : Int) (G_2 : ByteArray) (G_3 : Bool) (o : Int) : Option (((Int × (Int × (ByteArray × (Bool × Unit)))) × ((Int × (Int × (Int × (Int × (Bool × (ByteArray × (Unit × Unit))))))) × (Bool × Unit))) × Unit) :=
  ofFn Try.prog spec_NextPiece.call spec_NextPiece.qt spec_NextPiece.H N Try.f20 [.agg [ck_i, ck_i, ck_s, ck_b], ak_i] [] [.agg [ck_i, ck_i, ck_s, ck_b], .agg [ck_i, ck_i, ck_i, ck_i, ck_b, ck_s, .nil], ak_b] [] [⟨[], [], [], []⟩] ((G_0, (G_1, (G_2, (G_3, ())))), (o, ())) ()
noncomputable def spec_NextPiece.S (N : Nat) : Say := ⟨false, 20, [.agg [ck_i, ck_i, ck_s, ck_b], ak_i], [], [.agg [ck_i, ck_i, ck_s, ck_b], .agg [ck_i, ck_i, ck_i, ck_i, ck_b, ck_s, .nil], ak_b], [], fun a s => spec_NextPiece N a.1.1 a.1.2.1 a.1.2.2.1 a.1.2.2.2.1 a.2.1⟩
set_option maxRecDepth 100000 in
theorem spec_NextPiece.eq (N : Nat) (G_0 : Int) (G_1 : Int) (G_2 : ByteArray) (G_3 : Bool) (o : Int) : spec_NextPiece N G_0 G_1 G_2 G_3 o =
 andK (α := ((Unit × (Unit × (Unit × (Bool × Unit)))) × ((Int × (Int × (ByteArray × (Bool × Unit)))) × ((Int × (Int × (ByteArray × (Bool × Unit)))) × ((Int × (Int × (Int × (Int × (Bool × (ByteArray × (Unit × Unit))))))) × Unit))))) (
  andK (spec_GoodOutflow N G_0 G_1 G_2 G_3) fun u1 =>
  sel (!u1.1.1)
   (
   some ((((), ((), ((), (true, ())))), ((G_0, (G_1, (G_2, (G_3, ())))), ((0, (0, ((⟨#[]⟩ : ByteArray), (false, ())))), ((0, (0, (0, (0, (false, ((⟨#[]⟩ : ByteArray), ((), ()))))))), ()))))))
   (
   andK (spec_l1In N o 1 200) fun u2 =>
   some ((((), ((), ((), ((!u2.1.1), ())))), ((G_0, (G_1, (G_2, (G_3, ())))), ((0, (0, ((⟨#[]⟩ : ByteArray), (false, ())))), ((0, (0, (0, (0, (false, ((⟨#[]⟩ : ByteArray), ((), ()))))))), ()))))))) fun j3 =>
 sel j3.1.2.2.2.1
  (
  some (((0, (0, ((⟨#[]⟩ : ByteArray), (false, ())))), ((0, (0, (0, (0, (false, ((⟨#[]⟩ : ByteArray), ((), ()))))))), (false, ()))), ()))
  (
  andK (α := ((Unit × (Unit × (Unit × (Int × Unit)))) × ((Int × (Int × (ByteArray × (Bool × Unit)))) × ((Int × (Int × (ByteArray × (Bool × Unit)))) × ((Int × (Int × (Int × (Int × (Bool × (ByteArray × (Unit × Unit))))))) × Unit))))) (
   sel (decide ((j3.2.1.2.2.1.size : Int) < (IntKind.i64.wrap (j3.2.1.2.1 + o))))
    (
    some ((((), ((), ((), ((j3.2.1.2.2.1.size : Int), ())))), j3.2)))
    (
    some ((((), ((), ((), ((IntKind.i64.wrap (j3.2.1.2.1 + o)), ())))), j3.2)))) fun j4 =>
  andK (α := ((Unit × (Unit × (Unit × (Int × Unit)))) × ((Int × (Int × (ByteArray × (Bool × Unit)))) × ((Int × (Int × (ByteArray × (Bool × Unit)))) × ((Int × (Int × (Int × (Int × (Bool × (ByteArray × (Unit × Unit))))))) × Unit))))) (
   sel (decide (j4.2.1.1 < j4.1.2.2.2.1))
    (
    some ((((), ((), ((), (j4.2.1.1, ())))), j4.2)))
    (
    some ((j4.1, j4.2)))) fun j5 =>
  andK (α := ((Unit × (Unit × (Unit × (Unit × Unit)))) × ((Int × (Int × (ByteArray × (Bool × Unit)))) × ((Int × (Int × (ByteArray × (Bool × Unit)))) × ((Int × (Int × (Int × (Int × (Bool × (ByteArray × (Unit × Unit))))))) × ((Int × (Int × (Int × (Int × (Bool × (ByteArray × (Unit × Unit))))))) × Unit)))))) (
   chk ((decide (0 ≤ j5.2.1.2.1)) && ((decide (j5.2.1.2.1 ≤ j5.1.2.2.2.1)) && (decide (j5.1.2.2.2.1 ≤ (j5.2.1.2.2.1.size : Int))))) (
   sel j5.2.1.2.2.2.1
    (
    some ((((), ((), ((), ((), ())))), (j5.2.1, (j5.2.2.1, (j5.2.2.2.1, ((8, (0, (j5.2.1.2.1, (0, ((decide (j5.1.2.2.2.1 = (j5.2.1.2.2.1.size : Int))), ((j5.2.1.2.2.1.extract (Int.toNat j5.2.1.2.1) (Int.toNat j5.1.2.2.2.1)), ((), ()))))))), ())))))))
    (
    some ((((), ((), ((), ((), ())))), (j5.2.1, (j5.2.2.1, (j5.2.2.2.1, ((8, (0, (j5.2.1.2.1, (0, (false, ((j5.2.1.2.2.1.extract (Int.toNat j5.2.1.2.1) (Int.toNat j5.1.2.2.2.1)), ((), ()))))))), ()))))))))) fun j6 =>
  andK (α := ((Unit × (Unit × (Unit × (Unit × (Bool × Unit))))) × ((Int × (Int × (ByteArray × (Bool × Unit)))) × ((Int × (Int × (ByteArray × (Bool × Unit)))) × ((Int × (Int × (Int × (Int × (Bool × (ByteArray × (Unit × Unit))))))) × ((Int × (Int × (Int × (Int × (Bool × (ByteArray × (Unit × Unit))))))) × Unit)))))) (
   sel (decide (j6.2.2.2.2.1.2.2.2.2.2.1 = (⟨#[]⟩ : ByteArray)))
    (
    some ((((), ((), ((), ((), ((!j6.2.2.2.2.1.2.2.2.2.1), ()))))), j6.2)))
    (
    some ((((), ((), ((), ((), (false, ()))))), j6.2)))) fun j7 =>
  sel j7.1.2.2.2.2.1
   (
   some (((0, (0, ((⟨#[]⟩ : ByteArray), (false, ())))), ((0, (0, (0, (0, (false, ((⟨#[]⟩ : ByteArray), ((), ()))))))), (false, ()))), ()))
   (
   some (((j7.2.1.1, (j5.1.2.2.2.1, (j7.2.1.2.2.1, (j7.2.1.2.2.2.1, ())))), (j7.2.2.2.2.1, (true, ()))), ()))) := by kernel_rfl
set_option maxRecDepth 100000 in
theorem spec_NextPiece.say (N : Nat) : SayOk Try.prog (spec_NextPiece.S N) := sayOk_mk (N := N) (H := spec_NextPiece.H) (preps := [⟨[], [], [], []⟩]) (l := spec_NextPiece.says) (fn := Try.f20) (c := bodyOf Try.f20)
  (by kernel_rfl) (by kernel_rfl) (by kernel_rfl) (by kernel_rfl) (by kernel_rfl) (by kernel_rfl) (by kernel_rfl)
  (fun N => SayAll.cons (spec_GoodOutflow.say N) (SayAll.cons (spec_l1In.say N) (SayAll.nil))) (fun a s => by kernel_rfl)

/-! ### loop.example/g00206/laws.sameRanges: function 32 -/
noncomputable def laws_sameRanges.H : Hints := hintsOf [(2000004, .loop ⟨.normal, [0, 1, 12], [13], [ak_i], [], [⟨[], [], [], []⟩]⟩ [⟨.ret, [], [4], [ak_b], [], [⟨[], [], [], []⟩]⟩, ⟨(.exit 0), [], [], [], [], [⟨[], [], [], []⟩]⟩])]
noncomputable def laws_sameRanges.says (N : Nat) : List Say := []
noncomputable def laws_sameRanges.call (N : Nat) : CallK := callBy (laws_sameRanges.says N)
noncomputable def laws_sameRanges.qt (N : Nat) : FuncId → List PV → Sig → Cl := qtBy (laws_sameRanges.says N)
noncomputable def laws_sameRanges.l0.hd : Alt := ⟨.normal, [0, 1, 12], [13], [ak_i], [], [⟨[], [], [], []⟩]⟩
noncomputable def laws_sameRanges.l0.outs : List Alt := [⟨.ret, [], [4], [ak_b], [], [⟨[], [], [], []⟩]⟩, ⟨(.exit 0), [], [], [], [], [⟨[], [], [], []⟩]⟩]
noncomputable def laws_sameRanges.l0 (N : Nat) (a1 : (List (Int × Int))) (b1 : (List (Int × Int))) (t12 : Int) (t13 : Int) : Option (((Bool × Unit) × Unit) ⊕ (Unit × Unit)) :=
  loopK Try.prog laws_sameRanges.call laws_sameRanges.qt laws_sameRanges.H (codeAt (bodyOf Try.f32) [1, 1, 0, 1, 0, 0]) 0 laws_sameRanges.l0.hd laws_sameRanges.l0.outs [(0, .rows false (.pair (.int .i64) (.int .i64)) a1), (1, .rows false (.pair (.int .i64) (.int .i64)) b1), (12, .v (.int .i64 t12))] N ((t13, ()), ())
noncomputable def laws_sameRanges (N : Nat) (a : (List (Int × Int))) (b : (List (Int × Int))) : Option ((Bool × Unit) × Unit) :=
  ofFn Try.prog laws_sameRanges.call laws_sameRanges.qt laws_sameRanges.H N Try.f32 [.one (.sh (.rows (.pair (.int .i64) (.int .i64)))), .one (.sh (.rows (.pair (.int .i64) (.int .i64))))] [] [ak_b] [] [⟨[], [], [], []⟩] (a, (b, ())) ()
noncomputable def laws_sameRanges.S (N : Nat) : Say := ⟨false, 32, [.one (.sh (.rows (.pair (.int .i64) (.int .i64)))), .one (.sh (.rows (.pair (.int .i64) (.int .i64))))], [], [ak_b], [], fun a s => laws_sameRanges N a.1 a.2.1⟩
set_option maxRecDepth 100000 in
theorem laws_sameRanges.l0.eq (N : Nat) (a1 : (List (Int × Int))) (b1 : (List (Int × Int))) (t12 : Int) (t13 : Int) : laws_sameRanges.l0 (N + 1) a1 b1 t12 t13 =
 sel (decide (t13 < t12))
  (
  chk ((decide (0 ≤ t13)) && (decide (t13 < (a1.length : Int)))) (
  chk ((decide (0 ≤ t13)) && (decide (t13 < (b1.length : Int)))) (
  sel (!((decide ((rdS (.pair (.int .i64) (.int .i64)) a1 (Int.toNat t13)).1 = (rdS (.pair (.int .i64) (.int .i64)) b1 (Int.toNat t13)).1)) && (decide ((rdS (.pair (.int .i64) (.int .i64)) a1 (Int.toNat t13)).2 = (rdS (.pair (.int .i64) (.int .i64)) b1 (Int.toNat t13)).2))))
   (
   some (.inl ((false, ()), ())))
   (
   laws_sameRanges.l0 N a1 b1 t12 (IntKind.i64.wrap (t13 + 1))))))
  (
  some (.inr (((), ())))) := by kernel_rfl
set_option maxRecDepth 100000 in
theorem laws_sameRanges.eq (N : Nat) (a : (List (Int × Int))) (b : (List (Int × Int))) : laws_sameRanges N a b =
 sel (!(decide ((a.length : Int) = (b.length : Int))))
  (
  some ((false, ()), ()))
  (
  andK (laws_sameRanges.l0 N a b (a.length : Int) 0) fun l1 =>
  orK l1 (fun x2 =>
   some (x2.1, ()))
   (fun x3 =>
   some ((true, ()), ()))) := by kernel_rfl
set_option maxRecDepth 100000 in
theorem laws_sameRanges.say (N : Nat) : SayOk Try.prog (laws_sameRanges.S N) := sayOk_mk (N := N) (H := laws_sameRanges.H) (preps := [⟨[], [], [], []⟩]) (l := laws_sameRanges.says) (fn := Try.f32) (c := bodyOf Try.f32)
  (by kernel_rfl) (by kernel_rfl) (by kernel_rfl) (by kernel_rfl) (by kernel_rfl) (by kernel_rfl) (by kernel_rfl)
  (fun N => SayAll.nil) (fun a s => by kernel_rfl)

/-! ### loop.example/g00206/laws.sameFrames: function 13 -/
noncomputable def laws_sameFrames.H : Hints := hintsOf []
noncomputable def laws_sameFrames.says (N : Nat) : List Say := [laws_sameRanges.S N]
noncomputable def laws_sameFrames.call (N : Nat) : CallK := callBy (laws_sameFrames.says N)
noncomputable def laws_sameFrames.qt (N : Nat) : FuncId → List PV → Sig → Cl := qtBy (laws_sameFrames.says N)
noncomputable def laws_sameFrames (N : Nat) (a_0 : Int) (a_1 : Int) (a_2 : Int) (a_3 : Int) (a_4 : Bool) (a_5 : ByteArray) (a_6 : (List (Int × Int))) (b_0 : Int) (b_1 : Int) (b_2 : Int) (b_3 : Int) (b_4 : Bool) (b_5 : ByteArray) (b_6 : (List (Int × Int))) : Option ((Bool × Unit) × Unit) :=
  ofFn Try.prog laws_sameFrames.call laws_sameFrames.qt laws_sameFrames.H N Try.f13 [.agg [ck_i, ck_i, ck_i, ck_i, ck_b, ck_s, .sh (.rows (.pair (.int .i64) (.int .i64)))], .agg [ck_i, ck_i, ck_i, ck_i, ck_b, ck_s, .sh (.rows (.pair (.int .i64) (.int .i64)))]] [] [ak_b] [] [⟨[], [], [], []⟩] ((a_0, (a_1, (a_2, (a_3, (a_4, (a_5, (a_6, ()))))))), ((b_0, (b_1, (b_2, (b_3, (b_4, (b_5, (b_6, ()))))))), ())) ()
noncomputable def laws_sameFrames.S (N : Nat) : Say := ⟨false, 13, [.agg [ck_i, ck_i, ck_i, ck_i, ck_b, ck_s, .sh (.rows (.pair (.int .i64) (.int .i64)))], .agg [ck_i, ck_i, ck_i, ck_i, ck_b, ck_s, .sh (.rows (.pair (.int .i64) (.int .i64)))]], [], [ak_b], [], fun a s => laws_sameFrames N a.1.1 a.1.2.1 a.1.2.2.1 a.1.2.2.2.1 a.1.2.2.2.2.1 a.1.2.2.2.2.2.1 a.1.2.2.2.2.2.2.1 a.2.1.1 a.2.1.2.1 a.2.1.2.2.1 a.2.1.2.2.2.1 a.2.1.2.2.2.2.1 a.2.1.2.2.2.2.2.1 a.2.1.2.2.2.2.2.2.1⟩
set_option maxRecDepth 100000 in
theorem laws_sameFrames.eq (N : Nat) (a_0 : Int) (a_1 : Int) (a_2 : Int) (a_3 : Int) (a_4 : Bool) (a_5 : ByteArray) (a_6 : (List (Int × Int))) (b_0 : Int) (b_1 : Int) (b_2 : Int) (b_3 : Int) (b_4 : Bool) (b_5 : ByteArray) (b_6 : (List (Int × Int))) : laws_sameFrames N a_0 a_1 a_2 a_3 a_4 a_5 a_6 b_0 b_1 b_2 b_3 b_4 b_5 b_6 =
 sel (decide (a_0 = b_0))
  (
  sel (decide (a_1 = b_1))
   (
   sel (decide (a_2 = b_2))
    (
    sel (decide (a_3 = b_3))
     (
     sel (a_4 == b_4)
      (
      sel (decide (a_5 = b_5))
       (
       andK (laws_sameRanges N a_6 b_6) fun u1 =>
       some (u1.1, ()))
       (
       some ((false, ()), ())))
      (
      some ((false, ()), ())))
     (
     some ((false, ()), ())))
    (
    some ((false, ()), ())))
   (
   some ((false, ()), ())))
  (
  some ((false, ()), ())) := by kernel_rfl
set_option maxRecDepth 100000 in
theorem laws_sameFrames.say (N : Nat) : SayOk Try.prog (laws_sameFrames.S N) := sayOk_mk (N := N) (H := laws_sameFrames.H) (preps := [⟨[], [], [], []⟩]) (l := laws_sameFrames.says) (fn := Try.f13) (c := bodyOf Try.f13)
  (by kernel_rfl) (by kernel_rfl) (by kernel_rfl) (by kernel_rfl) (by kernel_rfl) (by kernel_rfl) (by kernel_rfl)
  (fun N => SayAll.cons (laws_sameRanges.say N) (SayAll.nil)) (fun a s => by kernel_rfl)

/-! ### loop.example/g00206/impl.shapes: function 122 -/
noncomputable def impl_shapes.H : Hints := hintsOf []
noncomputable def impl_shapes.says (N : Nat) : List Say := []
noncomputable def impl_shapes.call (N : Nat) : CallK := callBy (impl_shapes.says N)
noncomputable def impl_shapes.qt (N : Nat) : FuncId → List PV → Sig → Cl := qtBy (impl_shapes.says N)
noncomputable def impl_shapes (N : Nat) : Option (((List (Int × (Int × Bool))) × Unit) × Unit) :=
  ofFn Try.prog impl_shapes.call impl_shapes.qt impl_shapes.H N Try.f122 [] [] [.one (.mapc .i64 true (.pair (.int .i64) .bool))] [] [⟨[], [], [], []⟩] () ()
noncomputable def impl_shapes.S (N : Nat) : Say := ⟨false, 122, [], [], [.one (.mapc .i64 true (.pair (.int .i64) .bool))], [], fun a s => impl_shapes N⟩
set_option maxRecDepth 100000 in
theorem impl_shapes.eq (N : Nat) : impl_shapes N =
 some (([(48, (0, true)), (28, (2, true)), (27, (0, true)), (26, (0, true)), (24, (3, true)), (17, (2, false)), (16, (1, false)), (8, (2, true)), (7, (0, true)), (6, (1, true)), (5, (2, false)), (4, (3, false)), (2, (1, false)), (1, (0, false)), (0, (0, false))], ()), ()) := by kernel_rfl
set_option maxRecDepth 100000 in
theorem impl_shapes.say (N : Nat) : SayOk Try.prog (impl_shapes.S N) := sayOk_mk (N := N) (H := impl_shapes.H) (preps := [⟨[], [], [], []⟩]) (l := impl_shapes.says) (fn := Try.f122) (c := bodyOf Try.f122)
  (by kernel_rfl) (by kernel_rfl) (by kernel_rfl) (by kernel_rfl) (by kernel_rfl) (by kernel_rfl) (by kernel_rfl)
  (fun N => SayAll.nil) (fun a s => by kernel_rfl)

/-! ### (*loop.example/g00206/impl.Frame).named: function 63 -/
noncomputable def impl_Frame_named.H : Hints := hintsOf [(5000002, .join [⟨.normal, [], [0, 3, 65], [.one (.ptr 0 0), .one (.ptr 1 0), ak_b], [.cells [ck_i, ck_i, ck_i, ck_i, ck_b, ck_s, .sh (.rows (.pair (.int .i64) (.int .i64)))], .cells [ck_i, ck_b]], [⟨[], [], [], []⟩]⟩]),
  (5000007, .join [⟨.normal, [78, 79, 80], [3, 97], [.one (.ptr 1 0), ak_b], [.cells [ck_i, ck_i, ck_i, ck_i, ck_b, ck_s, .sh (.rows (.pair (.int .i64) (.int .i64)))], .cells [ck_i, ck_b]], [⟨[], [], [], []⟩]⟩]),
  (2000005, .loop ⟨.normal, [78, 79], [3, 80], [.one (.ptr 1 0), ak_i], [.cells [ck_i, ck_i, ck_i, ck_i, ck_b, ck_s, .sh (.rows (.pair (.int .i64) (.int .i64)))], .cells [ck_i, ck_b]], [⟨[], [], [], []⟩]⟩ [⟨.ret, [], [2], [ak_b], [.cells [ck_i, ck_i, ck_i, ck_i, ck_b, ck_s, .sh (.rows (.pair (.int .i64) (.int .i64)))], .cells [ck_i, ck_b]], [⟨[], [], [], []⟩]⟩, ⟨(.exit 0), [], [], [], [.cells [ck_i, ck_i, ck_i, ck_i, ck_b, ck_s, .sh (.rows (.pair (.int .i64) (.int .i64)))], .cells [ck_i, ck_b]], [⟨[], [], [], []⟩]⟩])]
noncomputable def impl_Frame_named.says (N : Nat) : List Say := [impl_shapes.S N, impl_isVarint.S N]
noncomputable def impl_Frame_named.call (N : Nat) : CallK := callBy (impl_Frame_named.says N)
noncomputable def impl_Frame_named.qt (N : Nat) : FuncId → List PV → Sig → Cl := qtBy (impl_Frame_named.says N)
noncomputable def impl_Frame_named.l0.hd : Alt := ⟨.normal, [78, 79], [3, 80], [.one (.ptr 1 0), ak_i], [.cells [ck_i, ck_i, ck_i, ck_i, ck_b, ck_s, .sh (.rows (.pair (.int .i64) (.int .i64)))], .cells [ck_i, ck_b]], [⟨[], [], [], []⟩]⟩
noncomputable def impl_Frame_named.l0.outs : List Alt := [⟨.ret, [], [2], [ak_b], [.cells [ck_i, ck_i, ck_i, ck_i, ck_b, ck_s, .sh (.rows (.pair (.int .i64) (.int .i64)))], .cells [ck_i, ck_b]], [⟨[], [], [], []⟩]⟩, ⟨(.exit 0), [], [], [], [.cells [ck_i, ck_i, ck_i, ck_i, ck_b, ck_s, .sh (.rows (.pair (.int .i64) (.int .i64)))], .cells [ck_i, ck_b]], [⟨[], [], [], []⟩]⟩]
noncomputable def impl_Frame_named.l0 (N : Nat) (t78 : (List Int)) (t80 : Int) (p0_01 : Int) (p0_11 : Int) (p0_21 : Int) (p0_31 : Int) (p0_41 : Bool) (p0_51 : ByteArray) (p0_61 : (List (Int × Int))) (p1_0 : Int) (p1_1 : Bool) : Option (((Bool × Unit) × ((Int × (Int × (Int × (Int × (Bool × (ByteArray × ((List (Int × Int)) × Unit))))))) × ((Int × (Bool × Unit)) × Unit))) ⊕ (Unit × ((Int × (Int × (Int × (Int × (Bool × (ByteArray × ((List (Int × Int)) × Unit))))))) × ((Int × (Bool × Unit)) × Unit)))) :=
  loopK Try.prog impl_Frame_named.call impl_Frame_named.qt impl_Frame_named.H (codeAt (bodyOf Try.f63) [1, 1, 1, 0, 1, 0, 0]) 2 impl_Frame_named.l0.hd impl_Frame_named.l0.outs [(78, .rows true (.int .i64) t78), (79, .v (.int .i64 3))] N (((), (t80, ())), ((p0_01, (p0_11, (p0_21, (p0_31, (p0_41, (p0_51, (p0_61, ()))))))), ((p1_0, (p1_1, ())), ())))
noncomputable def impl_Frame_named (N : Nat) (p0_0 : Int) (p0_1 : Int) (p0_2 : Int) (p0_3 : Int) (p0_4 : Bool) (p0_5 : ByteArray) (p0_6 : (List (Int × Int))) : Option ((Bool × Unit) × ((Int × (Int × (Int × (Int × (Bool × (ByteArray × ((List (Int × Int)) × Unit))))))) × Unit)) :=
  ofFn Try.prog impl_Frame_named.call impl_Frame_named.qt impl_Frame_named.H N Try.f63 [.one (.ptr 0 0)] [.cells [ck_i, ck_i, ck_i, ck_i, ck_b, ck_s, .sh (.rows (.pair (.int .i64) (.int .i64)))]] [ak_b] [.cells [ck_i, ck_i, ck_i, ck_i, ck_b, ck_s, .sh (.rows (.pair (.int .i64) (.int .i64)))]] [⟨[], [], [], []⟩] ((), ()) ((p0_0, (p0_1, (p0_2, (p0_3, (p0_4, (p0_5, (p0_6, ()))))))), ())
noncomputable def impl_Frame_named.S (N : Nat) : Say := ⟨false, 63, [.one (.ptr 0 0)], [.cells [ck_i, ck_i, ck_i, ck_i, ck_b, ck_s, .sh (.rows (.pair (.int .i64) (.int .i64)))]], [ak_b], [.cells [ck_i, ck_i, ck_i, ck_i, ck_b, ck_s, .sh (.rows (.pair (.int .i64) (.int .i64)))]], fun a s => impl_Frame_named N s.1.1 s.1.2.1 s.1.2.2.1 s.1.2.2.2.1 s.1.2.2.2.2.1 s.1.2.2.2.2.2.1 s.1.2.2.2.2.2.2.1⟩
set_option maxRecDepth 100000 in
theorem impl_Frame_named.l0.eq (N : Nat) (t78 : (List Int)) (t80 : Int) (p0_01 : Int) (p0_11 : Int) (p0_21 : Int) (p0_31 : Int) (p0_41 : Bool) (p0_51 : ByteArray) (p0_61 : (List (Int × Int))) (p1_0 : Int) (p1_1 : Bool) : impl_Frame_named.l0 (N + 1) t78 t80 p0_01 p0_11 p0_21 p0_31 p0_41 p0_51 p0_61 p1_0 p1_1 =
 sel (decide (t80 < 3))
  (
  chk ((decide (0 ≤ t80)) && (decide (t80 < (t78.length : Int)))) (
  andK (α := ((Unit × (Bool × Unit)) × ((Int × (Int × (Int × (Int × (Bool × (ByteArray × ((List (Int × Int)) × Unit))))))) × ((Int × (Bool × Unit)) × Unit)))) (
   andK (impl_isVarint N (t78.getD (Int.toNat t80) 0)) fun u3 =>
   sel (!u3.1.1)
    (
    some ((((), (true, ())), ((p0_01, (p0_11, (p0_21, (p0_31, (p0_41, (p0_51, (p0_61, ()))))))), ((p1_0, (p1_1, ())), ())))))
    (
    sel (decide (p1_0 ≤ t80))
     (
     some ((((), ((!(decide ((t78.getD (Int.toNat t80) 0) = 0))), ())), ((p0_01, (p0_11, (p0_21, (p0_31, (p0_41, (p0_51, (p0_61, ()))))))), ((p1_0, (p1_1, ())), ())))))
     (
     some ((((), (false, ())), ((p0_01, (p0_11, (p0_21, (p0_31, (p0_41, (p0_51, (p0_61, ()))))))), ((p1_0, (p1_1, ())), ()))))))) fun j4 =>
  sel j4.1.2.1
   (
   some (.inl ((false, ()), j4.2)))
   (
   impl_Frame_named.l0 N t78 (IntKind.i64.wrap (t80 + 1)) j4.2.1.1 j4.2.1.2.1 j4.2.1.2.2.1 j4.2.1.2.2.2.1 j4.2.1.2.2.2.2.1 j4.2.1.2.2.2.2.2.1 j4.2.1.2.2.2.2.2.2.1 j4.2.2.1.1 j4.2.2.1.2.1)))
  (
  some (.inr (((), ((p0_01, (p0_11, (p0_21, (p0_31, (p0_41, (p0_51, (p0_61, ()))))))), ((p1_0, (p1_1, ())), ())))))) := by kernel_rfl
set_option maxRecDepth 100000 in
theorem impl_Frame_named.eq (N : Nat) (p0_0 : Int) (p0_1 : Int) (p0_2 : Int) (p0_3 : Int) (p0_4 : Bool) (p0_5 : ByteArray) (p0_6 : (List (Int × Int))) : impl_Frame_named N p0_0 p0_1 p0_2 p0_3 p0_4 p0_5 p0_6 =
 andK (impl_shapes N) fun u1 =>
 chk ((Lit.int .i64 p0_0).wf) (
 andK (α := ((Unit × (Unit × (Bool × Unit))) × ((Int × (Int × (Int × (Int × (Bool × (ByteArray × ((List (Int × Int)) × Unit))))))) × ((Int × (Bool × Unit)) × Unit)))) (
  sel (!(hasM p0_0 u1.1.1))
   (
   some ((((), ((), (true, ()))), ((p0_0, (p0_1, (p0_2, (p0_3, (p0_4, (p0_5, (p0_6, ()))))))), (((getM (0, false) p0_0 u1.1.1).1, ((getM (0, false) p0_0 u1.1.1).2, ())), ())))))
   (
   sel (decide (200 < (p0_5.size : Int)))
    (
    some ((((), ((), (true, ()))), ((p0_0, (p0_1, (p0_2, (p0_3, (p0_4, (p0_5, (p0_6, ()))))))), (((getM (0, false) p0_0 u1.1.1).1, ((getM (0, false) p0_0 u1.1.1).2, ())), ())))))
    (
    sel (!(getM (0, false) p0_0 u1.1.1).2)
     (
     sel (!(decide (p0_5 = (⟨#[]⟩ : ByteArray))))
      (
      some ((((), ((), (true, ()))), ((p0_0, (p0_1, (p0_2, (p0_3, (p0_4, (p0_5, (p0_6, ()))))))), (((getM (0, false) p0_0 u1.1.1).1, ((getM (0, false) p0_0 u1.1.1).2, ())), ())))))
      (
      sel p0_4
       (
       sel (!(decide (p0_0 = 8)))
        (
        some ((((), ((), (true, ()))), ((p0_0, (p0_1, (p0_2, (p0_3, (p0_4, (p0_5, (p0_6, ()))))))), (((getM (0, false) p0_0 u1.1.1).1, ((getM (0, false) p0_0 u1.1.1).2, ())), ())))))
        (
        sel (decide (0 < (p0_6.length : Int)))
         (
         some ((((), ((), ((!(decide (p0_0 = 2))), ()))), ((p0_0, (p0_1, (p0_2, (p0_3, (p0_4, (p0_5, (p0_6, ()))))))), (((getM (0, false) p0_0 u1.1.1).1, ((getM (0, false) p0_0 u1.1.1).2, ())), ())))))
         (
         some ((((), ((), (false, ()))), ((p0_0, (p0_1, (p0_2, (p0_3, (p0_4, (p0_5, (p0_6, ()))))))), (((getM (0, false) p0_0 u1.1.1).1, ((getM (0, false) p0_0 u1.1.1).2, ())), ())))))))
       (
       sel (decide (0 < (p0_6.length : Int)))
        (
        some ((((), ((), ((!(decide (p0_0 = 2))), ()))), ((p0_0, (p0_1, (p0_2, (p0_3, (p0_4, (p0_5, (p0_6, ()))))))), (((getM (0, false) p0_0 u1.1.1).1, ((getM (0, false) p0_0 u1.1.1).2, ())), ())))))
        (
        some ((((), ((), (false, ()))), ((p0_0, (p0_1, (p0_2, (p0_3, (p0_4, (p0_5, (p0_6, ()))))))), (((getM (0, false) p0_0 u1.1.1).1, ((getM (0, false) p0_0 u1.1.1).2, ())), ()))))))))
     (
     sel p0_4
      (
      sel (!(decide (p0_0 = 8)))
       (
       some ((((), ((), (true, ()))), ((p0_0, (p0_1, (p0_2, (p0_3, (p0_4, (p0_5, (p0_6, ()))))))), (((getM (0, false) p0_0 u1.1.1).1, ((getM (0, false) p0_0 u1.1.1).2, ())), ())))))
       (
       sel (decide (0 < (p0_6.length : Int)))
        (
        some ((((), ((), ((!(decide (p0_0 = 2))), ()))), ((p0_0, (p0_1, (p0_2, (p0_3, (p0_4, (p0_5, (p0_6, ()))))))), (((getM (0, false) p0_0 u1.1.1).1, ((getM (0, false) p0_0 u1.1.1).2, ())), ())))))
        (
        some ((((), ((), (false, ()))), ((p0_0, (p0_1, (p0_2, (p0_3, (p0_4, (p0_5, (p0_6, ()))))))), (((getM (0, false) p0_0 u1.1.1).1, ((getM (0, false) p0_0 u1.1.1).2, ())), ())))))))
      (
      sel (decide (0 < (p0_6.length : Int)))
       (
       some ((((), ((), ((!(decide (p0_0 = 2))), ()))), ((p0_0, (p0_1, (p0_2, (p0_3, (p0_4, (p0_5, (p0_6, ()))))))), (((getM (0, false) p0_0 u1.1.1).1, ((getM (0, false) p0_0 u1.1.1).2, ())), ())))))
       (
       some ((((), ((), (false, ()))), ((p0_0, (p0_1, (p0_2, (p0_3, (p0_4, (p0_5, (p0_6, ()))))))), (((getM (0, false) p0_0 u1.1.1).1, ((getM (0, false) p0_0 u1.1.1).2, ())), ())))))))))) fun j2 =>
 sel j2.1.2.2.1
  (
  some ((false, ()), (j2.2.1, ())))
  (
  andK (impl_Frame_named.l0 N [j2.2.1.2.1, j2.2.1.2.2.1, j2.2.1.2.2.2.1] 0 j2.2.1.1 j2.2.1.2.1 j2.2.1.2.2.1 j2.2.1.2.2.2.1 j2.2.1.2.2.2.2.1 j2.2.1.2.2.2.2.2.1 j2.2.1.2.2.2.2.2.2.1 j2.2.2.1.1 j2.2.2.1.2.1) fun l5 =>
  orK l5 (fun x6 =>
   some (x6.1, (x6.2.1, ())))
   (fun x7 =>
   some ((true, ()), (x7.2.1, ()))))) := by kernel_rfl
set_option maxRecDepth 100000 in
theorem impl_Frame_named.say (N : Nat) : SayOk Try.prog (impl_Frame_named.S N) := sayOk_mk (N := N) (H := impl_Frame_named.H) (preps := [⟨[], [], [], []⟩]) (l := impl_Frame_named.says) (fn := Try.f63) (c := bodyOf Try.f63)
  (by kernel_rfl) (by kernel_rfl) (by kernel_rfl) (by kernel_rfl) (by kernel_rfl) (by kernel_rfl) (by kernel_rfl)
  (fun N => SayAll.cons (impl_shapes.say N) (SayAll.cons (impl_isVarint.say N) (SayAll.nil))) (fun a s => by kernel_rfl)

/-! ### loop.example/g00206/impl.rangesOk: function 64 -/
noncomputable def impl_rangesOk.H : Hints := hintsOf [(5000004, .join [⟨.normal, [0, 5, 6, 7], [44], [ak_b], [.cells [ck_i, ck_i]], [⟨[], [], [], []⟩]⟩]),
  (2000002, .loop ⟨.normal, [0, 5, 6], [7], [ak_i], [], [⟨[], [], [], []⟩]⟩ [⟨.ret, [], [2], [ak_b], [], [⟨[], [], [], []⟩]⟩, ⟨(.exit 0), [], [], [], [], [⟨[], [], [], []⟩]⟩])]
noncomputable def impl_rangesOk.says (N : Nat) : List Say := [impl_isVarint.S N]
noncomputable def impl_rangesOk.call (N : Nat) : CallK := callBy (impl_rangesOk.says N)
noncomputable def impl_rangesOk.qt (N : Nat) : FuncId → List PV → Sig → Cl := qtBy (impl_rangesOk.says N)
noncomputable def impl_rangesOk.l0.hd : Alt := ⟨.normal, [0, 5, 6], [7], [ak_i], [], [⟨[], [], [], []⟩]⟩
noncomputable def impl_rangesOk.l0.outs : List Alt := [⟨.ret, [], [2], [ak_b], [], [⟨[], [], [], []⟩]⟩, ⟨(.exit 0), [], [], [], [], [⟨[], [], [], []⟩]⟩]
noncomputable def impl_rangesOk.l0 (N : Nat) (l1 : (List (Int × Int))) (t5 : (List (Int × Int))) (t6 : Int) (t7 : Int) : Option (((Bool × Unit) × Unit) ⊕ (Unit × Unit)) :=
  loopK Try.prog impl_rangesOk.call impl_rangesOk.qt impl_rangesOk.H (codeAt (bodyOf Try.f64) [1, 0, 1, 0, 0]) 0 impl_rangesOk.l0.hd impl_rangesOk.l0.outs [(0, .rows false (.pair (.int .i64) (.int .i64)) l1), (5, .rows false (.pair (.int .i64) (.int .i64)) t5), (6, .v (.int .i64 t6))] N ((t7, ()), ())
noncomputable def impl_rangesOk (N : Nat) (l : (List (Int × Int))) : Option ((Bool × Unit) × Unit) :=
  ofFn Try.prog impl_rangesOk.call impl_rangesOk.qt impl_rangesOk.H N Try.f64 [.one (.sh (.rows (.pair (.int .i64) (.int .i64))))] [] [ak_b] [] [⟨[], [], [], []⟩] (l, ()) ()
noncomputable def impl_rangesOk.S (N : Nat) : Say := ⟨false, 64, [.one (.sh (.rows (.pair (.int .i64) (.int .i64))))], [], [ak_b], [], fun a s => impl_rangesOk N a.1⟩
set_option maxRecDepth 100000 in
theorem impl_rangesOk.l0.eq (N : Nat) (l1 : (List (Int × Int))) (t5 : (List (Int × Int))) (t6 : Int) (t7 : Int) : impl_rangesOk.l0 (N + 1) l1 t5 t6 t7 =
 sel (decide (t7 < t6))
  (
  chk ((decide (0 ≤ t7)) && (decide (t7 < (t5.length : Int)))) (
  andK (α := ((Bool × Unit) × ((Int × (Int × Unit)) × Unit))) (
   andK (impl_isVarint N (rdS (.pair (.int .i64) (.int .i64)) t5 (Int.toNat t7)).1) fun u1 =>
   sel (!u1.1.1)
    (
    some (((true, ()), (((rdS (.pair (.int .i64) (.int .i64)) t5 (Int.toNat t7)).1, ((rdS (.pair (.int .i64) (.int .i64)) t5 (Int.toNat t7)).2, ())), ()))))
    (
    andK (impl_isVarint N (rdS (.pair (.int .i64) (.int .i64)) t5 (Int.toNat t7)).2) fun u2 =>
    sel (!u2.1.1)
     (
     some (((true, ()), (((rdS (.pair (.int .i64) (.int .i64)) t5 (Int.toNat t7)).1, ((rdS (.pair (.int .i64) (.int .i64)) t5 (Int.toNat t7)).2, ())), ()))))
     (
     sel (decide ((rdS (.pair (.int .i64) (.int .i64)) t5 (Int.toNat t7)).2 < (rdS (.pair (.int .i64) (.int .i64)) t5 (Int.toNat t7)).1))
      (
      some (((true, ()), (((rdS (.pair (.int .i64) (.int .i64)) t5 (Int.toNat t7)).1, ((rdS (.pair (.int .i64) (.int .i64)) t5 (Int.toNat t7)).2, ())), ()))))
      (
      sel (decide (0 < t7))
       (
       chk ((decide (0 ≤ (IntKind.i64.wrap (t7 - 1)))) && (decide ((IntKind.i64.wrap (t7 - 1)) < (l1.length : Int)))) (
       some ((((decide ((rdS (.pair (.int .i64) (.int .i64)) l1 (Int.toNat (IntKind.i64.wrap (t7 - 1)))).1 < (IntKind.i64.wrap ((rdS (.pair (.int .i64) (.int .i64)) t5 (Int.toNat t7)).2 + 2)))), ()), (((rdS (.pair (.int .i64) (.int .i64)) t5 (Int.toNat t7)).1, ((rdS (.pair (.int .i64) (.int .i64)) t5 (Int.toNat t7)).2, ())), ())))))
       (
       some (((false, ()), (((rdS (.pair (.int .i64) (.int .i64)) t5 (Int.toNat t7)).1, ((rdS (.pair (.int .i64) (.int .i64)) t5 (Int.toNat t7)).2, ())), ())))))))) fun j3 =>
  sel j3.1.1
   (
   some (.inl ((false, ()), ())))
   (
   impl_rangesOk.l0 N l1 t5 t6 (IntKind.i64.wrap (t7 + 1)))))
  (
  some (.inr (((), ())))) := by kernel_rfl
set_option maxRecDepth 100000 in
theorem impl_rangesOk.eq (N : Nat) (l : (List (Int × Int))) : impl_rangesOk N l =
 andK (impl_rangesOk.l0 N l l (l.length : Int) 0) fun l4 =>
 orK l4 (fun x5 =>
  some (x5.1, ()))
  (fun x6 =>
  some ((true, ()), ())) := by kernel_rfl
set_option maxRecDepth 100000 in
theorem impl_rangesOk.say (N : Nat) : SayOk Try.prog (impl_rangesOk.S N) := sayOk_mk (N := N) (H := impl_rangesOk.H) (preps := [⟨[], [], [], []⟩]) (l := impl_rangesOk.says) (fn := Try.f64) (c := bodyOf Try.f64)
  (by kernel_rfl) (by kernel_rfl) (by kernel_rfl) (by kernel_rfl) (by kernel_rfl) (by kernel_rfl) (by kernel_rfl)
  (fun N => SayAll.cons (impl_isVarint.say N) (SayAll.nil)) (fun a s => by kernel_rfl)

/-! ### loop.example/g00206/impl.GoodFrame: function 21 -/
noncomputable def impl_GoodFrame.H : Hints := hintsOf []
noncomputable def impl_GoodFrame.says (N : Nat) : List Say := [impl_Frame_named.S N, impl_in.S N, impl_rangesOk.S N, impl_isVarint.S N]
noncomputable def impl_GoodFrame.call (N : Nat) : CallK := callBy (impl_GoodFrame.says N)
noncomputable def impl_GoodFrame.qt (N : Nat) : FuncId → List PV → Sig → Cl := qtBy (impl_GoodFrame.says N)
noncomputable def impl_GoodFrame (N : Nat) (G_0 : Int) (G_1 : Int) (G_2 : Int) (G_3 : Int) (G_4 : Bool) (G_5 : ByteArray) (G_6 : (List (Int × Int))) : Option ((Bool × Unit) × Unit) :=
  ofFn Try.prog impl_GoodFrame.call impl_GoodFrame.qt impl_GoodFrame.H N Try.f21 [.agg [ck_i, ck_i, ck_i, ck_i, ck_b, ck_s, .sh (.rows (.pair (.int .i64) (.int .i64)))]] [] [ak_b] [] [⟨[], [], [], []⟩] ((G_0, (G_1, (G_2, (G_3, (G_4, (G_5, (G_6, ()))))))), ()) ()
noncomputable def impl_GoodFrame.S (N : Nat) : Say := ⟨false, 21, [.agg [ck_i, ck_i, ck_i, ck_i, ck_b, ck_s, .sh (.rows (.pair (.int .i64) (.int .i64)))]], [], [ak_b], [], fun a s => impl_GoodFrame N a.1.1 a.1.2.1 a.1.2.2.1 a.1.2.2.2.1 a.1.2.2.2.2.1 a.1.2.2.2.2.2.1 a.1.2.2.2.2.2.2.1⟩
set_option maxRecDepth 100000 in
theorem impl_GoodFrame.eq (N : Nat) (G_0 : Int) (G_1 : Int) (G_2 : Int) (G_3 : Int) (G_4 : Bool) (G_5 : ByteArray) (G_6 : (List (Int × Int))) : impl_GoodFrame N G_0 G_1 G_2 G_3 G_4 G_5 G_6 =
 andK (impl_Frame_named N G_0 G_1 G_2 G_3 G_4 G_5 G_6) fun u1 =>
 sel (!u1.1.1)
  (
  some ((false, ()), ()))
  (
  sel (decide (u1.2.1.1 = 2))
   (
   andK (impl_in N (u1.2.1.2.2.2.2.2.2.1.length : Int) 1 20) fun u2 =>
   sel u2.1.1
    (
    andK (impl_rangesOk N u1.2.1.2.2.2.2.2.2.1) fun u3 =>
    some (u3.1, ()))
    (
    some ((false, ()), ())))
   (
   sel (decide (u1.2.1.1 = 6))
    (
    andK (impl_isVarint N (IntKind.i64.wrap (u1.2.1.2.1 + (u1.2.1.2.2.2.2.2.1.size : Int)))) fun u4 =>
    some (u4.1, ()))
    (
    sel (decide (u1.2.1.1 = 7))
     (
     some (((!(decide (u1.2.1.2.2.2.2.2.1 = (⟨#[]⟩ : ByteArray)))), ()), ()))
     (
     sel (decide (u1.2.1.1 = 8))
      (
      andK (impl_isVarint N (IntKind.i64.wrap (u1.2.1.2.2.1 + (u1.2.1.2.2.2.2.2.1.size : Int)))) fun u5 =>
      some (u5.1, ()))
      (
      sel (decide (u1.2.1.1 = 24))
       (
       sel (decide (u1.2.1.2.2.1 ≤ u1.2.1.2.1))
        (
        andK (impl_in N (u1.2.1.2.2.2.2.2.1.size : Int) 1 20) fun u6 =>
        sel u6.1.1
         (
         some (((decide (u1.2.1.2.2.2.1 ≤ 255)), ()), ()))
         (
         some ((false, ()), ())))
        (
        some ((false, ()), ())))
       (
       sel (decide (u1.2.1.1 = 26))
        (
        sel (decide (u1.2.1.1 = 26))
         (
         some (((decide ((u1.2.1.2.2.2.2.2.1.size : Int) = 8)), ()), ()))
         (
         some ((true, ()), ())))
        (
        sel (decide (u1.2.1.1 = 27))
         (
         some (((decide ((u1.2.1.2.2.2.2.2.1.size : Int) = 8)), ()), ()))
         (
         some ((true, ()), ()))))))))) := by kernel_rfl
set_option maxRecDepth 100000 in
theorem impl_GoodFrame.say (N : Nat) : SayOk Try.prog (impl_GoodFrame.S N) := sayOk_mk (N := N) (H := impl_GoodFrame.H) (preps := [⟨[], [], [], []⟩]) (l := impl_GoodFrame.says) (fn := Try.f21) (c := bodyOf Try.f21)
  (by kernel_rfl) (by kernel_rfl) (by kernel_rfl) (by kernel_rfl) (by kernel_rfl) (by kernel_rfl) (by kernel_rfl)
  (fun N => SayAll.cons (impl_Frame_named.say N) (SayAll.cons (impl_in.say N) (SayAll.cons (impl_rangesOk.say N) (SayAll.cons (impl_isVarint.say N) (SayAll.nil))))) (fun a s => by kernel_rfl)

/-! ### loop.example/g00206/laws.FnPieces: function 4 -/
noncomputable def laws_FnPieces.H : Hints := hintsOf [(5000006, .join [⟨.normal, [4, 7], [3, 5, 6, 44], [.one (.ptr 0 0), .one (.ptr 1 0), .one (.ptr 2 0), ak_b], [.cells [ck_i, ck_i, ck_s, ck_b], .cells [ck_i, ck_i, ck_s, ck_b], .cells [ck_i, ck_i, ck_i, ck_i, ck_b, ck_s, .nil], .cells [ck_i, ck_i, ck_s, ck_b], .cells [ck_i, ck_i, ck_i, ck_i, ck_b, ck_s, .nil]], [⟨[], [], [], []⟩]⟩]),
  (5000013, .join [⟨.normal, [4, 11, 12, 13], [3, 5, 6, 56], [.one (.ptr 0 0), .one (.ptr 1 0), .one (.ptr 2 0), ak_b], [.cells [ck_i, ck_i, ck_s, ck_b], .cells [ck_i, ck_i, ck_s, ck_b], .cells [ck_i, ck_i, ck_i, ck_i, ck_b, ck_s, .nil], .cells [ck_i, ck_i, ck_s, ck_b], .cells [ck_i, ck_i, ck_i, ck_i, ck_b, ck_s, .nil]], [⟨[], [], [], []⟩]⟩]),
  (5000015, .join [⟨.normal, [4, 11, 12, 13], [3, 5, 6, 101], [.one (.ptr 0 0), .one (.ptr 1 0), .one (.ptr 2 0), ak_b], [.cells [ck_i, ck_i, ck_s, ck_b], .cells [ck_i, ck_i, ck_s, ck_b], .cells [ck_i, ck_i, ck_i, ck_i, ck_b, ck_s, .nil], .cells [ck_i, ck_i, ck_s, ck_b], .cells [ck_i, ck_i, ck_i, ck_i, ck_b, ck_s, .nil]], [⟨[], [], [], []⟩]⟩]),
  (2000013, .loop ⟨.normal, [4], [3, 5, 6, 7, 11, 12, 13], [.one (.ptr 0 0), .one (.ptr 1 0), .one (.ptr 2 0), ak_b, ak_i, ak_s, ak_i], [.cells [ck_i, ck_i, ck_s, ck_b], .cells [ck_i, ck_i, ck_s, ck_b], .cells [ck_i, ck_i, ck_i, ck_i, ck_b, ck_s, .nil], .cells [ck_i, ck_i, ck_s, ck_b], .cells [ck_i, ck_i, ck_i, ck_i, ck_b, ck_s, .nil]], [⟨[], [], [], []⟩]⟩ [⟨.ret, [], [2], [ak_b], [.cells [ck_i, ck_i, ck_s, ck_b], .cells [ck_i, ck_i, ck_s, ck_b], .cells [ck_i, ck_i, ck_i, ck_i, ck_b, ck_s, .nil], .cells [ck_i, ck_i, ck_s, ck_b], .cells [ck_i, ck_i, ck_i, ck_i, ck_b, ck_s, .nil]], [⟨[], [], [], []⟩]⟩, ⟨(.exit 0), [], [3, 11, 12], [.one (.ptr 0 0), ak_i, ak_s], [.cells [ck_i, ck_i, ck_s, ck_b], .cells [ck_i, ck_i, ck_s, ck_b], .cells [ck_i, ck_i, ck_i, ck_i, ck_b, ck_s, .nil], .cells [ck_i, ck_i, ck_s, ck_b], .cells [ck_i, ck_i, ck_i, ck_i, ck_b, ck_s, .nil]], [⟨[], [], [], []⟩]⟩])]
noncomputable def laws_FnPieces.says (N : Nat) : List Say := [spec_DrawNextPiece.S N, impl_NextPiece.S N, spec_NextPiece.S N, laws_sameFrames.S N, impl_GoodFrame.S N, impl_GoodOutflow.S N]
noncomputable def laws_FnPieces.call (N : Nat) : CallK := callBy (laws_FnPieces.says N)
noncomputable def laws_FnPieces.qt (N : Nat) : FuncId → List PV → Sig → Cl := qtBy (laws_FnPieces.says N)
noncomputable def laws_FnPieces.l0.hd : Alt := ⟨.normal, [4], [3, 5, 6, 7, 11, 12, 13], [.one (.ptr 0 0), .one (.ptr 1 0), .one (.ptr 2 0), ak_b, ak_i, ak_s, ak_i], [.cells [ck_i, ck_i, ck_s, ck_b], .cells [ck_i, ck_i, ck_s, ck_b], .cells [ck_i, ck_i, ck_i, ck_i, ck_b, ck_s, .nil], .cells [ck_i, ck_i, ck_s, ck_b], .cells [ck_i, ck_i, ck_i, ck_i, ck_b, ck_s, .nil]], [⟨[], [], [], []⟩]⟩
noncomputable def laws_FnPieces.l0.outs : List Alt := [⟨.ret, [], [2], [ak_b], [.cells [ck_i, ck_i, ck_s, ck_b], .cells [ck_i, ck_i, ck_s, ck_b], .cells [ck_i, ck_i, ck_i, ck_i, ck_b, ck_s, .nil], .cells [ck_i, ck_i, ck_s, ck_b], .cells [ck_i, ck_i, ck_i, ck_i, ck_b, ck_s, .nil]], [⟨[], [], [], []⟩]⟩, ⟨(.exit 0), [], [3, 11, 12], [.one (.ptr 0 0), ak_i, ak_s], [.cells [ck_i, ck_i, ck_s, ck_b], .cells [ck_i, ck_i, ck_s, ck_b], .cells [ck_i, ck_i, ck_i, ck_i, ck_b, ck_s, .nil], .cells [ck_i, ck_i, ck_s, ck_b], .cells [ck_i, ck_i, ck_i, ck_i, ck_b, ck_s, .nil]], [⟨[], [], [], []⟩]⟩]
noncomputable def laws_FnPieces.l0 (N : Nat) (o : Int) (t : Bool) (r : Int) (r1 : ByteArray) (a : Int) (p0_0 : Int) (p0_1 : Int) (p0_2 : ByteArray) (p0_3 : Bool) (p1_0 : Int) (p1_1 : Int) (p1_2 : ByteArray) (p1_3 : Bool) (p2_0 : Int) (p2_1 : Int) (p2_2 : Int) (p2_3 : Int) (p2_4 : Bool) (p2_5 : ByteArray) (p3_0 : Int) (p3_1 : Int) (p3_2 : ByteArray) (p3_3 : Bool) (p4_0 : Int) (p4_1 : Int) (p4_2 : Int) (p4_3 : Int) (p4_4 : Bool) (p4_5 : ByteArray) : Option (((Bool × Unit) × ((Int × (Int × (ByteArray × (Bool × Unit)))) × ((Int × (Int × (ByteArray × (Bool × Unit)))) × ((Int × (Int × (Int × (Int × (Bool × (ByteArray × (Unit × Unit))))))) × ((Int × (Int × (ByteArray × (Bool × Unit)))) × ((Int × (Int × (Int × (Int × (Bool × (ByteArray × (Unit × Unit))))))) × Unit)))))) ⊕ ((Unit × (Int × (ByteArray × Unit))) × ((Int × (Int × (ByteArray × (Bool × Unit)))) × ((Int × (Int × (ByteArray × (Bool × Unit)))) × ((Int × (Int × (Int × (Int × (Bool × (ByteArray × (Unit × Unit))))))) × ((Int × (Int × (ByteArray × (Bool × Unit)))) × ((Int × (Int × (Int × (Int × (Bool × (ByteArray × (Unit × Unit))))))) × Unit))))))) :=
  loopK Try.prog laws_FnPieces.call laws_FnPieces.qt laws_FnPieces.H (codeAt (bodyOf Try.f4) [1, 1, 1, 1, 1, 1, 1, 1, 1, 0, 1, 0, 0]) 5 laws_FnPieces.l0.hd laws_FnPieces.l0.outs [(4, .v (.int .i64 o))] N (((), ((), ((), (t, (r, (r1, (a, ()))))))), ((p0_0, (p0_1, (p0_2, (p0_3, ())))), ((p1_0, (p1_1, (p1_2, (p1_3, ())))), ((p2_0, (p2_1, (p2_2, (p2_3, (p2_4, (p2_5, ((), ()))))))), ((p3_0, (p3_1, (p3_2, (p3_3, ())))), ((p4_0, (p4_1, (p4_2, (p4_3, (p4_4, (p4_5, ((), ()))))))), ()))))))
noncomputable def laws_FnPieces (N : Nat) (G : (List Int)) : Option ((Bool × Unit) × Unit) :=
  ofFn Try.prog laws_FnPieces.call laws_FnPieces.qt laws_FnPieces.H N Try.f4 [.one (.sh (.rows (.int .u8)))] [] [ak_b] [] [⟨[], [], [], []⟩] (G, ()) ()
noncomputable def laws_FnPieces.S (N : Nat) : Say := ⟨false, 4, [.one (.sh (.rows (.int .u8)))], [], [ak_b], [], fun a s => laws_FnPieces N a.1⟩
set_option maxRecDepth 100000 in
theorem laws_FnPieces.l0.eq (N : Nat) (o : Int) (t : Bool) (r : Int) (r1 : ByteArray) (a : Int) (p0_0 : Int) (p0_1 : Int) (p0_2 : ByteArray) (p0_3 : Bool) (p1_0 : Int) (p1_1 : Int) (p1_2 : ByteArray) (p1_3 : Bool) (p2_0 : Int) (p2_1 : Int) (p2_2 : Int) (p2_3 : Int) (p2_4 : Bool) (p2_5 : ByteArray) (p3_0 : Int) (p3_1 : Int) (p3_2 : ByteArray) (p3_3 : Bool) (p4_0 : Int) (p4_1 : Int) (p4_2 : Int) (p4_3 : Int) (p4_4 : Bool) (p4_5 : ByteArray) : laws_FnPieces.l0 (N + 1) o t r r1 a p0_0 p0_1 p0_2 p0_3 p1_0 p1_1 p1_2 p1_3 p2_0 p2_1 p2_2 p2_3 p2_4 p2_5 p3_0 p3_1 p3_2 p3_3 p4_0 p4_1 p4_2 p4_3 p4_4 p4_5 =
 andK (α := ((Unit × (Unit × (Unit × (Bool × Unit)))) × ((Int × (Int × (ByteArray × (Bool × Unit)))) × ((Int × (Int × (ByteArray × (Bool × Unit)))) × ((Int × (Int × (Int × (Int × (Bool × (ByteArray × (Unit × Unit))))))) × ((Int × (Int × (ByteArray × (Bool × Unit)))) × ((Int × (Int × (Int × (Int × (Bool × (ByteArray × (Unit × Unit))))))) × Unit))))))) (
  sel (decide (a < 100))
   (
   some ((((), ((), ((), (t, ())))), ((p0_0, (p0_1, (p0_2, (p0_3, ())))), ((p1_0, (p1_1, (p1_2, (p1_3, ())))), ((p2_0, (p2_1, (p2_2, (p2_3, (p2_4, (p2_5, ((), ()))))))), ((p3_0, (p3_1, (p3_2, (p3_3, ())))), ((p4_0, (p4_1, (p4_2, (p4_3, (p4_4, (p4_5, ((), ()))))))), ()))))))))
   (
   some ((((), ((), ((), (false, ())))), ((p0_0, (p0_1, (p0_2, (p0_3, ())))), ((p1_0, (p1_1, (p1_2, (p1_3, ())))), ((p2_0, (p2_1, (p2_2, (p2_3, (p2_4, (p2_5, ((), ()))))))), ((p3_0, (p3_1, (p3_2, (p3_3, ())))), ((p4_0, (p4_1, (p4_2, (p4_3, (p4_4, (p4_5, ((), ()))))))), ()))))))))) fun j6 =>
 sel j6.1.2.2.2.1
  (
  andK (α := ((Unit × (Unit × (Unit × (Bool × Unit)))) × ((Int × (Int × (ByteArray × (Bool × Unit)))) × ((Int × (Int × (ByteArray × (Bool × Unit)))) × ((Int × (Int × (Int × (Int × (Bool × (ByteArray × (Unit × Unit))))))) × ((Int × (Int × (ByteArray × (Bool × Unit)))) × ((Int × (Int × (Int × (Int × (Bool × (ByteArray × (Unit × Unit))))))) × Unit))))))) (
   sel (!(decide (j6.2.2.2.1.2.2.1 = r)))
    (
    some ((((), ((), ((), (true, ())))), j6.2)))
    (
    andK (impl_GoodFrame N j6.2.2.2.1.1 j6.2.2.2.1.2.1 j6.2.2.2.1.2.2.1 j6.2.2.2.1.2.2.2.1 j6.2.2.2.1.2.2.2.2.1 j6.2.2.2.1.2.2.2.2.2.1 []) fun u7 =>
    sel (!u7.1.1)
     (
     some ((((), ((), ((), (true, ())))), j6.2)))
     (
     andK (impl_GoodOutflow N j6.2.2.1.1 j6.2.2.1.2.1 j6.2.2.1.2.2.1 j6.2.2.1.2.2.2.1) fun u8 =>
     sel (!u8.1.1)
      (
      some ((((), ((), ((), (true, ())))), j6.2)))
      (
      sel (decide (j6.2.1.1 < (IntKind.i64.wrap (j6.2.2.2.1.2.2.1 + (j6.2.2.2.1.2.2.2.2.2.1.size : Int)))))
       (
       some ((((), ((), ((), (true, ())))), j6.2)))
       (
       sel j6.2.1.2.2.2.1
        (
        some ((((), ((), ((), ((!(j6.2.2.2.1.2.2.2.2.1 == (decide ((IntKind.i64.wrap (r + (j6.2.2.2.1.2.2.2.2.2.1.size : Int))) = (j6.2.1.2.2.1.size : Int))))), ())))), j6.2)))
        (
        some ((((), ((), ((), ((!(j6.2.2.2.1.2.2.2.2.1 == false)), ())))), j6.2)))))))) fun j9 =>
  sel j9.1.2.2.2.1
   (
   some (.inl ((false, ()), j9.2)))
   (
   chk (decide (r1.size + j9.2.2.2.1.2.2.2.2.2.1.size ≤ 9223372036854775807)) (
   sel j9.2.2.2.1.2.2.2.2.1
    (
    some (.inr ((((), ((IntKind.i64.wrap (r + (j9.2.2.2.1.2.2.2.2.2.1.size : Int))), ((r1 ++ j9.2.2.2.1.2.2.2.2.2.1), ()))), j9.2))))
    (
    andK (impl_NextPiece N j9.2.2.1.1 j9.2.2.1.2.1 j9.2.2.1.2.2.1 j9.2.2.1.2.2.2.1 o) fun u10 =>
    laws_FnPieces.l0 N o u10.1.2.2.1 (IntKind.i64.wrap (r + (j9.2.2.2.1.2.2.2.2.2.1.size : Int))) (r1 ++ j9.2.2.2.1.2.2.2.2.2.1) (IntKind.i64.wrap (a + 1)) j9.2.1.1 j9.2.1.2.1 j9.2.1.2.2.1 j9.2.1.2.2.2.1 u10.1.1.1 u10.1.1.2.1 u10.1.1.2.2.1 u10.1.1.2.2.2.1 u10.1.2.1.1 u10.1.2.1.2.1 u10.1.2.1.2.2.1 u10.1.2.1.2.2.2.1 u10.1.2.1.2.2.2.2.1 u10.1.2.1.2.2.2.2.2.1 j9.2.2.2.2.1.1 j9.2.2.2.2.1.2.1 j9.2.2.2.2.1.2.2.1 j9.2.2.2.2.1.2.2.2.1 j9.2.2.2.2.2.1.1 j9.2.2.2.2.2.1.2.1 j9.2.2.2.2.2.1.2.2.1 j9.2.2.2.2.2.1.2.2.2.1 j9.2.2.2.2.2.1.2.2.2.2.1 j9.2.2.2.2.2.1.2.2.2.2.2.1))))
  (
  some (.inr ((((), (r, (r1, ()))), j6.2)))) := by kernel_rfl
set_option maxRecDepth 100000 in
theorem laws_FnPieces.eq (N : Nat) (G : (List Int)) : laws_FnPieces N G =
 sel (decide (1048576 < (G.length : Int)))
  (
  some ((true, ()), ()))
  (
  andK (spec_DrawNextPiece N G) fun u1 =>
  andK (impl_NextPiece N u1.1.1.1 u1.1.1.2.1 u1.1.1.2.2.1 u1.1.1.2.2.2.1 u1.1.2.1) fun u2 =>
  andK (spec_NextPiece N u1.1.1.1 u1.1.1.2.1 u1.1.1.2.2.1 u1.1.1.2.2.2.1 u1.1.2.1) fun u3 =>
  andK (α := ((Unit × (Unit × (Unit × (Bool × Unit)))) × ((Int × (Int × (ByteArray × (Bool × Unit)))) × ((Int × (Int × (ByteArray × (Bool × Unit)))) × ((Int × (Int × (Int × (Int × (Bool × (ByteArray × (Unit × Unit))))))) × ((Int × (Int × (ByteArray × (Bool × Unit)))) × ((Int × (Int × (Int × (Int × (Bool × (ByteArray × (Unit × Unit))))))) × Unit))))))) (
   sel (!(u2.1.2.2.1 == u3.1.2.2.1))
    (
    some ((((), ((), ((), (true, ())))), (u1.1.1, (u2.1.1, (u2.1.2.1, (u3.1.1, (u3.1.2.1, ()))))))))
    (
    andK (laws_sameFrames N u2.1.2.1.1 u2.1.2.1.2.1 u2.1.2.1.2.2.1 u2.1.2.1.2.2.2.1 u2.1.2.1.2.2.2.2.1 u2.1.2.1.2.2.2.2.2.1 [] u3.1.2.1.1 u3.1.2.1.2.1 u3.1.2.1.2.2.1 u3.1.2.1.2.2.2.1 u3.1.2.1.2.2.2.2.1 u3.1.2.1.2.2.2.2.2.1 []) fun u4 =>
    some ((((), ((), ((), ((!u4.1.1), ())))), (u1.1.1, (u2.1.1, (u2.1.2.1, (u3.1.1, (u3.1.2.1, ()))))))))) fun j5 =>
  sel j5.1.2.2.2.1
   (
   some ((false, ()), ()))
   (
   sel (!u2.1.2.2.1)
    (
    some (((decide (j5.2.2.2.1.1 = 0)), ()), ()))
    (
    andK (laws_FnPieces.l0 N u1.1.2.1 u2.1.2.2.1 j5.2.1.2.1 (⟨#[]⟩ : ByteArray) 0 j5.2.1.1 j5.2.1.2.1 j5.2.1.2.2.1 j5.2.1.2.2.2.1 j5.2.2.1.1 j5.2.2.1.2.1 j5.2.2.1.2.2.1 j5.2.2.1.2.2.2.1 j5.2.2.2.1.1 j5.2.2.2.1.2.1 j5.2.2.2.1.2.2.1 j5.2.2.2.1.2.2.2.1 j5.2.2.2.1.2.2.2.2.1 j5.2.2.2.1.2.2.2.2.2.1 j5.2.2.2.2.1.1 j5.2.2.2.2.1.2.1 j5.2.2.2.2.1.2.2.1 j5.2.2.2.2.1.2.2.2.1 j5.2.2.2.2.2.1.1 j5.2.2.2.2.2.1.2.1 j5.2.2.2.2.2.1.2.2.1 j5.2.2.2.2.2.1.2.2.2.1 j5.2.2.2.2.2.1.2.2.2.2.1 j5.2.2.2.2.2.1.2.2.2.2.2.1) fun l11 =>
    orK l11 (fun x12 =>
     some (x12.1, ()))
     (fun x13 =>
     chk ((decide (0 ≤ x13.2.1.2.1)) && ((decide (x13.2.1.2.1 ≤ x13.1.2.1)) && (decide (x13.1.2.1 ≤ (x13.2.1.2.2.1.size : Int))))) (
     some (((decide (x13.1.2.2.1 = (x13.2.1.2.2.1.extract (Int.toNat x13.2.1.2.1) (Int.toNat x13.1.2.1)))), ()), ())))))) := by kernel_rfl
set_option maxRecDepth 100000 in
theorem laws_FnPieces.say (N : Nat) : SayOk Try.prog (laws_FnPieces.S N) := sayOk_mk (N := N) (H := laws_FnPieces.H) (preps := [⟨[], [], [], []⟩]) (l := laws_FnPieces.says) (fn := Try.f4) (c := bodyOf Try.f4)
  (by kernel_rfl) (by kernel_rfl) (by kernel_rfl) (by kernel_rfl) (by kernel_rfl) (by kernel_rfl) (by kernel_rfl)
  (fun N => SayAll.cons (spec_DrawNextPiece.say N) (SayAll.cons (impl_NextPiece.say N) (SayAll.cons (spec_NextPiece.say N) (SayAll.cons (laws_sameFrames.say N) (SayAll.cons (impl_GoodFrame.say N) (SayAll.cons (impl_GoodOutflow.say N) (SayAll.nil))))))) (fun a s => by kernel_rfl)

end Go.Proofs.Ytbfkfhadcmpndaa.GFnPieces
