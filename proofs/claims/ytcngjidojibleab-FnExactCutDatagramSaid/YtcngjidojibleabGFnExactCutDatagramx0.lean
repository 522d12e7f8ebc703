-- Written by a program of this session out of the translation; Lean checks it.
import Derived.Test.YtcngjidojibleabPmLaw
import Derived.Test.YtcngjidojibleabProg
set_option linter.unusedVariables false
namespace Go.Proofs.Ytcngjidojibleab.GFnExactCutDatagram
open Go Go.Proofs Go.Proofs.YtcngjidojibleabPM

/-! ### loop.example/g00206/spec.l1In: function 53 -/
noncomputable def spec_l1In.H : Hints := hintsOf []
noncomputable def spec_l1In.says (N : Nat) : List Say := []
noncomputable def spec_l1In.call (N : Nat) : CallK := callBy (spec_l1In.says N)
noncomputable def spec_l1In.qt (N : Nat) : FuncId → List PV → Sig → Cl := qtBy (spec_l1In.says N)
noncomputable def spec_l1In (N : Nat) (n : Int) (lo : Int) (hi : Int) : Option ((Bool × Unit) × Unit) :=
  ofFn Try.prog spec_l1In.call spec_l1In.qt spec_l1In.H N Try.f53 [ak_i, ak_i, ak_i] [] [ak_b] [] [⟨[], [], [], []⟩] (n, (lo, (hi, ()))) ()
noncomputable def spec_l1In.S (N : Nat) : Say := ⟨false, 53, [ak_i, ak_i, ak_i], [], [ak_b], [], fun a s => spec_l1In N a.1 a.2.1 a.2.2.1⟩
set_option maxRecDepth 100000 in
theorem spec_l1In.eq (N : Nat) (n : Int) (lo : Int) (hi : Int) : spec_l1In N n lo hi =
 sel (decide (lo ≤ n))
  (
  some (((decide (n ≤ hi)), ()), ()))
  (
  some ((false, ()), ())) := by kernel_rfl
set_option maxRecDepth 100000 in
theorem spec_l1In.say (N : Nat) : SayOk Try.prog (spec_l1In.S N) := sayOk_mk (N := N) (H := spec_l1In.H) (preps := [⟨[], [], [], []⟩]) (l := spec_l1In.says) (fn := Try.f53) (c := bodyOf Try.f53)
  (by kernel_rfl) (by kernel_rfl) (by kernel_rfl) (by kernel_rfl) (by kernel_rfl) (by kernel_rfl) (by kernel_rfl)
  (fun N => SayAll.nil) (fun a s => by kernel_rfl)

/-! ### (*loop.example/g00206/spec.l1R).take: function 171 -/
noncomputable def spec_l1R_take.H : Hints := hintsOf [(5000001, .join [⟨.normal, [1], [0, 23], [.one (.ptr 0 0), ak_b], [.cells [ck_s, ck_i, ck_i]], [⟨[], [], [], []⟩]⟩]),
  (3, .join [⟨.normal, [1], [0], [.one (.ptr 0 0)], [.cells [ck_s, ck_i, ck_i]], [⟨[], [], [], []⟩]⟩])]
noncomputable def spec_l1R_take.says (N : Nat) : List Say := []
noncomputable def spec_l1R_take.call (N : Nat) : CallK := callBy (spec_l1R_take.says N)
noncomputable def spec_l1R_take.qt (N : Nat) : FuncId → List PV → Sig → Cl := qtBy (spec_l1R_take.says N)
noncomputable def spec_l1R_take (N : Nat) (n : Int) (p0_0 : ByteArray) (p0_1 : Int) (p0_2 : Int) : Option ((ByteArray × Unit) × ((ByteArray × (Int × (Int × Unit))) × Unit)) :=
  ofFn Try.prog spec_l1R_take.call spec_l1R_take.qt spec_l1R_take.H N Try.f171 [.one (.ptr 0 0), ak_i] [.cells [ck_s, ck_i, ck_i]] [ak_s] [.cells [ck_s, ck_i, ck_i]] [⟨[], [], [], []⟩] ((), (n, ())) ((p0_0, (p0_1, (p0_2, ()))), ())
noncomputable def spec_l1R_take.S (N : Nat) : Say := ⟨false, 171, [.one (.ptr 0 0), ak_i], [.cells [ck_s, ck_i, ck_i]], [ak_s], [.cells [ck_s, ck_i, ck_i]], fun a s => spec_l1R_take N a.2.1 s.1.1 s.1.2.1 s.1.2.2.1⟩
set_option maxRecDepth 100000 in
theorem spec_l1R_take.eq (N : Nat) (n : Int) (p0_0 : ByteArray) (p0_1 : Int) (p0_2 : Int) : spec_l1R_take N n p0_0 p0_1 p0_2 =
 andK (α := ((Unit × Unit) × ((ByteArray × (Int × (Int × Unit))) × Unit))) (
  andK (α := ((Unit × (Bool × Unit)) × ((ByteArray × (Int × (Int × Unit))) × Unit))) (
   sel (decide (p0_2 = 0))
    (
    some ((((), ((decide ((IntKind.i64.wrap ((p0_0.size : Int) - p0_1)) < n)), ())), ((p0_0, (p0_1, (p0_2, ()))), ()))))
    (
    some ((((), (false, ())), ((p0_0, (p0_1, (p0_2, ()))), ()))))) fun j1 =>
  sel j1.1.2.1
   (
   some ((((), ()), ((j1.2.1.1, (j1.2.1.2.1, (1, ()))), ()))))
   (
   some ((((), ()), ((j1.2.1.1, (j1.2.1.2.1, (j1.2.1.2.2.1, ()))), ()))))) fun j2 =>
 sel (!(decide (j2.2.1.2.2.1 = 0)))
  (
  some (((⟨#[]⟩ : ByteArray), ()), ((j2.2.1.1, (j2.2.1.2.1, (j2.2.1.2.2.1, ()))), ())))
  (
  chk ((decide (0 ≤ (IntKind.i64.wrap ((IntKind.i64.wrap (j2.2.1.2.1 + n)) - n)))) && ((decide ((IntKind.i64.wrap ((IntKind.i64.wrap (j2.2.1.2.1 + n)) - n)) ≤ (IntKind.i64.wrap (j2.2.1.2.1 + n)))) && (decide ((IntKind.i64.wrap (j2.2.1.2.1 + n)) ≤ (j2.2.1.1.size : Int))))) (
  some (((j2.2.1.1.extract (Int.toNat (IntKind.i64.wrap ((IntKind.i64.wrap (j2.2.1.2.1 + n)) - n))) (Int.toNat (IntKind.i64.wrap (j2.2.1.2.1 + n)))), ()), ((j2.2.1.1, ((IntKind.i64.wrap (j2.2.1.2.1 + n)), (j2.2.1.2.2.1, ()))), ())))) := by kernel_rfl
set_option maxRecDepth 100000 in
theorem spec_l1R_take.say (N : Nat) : SayOk Try.prog (spec_l1R_take.S N) := sayOk_mk (N := N) (H := spec_l1R_take.H) (preps := [⟨[], [], [], []⟩]) (l := spec_l1R_take.says) (fn := Try.f171) (c := bodyOf Try.f171)
  (by kernel_rfl) (by kernel_rfl) (by kernel_rfl) (by kernel_rfl) (by kernel_rfl) (by kernel_rfl) (by kernel_rfl)
  (fun N => SayAll.nil) (fun a s => by kernel_rfl)

/-! ### loop.example/g00206/spec.l1Big: function 111 -/
noncomputable def spec_l1Big.H : Hints := hintsOf [(2000003, .loop ⟨.normal, [0], [3, 4], [ak_i, ak_i], [], [⟨[], [], [], []⟩]⟩ [⟨(.exit 0), [], [3], [ak_i], [], [⟨[], [], [], []⟩]⟩])]
noncomputable def spec_l1Big.says (N : Nat) : List Say := []
noncomputable def spec_l1Big.call (N : Nat) : CallK := callBy (spec_l1Big.says N)
noncomputable def spec_l1Big.qt (N : Nat) : FuncId → List PV → Sig → Cl := qtBy (spec_l1Big.says N)
noncomputable def spec_l1Big.l0.hd : Alt := ⟨.normal, [0], [3, 4], [ak_i, ak_i], [], [⟨[], [], [], []⟩]⟩
noncomputable def spec_l1Big.l0.outs : List Alt := [⟨(.exit 0), [], [3], [ak_i], [], [⟨[], [], [], []⟩]⟩]
noncomputable def spec_l1Big.l0 (N : Nat) (s1 : ByteArray) (n : Int) (i : Int) : Option ((Int × Unit) × Unit) :=
  loopK Try.prog spec_l1Big.call spec_l1Big.qt spec_l1Big.H (codeAt (bodyOf Try.f111) [1, 1, 0, 1, 0, 0]) 0 spec_l1Big.l0.hd spec_l1Big.l0.outs [(0, .v (.string s1))] N ((n, (i, ())), ())
noncomputable def spec_l1Big (N : Nat) (s : ByteArray) : Option ((Int × Unit) × Unit) :=
  ofFn Try.prog spec_l1Big.call spec_l1Big.qt spec_l1Big.H N Try.f111 [ak_s] [] [ak_i] [] [⟨[], [], [], []⟩] (s, ()) ()
noncomputable def spec_l1Big.S (N : Nat) : Say := ⟨false, 111, [ak_s], [], [ak_i], [], fun a s => spec_l1Big N a.1⟩
set_option maxRecDepth 100000 in
theorem spec_l1Big.l0.eq (N : Nat) (s1 : ByteArray) (n : Int) (i : Int) : spec_l1Big.l0 (N + 1) s1 n i =
 sel (decide (i < (s1.size : Int)))
  (
  chk ((decide (0 ≤ i)) && (decide (i < (s1.size : Int)))) (
  spec_l1Big.l0 N s1 (Go.bits .or .i64 (shlI .i64 n 8) (IntKind.i64.wrap ((bytesL s1).getD (Int.toNat i) 0))) (IntKind.i64.wrap (i + 1))))
  (
  some (((n, ()), ()))) := by kernel_rfl
set_option maxRecDepth 100000 in
theorem spec_l1Big.eq (N : Nat) (s : ByteArray) : spec_l1Big N s =
 andK (spec_l1Big.l0 N s 0 0) fun l1 =>
 some ((l1.1.1, ()), ()) := by kernel_rfl
set_option maxRecDepth 100000 in
theorem spec_l1Big.say (N : Nat) : SayOk Try.prog (spec_l1Big.S N) := sayOk_mk (N := N) (H := spec_l1Big.H) (preps := [⟨[], [], [], []⟩]) (l := spec_l1Big.says) (fn := Try.f111) (c := bodyOf Try.f111)
  (by kernel_rfl) (by kernel_rfl) (by kernel_rfl) (by kernel_rfl) (by kernel_rfl) (by kernel_rfl) (by kernel_rfl)
  (fun N => SayAll.nil) (fun a s => by kernel_rfl)

/-! ### (*loop.example/g00206/spec.l1R).id: function 172 -/
noncomputable def spec_l1R_id.H : Hints := hintsOf [(5000002, .join [⟨.normal, [3], [0, 15], [.one (.ptr 0 0), ak_b], [.cells [ck_s, ck_i, ck_i]], [⟨[], [], [], []⟩]⟩]),
  (4, .join [⟨.normal, [3], [0], [.one (.ptr 0 0)], [.cells [ck_s, ck_i, ck_i]], [⟨[], [], [], []⟩]⟩])]
noncomputable def spec_l1R_id.says (N : Nat) : List Say := [spec_l1R_take.S N, spec_l1Big.S N]
noncomputable def spec_l1R_id.call (N : Nat) : CallK := callBy (spec_l1R_id.says N)
noncomputable def spec_l1R_id.qt (N : Nat) : FuncId → List PV → Sig → Cl := qtBy (spec_l1R_id.says N)
noncomputable def spec_l1R_id (N : Nat) (p0_0 : ByteArray) (p0_1 : Int) (p0_2 : Int) : Option ((ByteArray × Unit) × ((ByteArray × (Int × (Int × Unit))) × Unit)) :=
  ofFn Try.prog spec_l1R_id.call spec_l1R_id.qt spec_l1R_id.H N Try.f172 [.one (.ptr 0 0)] [.cells [ck_s, ck_i, ck_i]] [ak_s] [.cells [ck_s, ck_i, ck_i]] [⟨[], [], [], []⟩] ((), ()) ((p0_0, (p0_1, (p0_2, ()))), ())
noncomputable def spec_l1R_id.S (N : Nat) : Say := ⟨false, 172, [.one (.ptr 0 0)], [.cells [ck_s, ck_i, ck_i]], [ak_s], [.cells [ck_s, ck_i, ck_i]], fun a s => spec_l1R_id N s.1.1 s.1.2.1 s.1.2.2.1⟩
set_option maxRecDepth 100000 in
theorem spec_l1R_id.eq (N : Nat) (p0_0 : ByteArray) (p0_1 : Int) (p0_2 : Int) : spec_l1R_id N p0_0 p0_1 p0_2 =
 andK (spec_l1R_take N 1 p0_0 p0_1 p0_2) fun u1 =>
 andK (spec_l1Big N u1.1.1) fun u2 =>
 andK (α := ((Unit × Unit) × ((ByteArray × (Int × (Int × Unit))) × Unit))) (
  andK (α := ((Unit × (Bool × Unit)) × ((ByteArray × (Int × (Int × Unit))) × Unit))) (
   sel (decide (u1.2.1.2.2.1 = 0))
    (
    some ((((), ((decide (20 < u2.1.1)), ())), ((u1.2.1.1, (u1.2.1.2.1, (u1.2.1.2.2.1, ()))), ()))))
    (
    some ((((), (false, ())), ((u1.2.1.1, (u1.2.1.2.1, (u1.2.1.2.2.1, ()))), ()))))) fun j3 =>
  sel j3.1.2.1
   (
   some ((((), ()), ((j3.2.1.1, (j3.2.1.2.1, (3, ()))), ()))))
   (
   some ((((), ()), ((j3.2.1.1, (j3.2.1.2.1, (j3.2.1.2.2.1, ()))), ()))))) fun j4 =>
 andK (spec_l1R_take N u2.1.1 j4.2.1.1 j4.2.1.2.1 j4.2.1.2.2.1) fun u5 =>
 some ((u5.1.1, ()), ((u5.2.1.1, (u5.2.1.2.1, (u5.2.1.2.2.1, ()))), ())) := by kernel_rfl
set_option maxRecDepth 100000 in
theorem spec_l1R_id.say (N : Nat) : SayOk Try.prog (spec_l1R_id.S N) := sayOk_mk (N := N) (H := spec_l1R_id.H) (preps := [⟨[], [], [], []⟩]) (l := spec_l1R_id.says) (fn := Try.f172) (c := bodyOf Try.f172)
  (by kernel_rfl) (by kernel_rfl) (by kernel_rfl) (by kernel_rfl) (by kernel_rfl) (by kernel_rfl) (by kernel_rfl)
  (fun N => SayAll.cons (spec_l1R_take.say N) (SayAll.cons (spec_l1Big.say N) (SayAll.nil))) (fun a s => by kernel_rfl)

/-! ### loop.example/g00206/spec.l1Take: function 147 -/
noncomputable def spec_l1Take.H : Hints := hintsOf []
noncomputable def spec_l1Take.says (N : Nat) : List Say := [spec_l1Big.S N]
noncomputable def spec_l1Take.call (N : Nat) : CallK := callBy (spec_l1Take.says N)
noncomputable def spec_l1Take.qt (N : Nat) : FuncId → List PV → Sig → Cl := qtBy (spec_l1Take.says N)
noncomputable def spec_l1Take (N : Nat) (s : ByteArray) : Option ((Int × (Int × Unit)) × Unit) :=
  ofFn Try.prog spec_l1Take.call spec_l1Take.qt spec_l1Take.H N Try.f147 [ak_s] [] [ak_i, ak_i] [] [⟨[], [], [], []⟩] (s, ()) ()
noncomputable def spec_l1Take.S (N : Nat) : Say := ⟨false, 147, [ak_s], [], [ak_i, ak_i], [], fun a s => spec_l1Take N a.1⟩
set_option maxRecDepth 100000 in
theorem spec_l1Take.eq (N : Nat) (s : ByteArray) : spec_l1Take N s =
 sel (decide (s = (⟨#[]⟩ : ByteArray)))
  (
  some ((0, (0, ())), ()))
  (
  chk (decide (0 < (s.size : Int))) (
  chk (decide (0 ≤ (IntKind.u64.wrap (shrI .u8 ((bytesL s).getD 0 0) 6)))) (
  sel (decide ((s.size : Int) < (shlI .i64 1 (IntKind.u64.wrap (shrI .u8 ((bytesL s).getD 0 0) 6)))))
   (
   some ((0, (0, ())), ()))
   (
   chk ((decide (0 ≤ (shlI .i64 1 (IntKind.u64.wrap (shrI .u8 ((bytesL s).getD 0 0) 6))))) && (decide ((shlI .i64 1 (IntKind.u64.wrap (shrI .u8 ((bytesL s).getD 0 0) 6))) ≤ (s.size : Int)))) (
   chk (decide (0 < ((bytesL (s.extract 0 (Int.toNat (shlI .i64 1 (IntKind.u64.wrap (shrI .u8 ((bytesL s).getD 0 0) 6)))))).length : Int))) (
   chk (decide (0 < ((bytesL (s.extract 0 (Int.toNat (shlI .i64 1 (IntKind.u64.wrap (shrI .u8 ((bytesL s).getD 0 0) 6)))))).length : Int))) (
   andK (spec_l1Big N (strL ((bytesL (s.extract 0 (Int.toNat (shlI .i64 1 (IntKind.u64.wrap (shrI .u8 ((bytesL s).getD 0 0) 6)))))).set 0 (Go.bits .and .u8 ((bytesL (s.extract 0 (Int.toNat (shlI .i64 1 (IntKind.u64.wrap (shrI .u8 ((bytesL s).getD 0 0) 6)))))).getD 0 0) 63)))) fun u1 =>
   some ((u1.1.1, ((shlI .i64 1 (IntKind.u64.wrap (shrI .u8 ((bytesL s).getD 0 0) 6))), ())), ())))))))) := by kernel_rfl
set_option maxRecDepth 100000 in
theorem spec_l1Take.say (N : Nat) : SayOk Try.prog (spec_l1Take.S N) := sayOk_mk (N := N) (H := spec_l1Take.H) (preps := [⟨[], [], [], []⟩]) (l := spec_l1Take.says) (fn := Try.f147) (c := bodyOf Try.f147)
  (by kernel_rfl) (by kernel_rfl) (by kernel_rfl) (by kernel_rfl) (by kernel_rfl) (by kernel_rfl) (by kernel_rfl)
  (fun N => SayAll.cons (spec_l1Big.say N) (SayAll.nil)) (fun a s => by kernel_rfl)

/-! ### (*loop.example/g00206/spec.l1R).num: function 177 -/
noncomputable def spec_l1R_num.H : Hints := hintsOf [(5000002, .join [⟨.normal, [3, 4], [0, 26], [.one (.ptr 0 0), ak_b], [.cells [ck_s, ck_i, ck_i]], [⟨[], [], [], []⟩]⟩]),
  (4, .join [⟨.normal, [3, 4], [0], [.one (.ptr 0 0)], [.cells [ck_s, ck_i, ck_i]], [⟨[], [], [], []⟩]⟩])]
noncomputable def spec_l1R_num.says (N : Nat) : List Say := [spec_l1Take.S N]
noncomputable def spec_l1R_num.call (N : Nat) : CallK := callBy (spec_l1R_num.says N)
noncomputable def spec_l1R_num.qt (N : Nat) : FuncId → List PV → Sig → Cl := qtBy (spec_l1R_num.says N)
noncomputable def spec_l1R_num (N : Nat) (p0_0 : ByteArray) (p0_1 : Int) (p0_2 : Int) : Option ((Int × Unit) × ((ByteArray × (Int × (Int × Unit))) × Unit)) :=
  ofFn Try.prog spec_l1R_num.call spec_l1R_num.qt spec_l1R_num.H N Try.f177 [.one (.ptr 0 0)] [.cells [ck_s, ck_i, ck_i]] [ak_i] [.cells [ck_s, ck_i, ck_i]] [⟨[], [], [], []⟩] ((), ()) ((p0_0, (p0_1, (p0_2, ()))), ())
noncomputable def spec_l1R_num.S (N : Nat) : Say := ⟨false, 177, [.one (.ptr 0 0)], [.cells [ck_s, ck_i, ck_i]], [ak_i], [.cells [ck_s, ck_i, ck_i]], fun a s => spec_l1R_num N s.1.1 s.1.2.1 s.1.2.2.1⟩
set_option maxRecDepth 100000 in
theorem spec_l1R_num.eq (N : Nat) (p0_0 : ByteArray) (p0_1 : Int) (p0_2 : Int) : spec_l1R_num N p0_0 p0_1 p0_2 =
 chk ((decide (0 ≤ p0_1)) && ((decide (p0_1 ≤ (p0_0.size : Int))) && (decide ((p0_0.size : Int) ≤ (p0_0.size : Int))))) (
 andK (spec_l1Take N (p0_0.extract (Int.toNat p0_1) (Int.toNat (p0_0.size : Int)))) fun u1 =>
 andK (α := ((Unit × Unit) × ((ByteArray × (Int × (Int × Unit))) × Unit))) (
  andK (α := ((Unit × (Bool × Unit)) × ((ByteArray × (Int × (Int × Unit))) × Unit))) (
   sel (decide (u1.1.2.1 = 0))
    (
    some ((((), ((decide (p0_2 = 0)), ())), ((p0_0, (p0_1, (p0_2, ()))), ()))))
    (
    some ((((), (false, ())), ((p0_0, (p0_1, (p0_2, ()))), ()))))) fun j2 =>
  sel j2.1.2.1
   (
   some ((((), ()), ((j2.2.1.1, (j2.2.1.2.1, (1, ()))), ()))))
   (
   some ((((), ()), ((j2.2.1.1, (j2.2.1.2.1, (j2.2.1.2.2.1, ()))), ()))))) fun j3 =>
 some ((u1.1.1, ()), ((j3.2.1.1, ((IntKind.i64.wrap (j3.2.1.2.1 + u1.1.2.1)), (j3.2.1.2.2.1, ()))), ()))) := by kernel_rfl
set_option maxRecDepth 100000 in
theorem spec_l1R_num.say (N : Nat) : SayOk Try.prog (spec_l1R_num.S N) := sayOk_mk (N := N) (H := spec_l1R_num.H) (preps := [⟨[], [], [], []⟩]) (l := spec_l1R_num.says) (fn := Try.f177) (c := bodyOf Try.f177)
  (by kernel_rfl) (by kernel_rfl) (by kernel_rfl) (by kernel_rfl) (by kernel_rfl) (by kernel_rfl) (by kernel_rfl)
  (fun N => SayAll.cons (spec_l1Take.say N) (SayAll.nil)) (fun a s => by kernel_rfl)

/-! ### (*loop.example/g00206/spec.l1R).text: function 173 -/
noncomputable def spec_l1R_text.H : Hints := hintsOf []
noncomputable def spec_l1R_text.says (N : Nat) : List Say := [spec_l1R_num.S N, spec_l1R_take.S N]
noncomputable def spec_l1R_text.call (N : Nat) : CallK := callBy (spec_l1R_text.says N)
noncomputable def spec_l1R_text.qt (N : Nat) : FuncId → List PV → Sig → Cl := qtBy (spec_l1R_text.says N)
noncomputable def spec_l1R_text (N : Nat) (p0_0 : ByteArray) (p0_1 : Int) (p0_2 : Int) : Option ((ByteArray × Unit) × ((ByteArray × (Int × (Int × Unit))) × Unit)) :=
  ofFn Try.prog spec_l1R_text.call spec_l1R_text.qt spec_l1R_text.H N Try.f173 [.one (.ptr 0 0)] [.cells [ck_s, ck_i, ck_i]] [ak_s] [.cells [ck_s, ck_i, ck_i]] [⟨[], [], [], []⟩] ((), ()) ((p0_0, (p0_1, (p0_2, ()))), ())
noncomputable def spec_l1R_text.S (N : Nat) : Say := ⟨false, 173, [.one (.ptr 0 0)], [.cells [ck_s, ck_i, ck_i]], [ak_s], [.cells [ck_s, ck_i, ck_i]], fun a s => spec_l1R_text N s.1.1 s.1.2.1 s.1.2.2.1⟩
set_option maxRecDepth 100000 in
theorem spec_l1R_text.eq (N : Nat) (p0_0 : ByteArray) (p0_1 : Int) (p0_2 : Int) : spec_l1R_text N p0_0 p0_1 p0_2 =
 andK (spec_l1R_num N p0_0 p0_1 p0_2) fun u1 =>
 andK (spec_l1R_take N u1.1.1 u1.2.1.1 u1.2.1.2.1 u1.2.1.2.2.1) fun u2 =>
 some ((u2.1.1, ()), ((u2.2.1.1, (u2.2.1.2.1, (u2.2.1.2.2.1, ()))), ())) := by kernel_rfl
set_option maxRecDepth 100000 in
theorem spec_l1R_text.say (N : Nat) : SayOk Try.prog (spec_l1R_text.S N) := sayOk_mk (N := N) (H := spec_l1R_text.H) (preps := [⟨[], [], [], []⟩]) (l := spec_l1R_text.says) (fn := Try.f173) (c := bodyOf Try.f173)
  (by kernel_rfl) (by kernel_rfl) (by kernel_rfl) (by kernel_rfl) (by kernel_rfl) (by kernel_rfl) (by kernel_rfl)
  (fun N => SayAll.cons (spec_l1R_num.say N) (SayAll.cons (spec_l1R_take.say N) (SayAll.nil))) (fun a s => by kernel_rfl)

/-! ### loop.example/g00206/spec.l2Read: function 157 -/
noncomputable def spec_l2Read.H : Hints := hintsOf [(11, .join [⟨.normal, [1], [0, 4, 6], [.one (.ptr 0 0), .one (.ptr 1 0), .one (.ptr 2 0)], [.cells [ck_s, ck_i, ck_i], .cells [ck_i, ck_i, ck_i, ck_s, ck_s, ck_s, ck_s, .nil], .cells [ck_i, ck_i, ck_i, ck_s, ck_s, ck_s, ck_s, .nil]], [⟨[], [], [], []⟩]⟩]),
  (5000019, .join [⟨.normal, [], [0, 4, 6, 78], [.one (.ptr 0 0), .one (.ptr 1 0), .one (.ptr 2 0), ak_b], [.cells [ck_s, ck_i, ck_i], .cells [ck_i, ck_i, ck_i, ck_s, ck_s, ck_s, ck_s, .nil], .cells [ck_i, ck_i, ck_i, ck_s, ck_s, ck_s, ck_s, .nil]], [⟨[], [], [], []⟩]⟩]),
  (21, .join [⟨.normal, [], [0, 4, 6], [.one (.ptr 0 0), .one (.ptr 1 0), .one (.ptr 2 0)], [.cells [ck_s, ck_i, ck_i], .cells [ck_i, ck_i, ck_i, ck_s, ck_s, ck_s, ck_s, .nil], .cells [ck_i, ck_i, ck_i, ck_s, ck_s, ck_s, ck_s, .nil]], [⟨[], [], [], []⟩]⟩]),
  (5000022, .join [⟨.normal, [], [0, 4, 6, 99], [.one (.ptr 0 0), .one (.ptr 1 0), .one (.ptr 2 0), ak_b], [.cells [ck_s, ck_i, ck_i], .cells [ck_i, ck_i, ck_i, ck_s, ck_s, ck_s, ck_s, .nil], .cells [ck_i, ck_i, ck_i, ck_s, ck_s, ck_s, ck_s, .own 3], .rows (.int .i64)], [⟨[], [], [], []⟩]⟩]),
  (2000022, .loop ⟨.normal, [], [0, 4, 6], [.one (.ptr 0 0), .one (.ptr 1 0), .one (.ptr 2 0)], [.cells [ck_s, ck_i, ck_i], .cells [ck_i, ck_i, ck_i, ck_s, ck_s, ck_s, ck_s, .nil], .cells [ck_i, ck_i, ck_i, ck_s, ck_s, ck_s, ck_s, .own 3], .rows (.int .i64)], [⟨[], [(2, (7, (.int .i64)))], [], [3]⟩, ⟨[], [], [], [3]⟩]⟩ [⟨(.exit 0), [], [4, 6], [.one (.ptr 1 0), .one (.ptr 2 0)], [.cells [ck_s, ck_i, ck_i], .cells [ck_i, ck_i, ck_i, ck_s, ck_s, ck_s, ck_s, .nil], .cells [ck_i, ck_i, ck_i, ck_s, ck_s, ck_s, ck_s, .own 3], .rows (.int .i64)], [⟨[], [], [], [3]⟩]⟩]),
  (27, .join [⟨.normal, [], [0, 4, 6], [.one (.ptr 0 0), .one (.ptr 1 0), .one (.ptr 2 0)], [.cells [ck_s, ck_i, ck_i], .cells [ck_i, ck_i, ck_i, ck_s, ck_s, ck_s, ck_s, .nil], .cells [ck_i, ck_i, ck_i, ck_s, ck_s, ck_s, ck_s, .nil]], [⟨[], [], [], []⟩]⟩])]
noncomputable def spec_l2Read.says (N : Nat) : List Say := [spec_l1R_take.S N, spec_l1Big.S N, spec_l1R_id.S N, spec_l1R_text.S N]
noncomputable def spec_l2Read.call (N : Nat) : CallK := callBy (spec_l2Read.says N)
noncomputable def spec_l2Read.qt (N : Nat) : FuncId → List PV → Sig → Cl := qtBy (spec_l2Read.says N)
noncomputable def spec_l2Read.l0.hd : Alt := ⟨.normal, [], [0, 4, 6], [.one (.ptr 0 0), .one (.ptr 1 0), .one (.ptr 2 0)], [.cells [ck_s, ck_i, ck_i], .cells [ck_i, ck_i, ck_i, ck_s, ck_s, ck_s, ck_s, .nil], .cells [ck_i, ck_i, ck_i, ck_s, ck_s, ck_s, ck_s, .own 3], .rows (.int .i64)], [⟨[], [(2, (7, (.int .i64)))], [], [3]⟩, ⟨[], [], [], [3]⟩]⟩
noncomputable def spec_l2Read.l0.outs : List Alt := [⟨(.exit 0), [], [4, 6], [.one (.ptr 1 0), .one (.ptr 2 0)], [.cells [ck_s, ck_i, ck_i], .cells [ck_i, ck_i, ck_i, ck_s, ck_s, ck_s, ck_s, .nil], .cells [ck_i, ck_i, ck_i, ck_s, ck_s, ck_s, ck_s, .own 3], .rows (.int .i64)], [⟨[], [], [], [3]⟩]⟩]
noncomputable def spec_l2Read.l0 (N : Nat) (p0_01 : ByteArray) (p0_11 : Int) (p0_21 : Int) (p1_0 : Int) (p1_1 : Int) (p1_2 : Int) (p1_3 : ByteArray) (p1_4 : ByteArray) (p1_5 : ByteArray) (p1_6 : ByteArray) (p2_0 : Int) (p2_1 : Int) (p2_2 : Int) (p2_3 : ByteArray) (p2_4 : ByteArray) (p2_5 : ByteArray) (p2_6 : ByteArray) (p3 : (List Int)) : Option ((Unit × (Unit × Unit)) × ((ByteArray × (Int × (Int × Unit))) × ((Int × (Int × (Int × (ByteArray × (ByteArray × (ByteArray × (ByteArray × (Unit × Unit)))))))) × ((Int × (Int × (Int × (ByteArray × (ByteArray × (ByteArray × (ByteArray × (Unit × Unit)))))))) × ((List Int) × Unit))))) :=
  loopK Try.prog spec_l2Read.call spec_l2Read.qt spec_l2Read.H (codeAt (bodyOf Try.f157) [1, 1, 1, 1, 1, 1, 1, 1, 1, 1, 0, 1, 0, 1, 1, 0, 0, 0]) 3 spec_l2Read.l0.hd spec_l2Read.l0.outs [] N (((), ((), ((), ()))), ((p0_01, (p0_11, (p0_21, ()))), ((p1_0, (p1_1, (p1_2, (p1_3, (p1_4, (p1_5, (p1_6, ((), ())))))))), ((p2_0, (p2_1, (p2_2, (p2_3, (p2_4, (p2_5, (p2_6, ((), ())))))))), (p3, ())))))
noncomputable def spec_l2Read (N : Nat) (o : Int) (p0_0 : ByteArray) (p0_1 : Int) (p0_2 : Int) : Option (((Int × (Int × (Int × (ByteArray × (ByteArray × (ByteArray × (ByteArray × ((List Int) × Unit)))))))) × Unit) × ((ByteArray × (Int × (Int × Unit))) × Unit)) :=
  ofFn Try.prog spec_l2Read.call spec_l2Read.qt spec_l2Read.H N Try.f157 [.one (.ptr 0 0), ak_i] [.cells [ck_s, ck_i, ck_i]] [.agg [ck_i, ck_i, ck_i, ck_s, ck_s, ck_s, ck_s, .sh (.rows (.int .i64))]] [.cells [ck_s, ck_i, ck_i]] [⟨[], [], [], []⟩, ⟨[], [], [3], []⟩] ((), (o, ())) ((p0_0, (p0_1, (p0_2, ()))), ())
noncomputable def spec_l2Read.S (N : Nat) : Say := ⟨false, 157, [.one (.ptr 0 0), ak_i], [.cells [ck_s, ck_i, ck_i]], [.agg [ck_i, ck_i, ck_i, ck_s, ck_s, ck_s, ck_s, .sh (.rows (.int .i64))]], [.cells [ck_s, ck_i, ck_i]], fun a s => spec_l2Read N a.2.1 s.1.1 s.1.2.1 s.1.2.2.1⟩
set_option maxRecDepth 100000 in
theorem spec_l2Read.l0.eq (N : Nat) (p0_01 : ByteArray) (p0_11 : Int) (p0_21 : Int) (p1_0 : Int) (p1_1 : Int) (p1_2 : Int) (p1_3 : ByteArray) (p1_4 : ByteArray) (p1_5 : ByteArray) (p1_6 : ByteArray) (p2_0 : Int) (p2_1 : Int) (p2_2 : Int) (p2_3 : ByteArray) (p2_4 : ByteArray) (p2_5 : ByteArray) (p2_6 : ByteArray) (p3 : (List Int)) : spec_l2Read.l0 (N + 1) p0_01 p0_11 p0_21 p1_0 p1_1 p1_2 p1_3 p1_4 p1_5 p1_6 p2_0 p2_1 p2_2 p2_3 p2_4 p2_5 p2_6 p3 =
 andK (α := ((Unit × (Unit × (Unit × (Bool × Unit)))) × ((ByteArray × (Int × (Int × Unit))) × ((Int × (Int × (Int × (ByteArray × (ByteArray × (ByteArray × (ByteArray × (Unit × Unit)))))))) × ((Int × (Int × (Int × (ByteArray × (ByteArray × (ByteArray × (ByteArray × (Unit × Unit)))))))) × ((List Int) × Unit)))))) (
  sel (decide (p0_21 = 0))
   (
   some ((((), ((), ((), ((decide (p0_11 < (p0_01.size : Int))), ())))), ((p0_01, (p0_11, (p0_21, ()))), ((p1_0, (p1_1, (p1_2, (p1_3, (p1_4, (p1_5, (p1_6, ((), ())))))))), ((p2_0, (p2_1, (p2_2, (p2_3, (p2_4, (p2_5, (p2_6, ((), ())))))))), (p3, ())))))))
   (
   some ((((), ((), ((), (false, ())))), ((p0_01, (p0_11, (p0_21, ()))), ((p1_0, (p1_1, (p1_2, (p1_3, (p1_4, (p1_5, (p1_6, ((), ())))))))), ((p2_0, (p2_1, (p2_2, (p2_3, (p2_4, (p2_5, (p2_6, ((), ())))))))), (p3, ())))))))) fun j12 =>
 sel j12.1.2.2.2.1
  (
  andK (spec_l1R_take N 4 j12.2.1.1 j12.2.1.2.1 j12.2.1.2.2.1) fun u13 =>
  andK (spec_l1Big N u13.1.1) fun u14 =>
  chk (decide (j12.2.2.2.2.1.length + 1 < most)) (
  spec_l2Read.l0 N u13.2.1.1 u13.2.1.2.1 u13.2.1.2.2.1 j12.2.2.1.1 j12.2.2.1.2.1 j12.2.2.1.2.2.1 j12.2.2.1.2.2.2.1 j12.2.2.1.2.2.2.2.1 j12.2.2.1.2.2.2.2.2.1 j12.2.2.1.2.2.2.2.2.2.1 j12.2.2.2.1.1 j12.2.2.2.1.2.1 j12.2.2.2.1.2.2.1 j12.2.2.2.1.2.2.2.1 j12.2.2.2.1.2.2.2.2.1 j12.2.2.2.1.2.2.2.2.2.1 j12.2.2.2.1.2.2.2.2.2.2.1 (j12.2.2.2.2.1 ++ [u14.1.1])))
  (
  some ((((), ((), ())), ((j12.2.1.1, (j12.2.1.2.1, (j12.2.1.2.2.1, ()))), ((j12.2.2.1.1, (j12.2.2.1.2.1, (j12.2.2.1.2.2.1, (j12.2.2.1.2.2.2.1, (j12.2.2.1.2.2.2.2.1, (j12.2.2.1.2.2.2.2.2.1, (j12.2.2.1.2.2.2.2.2.2.1, ((), ())))))))), ((j12.2.2.2.1.1, (j12.2.2.2.1.2.1, (j12.2.2.2.1.2.2.1, (j12.2.2.2.1.2.2.2.1, (j12.2.2.2.1.2.2.2.2.1, (j12.2.2.2.1.2.2.2.2.2.1, (j12.2.2.2.1.2.2.2.2.2.2.1, ((), ())))))))), (j12.2.2.2.2.1, ()))))))) := by kernel_rfl
set_option maxRecDepth 100000 in
theorem spec_l2Read.eq (N : Nat) (o : Int) (p0_0 : ByteArray) (p0_1 : Int) (p0_2 : Int) : spec_l2Read N o p0_0 p0_1 p0_2 =
 andK (spec_l1R_take N 1 p0_0 p0_1 p0_2) fun u1 =>
 andK (spec_l1Big N u1.1.1) fun u2 =>
 sel (!(decide (u1.2.1.2.2.1 = 0)))
  (
  some (((5, ((Go.bits .and .i64 u2.1.1 15), (0, ((⟨#[]⟩ : ByteArray), ((⟨#[]⟩ : ByteArray), ((⟨#[]⟩ : ByteArray), ((⟨#[]⟩ : ByteArray), ([], ())))))))), ()), ((u1.2.1.1, (u1.2.1.2.1, (u1.2.1.2.2.1, ()))), ())))
  (
  sel (decide ((Go.bits .and .i64 u2.1.1 64) = 0))
   (
   some (((5, ((Go.bits .and .i64 u2.1.1 15), (0, ((⟨#[]⟩ : ByteArray), ((⟨#[]⟩ : ByteArray), ((⟨#[]⟩ : ByteArray), ((⟨#[]⟩ : ByteArray), ([], ())))))))), ()), ((u1.2.1.1, (u1.2.1.2.1, (2, ()))), ())))
   (
   sel (decide (u2.1.1 < 128))
    (
    andK (α := ((Unit × (Unit × (Unit × Unit))) × ((ByteArray × (Int × (Int × Unit))) × ((Int × (Int × (Int × (ByteArray × (ByteArray × (ByteArray × (ByteArray × (Unit × Unit)))))))) × ((Int × (Int × (Int × (ByteArray × (ByteArray × (ByteArray × (ByteArray × (Unit × Unit)))))))) × Unit))))) (
     sel (!(decide ((Go.bits .and .i64 u2.1.1 48) = 0)))
      (
      some ((((), ((), ((), ()))), ((u1.2.1.1, (u1.2.1.2.1, (3, ()))), ((0, (0, (0, ((⟨#[]⟩ : ByteArray), ((⟨#[]⟩ : ByteArray), ((⟨#[]⟩ : ByteArray), ((⟨#[]⟩ : ByteArray), ((), ())))))))), ((5, ((Go.bits .and .i64 u2.1.1 15), (0, ((⟨#[]⟩ : ByteArray), ((⟨#[]⟩ : ByteArray), ((⟨#[]⟩ : ByteArray), ((⟨#[]⟩ : ByteArray), ((), ())))))))), ()))))))
      (
      some ((((), ((), ((), ()))), ((u1.2.1.1, (u1.2.1.2.1, (u1.2.1.2.2.1, ()))), ((0, (0, (0, ((⟨#[]⟩ : ByteArray), ((⟨#[]⟩ : ByteArray), ((⟨#[]⟩ : ByteArray), ((⟨#[]⟩ : ByteArray), ((), ())))))))), ((5, ((Go.bits .and .i64 u2.1.1 15), (0, ((⟨#[]⟩ : ByteArray), ((⟨#[]⟩ : ByteArray), ((⟨#[]⟩ : ByteArray), ((⟨#[]⟩ : ByteArray), ((), ())))))))), ()))))))) fun j3 =>
    andK (spec_l1R_take N o j3.2.1.1 j3.2.1.2.1 j3.2.1.2.2.1) fun u4 =>
    andK (spec_l1R_take N (IntKind.i64.wrap ((u4.2.1.1.size : Int) - u4.2.1.2.1)) u4.2.1.1 u4.2.1.2.1 u4.2.1.2.2.1) fun u5 =>
    some (((j3.2.2.2.1.1, (j3.2.2.2.1.2.1, (j3.2.2.2.1.2.2.1, (u4.1.1, (j3.2.2.2.1.2.2.2.2.1, (j3.2.2.2.1.2.2.2.2.2.1, (u5.1.1, ([], ())))))))), ()), ((u5.2.1.1, (u5.2.1.2.1, (u5.2.1.2.2.1, ()))), ())))
    (
    andK (spec_l1R_take N 4 u1.2.1.1 u1.2.1.2.1 u1.2.1.2.2.1) fun u6 =>
    andK (spec_l1Big N u6.1.1) fun u7 =>
    andK (spec_l1R_id N u6.2.1.1 u6.2.1.2.1 u6.2.1.2.2.1) fun u8 =>
    andK (spec_l1R_id N u8.2.1.1 u8.2.1.2.1 u8.2.1.2.2.1) fun u9 =>
    sel (decide (u7.1.1 = 0))
     (
     andK (α := ((Unit × (Unit × (Unit × Unit))) × ((ByteArray × (Int × (Int × Unit))) × ((Int × (Int × (Int × (ByteArray × (ByteArray × (ByteArray × (ByteArray × (Unit × Unit)))))))) × ((Int × (Int × (Int × (ByteArray × (ByteArray × (ByteArray × (ByteArray × (Unit × Unit)))))))) × Unit))))) (
      andK (α := ((Unit × (Unit × (Unit × (Bool × Unit)))) × ((ByteArray × (Int × (Int × Unit))) × ((Int × (Int × (Int × (ByteArray × (ByteArray × (ByteArray × (ByteArray × (Unit × Unit)))))))) × ((Int × (Int × (Int × (ByteArray × (ByteArray × (ByteArray × (ByteArray × (Unit × Unit)))))))) × Unit))))) (
       sel (decide (u9.2.1.2.2.1 = 0))
        (
        some ((((), ((), ((), ((!(decide ((Go.bits .and .i64 (shrI .i64 u2.1.1 4) 3) = 0))), ())))), ((u9.2.1.1, (u9.2.1.2.1, (u9.2.1.2.2.1, ()))), ((0, (0, (0, ((⟨#[]⟩ : ByteArray), ((⟨#[]⟩ : ByteArray), ((⟨#[]⟩ : ByteArray), ((⟨#[]⟩ : ByteArray), ((), ())))))))), (((Go.bits .and .i64 (shrI .i64 u2.1.1 4) 3), ((Go.bits .and .i64 u2.1.1 15), (u7.1.1, (u8.1.1, (u9.1.1, ((⟨#[]⟩ : ByteArray), ((⟨#[]⟩ : ByteArray), ((), ())))))))), ()))))))
        (
        some ((((), ((), ((), (false, ())))), ((u9.2.1.1, (u9.2.1.2.1, (u9.2.1.2.2.1, ()))), ((0, (0, (0, ((⟨#[]⟩ : ByteArray), ((⟨#[]⟩ : ByteArray), ((⟨#[]⟩ : ByteArray), ((⟨#[]⟩ : ByteArray), ((), ())))))))), (((Go.bits .and .i64 (shrI .i64 u2.1.1 4) 3), ((Go.bits .and .i64 u2.1.1 15), (u7.1.1, (u8.1.1, (u9.1.1, ((⟨#[]⟩ : ByteArray), ((⟨#[]⟩ : ByteArray), ((), ())))))))), ()))))))) fun j10 =>
      sel j10.1.2.2.2.1
       (
       some ((((), ((), ((), ()))), ((j10.2.1.1, (j10.2.1.2.1, (3, ()))), ((j10.2.2.1.1, (j10.2.2.1.2.1, (j10.2.2.1.2.2.1, (j10.2.2.1.2.2.2.1, (j10.2.2.1.2.2.2.2.1, (j10.2.2.1.2.2.2.2.2.1, (j10.2.2.1.2.2.2.2.2.2.1, ((), ())))))))), ((j10.2.2.2.1.1, (j10.2.2.2.1.2.1, (j10.2.2.2.1.2.2.1, (j10.2.2.2.1.2.2.2.1, (j10.2.2.2.1.2.2.2.2.1, (j10.2.2.2.1.2.2.2.2.2.1, (j10.2.2.2.1.2.2.2.2.2.2.1, ((), ())))))))), ()))))))
       (
       some ((((), ((), ((), ()))), ((j10.2.1.1, (j10.2.1.2.1, (j10.2.1.2.2.1, ()))), ((j10.2.2.1.1, (j10.2.2.1.2.1, (j10.2.2.1.2.2.1, (j10.2.2.1.2.2.2.1, (j10.2.2.1.2.2.2.2.1, (j10.2.2.1.2.2.2.2.2.1, (j10.2.2.1.2.2.2.2.2.2.1, ((), ())))))))), ((j10.2.2.2.1.1, (j10.2.2.2.1.2.1, (j10.2.2.2.1.2.2.1, (j10.2.2.2.1.2.2.2.1, (j10.2.2.2.1.2.2.2.2.1, (j10.2.2.2.1.2.2.2.2.2.1, (j10.2.2.2.1.2.2.2.2.2.2.1, ((), ())))))))), ()))))))) fun j11 =>
     andK (spec_l2Read.l0 N j11.2.1.1 j11.2.1.2.1 j11.2.1.2.2.1 j11.2.2.1.1 j11.2.2.1.2.1 j11.2.2.1.2.2.1 j11.2.2.1.2.2.2.1 j11.2.2.1.2.2.2.2.1 j11.2.2.1.2.2.2.2.2.1 j11.2.2.1.2.2.2.2.2.2.1 4 j11.2.2.2.1.2.1 j11.2.2.2.1.2.2.1 j11.2.2.2.1.2.2.2.1 j11.2.2.2.1.2.2.2.2.1 j11.2.2.2.1.2.2.2.2.2.1 j11.2.2.2.1.2.2.2.2.2.2.1 []) fun l15 =>
     some (((l15.2.2.2.1.1, (l15.2.2.2.1.2.1, (l15.2.2.2.1.2.2.1, (l15.2.2.2.1.2.2.2.1, (l15.2.2.2.1.2.2.2.2.1, (l15.2.2.2.1.2.2.2.2.2.1, (l15.2.2.2.1.2.2.2.2.2.2.1, (l15.2.2.2.2.1, ())))))))), ()), ((l15.2.1.1, (l15.2.1.2.1, (l15.2.1.2.2.1, ()))), ())))
     (
     andK (α := ((Unit × (Unit × (Unit × Unit))) × ((ByteArray × (Int × (Int × Unit))) × ((Int × (Int × (Int × (ByteArray × (ByteArray × (ByteArray × (ByteArray × (Unit × Unit)))))))) × ((Int × (Int × (Int × (ByteArray × (ByteArray × (ByteArray × (ByteArray × (Unit × Unit)))))))) × Unit))))) (
      sel (decide ((Go.bits .and .i64 (shrI .i64 u2.1.1 4) 3) = 0))
       (
       andK (spec_l1R_text N u9.2.1.1 u9.2.1.2.1 u9.2.1.2.2.1) fun u16 =>
       some ((((), ((), ((), ()))), ((u16.2.1.1, (u16.2.1.2.1, (u16.2.1.2.2.1, ()))), ((0, (0, (0, ((⟨#[]⟩ : ByteArray), ((⟨#[]⟩ : ByteArray), ((⟨#[]⟩ : ByteArray), ((⟨#[]⟩ : ByteArray), ((), ())))))))), (((Go.bits .and .i64 (shrI .i64 u2.1.1 4) 3), ((Go.bits .and .i64 u2.1.1 15), (u7.1.1, (u8.1.1, (u9.1.1, (u16.1.1, ((⟨#[]⟩ : ByteArray), ((), ())))))))), ()))))))
       (
       some ((((), ((), ((), ()))), ((u9.2.1.1, (u9.2.1.2.1, (u9.2.1.2.2.1, ()))), ((0, (0, (0, ((⟨#[]⟩ : ByteArray), ((⟨#[]⟩ : ByteArray), ((⟨#[]⟩ : ByteArray), ((⟨#[]⟩ : ByteArray), ((), ())))))))), (((Go.bits .and .i64 (shrI .i64 u2.1.1 4) 3), ((Go.bits .and .i64 u2.1.1 15), (u7.1.1, (u8.1.1, (u9.1.1, ((⟨#[]⟩ : ByteArray), ((⟨#[]⟩ : ByteArray), ((), ())))))))), ()))))))) fun j17 =>
     sel (decide (j17.2.2.2.1.1 = 3))
      (
      andK (spec_l1R_take N (IntKind.i64.wrap ((j17.2.1.1.size : Int) - j17.2.1.2.1)) j17.2.1.1 j17.2.1.2.1 j17.2.1.2.2.1) fun u18 =>
      some (((j17.2.2.2.1.1, (j17.2.2.2.1.2.1, (j17.2.2.2.1.2.2.1, (j17.2.2.2.1.2.2.2.1, (j17.2.2.2.1.2.2.2.2.1, (j17.2.2.2.1.2.2.2.2.2.1, (u18.1.1, ([], ())))))))), ()), ((u18.2.1.1, (u18.2.1.2.1, (u18.2.1.2.2.1, ()))), ())))
      (
      andK (spec_l1R_text N j17.2.1.1 j17.2.1.2.1 j17.2.1.2.2.1) fun u19 =>
      some (((j17.2.2.2.1.1, (j17.2.2.2.1.2.1, (j17.2.2.2.1.2.2.1, (j17.2.2.2.1.2.2.2.1, (j17.2.2.2.1.2.2.2.2.1, (j17.2.2.2.1.2.2.2.2.2.1, (u19.1.1, ([], ())))))))), ()), ((u19.2.1.1, (u19.2.1.2.1, (u19.2.1.2.2.1, ()))), ()))))))) := by kernel_rfl
set_option maxRecDepth 100000 in
theorem spec_l2Read.say (N : Nat) : SayOk Try.prog (spec_l2Read.S N) := sayOk_mk (N := N) (H := spec_l2Read.H) (preps := [⟨[], [], [], []⟩, ⟨[], [], [3], []⟩]) (l := spec_l2Read.says) (fn := Try.f157) (c := bodyOf Try.f157)
  (by kernel_rfl) (by kernel_rfl) (by kernel_rfl) (by kernel_rfl) (by kernel_rfl) (by kernel_rfl) (by kernel_rfl)
  (fun N => SayAll.cons (spec_l1R_take.say N) (SayAll.cons (spec_l1Big.say N) (SayAll.cons (spec_l1R_id.say N) (SayAll.cons (spec_l1R_text.say N) (SayAll.nil))))) (fun a s => by kernel_rfl)

/-! ### loop.example/g00206/spec.l2Word: function 132 -/
noncomputable def spec_l2Word.H : Hints := hintsOf []
noncomputable def spec_l2Word.says (N : Nat) : List Say := [spec_l1In.S N]
noncomputable def spec_l2Word.call (N : Nat) : CallK := callBy (spec_l2Word.says N)
noncomputable def spec_l2Word.qt (N : Nat) : FuncId → List PV → Sig → Cl := qtBy (spec_l2Word.says N)
noncomputable def spec_l2Word (N : Nat) (n : Int) : Option ((Bool × Unit) × Unit) :=
  ofFn Try.prog spec_l2Word.call spec_l2Word.qt spec_l2Word.H N Try.f132 [ak_i] [] [ak_b] [] [⟨[], [], [], []⟩] (n, ()) ()
noncomputable def spec_l2Word.S (N : Nat) : Say := ⟨false, 132, [ak_i], [], [ak_b], [], fun a s => spec_l2Word N a.1⟩
set_option maxRecDepth 100000 in
theorem spec_l2Word.eq (N : Nat) (n : Int) : spec_l2Word N n =
 andK (spec_l1In N n 0 4294967295) fun u1 =>
 some ((u1.1.1, ()), ()) := by kernel_rfl
set_option maxRecDepth 100000 in
theorem spec_l2Word.say (N : Nat) : SayOk Try.prog (spec_l2Word.S N) := sayOk_mk (N := N) (H := spec_l2Word.H) (preps := [⟨[], [], [], []⟩]) (l := spec_l2Word.says) (fn := Try.f132) (c := bodyOf Try.f132)
  (by kernel_rfl) (by kernel_rfl) (by kernel_rfl) (by kernel_rfl) (by kernel_rfl) (by kernel_rfl) (by kernel_rfl)
  (fun N => SayAll.cons (spec_l1In.say N) (SayAll.nil)) (fun a s => by kernel_rfl)

/-! ### loop.example/g00206/spec.GoodHeader: function 86 -/
noncomputable def spec_GoodHeader.H : Hints := hintsOf [(5000001, .join [⟨.normal, [], [1, 32], [.one (.ptr 0 0), ak_b], [.cells [ck_i, ck_i, ck_i, ck_s, ck_s, ck_s, ck_s, .sh (.rows (.int .i64))]], [⟨[], [], [], []⟩]⟩]),
  (5000003, .join [⟨.normal, [], [1, 51], [.one (.ptr 0 0), ak_b], [.cells [ck_i, ck_i, ck_i, ck_s, ck_s, ck_s, ck_s, .sh (.rows (.int .i64))]], [⟨[], [], [], []⟩]⟩]),
  (5000010, .join [⟨.normal, [], [2], [ak_b], [.cells [ck_i, ck_i, ck_i, ck_s, ck_s, ck_s, ck_s, .sh (.rows (.int .i64))]], [⟨[], [], [], []⟩]⟩]),
  (2000013, .loop ⟨.normal, [70, 71], [1, 72], [.one (.ptr 0 0), ak_i], [.cells [ck_i, ck_i, ck_i, ck_s, ck_s, ck_s, ck_s, .sh (.rows (.int .i64))]], [⟨[], [], [], []⟩]⟩ [⟨.ret, [], [2], [ak_b], [.cells [ck_i, ck_i, ck_i, ck_s, ck_s, ck_s, ck_s, .sh (.rows (.int .i64))]], [⟨[], [], [], []⟩]⟩, ⟨(.exit 1), [], [1], [.one (.ptr 0 0)], [.cells [ck_i, ck_i, ck_i, ck_s, ck_s, ck_s, ck_s, .sh (.rows (.int .i64))]], [⟨[], [], [], []⟩]⟩]),
  (5000018, .join [⟨.normal, [], [2], [ak_b], [.cells [ck_i, ck_i, ck_i, ck_s, ck_s, ck_s, ck_s, .sh (.rows (.int .i64))]], [⟨[], [], [], []⟩]⟩]),
  (19, .join [⟨.ret, [], [2], [ak_b], [.cells [ck_i, ck_i, ck_i, ck_s, ck_s, ck_s, ck_s, .sh (.rows (.int .i64))]], [⟨[], [], [], []⟩]⟩, ⟨.normal, [], [1], [.one (.ptr 0 0)], [.cells [ck_i, ck_i, ck_i, ck_s, ck_s, ck_s, ck_s, .sh (.rows (.int .i64))]], [⟨[], [], [], []⟩]⟩])]
noncomputable def spec_GoodHeader.says (N : Nat) : List Say := [spec_l1In.S N, spec_l2Word.S N]
noncomputable def spec_GoodHeader.call (N : Nat) : CallK := callBy (spec_GoodHeader.says N)
noncomputable def spec_GoodHeader.qt (N : Nat) : FuncId → List PV → Sig → Cl := qtBy (spec_GoodHeader.says N)
noncomputable def spec_GoodHeader.l0.hd : Alt := ⟨.normal, [70, 71], [1, 72], [.one (.ptr 0 0), ak_i], [.cells [ck_i, ck_i, ck_i, ck_s, ck_s, ck_s, ck_s, .sh (.rows (.int .i64))]], [⟨[], [], [], []⟩]⟩
noncomputable def spec_GoodHeader.l0.outs : List Alt := [⟨.ret, [], [2], [ak_b], [.cells [ck_i, ck_i, ck_i, ck_s, ck_s, ck_s, ck_s, .sh (.rows (.int .i64))]], [⟨[], [], [], []⟩]⟩, ⟨(.exit 1), [], [1], [.one (.ptr 0 0)], [.cells [ck_i, ck_i, ck_i, ck_s, ck_s, ck_s, ck_s, .sh (.rows (.int .i64))]], [⟨[], [], [], []⟩]⟩]
noncomputable def spec_GoodHeader.l0 (N : Nat) (t70 : (List Int)) (t71 : Int) (t72 : Int) (p0_0 : Int) (p0_1 : Int) (p0_2 : Int) (p0_3 : ByteArray) (p0_4 : ByteArray) (p0_5 : ByteArray) (p0_6 : ByteArray) (p0_7 : (List Int)) : Option (((Bool × Unit) × ((Int × (Int × (Int × (ByteArray × (ByteArray × (ByteArray × (ByteArray × ((List Int) × Unit)))))))) × Unit)) ⊕ ((Unit × Unit) × ((Int × (Int × (Int × (ByteArray × (ByteArray × (ByteArray × (ByteArray × ((List Int) × Unit)))))))) × Unit))) :=
  loopK Try.prog spec_GoodHeader.call spec_GoodHeader.qt spec_GoodHeader.H (codeAt (bodyOf Try.f86) [1, 1, 1, 0, 1, 0, 1, 1, 1, 0, 0, 1, 0, 0]) 1 spec_GoodHeader.l0.hd spec_GoodHeader.l0.outs [(70, .rows false (.int .i64) t70), (71, .v (.int .i64 t71))] N (((), (t72, ())), ((p0_0, (p0_1, (p0_2, (p0_3, (p0_4, (p0_5, (p0_6, (p0_7, ())))))))), ()))
noncomputable def spec_GoodHeader.l1.hd : Alt := ⟨.normal, [70, 71], [1, 72], [.one (.ptr 0 0), ak_i], [.cells [ck_i, ck_i, ck_i, ck_s, ck_s, ck_s, ck_s, .sh (.rows (.int .i64))]], [⟨[], [], [], []⟩]⟩
noncomputable def spec_GoodHeader.l1.outs : List Alt := [⟨.ret, [], [2], [ak_b], [.cells [ck_i, ck_i, ck_i, ck_s, ck_s, ck_s, ck_s, .sh (.rows (.int .i64))]], [⟨[], [], [], []⟩]⟩, ⟨(.exit 1), [], [1], [.one (.ptr 0 0)], [.cells [ck_i, ck_i, ck_i, ck_s, ck_s, ck_s, ck_s, .sh (.rows (.int .i64))]], [⟨[], [], [], []⟩]⟩]
noncomputable def spec_GoodHeader.l1 (N : Nat) (t701 : (List Int)) (t711 : Int) (t721 : Int) (p0_01 : Int) (p0_11 : Int) (p0_21 : Int) (p0_31 : ByteArray) (p0_41 : ByteArray) (p0_51 : ByteArray) (p0_61 : ByteArray) (p0_71 : (List Int)) : Option (((Bool × Unit) × ((Int × (Int × (Int × (ByteArray × (ByteArray × (ByteArray × (ByteArray × ((List Int) × Unit)))))))) × Unit)) ⊕ ((Unit × Unit) × ((Int × (Int × (Int × (ByteArray × (ByteArray × (ByteArray × (ByteArray × ((List Int) × Unit)))))))) × Unit))) :=
  loopK Try.prog spec_GoodHeader.call spec_GoodHeader.qt spec_GoodHeader.H (codeAt (bodyOf Try.f86) [1, 1, 1, 0, 1, 0, 1, 1, 1, 0, 0, 1, 0, 0]) 1 spec_GoodHeader.l1.hd spec_GoodHeader.l1.outs [(70, .rows false (.int .i64) t701), (71, .v (.int .i64 t711))] N (((), (t721, ())), ((p0_01, (p0_11, (p0_21, (p0_31, (p0_41, (p0_51, (p0_61, (p0_71, ())))))))), ()))
noncomputable def spec_GoodHeader.l2.hd : Alt := ⟨.normal, [70, 71], [1, 72], [.one (.ptr 0 0), ak_i], [.cells [ck_i, ck_i, ck_i, ck_s, ck_s, ck_s, ck_s, .sh (.rows (.int .i64))]], [⟨[], [], [], []⟩]⟩
noncomputable def spec_GoodHeader.l2.outs : List Alt := [⟨.ret, [], [2], [ak_b], [.cells [ck_i, ck_i, ck_i, ck_s, ck_s, ck_s, ck_s, .sh (.rows (.int .i64))]], [⟨[], [], [], []⟩]⟩, ⟨(.exit 1), [], [1], [.one (.ptr 0 0)], [.cells [ck_i, ck_i, ck_i, ck_s, ck_s, ck_s, ck_s, .sh (.rows (.int .i64))]], [⟨[], [], [], []⟩]⟩]
noncomputable def spec_GoodHeader.l2 (N : Nat) (t702 : (List Int)) (t712 : Int) (t722 : Int) (p0_02 : Int) (p0_12 : Int) (p0_22 : Int) (p0_32 : ByteArray) (p0_42 : ByteArray) (p0_52 : ByteArray) (p0_62 : ByteArray) (p0_72 : (List Int)) : Option (((Bool × Unit) × ((Int × (Int × (Int × (ByteArray × (ByteArray × (ByteArray × (ByteArray × ((List Int) × Unit)))))))) × Unit)) ⊕ ((Unit × Unit) × ((Int × (Int × (Int × (ByteArray × (ByteArray × (ByteArray × (ByteArray × ((List Int) × Unit)))))))) × Unit))) :=
  loopK Try.prog spec_GoodHeader.call spec_GoodHeader.qt spec_GoodHeader.H (codeAt (bodyOf Try.f86) [1, 1, 1, 0, 1, 0, 1, 1, 1, 0, 0, 1, 0, 0]) 1 spec_GoodHeader.l2.hd spec_GoodHeader.l2.outs [(70, .rows false (.int .i64) t702), (71, .v (.int .i64 t712))] N (((), (t722, ())), ((p0_02, (p0_12, (p0_22, (p0_32, (p0_42, (p0_52, (p0_62, (p0_72, ())))))))), ()))
noncomputable def spec_GoodHeader.l3.hd : Alt := ⟨.normal, [70, 71], [1, 72], [.one (.ptr 0 0), ak_i], [.cells [ck_i, ck_i, ck_i, ck_s, ck_s, ck_s, ck_s, .sh (.rows (.int .i64))]], [⟨[], [], [], []⟩]⟩
noncomputable def spec_GoodHeader.l3.outs : List Alt := [⟨.ret, [], [2], [ak_b], [.cells [ck_i, ck_i, ck_i, ck_s, ck_s, ck_s, ck_s, .sh (.rows (.int .i64))]], [⟨[], [], [], []⟩]⟩, ⟨(.exit 1), [], [1], [.one (.ptr 0 0)], [.cells [ck_i, ck_i, ck_i, ck_s, ck_s, ck_s, ck_s, .sh (.rows (.int .i64))]], [⟨[], [], [], []⟩]⟩]
noncomputable def spec_GoodHeader.l3 (N : Nat) (t703 : (List Int)) (t713 : Int) (t723 : Int) (p0_03 : Int) (p0_13 : Int) (p0_23 : Int) (p0_33 : ByteArray) (p0_43 : ByteArray) (p0_53 : ByteArray) (p0_63 : ByteArray) (p0_73 : (List Int)) : Option (((Bool × Unit) × ((Int × (Int × (Int × (ByteArray × (ByteArray × (ByteArray × (ByteArray × ((List Int) × Unit)))))))) × Unit)) ⊕ ((Unit × Unit) × ((Int × (Int × (Int × (ByteArray × (ByteArray × (ByteArray × (ByteArray × ((List Int) × Unit)))))))) × Unit))) :=
  loopK Try.prog spec_GoodHeader.call spec_GoodHeader.qt spec_GoodHeader.H (codeAt (bodyOf Try.f86) [1, 1, 1, 0, 1, 0, 1, 1, 1, 0, 0, 1, 0, 0]) 1 spec_GoodHeader.l3.hd spec_GoodHeader.l3.outs [(70, .rows false (.int .i64) t703), (71, .v (.int .i64 t713))] N (((), (t723, ())), ((p0_03, (p0_13, (p0_23, (p0_33, (p0_43, (p0_53, (p0_63, (p0_73, ())))))))), ()))
noncomputable def spec_GoodHeader (N : Nat) (G_0 : Int) (G_1 : Int) (G_2 : Int) (G_3 : ByteArray) (G_4 : ByteArray) (G_5 : ByteArray) (G_6 : ByteArray) (G_7 : (List Int)) : Option ((Bool × Unit) × Unit) :=
  ofFn Try.prog spec_GoodHeader.call spec_GoodHeader.qt spec_GoodHeader.H N Try.f86 [.agg [ck_i, ck_i, ck_i, ck_s, ck_s, ck_s, ck_s, .sh (.rows (.int .i64))]] [] [ak_b] [] [⟨[], [], [], []⟩] ((G_0, (G_1, (G_2, (G_3, (G_4, (G_5, (G_6, (G_7, ())))))))), ()) ()
noncomputable def spec_GoodHeader.S (N : Nat) : Say := ⟨false, 86, [.agg [ck_i, ck_i, ck_i, ck_s, ck_s, ck_s, ck_s, .sh (.rows (.int .i64))]], [], [ak_b], [], fun a s => spec_GoodHeader N a.1.1 a.1.2.1 a.1.2.2.1 a.1.2.2.2.1 a.1.2.2.2.2.1 a.1.2.2.2.2.2.1 a.1.2.2.2.2.2.2.1 a.1.2.2.2.2.2.2.2.1⟩
set_option maxRecDepth 100000 in
theorem spec_GoodHeader.l3.eq (N : Nat) (t703 : (List Int)) (t713 : Int) (t723 : Int) (p0_03 : Int) (p0_13 : Int) (p0_23 : Int) (p0_33 : ByteArray) (p0_43 : ByteArray) (p0_53 : ByteArray) (p0_63 : ByteArray) (p0_73 : (List Int)) : spec_GoodHeader.l3 (N + 1) t703 t713 t723 p0_03 p0_13 p0_23 p0_33 p0_43 p0_53 p0_63 p0_73 =
 sel (decide (t723 < t713))
  (
  chk ((decide (0 ≤ t723)) && (decide (t723 < (t703.length : Int)))) (
  andK (spec_l2Word N (t703.getD (Int.toNat t723) 0)) fun u30 =>
  sel (!u30.1.1)
   (
   some (.inl ((false, ()), ((p0_03, (p0_13, (p0_23, (p0_33, (p0_43, (p0_53, (p0_63, (p0_73, ())))))))), ()))))
   (
   spec_GoodHeader.l3 N t703 t713 (IntKind.i64.wrap (t723 + 1)) p0_03 p0_13 p0_23 p0_33 p0_43 p0_53 p0_63 p0_73)))
  (
  some (.inr ((((), ()), ((p0_03, (p0_13, (p0_23, (p0_33, (p0_43, (p0_53, (p0_63, (p0_73, ())))))))), ()))))) := by kernel_rfl
set_option maxRecDepth 100000 in
theorem spec_GoodHeader.l2.eq (N : Nat) (t702 : (List Int)) (t712 : Int) (t722 : Int) (p0_02 : Int) (p0_12 : Int) (p0_22 : Int) (p0_32 : ByteArray) (p0_42 : ByteArray) (p0_52 : ByteArray) (p0_62 : ByteArray) (p0_72 : (List Int)) : spec_GoodHeader.l2 (N + 1) t702 t712 t722 p0_02 p0_12 p0_22 p0_32 p0_42 p0_52 p0_62 p0_72 =
 sel (decide (t722 < t712))
  (
  chk ((decide (0 ≤ t722)) && (decide (t722 < (t702.length : Int)))) (
  andK (spec_l2Word N (t702.getD (Int.toNat t722) 0)) fun u22 =>
  sel (!u22.1.1)
   (
   some (.inl ((false, ()), ((p0_02, (p0_12, (p0_22, (p0_32, (p0_42, (p0_52, (p0_62, (p0_72, ())))))))), ()))))
   (
   spec_GoodHeader.l2 N t702 t712 (IntKind.i64.wrap (t722 + 1)) p0_02 p0_12 p0_22 p0_32 p0_42 p0_52 p0_62 p0_72)))
  (
  some (.inr ((((), ()), ((p0_02, (p0_12, (p0_22, (p0_32, (p0_42, (p0_52, (p0_62, (p0_72, ())))))))), ()))))) := by kernel_rfl
set_option maxRecDepth 100000 in
theorem spec_GoodHeader.l1.eq (N : Nat) (t701 : (List Int)) (t711 : Int) (t721 : Int) (p0_01 : Int) (p0_11 : Int) (p0_21 : Int) (p0_31 : ByteArray) (p0_41 : ByteArray) (p0_51 : ByteArray) (p0_61 : ByteArray) (p0_71 : (List Int)) : spec_GoodHeader.l1 (N + 1) t701 t711 t721 p0_01 p0_11 p0_21 p0_31 p0_41 p0_51 p0_61 p0_71 =
 sel (decide (t721 < t711))
  (
  chk ((decide (0 ≤ t721)) && (decide (t721 < (t701.length : Int)))) (
  andK (spec_l2Word N (t701.getD (Int.toNat t721) 0)) fun u14 =>
  sel (!u14.1.1)
   (
   some (.inl ((false, ()), ((p0_01, (p0_11, (p0_21, (p0_31, (p0_41, (p0_51, (p0_61, (p0_71, ())))))))), ()))))
   (
   spec_GoodHeader.l1 N t701 t711 (IntKind.i64.wrap (t721 + 1)) p0_01 p0_11 p0_21 p0_31 p0_41 p0_51 p0_61 p0_71)))
  (
  some (.inr ((((), ()), ((p0_01, (p0_11, (p0_21, (p0_31, (p0_41, (p0_51, (p0_61, (p0_71, ())))))))), ()))))) := by kernel_rfl
set_option maxRecDepth 100000 in
theorem spec_GoodHeader.l0.eq (N : Nat) (t70 : (List Int)) (t71 : Int) (t72 : Int) (p0_0 : Int) (p0_1 : Int) (p0_2 : Int) (p0_3 : ByteArray) (p0_4 : ByteArray) (p0_5 : ByteArray) (p0_6 : ByteArray) (p0_7 : (List Int)) : spec_GoodHeader.l0 (N + 1) t70 t71 t72 p0_0 p0_1 p0_2 p0_3 p0_4 p0_5 p0_6 p0_7 =
 sel (decide (t72 < t71))
  (
  chk ((decide (0 ≤ t72)) && (decide (t72 < (t70.length : Int)))) (
  andK (spec_l2Word N (t70.getD (Int.toNat t72) 0)) fun u6 =>
  sel (!u6.1.1)
   (
   some (.inl ((false, ()), ((p0_0, (p0_1, (p0_2, (p0_3, (p0_4, (p0_5, (p0_6, (p0_7, ())))))))), ()))))
   (
   spec_GoodHeader.l0 N t70 t71 (IntKind.i64.wrap (t72 + 1)) p0_0 p0_1 p0_2 p0_3 p0_4 p0_5 p0_6 p0_7)))
  (
  some (.inr ((((), ()), ((p0_0, (p0_1, (p0_2, (p0_3, (p0_4, (p0_5, (p0_6, (p0_7, ())))))))), ()))))) := by kernel_rfl
set_option maxRecDepth 100000 in
theorem spec_GoodHeader.eq (N : Nat) (G_0 : Int) (G_1 : Int) (G_2 : Int) (G_3 : ByteArray) (G_4 : ByteArray) (G_5 : ByteArray) (G_6 : ByteArray) (G_7 : (List Int)) : spec_GoodHeader N G_0 G_1 G_2 G_3 G_4 G_5 G_6 G_7 =
 andK (α := ((Unit × (Bool × Unit)) × ((Int × (Int × (Int × (ByteArray × (ByteArray × (ByteArray × (ByteArray × ((List Int) × Unit)))))))) × Unit))) (
  sel (decide (20 < (G_3.size : Int)))
   (
   some ((((), (true, ())), ((G_0, (G_1, (G_2, (G_3, (G_4, (G_5, (G_6, (G_7, ())))))))), ()))))
   (
   sel (decide (20 < (G_4.size : Int)))
    (
    some ((((), (true, ())), ((G_0, (G_1, (G_2, (G_3, (G_4, (G_5, (G_6, (G_7, ())))))))), ()))))
    (
    andK (spec_l1In N G_1 0 15) fun u1 =>
    sel (!u1.1.1)
     (
     some ((((), (true, ())), ((G_0, (G_1, (G_2, (G_3, (G_4, (G_5, (G_6, (G_7, ())))))))), ()))))
     (
     sel (decide (200 < (G_5.size : Int)))
      (
      some ((((), (true, ())), ((G_0, (G_1, (G_2, (G_3, (G_4, (G_5, (G_6, (G_7, ())))))))), ()))))
      (
      some ((((), ((decide (1200 < (G_6.size : Int))), ())), ((G_0, (G_1, (G_2, (G_3, (G_4, (G_5, (G_6, (G_7, ())))))))), ())))))))) fun j2 =>
 sel j2.1.2.1
  (
  some ((false, ()), ()))
  (
  andK (α := ((Unit × (Bool × Unit)) × ((Int × (Int × (Int × (ByteArray × (ByteArray × (ByteArray × (ByteArray × ((List Int) × Unit)))))))) × Unit))) (
   sel (!(decide (j2.2.1.1 = 0)))
    (
    sel (!(decide (j2.2.1.2.2.2.2.2.1 = (⟨#[]⟩ : ByteArray))))
     (
     some ((((), (true, ())), ((j2.2.1.1, (j2.2.1.2.1, (j2.2.1.2.2.1, (j2.2.1.2.2.2.1, (j2.2.1.2.2.2.2.1, (j2.2.1.2.2.2.2.2.1, (j2.2.1.2.2.2.2.2.2.1, (j2.2.1.2.2.2.2.2.2.2.1, ())))))))), ()))))
     (
     sel (!(decide (j2.2.1.1 = 4)))
      (
      some ((((), ((decide (0 < (j2.2.1.2.2.2.2.2.2.2.1.length : Int))), ())), ((j2.2.1.1, (j2.2.1.2.1, (j2.2.1.2.2.1, (j2.2.1.2.2.2.1, (j2.2.1.2.2.2.2.1, (j2.2.1.2.2.2.2.2.1, (j2.2.1.2.2.2.2.2.2.1, (j2.2.1.2.2.2.2.2.2.2.1, ())))))))), ()))))
      (
      some ((((), (false, ())), ((j2.2.1.1, (j2.2.1.2.1, (j2.2.1.2.2.1, (j2.2.1.2.2.2.1, (j2.2.1.2.2.2.2.1, (j2.2.1.2.2.2.2.2.1, (j2.2.1.2.2.2.2.2.2.1, (j2.2.1.2.2.2.2.2.2.2.1, ())))))))), ()))))))
    (
    sel (!(decide (j2.2.1.1 = 4)))
     (
     some ((((), ((decide (0 < (j2.2.1.2.2.2.2.2.2.2.1.length : Int))), ())), ((j2.2.1.1, (j2.2.1.2.1, (j2.2.1.2.2.1, (j2.2.1.2.2.2.1, (j2.2.1.2.2.2.2.1, (j2.2.1.2.2.2.2.2.1, (j2.2.1.2.2.2.2.2.2.1, (j2.2.1.2.2.2.2.2.2.2.1, ())))))))), ()))))
     (
     some ((((), (false, ())), ((j2.2.1.1, (j2.2.1.2.1, (j2.2.1.2.2.1, (j2.2.1.2.2.2.1, (j2.2.1.2.2.2.2.1, (j2.2.1.2.2.2.2.2.1, (j2.2.1.2.2.2.2.2.2.1, (j2.2.1.2.2.2.2.2.2.2.1, ())))))))), ())))))) fun j3 =>
  sel j3.1.2.1
   (
   some ((false, ()), ()))
   (
   andK (α := (((Bool × Unit) × ((Int × (Int × (Int × (ByteArray × (ByteArray × (ByteArray × (ByteArray × ((List Int) × Unit)))))))) × Unit)) ⊕ ((Unit × Unit) × ((Int × (Int × (Int × (ByteArray × (ByteArray × (ByteArray × (ByteArray × ((List Int) × Unit)))))))) × Unit)))) (
    sel (decide (j3.2.1.1 = 0))
     (
     sel (decide (j3.2.1.1 = 0))
      (
      andK (α := ((Bool × Unit) × ((Int × (Int × (Int × (ByteArray × (ByteArray × (ByteArray × (ByteArray × ((List Int) × Unit)))))))) × Unit))) (
       andK (spec_l1In N j3.2.1.2.2.1 1 4294967295) fun u4 =>
       sel u4.1.1
        (
        some ((((!(decide (j3.2.1.2.2.2.2.2.2.1 = (⟨#[]⟩ : ByteArray)))), ()), ((j3.2.1.1, (j3.2.1.2.1, (j3.2.1.2.2.1, (j3.2.1.2.2.2.1, (j3.2.1.2.2.2.2.1, (j3.2.1.2.2.2.2.2.1, (j3.2.1.2.2.2.2.2.2.1, (j3.2.1.2.2.2.2.2.2.2.1, ())))))))), ()))))
        (
        some (((false, ()), ((j3.2.1.1, (j3.2.1.2.1, (j3.2.1.2.2.1, (j3.2.1.2.2.2.1, (j3.2.1.2.2.2.2.1, (j3.2.1.2.2.2.2.2.1, (j3.2.1.2.2.2.2.2.2.1, (j3.2.1.2.2.2.2.2.2.2.1, ())))))))), ()))))) fun j5 =>
      some (.inl ((j5.1.1, ()), ((j5.2.1.1, (j5.2.1.2.1, (j5.2.1.2.2.1, (j5.2.1.2.2.2.1, (j5.2.1.2.2.2.2.1, (j5.2.1.2.2.2.2.2.1, (j5.2.1.2.2.2.2.2.2.1, (j5.2.1.2.2.2.2.2.2.2.1, ())))))))), ()))))
      (
      sel (decide (j3.2.1.1 = 4))
       (
       andK (spec_GoodHeader.l0 N j3.2.1.2.2.2.2.2.2.2.1 (j3.2.1.2.2.2.2.2.2.2.1.length : Int) 0 j3.2.1.1 j3.2.1.2.1 j3.2.1.2.2.1 j3.2.1.2.2.2.1 j3.2.1.2.2.2.2.1 j3.2.1.2.2.2.2.2.1 j3.2.1.2.2.2.2.2.2.1 j3.2.1.2.2.2.2.2.2.2.1) fun l7 =>
       orK l7 (fun x8 =>
        some (.inl ((x8.1.1, ()), ((x8.2.1.1, (x8.2.1.2.1, (x8.2.1.2.2.1, (x8.2.1.2.2.2.1, (x8.2.1.2.2.2.2.1, (x8.2.1.2.2.2.2.2.1, (x8.2.1.2.2.2.2.2.2.1, (x8.2.1.2.2.2.2.2.2.2.1, ())))))))), ()))))
        (fun x9 =>
        andK (α := ((Bool × Unit) × ((Int × (Int × (Int × (ByteArray × (ByteArray × (ByteArray × (ByteArray × ((List Int) × Unit)))))))) × Unit))) (
         sel (decide (x9.2.1.2.2.1 = 0))
          (
          sel (decide (x9.2.1.2.2.2.2.2.2.1 = (⟨#[]⟩ : ByteArray)))
           (
           andK (spec_l1In N (x9.2.1.2.2.2.2.2.2.2.1.length : Int) 1 20) fun u10 =>
           some (((u10.1.1, ()), ((x9.2.1.1, (x9.2.1.2.1, (x9.2.1.2.2.1, (x9.2.1.2.2.2.1, (x9.2.1.2.2.2.2.1, (x9.2.1.2.2.2.2.2.1, (x9.2.1.2.2.2.2.2.2.1, (x9.2.1.2.2.2.2.2.2.2.1, ())))))))), ()))))
           (
           some (((false, ()), ((x9.2.1.1, (x9.2.1.2.1, (x9.2.1.2.2.1, (x9.2.1.2.2.2.1, (x9.2.1.2.2.2.2.1, (x9.2.1.2.2.2.2.2.1, (x9.2.1.2.2.2.2.2.2.1, (x9.2.1.2.2.2.2.2.2.2.1, ())))))))), ())))))
          (
          some (((false, ()), ((x9.2.1.1, (x9.2.1.2.1, (x9.2.1.2.2.1, (x9.2.1.2.2.2.1, (x9.2.1.2.2.2.2.1, (x9.2.1.2.2.2.2.2.1, (x9.2.1.2.2.2.2.2.2.1, (x9.2.1.2.2.2.2.2.2.2.1, ())))))))), ()))))) fun j11 =>
        some (.inl ((j11.1.1, ()), ((j11.2.1.1, (j11.2.1.2.1, (j11.2.1.2.2.1, (j11.2.1.2.2.2.1, (j11.2.1.2.2.2.2.1, (j11.2.1.2.2.2.2.2.1, (j11.2.1.2.2.2.2.2.2.1, (j11.2.1.2.2.2.2.2.2.2.1, ())))))))), ())))))
       (
       some (.inr ((((), ()), ((j3.2.1.1, (j3.2.1.2.1, (j3.2.1.2.2.1, (j3.2.1.2.2.2.1, (j3.2.1.2.2.2.2.1, (j3.2.1.2.2.2.2.2.1, (j3.2.1.2.2.2.2.2.2.1, (j3.2.1.2.2.2.2.2.2.2.1, ())))))))), ())))))))
     (
     sel (decide (j3.2.1.1 = 1))
      (
      sel (decide (j3.2.1.1 = 1))
       (
       andK (α := ((Bool × Unit) × ((Int × (Int × (Int × (ByteArray × (ByteArray × (ByteArray × (ByteArray × ((List Int) × Unit)))))))) × Unit))) (
        andK (spec_l1In N j3.2.1.2.2.1 1 4294967295) fun u12 =>
        sel u12.1.1
         (
         some ((((!(decide (j3.2.1.2.2.2.2.2.2.1 = (⟨#[]⟩ : ByteArray)))), ()), ((j3.2.1.1, (j3.2.1.2.1, (j3.2.1.2.2.1, (j3.2.1.2.2.2.1, (j3.2.1.2.2.2.2.1, (j3.2.1.2.2.2.2.2.1, (j3.2.1.2.2.2.2.2.2.1, (j3.2.1.2.2.2.2.2.2.2.1, ())))))))), ()))))
         (
         some (((false, ()), ((j3.2.1.1, (j3.2.1.2.1, (j3.2.1.2.2.1, (j3.2.1.2.2.2.1, (j3.2.1.2.2.2.2.1, (j3.2.1.2.2.2.2.2.1, (j3.2.1.2.2.2.2.2.2.1, (j3.2.1.2.2.2.2.2.2.2.1, ())))))))), ()))))) fun j13 =>
       some (.inl ((j13.1.1, ()), ((j13.2.1.1, (j13.2.1.2.1, (j13.2.1.2.2.1, (j13.2.1.2.2.2.1, (j13.2.1.2.2.2.2.1, (j13.2.1.2.2.2.2.2.1, (j13.2.1.2.2.2.2.2.2.1, (j13.2.1.2.2.2.2.2.2.2.1, ())))))))), ()))))
       (
       sel (decide (j3.2.1.1 = 4))
        (
        andK (spec_GoodHeader.l1 N j3.2.1.2.2.2.2.2.2.2.1 (j3.2.1.2.2.2.2.2.2.2.1.length : Int) 0 j3.2.1.1 j3.2.1.2.1 j3.2.1.2.2.1 j3.2.1.2.2.2.1 j3.2.1.2.2.2.2.1 j3.2.1.2.2.2.2.2.1 j3.2.1.2.2.2.2.2.2.1 j3.2.1.2.2.2.2.2.2.2.1) fun l15 =>
        orK l15 (fun x16 =>
         some (.inl ((x16.1.1, ()), ((x16.2.1.1, (x16.2.1.2.1, (x16.2.1.2.2.1, (x16.2.1.2.2.2.1, (x16.2.1.2.2.2.2.1, (x16.2.1.2.2.2.2.2.1, (x16.2.1.2.2.2.2.2.2.1, (x16.2.1.2.2.2.2.2.2.2.1, ())))))))), ()))))
         (fun x17 =>
         andK (α := ((Bool × Unit) × ((Int × (Int × (Int × (ByteArray × (ByteArray × (ByteArray × (ByteArray × ((List Int) × Unit)))))))) × Unit))) (
          sel (decide (x17.2.1.2.2.1 = 0))
           (
           sel (decide (x17.2.1.2.2.2.2.2.2.1 = (⟨#[]⟩ : ByteArray)))
            (
            andK (spec_l1In N (x17.2.1.2.2.2.2.2.2.2.1.length : Int) 1 20) fun u18 =>
            some (((u18.1.1, ()), ((x17.2.1.1, (x17.2.1.2.1, (x17.2.1.2.2.1, (x17.2.1.2.2.2.1, (x17.2.1.2.2.2.2.1, (x17.2.1.2.2.2.2.2.1, (x17.2.1.2.2.2.2.2.2.1, (x17.2.1.2.2.2.2.2.2.2.1, ())))))))), ()))))
            (
            some (((false, ()), ((x17.2.1.1, (x17.2.1.2.1, (x17.2.1.2.2.1, (x17.2.1.2.2.2.1, (x17.2.1.2.2.2.2.1, (x17.2.1.2.2.2.2.2.1, (x17.2.1.2.2.2.2.2.2.1, (x17.2.1.2.2.2.2.2.2.2.1, ())))))))), ())))))
           (
           some (((false, ()), ((x17.2.1.1, (x17.2.1.2.1, (x17.2.1.2.2.1, (x17.2.1.2.2.2.1, (x17.2.1.2.2.2.2.1, (x17.2.1.2.2.2.2.2.1, (x17.2.1.2.2.2.2.2.2.1, (x17.2.1.2.2.2.2.2.2.2.1, ())))))))), ()))))) fun j19 =>
         some (.inl ((j19.1.1, ()), ((j19.2.1.1, (j19.2.1.2.1, (j19.2.1.2.2.1, (j19.2.1.2.2.2.1, (j19.2.1.2.2.2.2.1, (j19.2.1.2.2.2.2.2.1, (j19.2.1.2.2.2.2.2.2.1, (j19.2.1.2.2.2.2.2.2.2.1, ())))))))), ())))))
        (
        some (.inr ((((), ()), ((j3.2.1.1, (j3.2.1.2.1, (j3.2.1.2.2.1, (j3.2.1.2.2.2.1, (j3.2.1.2.2.2.2.1, (j3.2.1.2.2.2.2.2.1, (j3.2.1.2.2.2.2.2.2.1, (j3.2.1.2.2.2.2.2.2.2.1, ())))))))), ())))))))
      (
      sel (decide (j3.2.1.1 = 2))
       (
       sel (decide (j3.2.1.1 = 2))
        (
        andK (α := ((Bool × Unit) × ((Int × (Int × (Int × (ByteArray × (ByteArray × (ByteArray × (ByteArray × ((List Int) × Unit)))))))) × Unit))) (
         andK (spec_l1In N j3.2.1.2.2.1 1 4294967295) fun u20 =>
         sel u20.1.1
          (
          some ((((!(decide (j3.2.1.2.2.2.2.2.2.1 = (⟨#[]⟩ : ByteArray)))), ()), ((j3.2.1.1, (j3.2.1.2.1, (j3.2.1.2.2.1, (j3.2.1.2.2.2.1, (j3.2.1.2.2.2.2.1, (j3.2.1.2.2.2.2.2.1, (j3.2.1.2.2.2.2.2.2.1, (j3.2.1.2.2.2.2.2.2.2.1, ())))))))), ()))))
          (
          some (((false, ()), ((j3.2.1.1, (j3.2.1.2.1, (j3.2.1.2.2.1, (j3.2.1.2.2.2.1, (j3.2.1.2.2.2.2.1, (j3.2.1.2.2.2.2.2.1, (j3.2.1.2.2.2.2.2.2.1, (j3.2.1.2.2.2.2.2.2.2.1, ())))))))), ()))))) fun j21 =>
        some (.inl ((j21.1.1, ()), ((j21.2.1.1, (j21.2.1.2.1, (j21.2.1.2.2.1, (j21.2.1.2.2.2.1, (j21.2.1.2.2.2.2.1, (j21.2.1.2.2.2.2.2.1, (j21.2.1.2.2.2.2.2.2.1, (j21.2.1.2.2.2.2.2.2.2.1, ())))))))), ()))))
        (
        sel (decide (j3.2.1.1 = 4))
         (
         andK (spec_GoodHeader.l2 N j3.2.1.2.2.2.2.2.2.2.1 (j3.2.1.2.2.2.2.2.2.2.1.length : Int) 0 j3.2.1.1 j3.2.1.2.1 j3.2.1.2.2.1 j3.2.1.2.2.2.1 j3.2.1.2.2.2.2.1 j3.2.1.2.2.2.2.2.1 j3.2.1.2.2.2.2.2.2.1 j3.2.1.2.2.2.2.2.2.2.1) fun l23 =>
         orK l23 (fun x24 =>
          some (.inl ((x24.1.1, ()), ((x24.2.1.1, (x24.2.1.2.1, (x24.2.1.2.2.1, (x24.2.1.2.2.2.1, (x24.2.1.2.2.2.2.1, (x24.2.1.2.2.2.2.2.1, (x24.2.1.2.2.2.2.2.2.1, (x24.2.1.2.2.2.2.2.2.2.1, ())))))))), ()))))
          (fun x25 =>
          andK (α := ((Bool × Unit) × ((Int × (Int × (Int × (ByteArray × (ByteArray × (ByteArray × (ByteArray × ((List Int) × Unit)))))))) × Unit))) (
           sel (decide (x25.2.1.2.2.1 = 0))
            (
            sel (decide (x25.2.1.2.2.2.2.2.2.1 = (⟨#[]⟩ : ByteArray)))
             (
             andK (spec_l1In N (x25.2.1.2.2.2.2.2.2.2.1.length : Int) 1 20) fun u26 =>
             some (((u26.1.1, ()), ((x25.2.1.1, (x25.2.1.2.1, (x25.2.1.2.2.1, (x25.2.1.2.2.2.1, (x25.2.1.2.2.2.2.1, (x25.2.1.2.2.2.2.2.1, (x25.2.1.2.2.2.2.2.2.1, (x25.2.1.2.2.2.2.2.2.2.1, ())))))))), ()))))
             (
             some (((false, ()), ((x25.2.1.1, (x25.2.1.2.1, (x25.2.1.2.2.1, (x25.2.1.2.2.2.1, (x25.2.1.2.2.2.2.1, (x25.2.1.2.2.2.2.2.1, (x25.2.1.2.2.2.2.2.2.1, (x25.2.1.2.2.2.2.2.2.2.1, ())))))))), ())))))
            (
            some (((false, ()), ((x25.2.1.1, (x25.2.1.2.1, (x25.2.1.2.2.1, (x25.2.1.2.2.2.1, (x25.2.1.2.2.2.2.1, (x25.2.1.2.2.2.2.2.1, (x25.2.1.2.2.2.2.2.2.1, (x25.2.1.2.2.2.2.2.2.2.1, ())))))))), ()))))) fun j27 =>
          some (.inl ((j27.1.1, ()), ((j27.2.1.1, (j27.2.1.2.1, (j27.2.1.2.2.1, (j27.2.1.2.2.2.1, (j27.2.1.2.2.2.2.1, (j27.2.1.2.2.2.2.2.1, (j27.2.1.2.2.2.2.2.2.1, (j27.2.1.2.2.2.2.2.2.2.1, ())))))))), ())))))
         (
         some (.inr ((((), ()), ((j3.2.1.1, (j3.2.1.2.1, (j3.2.1.2.2.1, (j3.2.1.2.2.2.1, (j3.2.1.2.2.2.2.1, (j3.2.1.2.2.2.2.2.1, (j3.2.1.2.2.2.2.2.2.1, (j3.2.1.2.2.2.2.2.2.2.1, ())))))))), ())))))))
       (
       sel (decide (j3.2.1.1 = 3))
        (
        andK (α := ((Bool × Unit) × ((Int × (Int × (Int × (ByteArray × (ByteArray × (ByteArray × (ByteArray × ((List Int) × Unit)))))))) × Unit))) (
         andK (spec_l1In N j3.2.1.2.2.1 1 4294967295) fun u28 =>
         sel u28.1.1
          (
          some ((((!(decide (j3.2.1.2.2.2.2.2.2.1 = (⟨#[]⟩ : ByteArray)))), ()), ((j3.2.1.1, (j3.2.1.2.1, (j3.2.1.2.2.1, (j3.2.1.2.2.2.1, (j3.2.1.2.2.2.2.1, (j3.2.1.2.2.2.2.2.1, (j3.2.1.2.2.2.2.2.2.1, (j3.2.1.2.2.2.2.2.2.2.1, ())))))))), ()))))
          (
          some (((false, ()), ((j3.2.1.1, (j3.2.1.2.1, (j3.2.1.2.2.1, (j3.2.1.2.2.2.1, (j3.2.1.2.2.2.2.1, (j3.2.1.2.2.2.2.2.1, (j3.2.1.2.2.2.2.2.2.1, (j3.2.1.2.2.2.2.2.2.2.1, ())))))))), ()))))) fun j29 =>
        some (.inl ((j29.1.1, ()), ((j29.2.1.1, (j29.2.1.2.1, (j29.2.1.2.2.1, (j29.2.1.2.2.2.1, (j29.2.1.2.2.2.2.1, (j29.2.1.2.2.2.2.2.1, (j29.2.1.2.2.2.2.2.2.1, (j29.2.1.2.2.2.2.2.2.2.1, ())))))))), ()))))
        (
        sel (decide (j3.2.1.1 = 4))
         (
         andK (spec_GoodHeader.l3 N j3.2.1.2.2.2.2.2.2.2.1 (j3.2.1.2.2.2.2.2.2.2.1.length : Int) 0 j3.2.1.1 j3.2.1.2.1 j3.2.1.2.2.1 j3.2.1.2.2.2.1 j3.2.1.2.2.2.2.1 j3.2.1.2.2.2.2.2.1 j3.2.1.2.2.2.2.2.2.1 j3.2.1.2.2.2.2.2.2.2.1) fun l31 =>
         orK l31 (fun x32 =>
          some (.inl ((x32.1.1, ()), ((x32.2.1.1, (x32.2.1.2.1, (x32.2.1.2.2.1, (x32.2.1.2.2.2.1, (x32.2.1.2.2.2.2.1, (x32.2.1.2.2.2.2.2.1, (x32.2.1.2.2.2.2.2.2.1, (x32.2.1.2.2.2.2.2.2.2.1, ())))))))), ()))))
          (fun x33 =>
          andK (α := ((Bool × Unit) × ((Int × (Int × (Int × (ByteArray × (ByteArray × (ByteArray × (ByteArray × ((List Int) × Unit)))))))) × Unit))) (
           sel (decide (x33.2.1.2.2.1 = 0))
            (
            sel (decide (x33.2.1.2.2.2.2.2.2.1 = (⟨#[]⟩ : ByteArray)))
             (
             andK (spec_l1In N (x33.2.1.2.2.2.2.2.2.2.1.length : Int) 1 20) fun u34 =>
             some (((u34.1.1, ()), ((x33.2.1.1, (x33.2.1.2.1, (x33.2.1.2.2.1, (x33.2.1.2.2.2.1, (x33.2.1.2.2.2.2.1, (x33.2.1.2.2.2.2.2.1, (x33.2.1.2.2.2.2.2.2.1, (x33.2.1.2.2.2.2.2.2.2.1, ())))))))), ()))))
             (
             some (((false, ()), ((x33.2.1.1, (x33.2.1.2.1, (x33.2.1.2.2.1, (x33.2.1.2.2.2.1, (x33.2.1.2.2.2.2.1, (x33.2.1.2.2.2.2.2.1, (x33.2.1.2.2.2.2.2.2.1, (x33.2.1.2.2.2.2.2.2.2.1, ())))))))), ())))))
            (
            some (((false, ()), ((x33.2.1.1, (x33.2.1.2.1, (x33.2.1.2.2.1, (x33.2.1.2.2.2.1, (x33.2.1.2.2.2.2.1, (x33.2.1.2.2.2.2.2.1, (x33.2.1.2.2.2.2.2.2.1, (x33.2.1.2.2.2.2.2.2.2.1, ())))))))), ()))))) fun j35 =>
          some (.inl ((j35.1.1, ()), ((j35.2.1.1, (j35.2.1.2.1, (j35.2.1.2.2.1, (j35.2.1.2.2.2.1, (j35.2.1.2.2.2.2.1, (j35.2.1.2.2.2.2.2.1, (j35.2.1.2.2.2.2.2.2.1, (j35.2.1.2.2.2.2.2.2.2.1, ())))))))), ())))))
         (
         some (.inr ((((), ()), ((j3.2.1.1, (j3.2.1.2.1, (j3.2.1.2.2.1, (j3.2.1.2.2.2.1, (j3.2.1.2.2.2.2.1, (j3.2.1.2.2.2.2.2.1, (j3.2.1.2.2.2.2.2.2.1, (j3.2.1.2.2.2.2.2.2.2.1, ())))))))), ())))))))))) fun j36 =>
   orK j36 (fun x37 =>
    some ((x37.1.1, ()), ()))
    (fun x38 =>
    sel (decide (x38.2.1.1 = 5))
     (
     sel (decide (x38.2.1.2.2.2.2.1 = (⟨#[]⟩ : ByteArray)))
      (
      some (((decide (x38.2.1.2.2.1 = 0)), ()), ()))
      (
      some ((false, ()), ())))
     (
     some ((false, ()), ()))))) := by kernel_rfl
set_option maxRecDepth 100000 in
theorem spec_GoodHeader.say (N : Nat) : SayOk Try.prog (spec_GoodHeader.S N) := sayOk_mk (N := N) (H := spec_GoodHeader.H) (preps := [⟨[], [], [], []⟩]) (l := spec_GoodHeader.says) (fn := Try.f86) (c := bodyOf Try.f86)
  (by kernel_rfl) (by kernel_rfl) (by kernel_rfl) (by kernel_rfl) (by kernel_rfl) (by kernel_rfl) (by kernel_rfl)
  (fun N => SayAll.cons (spec_l1In.say N) (SayAll.cons (spec_l2Word.say N) (SayAll.nil))) (fun a s => by kernel_rfl)

/-! ### loop.example/g00206/spec.l2Header: function 113 -/
noncomputable def spec_l2Header.H : Hints := hintsOf [(5000003, .join [⟨.normal, [], [4, 7, 8, 24], [.one (.ptr 0 0), .one (.ptr 1 0), .one (.ptr 2 0), ak_b], [.cells [ck_i, ck_i, ck_i, ck_s, ck_s, ck_s, ck_s, .nil], .cells [ck_s, ck_i, ck_i], .cells [ck_i, ck_i, ck_i, ck_s, ck_s, ck_s, ck_s, .sh (.rows (.int .i64))]], [⟨[], [], [], []⟩]⟩]),
  (5, .join [⟨.normal, [], [4, 7, 8], [.one (.ptr 0 0), .one (.ptr 1 0), .one (.ptr 2 0)], [.cells [ck_i, ck_i, ck_i, ck_s, ck_s, ck_s, ck_s, .nil], .cells [ck_s, ck_i, ck_i], .cells [ck_i, ck_i, ck_i, ck_s, ck_s, ck_s, ck_s, .sh (.rows (.int .i64))]], [⟨[], [], [], []⟩]⟩])]
noncomputable def spec_l2Header.says (N : Nat) : List Say := [spec_l2Read.S N, spec_GoodHeader.S N]
noncomputable def spec_l2Header.call (N : Nat) : CallK := callBy (spec_l2Header.says N)
noncomputable def spec_l2Header.qt (N : Nat) : FuncId → List PV → Sig → Cl := qtBy (spec_l2Header.says N)
noncomputable def spec_l2Header (N : Nat) (s : ByteArray) (short : Int) : Option (((Int × (Int × (Int × (ByteArray × (ByteArray × (ByteArray × (ByteArray × ((List Int) × Unit)))))))) × (Int × (Int × Unit))) × Unit) :=
  ofFn Try.prog spec_l2Header.call spec_l2Header.qt spec_l2Header.H N Try.f113 [ak_s, ak_i] [] [.agg [ck_i, ck_i, ck_i, ck_s, ck_s, ck_s, ck_s, .sh (.rows (.int .i64))], ak_i, ak_i] [] [⟨[], [], [], []⟩] (s, (short, ())) ()
noncomputable def spec_l2Header.S (N : Nat) : Say := ⟨false, 113, [ak_s, ak_i], [], [.agg [ck_i, ck_i, ck_i, ck_s, ck_s, ck_s, ck_s, .sh (.rows (.int .i64))], ak_i, ak_i], [], fun a s => spec_l2Header N a.1 a.2.1⟩
set_option maxRecDepth 100000 in
theorem spec_l2Header.eq (N : Nat) (s : ByteArray) (short : Int) : spec_l2Header N s short =
 andK (spec_l2Read N short s 0 0) fun u1 =>
 andK (α := ((Unit × (Unit × (Unit × Unit))) × ((Int × (Int × (Int × (ByteArray × (ByteArray × (ByteArray × (ByteArray × (Unit × Unit)))))))) × ((ByteArray × (Int × (Int × Unit))) × ((Int × (Int × (Int × (ByteArray × (ByteArray × (ByteArray × (ByteArray × ((List Int) × Unit)))))))) × Unit))))) (
  andK (α := ((Unit × (Unit × (Unit × (Bool × Unit)))) × ((Int × (Int × (Int × (ByteArray × (ByteArray × (ByteArray × (ByteArray × (Unit × Unit)))))))) × ((ByteArray × (Int × (Int × Unit))) × ((Int × (Int × (Int × (ByteArray × (ByteArray × (ByteArray × (ByteArray × ((List Int) × Unit)))))))) × Unit))))) (
   sel (decide (u1.2.1.2.2.1 = 0))
    (
    andK (spec_GoodHeader N u1.1.1.1 u1.1.1.2.1 u1.1.1.2.2.1 u1.1.1.2.2.2.1 u1.1.1.2.2.2.2.1 u1.1.1.2.2.2.2.2.1 u1.1.1.2.2.2.2.2.2.1 u1.1.1.2.2.2.2.2.2.2.1) fun u2 =>
    some ((((), ((), ((), ((!u2.1.1), ())))), ((0, (0, (0, ((⟨#[]⟩ : ByteArray), ((⟨#[]⟩ : ByteArray), ((⟨#[]⟩ : ByteArray), ((⟨#[]⟩ : ByteArray), ((), ())))))))), ((u1.2.1.1, (u1.2.1.2.1, (u1.2.1.2.2.1, ()))), ((u1.1.1.1, (u1.1.1.2.1, (u1.1.1.2.2.1, (u1.1.1.2.2.2.1, (u1.1.1.2.2.2.2.1, (u1.1.1.2.2.2.2.2.1, (u1.1.1.2.2.2.2.2.2.1, (u1.1.1.2.2.2.2.2.2.2.1, ())))))))), ()))))))
    (
    some ((((), ((), ((), (false, ())))), ((0, (0, (0, ((⟨#[]⟩ : ByteArray), ((⟨#[]⟩ : ByteArray), ((⟨#[]⟩ : ByteArray), ((⟨#[]⟩ : ByteArray), ((), ())))))))), ((u1.2.1.1, (u1.2.1.2.1, (u1.2.1.2.2.1, ()))), ((u1.1.1.1, (u1.1.1.2.1, (u1.1.1.2.2.1, (u1.1.1.2.2.2.1, (u1.1.1.2.2.2.2.1, (u1.1.1.2.2.2.2.2.1, (u1.1.1.2.2.2.2.2.2.1, (u1.1.1.2.2.2.2.2.2.2.1, ())))))))), ()))))))) fun j3 =>
  sel j3.1.2.2.2.1
   (
   some ((((), ((), ((), ()))), ((j3.2.1.1, (j3.2.1.2.1, (j3.2.1.2.2.1, (j3.2.1.2.2.2.1, (j3.2.1.2.2.2.2.1, (j3.2.1.2.2.2.2.2.1, (j3.2.1.2.2.2.2.2.2.1, ((), ())))))))), ((j3.2.2.1.1, (j3.2.2.1.2.1, (3, ()))), ((j3.2.2.2.1.1, (j3.2.2.2.1.2.1, (j3.2.2.2.1.2.2.1, (j3.2.2.2.1.2.2.2.1, (j3.2.2.2.1.2.2.2.2.1, (j3.2.2.2.1.2.2.2.2.2.1, (j3.2.2.2.1.2.2.2.2.2.2.1, (j3.2.2.2.1.2.2.2.2.2.2.2.1, ())))))))), ()))))))
   (
   some ((((), ((), ((), ()))), ((j3.2.1.1, (j3.2.1.2.1, (j3.2.1.2.2.1, (j3.2.1.2.2.2.1, (j3.2.1.2.2.2.2.1, (j3.2.1.2.2.2.2.2.1, (j3.2.1.2.2.2.2.2.2.1, ((), ())))))))), ((j3.2.2.1.1, (j3.2.2.1.2.1, (j3.2.2.1.2.2.1, ()))), ((j3.2.2.2.1.1, (j3.2.2.2.1.2.1, (j3.2.2.2.1.2.2.1, (j3.2.2.2.1.2.2.2.1, (j3.2.2.2.1.2.2.2.2.1, (j3.2.2.2.1.2.2.2.2.2.1, (j3.2.2.2.1.2.2.2.2.2.2.1, (j3.2.2.2.1.2.2.2.2.2.2.2.1, ())))))))), ()))))))) fun j4 =>
 sel (!(decide (j4.2.2.1.2.2.1 = 0)))
  (
  some (((0, (0, (0, ((⟨#[]⟩ : ByteArray), ((⟨#[]⟩ : ByteArray), ((⟨#[]⟩ : ByteArray), ((⟨#[]⟩ : ByteArray), ([], ())))))))), (0, (j4.2.2.1.2.2.1, ()))), ()))
  (
  some (((j4.2.2.2.1.1, (j4.2.2.2.1.2.1, (j4.2.2.2.1.2.2.1, (j4.2.2.2.1.2.2.2.1, (j4.2.2.2.1.2.2.2.2.1, (j4.2.2.2.1.2.2.2.2.2.1, (j4.2.2.2.1.2.2.2.2.2.2.1, (j4.2.2.2.1.2.2.2.2.2.2.2.1, ())))))))), (j4.2.2.1.2.1, (0, ()))), ())) := by kernel_rfl
set_option maxRecDepth 100000 in
theorem spec_l2Header.say (N : Nat) : SayOk Try.prog (spec_l2Header.S N) := sayOk_mk (N := N) (H := spec_l2Header.H) (preps := [⟨[], [], [], []⟩]) (l := spec_l2Header.says) (fn := Try.f113) (c := bodyOf Try.f113)
  (by kernel_rfl) (by kernel_rfl) (by kernel_rfl) (by kernel_rfl) (by kernel_rfl) (by kernel_rfl) (by kernel_rfl)
  (fun N => SayAll.cons (spec_l2Read.say N) (SayAll.cons (spec_GoodHeader.say N) (SayAll.nil))) (fun a s => by kernel_rfl)

/-! ### loop.example/g00206/spec.l2Cut: function 54 -/
noncomputable def spec_l2Cut.H : Hints := hintsOf [(2000002, .loop ⟨.normal, [1], [0, 6], [ak_s, .one (.own 0)], [.rows .str], [⟨[(6, .str)], [], [], [0]⟩, ⟨[], [], [], [0]⟩]⟩ [⟨.ret, [], [4, 5], [.one .nil, ak_b], [], [⟨[], [], [], []⟩]⟩, ⟨(.exit 0), [], [6], [.one (.own 0)], [.rows .str], [⟨[], [], [], [0]⟩]⟩])]
noncomputable def spec_l2Cut.says (N : Nat) : List Say := [spec_l2Header.S N]
noncomputable def spec_l2Cut.call (N : Nat) : CallK := callBy (spec_l2Cut.says N)
noncomputable def spec_l2Cut.qt (N : Nat) : FuncId → List PV → Sig → Cl := qtBy (spec_l2Cut.says N)
noncomputable def spec_l2Cut.l0.hd : Alt := ⟨.normal, [1], [0, 6], [ak_s, .one (.own 0)], [.rows .str], [⟨[(6, .str)], [], [], [0]⟩, ⟨[], [], [], [0]⟩]⟩
noncomputable def spec_l2Cut.l0.outs : List Alt := [⟨.ret, [], [4, 5], [.one .nil, ak_b], [], [⟨[], [], [], []⟩]⟩, ⟨(.exit 0), [], [6], [.one (.own 0)], [.rows .str], [⟨[], [], [], [0]⟩]⟩]
noncomputable def spec_l2Cut.l0 (N : Nat) (short1 : Int) (s1 : ByteArray) (p0 : (List ByteArray)) : Option (((Unit × (Bool × Unit)) × Unit) ⊕ ((Unit × Unit) × ((List ByteArray) × Unit))) :=
  loopK Try.prog spec_l2Cut.call spec_l2Cut.qt spec_l2Cut.H (codeAt (bodyOf Try.f54) [1, 1, 0, 0, 0]) 0 spec_l2Cut.l0.hd spec_l2Cut.l0.outs [(1, .v (.int .i64 short1))] N ((s1, ((), ())), (p0, ()))
noncomputable def spec_l2Cut (N : Nat) (s : ByteArray) (short : Int) : Option ((Unit × (Bool × Unit)) × ((List ByteArray) × Unit)) :=
  ofFn Try.prog spec_l2Cut.call spec_l2Cut.qt spec_l2Cut.H N Try.f54 [ak_s, ak_i] [] [.one (.own 0), ak_b] [.rows .str] [⟨[(0, .str)], [], [], [0]⟩, ⟨[], [], [], [0]⟩] (s, (short, ())) ()
noncomputable def spec_l2Cut.S (N : Nat) : Say := ⟨false, 54, [ak_s, ak_i], [], [.one (.own 0), ak_b], [.rows .str], fun a s => spec_l2Cut N a.1 a.2.1⟩
set_option maxRecDepth 100000 in
theorem spec_l2Cut.l0.eq (N : Nat) (short1 : Int) (s1 : ByteArray) (p0 : (List ByteArray)) : spec_l2Cut.l0 (N + 1) short1 s1 p0 =
 sel (decide (0 < (s1.size : Int)))
  (
  andK (spec_l2Header N s1 short1) fun u1 =>
  sel (!(decide (u1.1.2.2.1 = 0)))
   (
   some (.inl (((), (false, ())), ())))
   (
   chk ((decide (0 ≤ u1.1.2.1)) && (decide (u1.1.2.1 ≤ (s1.size : Int)))) (
   chk (decide (p0.length + 1 < most)) (
   chk ((decide (0 ≤ u1.1.2.1)) && ((decide (u1.1.2.1 ≤ (s1.size : Int))) && (decide ((s1.size : Int) ≤ (s1.size : Int))))) (
   spec_l2Cut.l0 N short1 (s1.extract (Int.toNat u1.1.2.1) (Int.toNat (s1.size : Int))) (p0 ++ [(s1.extract 0 (Int.toNat u1.1.2.1))]))))))
  (
  some (.inr ((((), ()), (p0, ()))))) := by kernel_rfl
set_option maxRecDepth 100000 in
theorem spec_l2Cut.eq (N : Nat) (s : ByteArray) (short : Int) : spec_l2Cut N s short =
 andK (spec_l2Cut.l0 N short s []) fun l2 =>
 orK l2 (fun x3 =>
  some (((), (x3.1.2.1, ())), ([], ())))
  (fun x4 =>
  some (((), (true, ())), (x4.2.1, ()))) := by kernel_rfl
set_option maxRecDepth 100000 in
theorem spec_l2Cut.say (N : Nat) : SayOk Try.prog (spec_l2Cut.S N) := sayOk_mk (N := N) (H := spec_l2Cut.H) (preps := [⟨[(0, .str)], [], [], [0]⟩, ⟨[], [], [], [0]⟩]) (l := spec_l2Cut.says) (fn := Try.f54) (c := bodyOf Try.f54)
  (by kernel_rfl) (by kernel_rfl) (by kernel_rfl) (by kernel_rfl) (by kernel_rfl) (by kernel_rfl) (by kernel_rfl)
  (fun N => SayAll.cons (spec_l2Header.say N) (SayAll.nil)) (fun a s => by kernel_rfl)

/-! ### loop.example/g00206/spec.CutDatagram: function 13 -/
noncomputable def spec_CutDatagram.H : Hints := hintsOf [(5000001, .join [⟨.normal, [0, 1], [13], [ak_b], [], [⟨[], [], [], []⟩]⟩])]
noncomputable def spec_CutDatagram.says (N : Nat) : List Say := [spec_l1In.S N, spec_l2Cut.S N]
noncomputable def spec_CutDatagram.call (N : Nat) : CallK := callBy (spec_CutDatagram.says N)
noncomputable def spec_CutDatagram.qt (N : Nat) : FuncId → List PV → Sig → Cl := qtBy (spec_CutDatagram.says N)
noncomputable def spec_CutDatagram (N : Nat) (s : ByteArray) (short : Int) : Option ((Unit × (Bool × Unit)) × ((List ByteArray) × Unit)) :=
  ofFn Try.prog spec_CutDatagram.call spec_CutDatagram.qt spec_CutDatagram.H N Try.f13 [ak_s, ak_i] [] [.one (.own 0), ak_b] [.rows .str] [⟨[(0, .str)], [], [], [0]⟩, ⟨[], [], [], [0]⟩] (s, (short, ())) ()
noncomputable def spec_CutDatagram.S (N : Nat) : Say := ⟨false, 13, [ak_s, ak_i], [], [.one (.own 0), ak_b], [.rows .str], fun a s => spec_CutDatagram N a.1 a.2.1⟩
set_option maxRecDepth 100000 in
theorem spec_CutDatagram.eq (N : Nat) (s : ByteArray) (short : Int) : spec_CutDatagram N s short =
 andK (α := ((Bool × Unit) × Unit)) (
  sel (decide (1500 < (s.size : Int)))
   (
   some (((true, ()), ())))
   (
   andK (spec_l1In N short 0 20) fun u1 =>
   some ((((!u1.1.1), ()), ())))) fun j2 =>
 sel j2.1.1
  (
  some (((), (false, ())), ([], ())))
  (
  andK (spec_l2Cut N s short) fun u3 =>
  some (((), (u3.1.2.1, ())), (u3.2.1, ()))) := by kernel_rfl
set_option maxRecDepth 100000 in
theorem spec_CutDatagram.say (N : Nat) : SayOk Try.prog (spec_CutDatagram.S N) := sayOk_mk (N := N) (H := spec_CutDatagram.H) (preps := [⟨[(0, .str)], [], [], [0]⟩, ⟨[], [], [], [0]⟩]) (l := spec_CutDatagram.says) (fn := Try.f13) (c := bodyOf Try.f13)
  (by kernel_rfl) (by kernel_rfl) (by kernel_rfl) (by kernel_rfl) (by kernel_rfl) (by kernel_rfl) (by kernel_rfl)
  (fun N => SayAll.cons (spec_l1In.say N) (SayAll.cons (spec_l2Cut.say N) (SayAll.nil))) (fun a s => by kernel_rfl)

/-! ### loop.example/g00206/impl.in: function 59 -/
noncomputable def impl_in.H : Hints := hintsOf []
noncomputable def impl_in.says (N : Nat) : List Say := []
noncomputable def impl_in.call (N : Nat) : CallK := callBy (impl_in.says N)
noncomputable def impl_in.qt (N : Nat) : FuncId → List PV → Sig → Cl := qtBy (impl_in.says N)
noncomputable def impl_in (N : Nat) (n : Int) (low : Int) (high : Int) : Option ((Bool × Unit) × Unit) :=
  ofFn Try.prog impl_in.call impl_in.qt impl_in.H N Try.f59 [ak_i, ak_i, ak_i] [] [ak_b] [] [⟨[], [], [], []⟩] (n, (low, (high, ()))) ()
noncomputable def impl_in.S (N : Nat) : Say := ⟨false, 59, [ak_i, ak_i, ak_i], [], [ak_b], [], fun a s => impl_in N a.1 a.2.1 a.2.2.1⟩
set_option maxRecDepth 100000 in
theorem impl_in.eq (N : Nat) (n : Int) (low : Int) (high : Int) : impl_in N n low high =
 sel (decide (low ≤ n))
  (
  some (((decide (n ≤ high)), ()), ()))
  (
  some ((false, ()), ())) := by kernel_rfl
set_option maxRecDepth 100000 in
theorem impl_in.say (N : Nat) : SayOk Try.prog (impl_in.S N) := sayOk_mk (N := N) (H := impl_in.H) (preps := [⟨[], [], [], []⟩]) (l := impl_in.says) (fn := Try.f59) (c := bodyOf Try.f59)
  (by kernel_rfl) (by kernel_rfl) (by kernel_rfl) (by kernel_rfl) (by kernel_rfl) (by kernel_rfl) (by kernel_rfl)
  (fun N => SayAll.nil) (fun a s => by kernel_rfl)

/-! ### loop.example/g00206/impl.shortOk: function 55 -/
noncomputable def impl_shortOk.H : Hints := hintsOf []
noncomputable def impl_shortOk.says (N : Nat) : List Say := [impl_in.S N]
noncomputable def impl_shortOk.call (N : Nat) : CallK := callBy (impl_shortOk.says N)
noncomputable def impl_shortOk.qt (N : Nat) : FuncId → List PV → Sig → Cl := qtBy (impl_shortOk.says N)
noncomputable def impl_shortOk (N : Nat) (short : Int) : Option ((Bool × Unit) × Unit) :=
  ofFn Try.prog impl_shortOk.call impl_shortOk.qt impl_shortOk.H N Try.f55 [ak_i] [] [ak_b] [] [⟨[], [], [], []⟩] (short, ()) ()
noncomputable def impl_shortOk.S (N : Nat) : Say := ⟨false, 55, [ak_i], [], [ak_b], [], fun a s => impl_shortOk N a.1⟩
set_option maxRecDepth 100000 in
theorem impl_shortOk.eq (N : Nat) (short : Int) : impl_shortOk N short =
 andK (impl_in N short 0 20) fun u1 =>
 some ((u1.1.1, ()), ()) := by kernel_rfl
set_option maxRecDepth 100000 in
theorem impl_shortOk.say (N : Nat) : SayOk Try.prog (impl_shortOk.S N) := sayOk_mk (N := N) (H := impl_shortOk.H) (preps := [⟨[], [], [], []⟩]) (l := impl_shortOk.says) (fn := Try.f55) (c := bodyOf Try.f55)
  (by kernel_rfl) (by kernel_rfl) (by kernel_rfl) (by kernel_rfl) (by kernel_rfl) (by kernel_rfl) (by kernel_rfl)
  (fun N => SayAll.cons (impl_in.say N) (SayAll.nil)) (fun a s => by kernel_rfl)

/-! ### (*loop.example/g00206/impl.cursor).take: function 90 -/
noncomputable def impl_cursor_take.H : Hints := hintsOf [(5000001, .join [⟨.normal, [1], [0, 18], [.one (.ptr 0 0), ak_b], [.cells [ck_s, ck_b]], [⟨[], [], [], []⟩]⟩])]
noncomputable def impl_cursor_take.says (N : Nat) : List Say := []
noncomputable def impl_cursor_take.call (N : Nat) : CallK := callBy (impl_cursor_take.says N)
noncomputable def impl_cursor_take.qt (N : Nat) : FuncId → List PV → Sig → Cl := qtBy (impl_cursor_take.says N)
noncomputable def impl_cursor_take (N : Nat) (n : Int) (p0_0 : ByteArray) (p0_1 : Bool) : Option ((ByteArray × Unit) × ((ByteArray × (Bool × Unit)) × Unit)) :=
  ofFn Try.prog impl_cursor_take.call impl_cursor_take.qt impl_cursor_take.H N Try.f90 [.one (.ptr 0 0), ak_i] [.cells [ck_s, ck_b]] [ak_s] [.cells [ck_s, ck_b]] [⟨[], [], [], []⟩] ((), (n, ())) ((p0_0, (p0_1, ())), ())
noncomputable def impl_cursor_take.S (N : Nat) : Say := ⟨false, 90, [.one (.ptr 0 0), ak_i], [.cells [ck_s, ck_b]], [ak_s], [.cells [ck_s, ck_b]], fun a s => impl_cursor_take N a.2.1 s.1.1 s.1.2.1⟩
set_option maxRecDepth 100000 in
theorem impl_cursor_take.eq (N : Nat) (n : Int) (p0_0 : ByteArray) (p0_1 : Bool) : impl_cursor_take N n p0_0 p0_1 =
 andK (α := ((Unit × (Bool × Unit)) × ((ByteArray × (Bool × Unit)) × Unit))) (
  sel p0_1
   (
   some ((((), (true, ())), ((p0_0, (p0_1, ())), ()))))
   (
   some ((((), ((decide ((p0_0.size : Int) < n)), ())), ((p0_0, (p0_1, ())), ()))))) fun j1 =>
 sel j1.1.2.1
  (
  some (((⟨#[]⟩ : ByteArray), ()), ((j1.2.1.1, (true, ())), ())))
  (
  chk ((decide (0 ≤ n)) && (decide (n ≤ (j1.2.1.1.size : Int)))) (
  chk ((decide (0 ≤ n)) && ((decide (n ≤ (j1.2.1.1.size : Int))) && (decide ((j1.2.1.1.size : Int) ≤ (j1.2.1.1.size : Int))))) (
  some (((j1.2.1.1.extract 0 (Int.toNat n)), ()), (((j1.2.1.1.extract (Int.toNat n) (Int.toNat (j1.2.1.1.size : Int))), (j1.2.1.2.1, ())), ()))))) := by kernel_rfl
set_option maxRecDepth 100000 in
theorem impl_cursor_take.say (N : Nat) : SayOk Try.prog (impl_cursor_take.S N) := sayOk_mk (N := N) (H := impl_cursor_take.H) (preps := [⟨[], [], [], []⟩]) (l := impl_cursor_take.says) (fn := Try.f90) (c := bodyOf Try.f90)
  (by kernel_rfl) (by kernel_rfl) (by kernel_rfl) (by kernel_rfl) (by kernel_rfl) (by kernel_rfl) (by kernel_rfl)
  (fun N => SayAll.nil) (fun a s => by kernel_rfl)

/-! ### loop.example/g00206/impl.numberOf: function 107 -/
noncomputable def impl_numberOf.H : Hints := hintsOf [(2000003, .loop ⟨.normal, [0, 6], [3, 7], [.one (.sh (.int .u64)), ak_i], [], [⟨[], [], [], []⟩]⟩ [⟨(.exit 0), [], [3], [.one (.sh (.int .u64))], [], [⟨[], [], [], []⟩]⟩])]
noncomputable def impl_numberOf.says (N : Nat) : List Say := []
noncomputable def impl_numberOf.call (N : Nat) : CallK := callBy (impl_numberOf.says N)
noncomputable def impl_numberOf.qt (N : Nat) : FuncId → List PV → Sig → Cl := qtBy (impl_numberOf.says N)
noncomputable def impl_numberOf.l0.hd : Alt := ⟨.normal, [0, 6], [3, 7], [.one (.sh (.int .u64)), ak_i], [], [⟨[], [], [], []⟩]⟩
noncomputable def impl_numberOf.l0.outs : List Alt := [⟨(.exit 0), [], [3], [.one (.sh (.int .u64))], [], [⟨[], [], [], []⟩]⟩]
noncomputable def impl_numberOf.l0 (N : Nat) (s1 : ByteArray) (t6 : Int) (n : Int) (t7 : Int) : Option ((Int × Unit) × Unit) :=
  loopK Try.prog impl_numberOf.call impl_numberOf.qt impl_numberOf.H (codeAt (bodyOf Try.f107) [1, 1, 0, 1, 0, 0]) 0 impl_numberOf.l0.hd impl_numberOf.l0.outs [(0, .v (.string s1)), (6, .v (.int .i64 t6))] N ((n, (t7, ())), ())
noncomputable def impl_numberOf (N : Nat) (s : ByteArray) : Option ((Int × Unit) × Unit) :=
  ofFn Try.prog impl_numberOf.call impl_numberOf.qt impl_numberOf.H N Try.f107 [ak_s] [] [.one (.sh (.int .u64))] [] [⟨[], [], [], []⟩] (s, ()) ()
noncomputable def impl_numberOf.S (N : Nat) : Say := ⟨false, 107, [ak_s], [], [.one (.sh (.int .u64))], [], fun a s => impl_numberOf N a.1⟩
set_option maxRecDepth 100000 in
theorem impl_numberOf.l0.eq (N : Nat) (s1 : ByteArray) (t6 : Int) (n : Int) (t7 : Int) : impl_numberOf.l0 (N + 1) s1 t6 n t7 =
 sel (decide (t7 < t6))
  (
  chk ((decide (0 ≤ t7)) && (decide (t7 < (s1.size : Int)))) (
  impl_numberOf.l0 N s1 t6 (Go.bits .or .u64 (shlI .u64 n 8) (IntKind.u64.wrap ((bytesL s1).getD (Int.toNat t7) 0))) (IntKind.i64.wrap (t7 + 1))))
  (
  some (((n, ()), ()))) := by kernel_rfl
set_option maxRecDepth 100000 in
theorem impl_numberOf.eq (N : Nat) (s : ByteArray) : impl_numberOf N s =
 andK (impl_numberOf.l0 N s (s.size : Int) 0 0) fun l1 =>
 some ((l1.1.1, ()), ()) := by kernel_rfl
set_option maxRecDepth 100000 in
theorem impl_numberOf.say (N : Nat) : SayOk Try.prog (impl_numberOf.S N) := sayOk_mk (N := N) (H := impl_numberOf.H) (preps := [⟨[], [], [], []⟩]) (l := impl_numberOf.says) (fn := Try.f107) (c := bodyOf Try.f107)
  (by kernel_rfl) (by kernel_rfl) (by kernel_rfl) (by kernel_rfl) (by kernel_rfl) (by kernel_rfl) (by kernel_rfl)
  (fun N => SayAll.nil) (fun a s => by kernel_rfl)

/-! ### (*loop.example/g00206/impl.cursor).byte: function 88 -/
noncomputable def impl_cursor_byte.H : Hints := hintsOf []
noncomputable def impl_cursor_byte.says (N : Nat) : List Say := [impl_cursor_take.S N, impl_numberOf.S N]
noncomputable def impl_cursor_byte.call (N : Nat) : CallK := callBy (impl_cursor_byte.says N)
noncomputable def impl_cursor_byte.qt (N : Nat) : FuncId → List PV → Sig → Cl := qtBy (impl_cursor_byte.says N)
noncomputable def impl_cursor_byte (N : Nat) (p0_0 : ByteArray) (p0_1 : Bool) : Option ((Int × Unit) × ((ByteArray × (Bool × Unit)) × Unit)) :=
  ofFn Try.prog impl_cursor_byte.call impl_cursor_byte.qt impl_cursor_byte.H N Try.f88 [.one (.ptr 0 0)] [.cells [ck_s, ck_b]] [ak_i] [.cells [ck_s, ck_b]] [⟨[], [], [], []⟩] ((), ()) ((p0_0, (p0_1, ())), ())
noncomputable def impl_cursor_byte.S (N : Nat) : Say := ⟨false, 88, [.one (.ptr 0 0)], [.cells [ck_s, ck_b]], [ak_i], [.cells [ck_s, ck_b]], fun a s => impl_cursor_byte N s.1.1 s.1.2.1⟩
set_option maxRecDepth 100000 in
theorem impl_cursor_byte.eq (N : Nat) (p0_0 : ByteArray) (p0_1 : Bool) : impl_cursor_byte N p0_0 p0_1 =
 andK (impl_cursor_take N 1 p0_0 p0_1) fun u1 =>
 andK (impl_numberOf N u1.1.1) fun u2 =>
 some (((IntKind.i64.wrap u2.1.1), ()), ((u1.2.1.1, (u1.2.1.2.1, ())), ())) := by kernel_rfl
set_option maxRecDepth 100000 in
theorem impl_cursor_byte.say (N : Nat) : SayOk Try.prog (impl_cursor_byte.S N) := sayOk_mk (N := N) (H := impl_cursor_byte.H) (preps := [⟨[], [], [], []⟩]) (l := impl_cursor_byte.says) (fn := Try.f88) (c := bodyOf Try.f88)
  (by kernel_rfl) (by kernel_rfl) (by kernel_rfl) (by kernel_rfl) (by kernel_rfl) (by kernel_rfl) (by kernel_rfl)
  (fun N => SayAll.cons (impl_cursor_take.say N) (SayAll.cons (impl_numberOf.say N) (SayAll.nil))) (fun a s => by kernel_rfl)

/-! ### (*loop.example/g00206/impl.cursor).rest: function 135 -/
noncomputable def impl_cursor_rest.H : Hints := hintsOf []
noncomputable def impl_cursor_rest.says (N : Nat) : List Say := [impl_cursor_take.S N]
noncomputable def impl_cursor_rest.call (N : Nat) : CallK := callBy (impl_cursor_rest.says N)
noncomputable def impl_cursor_rest.qt (N : Nat) : FuncId → List PV → Sig → Cl := qtBy (impl_cursor_rest.says N)
noncomputable def impl_cursor_rest (N : Nat) (p0_0 : ByteArray) (p0_1 : Bool) : Option ((ByteArray × Unit) × ((ByteArray × (Bool × Unit)) × Unit)) :=
  ofFn Try.prog impl_cursor_rest.call impl_cursor_rest.qt impl_cursor_rest.H N Try.f135 [.one (.ptr 0 0)] [.cells [ck_s, ck_b]] [ak_s] [.cells [ck_s, ck_b]] [⟨[], [], [], []⟩] ((), ()) ((p0_0, (p0_1, ())), ())
noncomputable def impl_cursor_rest.S (N : Nat) : Say := ⟨false, 135, [.one (.ptr 0 0)], [.cells [ck_s, ck_b]], [ak_s], [.cells [ck_s, ck_b]], fun a s => impl_cursor_rest N s.1.1 s.1.2.1⟩
set_option maxRecDepth 100000 in
theorem impl_cursor_rest.eq (N : Nat) (p0_0 : ByteArray) (p0_1 : Bool) : impl_cursor_rest N p0_0 p0_1 =
 andK (impl_cursor_take N (p0_0.size : Int) p0_0 p0_1) fun u1 =>
 some ((u1.1.1, ()), ((u1.2.1.1, (u1.2.1.2.1, ())), ())) := by kernel_rfl
set_option maxRecDepth 100000 in
theorem impl_cursor_rest.say (N : Nat) : SayOk Try.prog (impl_cursor_rest.S N) := sayOk_mk (N := N) (H := impl_cursor_rest.H) (preps := [⟨[], [], [], []⟩]) (l := impl_cursor_rest.says) (fn := Try.f135) (c := bodyOf Try.f135)
  (by kernel_rfl) (by kernel_rfl) (by kernel_rfl) (by kernel_rfl) (by kernel_rfl) (by kernel_rfl) (by kernel_rfl)
  (fun N => SayAll.cons (impl_cursor_take.say N) (SayAll.nil)) (fun a s => by kernel_rfl)

/-! ### loop.example/g00206/impl.TakeVarint: function 141 -/
noncomputable def impl_TakeVarint.H : Hints := hintsOf []
noncomputable def impl_TakeVarint.says (N : Nat) : List Say := [impl_numberOf.S N]
noncomputable def impl_TakeVarint.call (N : Nat) : CallK := callBy (impl_TakeVarint.says N)
noncomputable def impl_TakeVarint.qt (N : Nat) : FuncId → List PV → Sig → Cl := qtBy (impl_TakeVarint.says N)
noncomputable def impl_TakeVarint (N : Nat) (s : ByteArray) : Option ((Int × (Int × Unit)) × Unit) :=
  ofFn Try.prog impl_TakeVarint.call impl_TakeVarint.qt impl_TakeVarint.H N Try.f141 [ak_s] [] [ak_i, ak_i] [] [⟨[], [], [], []⟩] (s, ()) ()
noncomputable def impl_TakeVarint.S (N : Nat) : Say := ⟨false, 141, [ak_s], [], [ak_i, ak_i], [], fun a s => impl_TakeVarint N a.1⟩
set_option maxRecDepth 100000 in
theorem impl_TakeVarint.eq (N : Nat) (s : ByteArray) : impl_TakeVarint N s =
 sel (decide (s = (⟨#[]⟩ : ByteArray)))
  (
  some ((0, (0, ())), ()))
  (
  chk (decide (0 < (s.size : Int))) (
  chk (decide (0 ≤ (shrI .u8 ((bytesL s).getD 0 0) 6))) (
  sel (decide ((s.size : Int) < (shlI .i64 1 (shrI .u8 ((bytesL s).getD 0 0) 6))))
   (
   some ((0, (0, ())), ()))
   (
   chk ((decide (0 ≤ (shlI .i64 1 (shrI .u8 ((bytesL s).getD 0 0) 6)))) && (decide ((shlI .i64 1 (shrI .u8 ((bytesL s).getD 0 0) 6)) ≤ (s.size : Int)))) (
   andK (impl_numberOf N (s.extract 0 (Int.toNat (shlI .i64 1 (shrI .u8 ((bytesL s).getD 0 0) 6))))) fun u1 =>
   chk (decide (0 ≤ (IntKind.i64.wrap ((IntKind.i64.wrap (8 * (shlI .i64 1 (shrI .u8 ((bytesL s).getD 0 0) 6)))) - 2)))) (
   some (((IntKind.i64.wrap (Go.bits .and .u64 u1.1.1 (IntKind.u64.wrap ((shlI .u64 1 (IntKind.i64.wrap ((IntKind.i64.wrap (8 * (shlI .i64 1 (shrI .u8 ((bytesL s).getD 0 0) 6)))) - 2))) - 1)))), ((shlI .i64 1 (shrI .u8 ((bytesL s).getD 0 0) 6)), ())), ()))))))) := by kernel_rfl
set_option maxRecDepth 100000 in
theorem impl_TakeVarint.say (N : Nat) : SayOk Try.prog (impl_TakeVarint.S N) := sayOk_mk (N := N) (H := impl_TakeVarint.H) (preps := [⟨[], [], [], []⟩]) (l := impl_TakeVarint.says) (fn := Try.f141) (c := bodyOf Try.f141)
  (by kernel_rfl) (by kernel_rfl) (by kernel_rfl) (by kernel_rfl) (by kernel_rfl) (by kernel_rfl) (by kernel_rfl)
  (fun N => SayAll.cons (impl_numberOf.say N) (SayAll.nil)) (fun a s => by kernel_rfl)

/-! ### (*loop.example/g00206/impl.cursor).number: function 97 -/
noncomputable def impl_cursor_number.H : Hints := hintsOf [(4, .join [⟨.normal, [3, 4], [0], [.one (.ptr 0 0)], [.cells [ck_s, ck_b]], [⟨[], [], [], []⟩]⟩])]
noncomputable def impl_cursor_number.says (N : Nat) : List Say := [impl_TakeVarint.S N]
noncomputable def impl_cursor_number.call (N : Nat) : CallK := callBy (impl_cursor_number.says N)
noncomputable def impl_cursor_number.qt (N : Nat) : FuncId → List PV → Sig → Cl := qtBy (impl_cursor_number.says N)
noncomputable def impl_cursor_number (N : Nat) (p0_0 : ByteArray) (p0_1 : Bool) : Option ((Int × Unit) × ((ByteArray × (Bool × Unit)) × Unit)) :=
  ofFn Try.prog impl_cursor_number.call impl_cursor_number.qt impl_cursor_number.H N Try.f97 [.one (.ptr 0 0)] [.cells [ck_s, ck_b]] [ak_i] [.cells [ck_s, ck_b]] [⟨[], [], [], []⟩] ((), ()) ((p0_0, (p0_1, ())), ())
noncomputable def impl_cursor_number.S (N : Nat) : Say := ⟨false, 97, [.one (.ptr 0 0)], [.cells [ck_s, ck_b]], [ak_i], [.cells [ck_s, ck_b]], fun a s => impl_cursor_number N s.1.1 s.1.2.1⟩
set_option maxRecDepth 100000 in
theorem impl_cursor_number.eq (N : Nat) (p0_0 : ByteArray) (p0_1 : Bool) : impl_cursor_number N p0_0 p0_1 =
 andK (impl_TakeVarint N p0_0) fun u1 =>
 andK (α := ((Unit × Unit) × ((ByteArray × (Bool × Unit)) × Unit))) (
  sel (decide (u1.1.2.1 = 0))
   (
   some ((((), ()), ((p0_0, (true, ())), ()))))
   (
   some ((((), ()), ((p0_0, (p0_1, ())), ()))))) fun j2 =>
 chk ((decide (0 ≤ u1.1.2.1)) && ((decide (u1.1.2.1 ≤ (j2.2.1.1.size : Int))) && (decide ((j2.2.1.1.size : Int) ≤ (j2.2.1.1.size : Int))))) (
 some ((u1.1.1, ()), (((j2.2.1.1.extract (Int.toNat u1.1.2.1) (Int.toNat (j2.2.1.1.size : Int))), (j2.2.1.2.1, ())), ()))) := by kernel_rfl
set_option maxRecDepth 100000 in
theorem impl_cursor_number.say (N : Nat) : SayOk Try.prog (impl_cursor_number.S N) := sayOk_mk (N := N) (H := impl_cursor_number.H) (preps := [⟨[], [], [], []⟩]) (l := impl_cursor_number.says) (fn := Try.f97) (c := bodyOf Try.f97)
  (by kernel_rfl) (by kernel_rfl) (by kernel_rfl) (by kernel_rfl) (by kernel_rfl) (by kernel_rfl) (by kernel_rfl)
  (fun N => SayAll.cons (impl_TakeVarint.say N) (SayAll.nil)) (fun a s => by kernel_rfl)

/-! ### (*loop.example/g00206/impl.cursor).counted: function 136 -/
noncomputable def impl_cursor_counted.H : Hints := hintsOf []
noncomputable def impl_cursor_counted.says (N : Nat) : List Say := [impl_cursor_number.S N, impl_cursor_take.S N]
noncomputable def impl_cursor_counted.call (N : Nat) : CallK := callBy (impl_cursor_counted.says N)
noncomputable def impl_cursor_counted.qt (N : Nat) : FuncId → List PV → Sig → Cl := qtBy (impl_cursor_counted.says N)
noncomputable def impl_cursor_counted (N : Nat) (p0_0 : ByteArray) (p0_1 : Bool) : Option ((ByteArray × Unit) × ((ByteArray × (Bool × Unit)) × Unit)) :=
  ofFn Try.prog impl_cursor_counted.call impl_cursor_counted.qt impl_cursor_counted.H N Try.f136 [.one (.ptr 0 0)] [.cells [ck_s, ck_b]] [ak_s] [.cells [ck_s, ck_b]] [⟨[], [], [], []⟩] ((), ()) ((p0_0, (p0_1, ())), ())
noncomputable def impl_cursor_counted.S (N : Nat) : Say := ⟨false, 136, [.one (.ptr 0 0)], [.cells [ck_s, ck_b]], [ak_s], [.cells [ck_s, ck_b]], fun a s => impl_cursor_counted N s.1.1 s.1.2.1⟩
set_option maxRecDepth 100000 in
theorem impl_cursor_counted.eq (N : Nat) (p0_0 : ByteArray) (p0_1 : Bool) : impl_cursor_counted N p0_0 p0_1 =
 andK (impl_cursor_number N p0_0 p0_1) fun u1 =>
 andK (impl_cursor_take N u1.1.1 u1.2.1.1 u1.2.1.2.1) fun u2 =>
 some ((u2.1.1, ()), ((u2.2.1.1, (u2.2.1.2.1, ())), ())) := by kernel_rfl
set_option maxRecDepth 100000 in
theorem impl_cursor_counted.say (N : Nat) : SayOk Try.prog (impl_cursor_counted.S N) := sayOk_mk (N := N) (H := impl_cursor_counted.H) (preps := [⟨[], [], [], []⟩]) (l := impl_cursor_counted.says) (fn := Try.f136) (c := bodyOf Try.f136)
  (by kernel_rfl) (by kernel_rfl) (by kernel_rfl) (by kernel_rfl) (by kernel_rfl) (by kernel_rfl) (by kernel_rfl)
  (fun N => SayAll.cons (impl_cursor_number.say N) (SayAll.cons (impl_cursor_take.say N) (SayAll.nil))) (fun a s => by kernel_rfl)

/-! ### (*loop.example/g00206/impl.cursor).header: function 89 -/
noncomputable def impl_cursor_header.H : Hints := hintsOf [(5000010, .join [⟨.normal, [], [0, 6, 7, 57], [.one (.ptr 0 0), .one (.ptr 1 0), .one (.ptr 2 0), ak_b], [.cells [ck_s, ck_b], .cells [ck_i, ck_i, ck_i, ck_s, ck_s, ck_s, ck_s, .nil], .cells [ck_i, ck_i, ck_i, ck_s, ck_s, ck_s, ck_s, .own 3], .rows (.int .i64)], [⟨[], [], [], []⟩]⟩]),
  (2000010, .loop ⟨.normal, [], [0, 6, 7], [.one (.ptr 0 0), .one (.ptr 1 0), .one (.ptr 2 0)], [.cells [ck_s, ck_b], .cells [ck_i, ck_i, ck_i, ck_s, ck_s, ck_s, ck_s, .nil], .cells [ck_i, ck_i, ck_i, ck_s, ck_s, ck_s, ck_s, .own 3], .rows (.int .i64)], [⟨[], [(2, (7, (.int .i64)))], [], [3]⟩, ⟨[], [], [], [3]⟩]⟩ [⟨(.exit 0), [], [6, 7], [.one (.ptr 1 0), .one (.ptr 2 0)], [.cells [ck_s, ck_b], .cells [ck_i, ck_i, ck_i, ck_s, ck_s, ck_s, ck_s, .nil], .cells [ck_i, ck_i, ck_i, ck_s, ck_s, ck_s, ck_s, .own 3], .rows (.int .i64)], [⟨[], [], [], [3]⟩]⟩]),
  (15, .join [⟨.normal, [], [0, 6, 7], [.one (.ptr 0 0), .one (.ptr 1 0), .one (.ptr 2 0)], [.cells [ck_s, ck_b], .cells [ck_i, ck_i, ck_i, ck_s, ck_s, ck_s, ck_s, .nil], .cells [ck_i, ck_i, ck_i, ck_s, ck_s, ck_s, ck_s, .nil]], [⟨[], [], [], []⟩]⟩])]
noncomputable def impl_cursor_header.says (N : Nat) : List Say := [impl_cursor_take.S N, impl_cursor_rest.S N, impl_numberOf.S N, impl_cursor_byte.S N, impl_cursor_counted.S N]
noncomputable def impl_cursor_header.call (N : Nat) : CallK := callBy (impl_cursor_header.says N)
noncomputable def impl_cursor_header.qt (N : Nat) : FuncId → List PV → Sig → Cl := qtBy (impl_cursor_header.says N)
noncomputable def impl_cursor_header.l0.hd : Alt := ⟨.normal, [], [0, 6, 7], [.one (.ptr 0 0), .one (.ptr 1 0), .one (.ptr 2 0)], [.cells [ck_s, ck_b], .cells [ck_i, ck_i, ck_i, ck_s, ck_s, ck_s, ck_s, .nil], .cells [ck_i, ck_i, ck_i, ck_s, ck_s, ck_s, ck_s, .own 3], .rows (.int .i64)], [⟨[], [(2, (7, (.int .i64)))], [], [3]⟩, ⟨[], [], [], [3]⟩]⟩
noncomputable def impl_cursor_header.l0.outs : List Alt := [⟨(.exit 0), [], [6, 7], [.one (.ptr 1 0), .one (.ptr 2 0)], [.cells [ck_s, ck_b], .cells [ck_i, ck_i, ck_i, ck_s, ck_s, ck_s, ck_s, .nil], .cells [ck_i, ck_i, ck_i, ck_s, ck_s, ck_s, ck_s, .own 3], .rows (.int .i64)], [⟨[], [], [], [3]⟩]⟩]
noncomputable def impl_cursor_header.l0 (N : Nat) (p0_01 : ByteArray) (p0_11 : Bool) (p1_0 : Int) (p1_1 : Int) (p1_2 : Int) (p1_3 : ByteArray) (p1_4 : ByteArray) (p1_5 : ByteArray) (p1_6 : ByteArray) (p2_0 : Int) (p2_1 : Int) (p2_2 : Int) (p2_3 : ByteArray) (p2_4 : ByteArray) (p2_5 : ByteArray) (p2_6 : ByteArray) (p3 : (List Int)) : Option ((Unit × (Unit × Unit)) × ((ByteArray × (Bool × Unit)) × ((Int × (Int × (Int × (ByteArray × (ByteArray × (ByteArray × (ByteArray × (Unit × Unit)))))))) × ((Int × (Int × (Int × (ByteArray × (ByteArray × (ByteArray × (ByteArray × (Unit × Unit)))))))) × ((List Int) × Unit))))) :=
  loopK Try.prog impl_cursor_header.call impl_cursor_header.qt impl_cursor_header.H (codeAt (bodyOf Try.f89) [1, 1, 1, 1, 1, 1, 0, 1, 0, 1, 0, 0, 0]) 3 impl_cursor_header.l0.hd impl_cursor_header.l0.outs [] N (((), ((), ((), ()))), ((p0_01, (p0_11, ())), ((p1_0, (p1_1, (p1_2, (p1_3, (p1_4, (p1_5, (p1_6, ((), ())))))))), ((p2_0, (p2_1, (p2_2, (p2_3, (p2_4, (p2_5, (p2_6, ((), ())))))))), (p3, ())))))
noncomputable def impl_cursor_header (N : Nat) (o : Int) (t : Int) (p0_0 : ByteArray) (p0_1 : Bool) : Option (((Int × (Int × (Int × (ByteArray × (ByteArray × (ByteArray × (ByteArray × ((List Int) × Unit)))))))) × Unit) × ((ByteArray × (Bool × Unit)) × Unit)) :=
  ofFn Try.prog impl_cursor_header.call impl_cursor_header.qt impl_cursor_header.H N Try.f89 [.one (.ptr 0 0), ak_i, ak_i] [.cells [ck_s, ck_b]] [.agg [ck_i, ck_i, ck_i, ck_s, ck_s, ck_s, ck_s, .sh (.rows (.int .i64))]] [.cells [ck_s, ck_b]] [⟨[], [], [], []⟩, ⟨[], [], [3], []⟩] ((), (o, (t, ()))) ((p0_0, (p0_1, ())), ())
noncomputable def impl_cursor_header.S (N : Nat) : Say := ⟨false, 89, [.one (.ptr 0 0), ak_i, ak_i], [.cells [ck_s, ck_b]], [.agg [ck_i, ck_i, ck_i, ck_s, ck_s, ck_s, ck_s, .sh (.rows (.int .i64))]], [.cells [ck_s, ck_b]], fun a s => impl_cursor_header N a.2.1 a.2.2.1 s.1.1 s.1.2.1⟩
set_option maxRecDepth 100000 in
theorem impl_cursor_header.l0.eq (N : Nat) (p0_01 : ByteArray) (p0_11 : Bool) (p1_0 : Int) (p1_1 : Int) (p1_2 : Int) (p1_3 : ByteArray) (p1_4 : ByteArray) (p1_5 : ByteArray) (p1_6 : ByteArray) (p2_0 : Int) (p2_1 : Int) (p2_2 : Int) (p2_3 : ByteArray) (p2_4 : ByteArray) (p2_5 : ByteArray) (p2_6 : ByteArray) (p3 : (List Int)) : impl_cursor_header.l0 (N + 1) p0_01 p0_11 p1_0 p1_1 p1_2 p1_3 p1_4 p1_5 p1_6 p2_0 p2_1 p2_2 p2_3 p2_4 p2_5 p2_6 p3 =
 andK (α := ((Unit × (Unit × (Unit × (Bool × Unit)))) × ((ByteArray × (Bool × Unit)) × ((Int × (Int × (Int × (ByteArray × (ByteArray × (ByteArray × (ByteArray × (Unit × Unit)))))))) × ((Int × (Int × (Int × (ByteArray × (ByteArray × (ByteArray × (ByteArray × (Unit × Unit)))))))) × ((List Int) × Unit)))))) (
  sel (!(decide (p0_01 = (⟨#[]⟩ : ByteArray))))
   (
   some ((((), ((), ((), ((!p0_11), ())))), ((p0_01, (p0_11, ())), ((p1_0, (p1_1, (p1_2, (p1_3, (p1_4, (p1_5, (p1_6, ((), ())))))))), ((p2_0, (p2_1, (p2_2, (p2_3, (p2_4, (p2_5, (p2_6, ((), ())))))))), (p3, ())))))))
   (
   some ((((), ((), ((), (false, ())))), ((p0_01, (p0_11, ())), ((p1_0, (p1_1, (p1_2, (p1_3, (p1_4, (p1_5, (p1_6, ((), ())))))))), ((p2_0, (p2_1, (p2_2, (p2_3, (p2_4, (p2_5, (p2_6, ((), ())))))))), (p3, ())))))))) fun j9 =>
 sel j9.1.2.2.2.1
  (
  andK (impl_cursor_take N 4 j9.2.1.1 j9.2.1.2.1) fun u10 =>
  andK (impl_numberOf N u10.1.1) fun u11 =>
  chk (decide (j9.2.2.2.2.1.length + 1 < most)) (
  impl_cursor_header.l0 N u10.2.1.1 u10.2.1.2.1 j9.2.2.1.1 j9.2.2.1.2.1 j9.2.2.1.2.2.1 j9.2.2.1.2.2.2.1 j9.2.2.1.2.2.2.2.1 j9.2.2.1.2.2.2.2.2.1 j9.2.2.1.2.2.2.2.2.2.1 j9.2.2.2.1.1 j9.2.2.2.1.2.1 j9.2.2.2.1.2.2.1 j9.2.2.2.1.2.2.2.1 j9.2.2.2.1.2.2.2.2.1 j9.2.2.2.1.2.2.2.2.2.1 j9.2.2.2.1.2.2.2.2.2.2.1 (j9.2.2.2.2.1 ++ [(IntKind.i64.wrap u11.1.1)])))
  (
  some ((((), ((), ())), ((j9.2.1.1, (j9.2.1.2.1, ())), ((j9.2.2.1.1, (j9.2.2.1.2.1, (j9.2.2.1.2.2.1, (j9.2.2.1.2.2.2.1, (j9.2.2.1.2.2.2.2.1, (j9.2.2.1.2.2.2.2.2.1, (j9.2.2.1.2.2.2.2.2.2.1, ((), ())))))))), ((j9.2.2.2.1.1, (j9.2.2.2.1.2.1, (j9.2.2.2.1.2.2.1, (j9.2.2.2.1.2.2.2.1, (j9.2.2.2.1.2.2.2.2.1, (j9.2.2.2.1.2.2.2.2.2.1, (j9.2.2.2.1.2.2.2.2.2.2.1, ((), ())))))))), (j9.2.2.2.2.1, ()))))))) := by kernel_rfl
set_option maxRecDepth 100000 in
theorem impl_cursor_header.eq (N : Nat) (o : Int) (t : Int) (p0_0 : ByteArray) (p0_1 : Bool) : impl_cursor_header N o t p0_0 p0_1 =
 sel (decide ((Go.bits .and .i64 o 128) = 0))
  (
  andK (impl_cursor_take N t p0_0 p0_1) fun u1 =>
  andK (impl_cursor_rest N u1.2.1.1 u1.2.1.2.1) fun u2 =>
  some (((5, ((Go.bits .and .i64 o 15), (0, (u1.1.1, ((⟨#[]⟩ : ByteArray), ((⟨#[]⟩ : ByteArray), (u2.1.1, ([], ())))))))), ()), ((u2.2.1.1, (u2.2.1.2.1, ())), ())))
  (
  andK (impl_cursor_take N 4 p0_0 p0_1) fun u3 =>
  andK (impl_numberOf N u3.1.1) fun u4 =>
  andK (impl_cursor_byte N u3.2.1.1 u3.2.1.2.1) fun u5 =>
  andK (impl_cursor_take N u5.1.1 u5.2.1.1 u5.2.1.2.1) fun u6 =>
  andK (impl_cursor_byte N u6.2.1.1 u6.2.1.2.1) fun u7 =>
  andK (impl_cursor_take N u7.1.1 u7.2.1.1 u7.2.1.2.1) fun u8 =>
  sel (decide ((IntKind.i64.wrap u4.1.1) = 0))
   (
   andK (impl_cursor_header.l0 N u8.2.1.1 u8.2.1.2.1 0 0 0 (⟨#[]⟩ : ByteArray) (⟨#[]⟩ : ByteArray) (⟨#[]⟩ : ByteArray) (⟨#[]⟩ : ByteArray) 4 (Go.bits .and .i64 o 15) (IntKind.i64.wrap u4.1.1) u6.1.1 u8.1.1 (⟨#[]⟩ : ByteArray) (⟨#[]⟩ : ByteArray) []) fun l12 =>
   some (((l12.2.2.2.1.1, (l12.2.2.2.1.2.1, (l12.2.2.2.1.2.2.1, (l12.2.2.2.1.2.2.2.1, (l12.2.2.2.1.2.2.2.2.1, (l12.2.2.2.1.2.2.2.2.2.1, (l12.2.2.2.1.2.2.2.2.2.2.1, (l12.2.2.2.2.1, ())))))))), ()), ((l12.2.1.1, (l12.2.1.2.1, ())), ())))
   (
   andK (α := ((Unit × (Unit × (Unit × Unit))) × ((ByteArray × (Bool × Unit)) × ((Int × (Int × (Int × (ByteArray × (ByteArray × (ByteArray × (ByteArray × (Unit × Unit)))))))) × ((Int × (Int × (Int × (ByteArray × (ByteArray × (ByteArray × (ByteArray × (Unit × Unit)))))))) × Unit))))) (
    sel (decide ((Int.tmod (IntKind.i64.wrap (Int.tdiv o 16)) 4) = 0))
     (
     andK (impl_cursor_counted N u8.2.1.1 u8.2.1.2.1) fun u13 =>
     some ((((), ((), ((), ()))), ((u13.2.1.1, (u13.2.1.2.1, ())), ((0, (0, (0, ((⟨#[]⟩ : ByteArray), ((⟨#[]⟩ : ByteArray), ((⟨#[]⟩ : ByteArray), ((⟨#[]⟩ : ByteArray), ((), ())))))))), (((Int.tmod (IntKind.i64.wrap (Int.tdiv o 16)) 4), ((Go.bits .and .i64 o 15), ((IntKind.i64.wrap u4.1.1), (u6.1.1, (u8.1.1, (u13.1.1, ((⟨#[]⟩ : ByteArray), ((), ())))))))), ()))))))
     (
     some ((((), ((), ((), ()))), ((u8.2.1.1, (u8.2.1.2.1, ())), ((0, (0, (0, ((⟨#[]⟩ : ByteArray), ((⟨#[]⟩ : ByteArray), ((⟨#[]⟩ : ByteArray), ((⟨#[]⟩ : ByteArray), ((), ())))))))), (((Int.tmod (IntKind.i64.wrap (Int.tdiv o 16)) 4), ((Go.bits .and .i64 o 15), ((IntKind.i64.wrap u4.1.1), (u6.1.1, (u8.1.1, ((⟨#[]⟩ : ByteArray), ((⟨#[]⟩ : ByteArray), ((), ())))))))), ()))))))) fun j14 =>
   sel (decide (j14.2.2.2.1.1 = 3))
    (
    andK (impl_cursor_rest N j14.2.1.1 j14.2.1.2.1) fun u15 =>
    some (((j14.2.2.2.1.1, (j14.2.2.2.1.2.1, (j14.2.2.2.1.2.2.1, (j14.2.2.2.1.2.2.2.1, (j14.2.2.2.1.2.2.2.2.1, (j14.2.2.2.1.2.2.2.2.2.1, (u15.1.1, ([], ())))))))), ()), ((u15.2.1.1, (u15.2.1.2.1, ())), ())))
    (
    andK (impl_cursor_counted N j14.2.1.1 j14.2.1.2.1) fun u16 =>
    some (((j14.2.2.2.1.1, (j14.2.2.2.1.2.1, (j14.2.2.2.1.2.2.1, (j14.2.2.2.1.2.2.2.1, (j14.2.2.2.1.2.2.2.2.1, (j14.2.2.2.1.2.2.2.2.2.1, (u16.1.1, ([], ())))))))), ()), ((u16.2.1.1, (u16.2.1.2.1, ())), ()))))) := by kernel_rfl
set_option maxRecDepth 100000 in
theorem impl_cursor_header.say (N : Nat) : SayOk Try.prog (impl_cursor_header.S N) := sayOk_mk (N := N) (H := impl_cursor_header.H) (preps := [⟨[], [], [], []⟩, ⟨[], [], [3], []⟩]) (l := impl_cursor_header.says) (fn := Try.f89) (c := bodyOf Try.f89)
  (by kernel_rfl) (by kernel_rfl) (by kernel_rfl) (by kernel_rfl) (by kernel_rfl) (by kernel_rfl) (by kernel_rfl)
  (fun N => SayAll.cons (impl_cursor_take.say N) (SayAll.cons (impl_cursor_rest.say N) (SayAll.cons (impl_numberOf.say N) (SayAll.cons (impl_cursor_byte.say N) (SayAll.cons (impl_cursor_counted.say N) (SayAll.nil)))))) (fun a s => by kernel_rfl)

/-! ### loop.example/g00206/impl.long: function 127 -/
noncomputable def impl_long.H : Hints := hintsOf []
noncomputable def impl_long.says (N : Nat) : List Say := [impl_in.S N]
noncomputable def impl_long.call (N : Nat) : CallK := callBy (impl_long.says N)
noncomputable def impl_long.qt (N : Nat) : FuncId → List PV → Sig → Cl := qtBy (impl_long.says N)
noncomputable def impl_long (N : Nat) (form : Int) : Option ((Bool × Unit) × Unit) :=
  ofFn Try.prog impl_long.call impl_long.qt impl_long.H N Try.f127 [ak_i] [] [ak_b] [] [⟨[], [], [], []⟩] (form, ()) ()
noncomputable def impl_long.S (N : Nat) : Say := ⟨false, 127, [ak_i], [], [ak_b], [], fun a s => impl_long N a.1⟩
set_option maxRecDepth 100000 in
theorem impl_long.eq (N : Nat) (form : Int) : impl_long N form =
 andK (impl_in N form 0 3) fun u1 =>
 some ((u1.1.1, ()), ()) := by kernel_rfl
set_option maxRecDepth 100000 in
theorem impl_long.say (N : Nat) : SayOk Try.prog (impl_long.S N) := sayOk_mk (N := N) (H := impl_long.H) (preps := [⟨[], [], [], []⟩]) (l := impl_long.says) (fn := Try.f127) (c := bodyOf Try.f127)
  (by kernel_rfl) (by kernel_rfl) (by kernel_rfl) (by kernel_rfl) (by kernel_rfl) (by kernel_rfl) (by kernel_rfl)
  (fun N => SayAll.cons (impl_in.say N) (SayAll.nil)) (fun a s => by kernel_rfl)

/-! ### loop.example/g00206/impl.isVersion: function 128 -/
noncomputable def impl_isVersion.H : Hints := hintsOf []
noncomputable def impl_isVersion.says (N : Nat) : List Say := [impl_in.S N]
noncomputable def impl_isVersion.call (N : Nat) : CallK := callBy (impl_isVersion.says N)
noncomputable def impl_isVersion.qt (N : Nat) : FuncId → List PV → Sig → Cl := qtBy (impl_isVersion.says N)
noncomputable def impl_isVersion (N : Nat) (n : Int) : Option ((Bool × Unit) × Unit) :=
  ofFn Try.prog impl_isVersion.call impl_isVersion.qt impl_isVersion.H N Try.f128 [ak_i] [] [ak_b] [] [⟨[], [], [], []⟩] (n, ()) ()
noncomputable def impl_isVersion.S (N : Nat) : Say := ⟨false, 128, [ak_i], [], [ak_b], [], fun a s => impl_isVersion N a.1⟩
set_option maxRecDepth 100000 in
theorem impl_isVersion.eq (N : Nat) (n : Int) : impl_isVersion N n =
 andK (impl_in N n 1 4294967295) fun u1 =>
 some ((u1.1.1, ()), ()) := by kernel_rfl
set_option maxRecDepth 100000 in
theorem impl_isVersion.say (N : Nat) : SayOk Try.prog (impl_isVersion.S N) := sayOk_mk (N := N) (H := impl_isVersion.H) (preps := [⟨[], [], [], []⟩]) (l := impl_isVersion.says) (fn := Try.f128) (c := bodyOf Try.f128)
  (by kernel_rfl) (by kernel_rfl) (by kernel_rfl) (by kernel_rfl) (by kernel_rfl) (by kernel_rfl) (by kernel_rfl)
  (fun N => SayAll.cons (impl_in.say N) (SayAll.nil)) (fun a s => by kernel_rfl)

/-! ### loop.example/g00206/impl.GoodHeader$1: function 130 -/
noncomputable def impl_GoodHeader_1.H : Hints := hintsOf []
noncomputable def impl_GoodHeader_1.says (N : Nat) : List Say := [impl_in.S N]
noncomputable def impl_GoodHeader_1.call (N : Nat) : CallK := callBy (impl_GoodHeader_1.says N)
noncomputable def impl_GoodHeader_1.qt (N : Nat) : FuncId → List PV → Sig → Cl := qtBy (impl_GoodHeader_1.says N)
noncomputable def impl_GoodHeader_1 (N : Nat) (n : Int) : Option ((Bool × Unit) × Unit) :=
  ofFn Try.prog impl_GoodHeader_1.call impl_GoodHeader_1.qt impl_GoodHeader_1.H N Try.f130 [ak_i] [] [ak_b] [] [⟨[], [], [], []⟩] (n, ()) ()
noncomputable def impl_GoodHeader_1.S (N : Nat) : Say := ⟨false, 130, [ak_i], [], [ak_b], [], fun a s => impl_GoodHeader_1 N a.1⟩
set_option maxRecDepth 100000 in
theorem impl_GoodHeader_1.eq (N : Nat) (n : Int) : impl_GoodHeader_1 N n =
 andK (impl_in N n 0 4294967295) fun u1 =>
 some (((!u1.1.1), ()), ()) := by kernel_rfl
set_option maxRecDepth 100000 in
theorem impl_GoodHeader_1.say (N : Nat) : SayOk Try.prog (impl_GoodHeader_1.S N) := sayOk_mk (N := N) (H := impl_GoodHeader_1.H) (preps := [⟨[], [], [], []⟩]) (l := impl_GoodHeader_1.says) (fn := Try.f130) (c := bodyOf Try.f130)
  (by kernel_rfl) (by kernel_rfl) (by kernel_rfl) (by kernel_rfl) (by kernel_rfl) (by kernel_rfl) (by kernel_rfl)
  (fun N => SayAll.cons (impl_in.say N) (SayAll.nil)) (fun a s => by kernel_rfl)

/-! ### slices.IndexFunc[[]int,int]: function 162 -/
noncomputable def slices_IndexFuncint_int.H : Hints := hintsOf [(2000002, .loop ⟨.normal, [0, 1, 7], [8], [ak_i], [], [⟨[], [], [], []⟩]⟩ [⟨.ret, [], [4], [ak_i], [], [⟨[], [], [], []⟩]⟩, ⟨(.exit 0), [], [], [], [], [⟨[], [], [], []⟩]⟩])]
noncomputable def slices_IndexFuncint_int.says (N : Nat) : List Say := [impl_GoodHeader_1.S N]
noncomputable def slices_IndexFuncint_int.call (N : Nat) : CallK := callBy (slices_IndexFuncint_int.says N)
noncomputable def slices_IndexFuncint_int.qt (N : Nat) : FuncId → List PV → Sig → Cl := qtBy (slices_IndexFuncint_int.says N)
noncomputable def slices_IndexFuncint_int.l0.hd : Alt := ⟨.normal, [0, 1, 7], [8], [ak_i], [], [⟨[], [], [], []⟩]⟩
noncomputable def slices_IndexFuncint_int.l0.outs : List Alt := [⟨.ret, [], [4], [ak_i], [], [⟨[], [], [], []⟩]⟩, ⟨(.exit 0), [], [], [], [], [⟨[], [], [], []⟩]⟩]
noncomputable def slices_IndexFuncint_int.l0 (N : Nat) (s1 : (List Int)) (t7 : Int) (t8 : Int) : Option (((Int × Unit) × Unit) ⊕ (Unit × Unit)) :=
  loopK Try.prog slices_IndexFuncint_int.call slices_IndexFuncint_int.qt slices_IndexFuncint_int.H (codeAt (bodyOf Try.f162) [1, 0, 1, 0, 0]) 0 slices_IndexFuncint_int.l0.hd slices_IndexFuncint_int.l0.outs [(0, .rows false (.int .i64) s1), (1, .fn 130 []), (7, .v (.int .i64 t7))] N ((t8, ()), ())
noncomputable def slices_IndexFuncint_int (N : Nat) (s : (List Int)) : Option ((Int × Unit) × Unit) :=
  ofFn Try.prog slices_IndexFuncint_int.call slices_IndexFuncint_int.qt slices_IndexFuncint_int.H N Try.f162 [.one (.sh (.rows (.int .i64))), .fn 130 []] [] [ak_i] [] [⟨[], [], [], []⟩] (s, ((), ())) ()
noncomputable def slices_IndexFuncint_int.S (N : Nat) : Say := ⟨false, 162, [.one (.sh (.rows (.int .i64))), .fn 130 []], [], [ak_i], [], fun a s => slices_IndexFuncint_int N a.1⟩
set_option maxRecDepth 100000 in
theorem slices_IndexFuncint_int.l0.eq (N : Nat) (s1 : (List Int)) (t7 : Int) (t8 : Int) : slices_IndexFuncint_int.l0 (N + 1) s1 t7 t8 =
 sel (decide (t8 < t7))
  (
  chk ((decide (0 ≤ t8)) && (decide (t8 < (s1.length : Int)))) (
  andK (impl_GoodHeader_1 N (s1.getD (Int.toNat t8) 0)) fun u1 =>
  sel u1.1.1
   (
   some (.inl ((t8, ()), ())))
   (
   slices_IndexFuncint_int.l0 N s1 t7 (IntKind.i64.wrap (t8 + 1)))))
  (
  some (.inr (((), ())))) := by kernel_rfl
set_option maxRecDepth 100000 in
theorem slices_IndexFuncint_int.eq (N : Nat) (s : (List Int)) : slices_IndexFuncint_int N s =
 andK (slices_IndexFuncint_int.l0 N s (s.length : Int) 0) fun l2 =>
 orK l2 (fun x3 =>
  some ((x3.1.1, ()), ()))
  (fun x4 =>
  some (((-1), ()), ())) := by kernel_rfl
set_option maxRecDepth 100000 in
theorem slices_IndexFuncint_int.say (N : Nat) : SayOk Try.prog (slices_IndexFuncint_int.S N) := sayOk_mk (N := N) (H := slices_IndexFuncint_int.H) (preps := [⟨[], [], [], []⟩]) (l := slices_IndexFuncint_int.says) (fn := Try.f162) (c := bodyOf Try.f162)
  (by kernel_rfl) (by kernel_rfl) (by kernel_rfl) (by kernel_rfl) (by kernel_rfl) (by kernel_rfl) (by kernel_rfl)
  (fun N => SayAll.cons (impl_GoodHeader_1.say N) (SayAll.nil)) (fun a s => by kernel_rfl)

/-! ### slices.ContainsFunc[[]int,int]: function 129 -/
noncomputable def slices_ContainsFuncint_int.H : Hints := hintsOf []
noncomputable def slices_ContainsFuncint_int.says (N : Nat) : List Say := [slices_IndexFuncint_int.S N]
noncomputable def slices_ContainsFuncint_int.call (N : Nat) : CallK := callBy (slices_ContainsFuncint_int.says N)
noncomputable def slices_ContainsFuncint_int.qt (N : Nat) : FuncId → List PV → Sig → Cl := qtBy (slices_ContainsFuncint_int.says N)
noncomputable def slices_ContainsFuncint_int (N : Nat) (s : (List Int)) : Option ((Bool × Unit) × Unit) :=
  ofFn Try.prog slices_ContainsFuncint_int.call slices_ContainsFuncint_int.qt slices_ContainsFuncint_int.H N Try.f129 [.one (.sh (.rows (.int .i64))), .fn 130 []] [] [ak_b] [] [⟨[], [], [], []⟩] (s, ((), ())) ()
noncomputable def slices_ContainsFuncint_int.S (N : Nat) : Say := ⟨false, 129, [.one (.sh (.rows (.int .i64))), .fn 130 []], [], [ak_b], [], fun a s => slices_ContainsFuncint_int N a.1⟩
set_option maxRecDepth 100000 in
theorem slices_ContainsFuncint_int.eq (N : Nat) (s : (List Int)) : slices_ContainsFuncint_int N s =
 andK (slices_IndexFuncint_int N s) fun u1 =>
 some (((decide (0 ≤ u1.1.1)), ()), ()) := by kernel_rfl
set_option maxRecDepth 100000 in
theorem slices_ContainsFuncint_int.say (N : Nat) : SayOk Try.prog (slices_ContainsFuncint_int.S N) := sayOk_mk (N := N) (H := slices_ContainsFuncint_int.H) (preps := [⟨[], [], [], []⟩]) (l := slices_ContainsFuncint_int.says) (fn := Try.f129) (c := bodyOf Try.f129)
  (by kernel_rfl) (by kernel_rfl) (by kernel_rfl) (by kernel_rfl) (by kernel_rfl) (by kernel_rfl) (by kernel_rfl)
  (fun N => SayAll.cons (slices_IndexFuncint_int.say N) (SayAll.nil)) (fun a s => by kernel_rfl)

/-! ### loop.example/g00206/impl.GoodHeader: function 84 -/
noncomputable def impl_GoodHeader.H : Hints := hintsOf [(5000001, .join [⟨.normal, [], [1, 31], [.one (.ptr 0 0), ak_b], [.cells [ck_i, ck_i, ck_i, ck_s, ck_s, ck_s, ck_s, .sh (.rows (.int .i64))]], [⟨[], [], [], []⟩]⟩]),
  (5000003, .join [⟨.normal, [], [1, 50], [.one (.ptr 0 0), ak_b], [.cells [ck_i, ck_i, ck_i, ck_s, ck_s, ck_s, ck_s, .sh (.rows (.int .i64))]], [⟨[], [], [], []⟩]⟩]),
  (5000006, .join [⟨.normal, [], [2], [ak_b], [.cells [ck_i, ck_i, ck_i, ck_s, ck_s, ck_s, ck_s, .sh (.rows (.int .i64))]], [⟨[], [], [], []⟩]⟩]),
  (5000009, .join [⟨.normal, [], [2], [ak_b], [.cells [ck_i, ck_i, ck_i, ck_s, ck_s, ck_s, ck_s, .sh (.rows (.int .i64))]], [⟨[], [], [], []⟩]⟩])]
noncomputable def impl_GoodHeader.says (N : Nat) : List Say := [impl_in.S N, impl_long.S N, impl_isVersion.S N, slices_ContainsFuncint_int.S N]
noncomputable def impl_GoodHeader.call (N : Nat) : CallK := callBy (impl_GoodHeader.says N)
noncomputable def impl_GoodHeader.qt (N : Nat) : FuncId → List PV → Sig → Cl := qtBy (impl_GoodHeader.says N)
noncomputable def impl_GoodHeader (N : Nat) (G_0 : Int) (G_1 : Int) (G_2 : Int) (G_3 : ByteArray) (G_4 : ByteArray) (G_5 : ByteArray) (G_6 : ByteArray) (G_7 : (List Int)) : Option ((Bool × Unit) × Unit) :=
  ofFn Try.prog impl_GoodHeader.call impl_GoodHeader.qt impl_GoodHeader.H N Try.f84 [.agg [ck_i, ck_i, ck_i, ck_s, ck_s, ck_s, ck_s, .sh (.rows (.int .i64))]] [] [ak_b] [] [⟨[], [], [], []⟩] ((G_0, (G_1, (G_2, (G_3, (G_4, (G_5, (G_6, (G_7, ())))))))), ()) ()
noncomputable def impl_GoodHeader.S (N : Nat) : Say := ⟨false, 84, [.agg [ck_i, ck_i, ck_i, ck_s, ck_s, ck_s, ck_s, .sh (.rows (.int .i64))]], [], [ak_b], [], fun a s => impl_GoodHeader N a.1.1 a.1.2.1 a.1.2.2.1 a.1.2.2.2.1 a.1.2.2.2.2.1 a.1.2.2.2.2.2.1 a.1.2.2.2.2.2.2.1 a.1.2.2.2.2.2.2.2.1⟩
set_option maxRecDepth 100000 in
theorem impl_GoodHeader.eq (N : Nat) (G_0 : Int) (G_1 : Int) (G_2 : Int) (G_3 : ByteArray) (G_4 : ByteArray) (G_5 : ByteArray) (G_6 : ByteArray) (G_7 : (List Int)) : impl_GoodHeader N G_0 G_1 G_2 G_3 G_4 G_5 G_6 G_7 =
 andK (α := ((Unit × (Bool × Unit)) × ((Int × (Int × (Int × (ByteArray × (ByteArray × (ByteArray × (ByteArray × ((List Int) × Unit)))))))) × Unit))) (
  sel (decide (20 < (G_3.size : Int)))
   (
   some ((((), (true, ())), ((G_0, (G_1, (G_2, (G_3, (G_4, (G_5, (G_6, (G_7, ())))))))), ()))))
   (
   sel (decide (20 < (G_4.size : Int)))
    (
    some ((((), (true, ())), ((G_0, (G_1, (G_2, (G_3, (G_4, (G_5, (G_6, (G_7, ())))))))), ()))))
    (
    andK (impl_in N G_1 0 15) fun u1 =>
    sel (!u1.1.1)
     (
     some ((((), (true, ())), ((G_0, (G_1, (G_2, (G_3, (G_4, (G_5, (G_6, (G_7, ())))))))), ()))))
     (
     sel (decide (200 < (G_5.size : Int)))
      (
      some ((((), (true, ())), ((G_0, (G_1, (G_2, (G_3, (G_4, (G_5, (G_6, (G_7, ())))))))), ()))))
      (
      some ((((), ((decide (1200 < (G_6.size : Int))), ())), ((G_0, (G_1, (G_2, (G_3, (G_4, (G_5, (G_6, (G_7, ())))))))), ())))))))) fun j2 =>
 sel j2.1.2.1
  (
  some ((false, ()), ()))
  (
  andK (α := ((Unit × (Bool × Unit)) × ((Int × (Int × (Int × (ByteArray × (ByteArray × (ByteArray × (ByteArray × ((List Int) × Unit)))))))) × Unit))) (
   sel (!(decide (j2.2.1.1 = 0)))
    (
    sel (!(decide (j2.2.1.2.2.2.2.2.1 = (⟨#[]⟩ : ByteArray))))
     (
     some ((((), (true, ())), ((j2.2.1.1, (j2.2.1.2.1, (j2.2.1.2.2.1, (j2.2.1.2.2.2.1, (j2.2.1.2.2.2.2.1, (j2.2.1.2.2.2.2.2.1, (j2.2.1.2.2.2.2.2.2.1, (j2.2.1.2.2.2.2.2.2.2.1, ())))))))), ()))))
     (
     sel (!(decide (j2.2.1.1 = 4)))
      (
      some ((((), ((decide (0 < (j2.2.1.2.2.2.2.2.2.2.1.length : Int))), ())), ((j2.2.1.1, (j2.2.1.2.1, (j2.2.1.2.2.1, (j2.2.1.2.2.2.1, (j2.2.1.2.2.2.2.1, (j2.2.1.2.2.2.2.2.1, (j2.2.1.2.2.2.2.2.2.1, (j2.2.1.2.2.2.2.2.2.2.1, ())))))))), ()))))
      (
      some ((((), (false, ())), ((j2.2.1.1, (j2.2.1.2.1, (j2.2.1.2.2.1, (j2.2.1.2.2.2.1, (j2.2.1.2.2.2.2.1, (j2.2.1.2.2.2.2.2.1, (j2.2.1.2.2.2.2.2.2.1, (j2.2.1.2.2.2.2.2.2.2.1, ())))))))), ()))))))
    (
    sel (!(decide (j2.2.1.1 = 4)))
     (
     some ((((), ((decide (0 < (j2.2.1.2.2.2.2.2.2.2.1.length : Int))), ())), ((j2.2.1.1, (j2.2.1.2.1, (j2.2.1.2.2.1, (j2.2.1.2.2.2.1, (j2.2.1.2.2.2.2.1, (j2.2.1.2.2.2.2.2.1, (j2.2.1.2.2.2.2.2.2.1, (j2.2.1.2.2.2.2.2.2.2.1, ())))))))), ()))))
     (
     some ((((), (false, ())), ((j2.2.1.1, (j2.2.1.2.1, (j2.2.1.2.2.1, (j2.2.1.2.2.2.1, (j2.2.1.2.2.2.2.1, (j2.2.1.2.2.2.2.2.1, (j2.2.1.2.2.2.2.2.2.1, (j2.2.1.2.2.2.2.2.2.2.1, ())))))))), ())))))) fun j3 =>
  sel j3.1.2.1
   (
   some ((false, ()), ()))
   (
   andK (impl_long N j3.2.1.1) fun u4 =>
   sel u4.1.1
    (
    andK (α := ((Bool × Unit) × ((Int × (Int × (Int × (ByteArray × (ByteArray × (ByteArray × (ByteArray × ((List Int) × Unit)))))))) × Unit))) (
     andK (impl_isVersion N j3.2.1.2.2.1) fun u5 =>
     sel u5.1.1
      (
      some ((((!(decide (j3.2.1.2.2.2.2.2.2.1 = (⟨#[]⟩ : ByteArray)))), ()), ((j3.2.1.1, (j3.2.1.2.1, (j3.2.1.2.2.1, (j3.2.1.2.2.2.1, (j3.2.1.2.2.2.2.1, (j3.2.1.2.2.2.2.2.1, (j3.2.1.2.2.2.2.2.2.1, (j3.2.1.2.2.2.2.2.2.2.1, ())))))))), ()))))
      (
      some (((false, ()), ((j3.2.1.1, (j3.2.1.2.1, (j3.2.1.2.2.1, (j3.2.1.2.2.2.1, (j3.2.1.2.2.2.2.1, (j3.2.1.2.2.2.2.2.1, (j3.2.1.2.2.2.2.2.2.1, (j3.2.1.2.2.2.2.2.2.2.1, ())))))))), ()))))) fun j6 =>
    some ((j6.1.1, ()), ()))
    (
    sel (decide (j3.2.1.1 = 4))
     (
     andK (slices_ContainsFuncint_int N j3.2.1.2.2.2.2.2.2.2.1) fun u7 =>
     andK (α := ((Bool × Unit) × ((Int × (Int × (Int × (ByteArray × (ByteArray × (ByteArray × (ByteArray × ((List Int) × Unit)))))))) × Unit))) (
      sel (decide (j3.2.1.2.2.1 = 0))
       (
       sel (decide (j3.2.1.2.2.2.2.2.2.1 = (⟨#[]⟩ : ByteArray)))
        (
        andK (impl_in N (j3.2.1.2.2.2.2.2.2.2.1.length : Int) 1 20) fun u8 =>
        sel u8.1.1
         (
         some ((((!u7.1.1), ()), ((j3.2.1.1, (j3.2.1.2.1, (j3.2.1.2.2.1, (j3.2.1.2.2.2.1, (j3.2.1.2.2.2.2.1, (j3.2.1.2.2.2.2.2.1, (j3.2.1.2.2.2.2.2.2.1, (j3.2.1.2.2.2.2.2.2.2.1, ())))))))), ()))))
         (
         some (((false, ()), ((j3.2.1.1, (j3.2.1.2.1, (j3.2.1.2.2.1, (j3.2.1.2.2.2.1, (j3.2.1.2.2.2.2.1, (j3.2.1.2.2.2.2.2.1, (j3.2.1.2.2.2.2.2.2.1, (j3.2.1.2.2.2.2.2.2.2.1, ())))))))), ())))))
        (
        some (((false, ()), ((j3.2.1.1, (j3.2.1.2.1, (j3.2.1.2.2.1, (j3.2.1.2.2.2.1, (j3.2.1.2.2.2.2.1, (j3.2.1.2.2.2.2.2.1, (j3.2.1.2.2.2.2.2.2.1, (j3.2.1.2.2.2.2.2.2.2.1, ())))))))), ())))))
       (
       some (((false, ()), ((j3.2.1.1, (j3.2.1.2.1, (j3.2.1.2.2.1, (j3.2.1.2.2.2.1, (j3.2.1.2.2.2.2.1, (j3.2.1.2.2.2.2.2.1, (j3.2.1.2.2.2.2.2.2.1, (j3.2.1.2.2.2.2.2.2.2.1, ())))))))), ()))))) fun j9 =>
     some ((j9.1.1, ()), ()))
     (
     sel (decide (j3.2.1.1 = 5))
      (
      sel (decide (j3.2.1.2.2.1 = 0))
       (
       some (((decide (j3.2.1.2.2.2.2.1 = (⟨#[]⟩ : ByteArray))), ()), ()))
       (
       some ((false, ()), ())))
      (
      some ((false, ()), ())))))) := by kernel_rfl
set_option maxRecDepth 100000 in
theorem impl_GoodHeader.say (N : Nat) : SayOk Try.prog (impl_GoodHeader.S N) := sayOk_mk (N := N) (H := impl_GoodHeader.H) (preps := [⟨[], [], [], []⟩]) (l := impl_GoodHeader.says) (fn := Try.f84) (c := bodyOf Try.f84)
  (by kernel_rfl) (by kernel_rfl) (by kernel_rfl) (by kernel_rfl) (by kernel_rfl) (by kernel_rfl) (by kernel_rfl)
  (fun N => SayAll.cons (impl_in.say N) (SayAll.cons (impl_long.say N) (SayAll.cons (impl_isVersion.say N) (SayAll.cons (slices_ContainsFuncint_int.say N) (SayAll.nil))))) (fun a s => by kernel_rfl)

/-! ### loop.example/g00206/impl.ReadHeader: function 33 -/
noncomputable def impl_ReadHeader.H : Hints := hintsOf [(5000008, .join [⟨.normal, [0, 1], [4, 7, 9, 10], [.one (.ptr 0 0), .one (.ptr 1 0), .one (.ptr 2 0), ak_b], [.cells [ck_i, ck_i, ck_i, ck_s, ck_s, ck_s, ck_s, .nil], .cells [ck_s, ck_b], .cells [ck_i, ck_i, ck_i, ck_s, ck_s, ck_s, ck_s, .sh (.rows (.int .i64))]], [⟨[], [], [], []⟩]⟩]),
  (5000011, .join [⟨.normal, [0], [4, 7, 9, 52], [.one (.ptr 0 0), .one (.ptr 1 0), .one (.ptr 2 0), ak_b], [.cells [ck_i, ck_i, ck_i, ck_s, ck_s, ck_s, ck_s, .nil], .cells [ck_s, ck_b], .cells [ck_i, ck_i, ck_i, ck_s, ck_s, ck_s, ck_s, .sh (.rows (.int .i64))]], [⟨[], [], [], []⟩]⟩])]
noncomputable def impl_ReadHeader.says (N : Nat) : List Say := [impl_cursor_byte.S N, impl_cursor_header.S N, impl_shortOk.S N, impl_GoodHeader.S N]
noncomputable def impl_ReadHeader.call (N : Nat) : CallK := callBy (impl_ReadHeader.says N)
noncomputable def impl_ReadHeader.qt (N : Nat) : FuncId → List PV → Sig → Cl := qtBy (impl_ReadHeader.says N)
noncomputable def impl_ReadHeader (N : Nat) (G : ByteArray) (o : Int) : Option (((Int × (Int × (Int × (ByteArray × (ByteArray × (ByteArray × (ByteArray × ((List Int) × Unit)))))))) × (Int × (Int × Unit))) × Unit) :=
  ofFn Try.prog impl_ReadHeader.call impl_ReadHeader.qt impl_ReadHeader.H N Try.f33 [ak_s, ak_i] [] [.agg [ck_i, ck_i, ck_i, ck_s, ck_s, ck_s, ck_s, .sh (.rows (.int .i64))], ak_i, ak_i] [] [⟨[], [], [], []⟩] (G, (o, ())) ()
noncomputable def impl_ReadHeader.S (N : Nat) : Say := ⟨false, 33, [ak_s, ak_i], [], [.agg [ck_i, ck_i, ck_i, ck_s, ck_s, ck_s, ck_s, .sh (.rows (.int .i64))], ak_i, ak_i], [], fun a s => impl_ReadHeader N a.1 a.2.1⟩
set_option maxRecDepth 100000 in
theorem impl_ReadHeader.eq (N : Nat) (G : ByteArray) (o : Int) : impl_ReadHeader N G o =
 andK (impl_cursor_byte N G false) fun u1 =>
 sel u1.2.1.2.1
  (
  some (((0, (0, (0, ((⟨#[]⟩ : ByteArray), ((⟨#[]⟩ : ByteArray), ((⟨#[]⟩ : ByteArray), ((⟨#[]⟩ : ByteArray), ([], ())))))))), (0, (1, ()))), ()))
  (
  sel (decide ((Go.bits .and .i64 u1.1.1 64) = 0))
   (
   some (((0, (0, (0, ((⟨#[]⟩ : ByteArray), ((⟨#[]⟩ : ByteArray), ((⟨#[]⟩ : ByteArray), ((⟨#[]⟩ : ByteArray), ([], ())))))))), (0, (2, ()))), ()))
   (
   andK (impl_cursor_header N u1.1.1 (mmI true o 0) u1.2.1.1 u1.2.1.2.1) fun u2 =>
   andK (α := ((Unit × (Unit × (Unit × (Bool × Unit)))) × ((Int × (Int × (Int × (ByteArray × (ByteArray × (ByteArray × (ByteArray × (Unit × Unit)))))))) × ((ByteArray × (Bool × Unit)) × ((Int × (Int × (Int × (ByteArray × (ByteArray × (ByteArray × (ByteArray × ((List Int) × Unit)))))))) × Unit))))) (
    sel (decide (u2.1.1.1 = 5))
     (
     some ((((), ((), ((), ((!(decide ((Int.tmod (IntKind.i64.wrap (Int.tdiv u1.1.1 16)) 4) = 0))), ())))), ((0, (0, (0, ((⟨#[]⟩ : ByteArray), ((⟨#[]⟩ : ByteArray), ((⟨#[]⟩ : ByteArray), ((⟨#[]⟩ : ByteArray), ((), ())))))))), ((u2.2.1.1, (u2.2.1.2.1, ())), ((u2.1.1.1, (u2.1.1.2.1, (u2.1.1.2.2.1, (u2.1.1.2.2.2.1, (u2.1.1.2.2.2.2.1, (u2.1.1.2.2.2.2.2.1, (u2.1.1.2.2.2.2.2.2.1, (u2.1.1.2.2.2.2.2.2.2.1, ())))))))), ()))))))
     (
     sel (decide (u2.1.1.1 = 4))
      (
      some ((((), ((), ((), ((!(decide ((Int.tmod (IntKind.i64.wrap (Int.tdiv u1.1.1 16)) 4) = 0))), ())))), ((0, (0, (0, ((⟨#[]⟩ : ByteArray), ((⟨#[]⟩ : ByteArray), ((⟨#[]⟩ : ByteArray), ((⟨#[]⟩ : ByteArray), ((), ())))))))), ((u2.2.1.1, (u2.2.1.2.1, ())), ((u2.1.1.1, (u2.1.1.2.1, (u2.1.1.2.2.1, (u2.1.1.2.2.2.1, (u2.1.1.2.2.2.2.1, (u2.1.1.2.2.2.2.2.1, (u2.1.1.2.2.2.2.2.2.1, (u2.1.1.2.2.2.2.2.2.2.1, ())))))))), ()))))))
      (
      some ((((), ((), ((), (false, ())))), ((0, (0, (0, ((⟨#[]⟩ : ByteArray), ((⟨#[]⟩ : ByteArray), ((⟨#[]⟩ : ByteArray), ((⟨#[]⟩ : ByteArray), ((), ())))))))), ((u2.2.1.1, (u2.2.1.2.1, ())), ((u2.1.1.1, (u2.1.1.2.1, (u2.1.1.2.2.1, (u2.1.1.2.2.2.1, (u2.1.1.2.2.2.2.1, (u2.1.1.2.2.2.2.2.1, (u2.1.1.2.2.2.2.2.2.1, (u2.1.1.2.2.2.2.2.2.2.1, ())))))))), ())))))))) fun j3 =>
   sel j3.2.2.1.2.1
    (
    some (((0, (0, (0, ((⟨#[]⟩ : ByteArray), ((⟨#[]⟩ : ByteArray), ((⟨#[]⟩ : ByteArray), ((⟨#[]⟩ : ByteArray), ([], ())))))))), (0, (1, ()))), ()))
    (
    andK (α := ((Unit × (Unit × (Unit × (Bool × Unit)))) × ((Int × (Int × (Int × (ByteArray × (ByteArray × (ByteArray × (ByteArray × (Unit × Unit)))))))) × ((ByteArray × (Bool × Unit)) × ((Int × (Int × (Int × (ByteArray × (ByteArray × (ByteArray × (ByteArray × ((List Int) × Unit)))))))) × Unit))))) (
     sel j3.1.2.2.2.1
      (
      some ((((), ((), ((), (true, ())))), ((j3.2.1.1, (j3.2.1.2.1, (j3.2.1.2.2.1, (j3.2.1.2.2.2.1, (j3.2.1.2.2.2.2.1, (j3.2.1.2.2.2.2.2.1, (j3.2.1.2.2.2.2.2.2.1, ((), ())))))))), ((j3.2.2.1.1, (j3.2.2.1.2.1, ())), ((j3.2.2.2.1.1, (j3.2.2.2.1.2.1, (j3.2.2.2.1.2.2.1, (j3.2.2.2.1.2.2.2.1, (j3.2.2.2.1.2.2.2.2.1, (j3.2.2.2.1.2.2.2.2.2.1, (j3.2.2.2.1.2.2.2.2.2.2.1, (j3.2.2.2.1.2.2.2.2.2.2.2.1, ())))))))), ()))))))
      (
      andK (impl_shortOk N o) fun u4 =>
      sel (!u4.1.1)
       (
       some ((((), ((), ((), (true, ())))), ((j3.2.1.1, (j3.2.1.2.1, (j3.2.1.2.2.1, (j3.2.1.2.2.2.1, (j3.2.1.2.2.2.2.1, (j3.2.1.2.2.2.2.2.1, (j3.2.1.2.2.2.2.2.2.1, ((), ())))))))), ((j3.2.2.1.1, (j3.2.2.1.2.1, ())), ((j3.2.2.2.1.1, (j3.2.2.2.1.2.1, (j3.2.2.2.1.2.2.1, (j3.2.2.2.1.2.2.2.1, (j3.2.2.2.1.2.2.2.2.1, (j3.2.2.2.1.2.2.2.2.2.1, (j3.2.2.2.1.2.2.2.2.2.2.1, (j3.2.2.2.1.2.2.2.2.2.2.2.1, ())))))))), ()))))))
       (
       andK (impl_GoodHeader N j3.2.2.2.1.1 j3.2.2.2.1.2.1 j3.2.2.2.1.2.2.1 j3.2.2.2.1.2.2.2.1 j3.2.2.2.1.2.2.2.2.1 j3.2.2.2.1.2.2.2.2.2.1 j3.2.2.2.1.2.2.2.2.2.2.1 j3.2.2.2.1.2.2.2.2.2.2.2.1) fun u5 =>
       some ((((), ((), ((), ((!u5.1.1), ())))), ((j3.2.1.1, (j3.2.1.2.1, (j3.2.1.2.2.1, (j3.2.1.2.2.2.1, (j3.2.1.2.2.2.2.1, (j3.2.1.2.2.2.2.2.1, (j3.2.1.2.2.2.2.2.2.1, ((), ())))))))), ((j3.2.2.1.1, (j3.2.2.1.2.1, ())), ((j3.2.2.2.1.1, (j3.2.2.2.1.2.1, (j3.2.2.2.1.2.2.1, (j3.2.2.2.1.2.2.2.1, (j3.2.2.2.1.2.2.2.2.1, (j3.2.2.2.1.2.2.2.2.2.1, (j3.2.2.2.1.2.2.2.2.2.2.1, (j3.2.2.2.1.2.2.2.2.2.2.2.1, ())))))))), ())))))))) fun j6 =>
    sel j6.1.2.2.2.1
     (
     some (((0, (0, (0, ((⟨#[]⟩ : ByteArray), ((⟨#[]⟩ : ByteArray), ((⟨#[]⟩ : ByteArray), ((⟨#[]⟩ : ByteArray), ([], ())))))))), (0, (3, ()))), ()))
     (
     some (((j6.2.2.2.1.1, (j6.2.2.2.1.2.1, (j6.2.2.2.1.2.2.1, (j6.2.2.2.1.2.2.2.1, (j6.2.2.2.1.2.2.2.2.1, (j6.2.2.2.1.2.2.2.2.2.1, (j6.2.2.2.1.2.2.2.2.2.2.1, (j6.2.2.2.1.2.2.2.2.2.2.2.1, ())))))))), ((IntKind.i64.wrap ((G.size : Int) - (j6.2.2.1.1.size : Int))), (0, ()))), ()))))) := by kernel_rfl
set_option maxRecDepth 100000 in
theorem impl_ReadHeader.say (N : Nat) : SayOk Try.prog (impl_ReadHeader.S N) := sayOk_mk (N := N) (H := impl_ReadHeader.H) (preps := [⟨[], [], [], []⟩]) (l := impl_ReadHeader.says) (fn := Try.f33) (c := bodyOf Try.f33)
  (by kernel_rfl) (by kernel_rfl) (by kernel_rfl) (by kernel_rfl) (by kernel_rfl) (by kernel_rfl) (by kernel_rfl)
  (fun N => SayAll.cons (impl_cursor_byte.say N) (SayAll.cons (impl_cursor_header.say N) (SayAll.cons (impl_shortOk.say N) (SayAll.cons (impl_GoodHeader.say N) (SayAll.nil))))) (fun a s => by kernel_rfl)

/-! ### loop.example/g00206/impl.CutDatagram: function 14 -/
noncomputable def impl_CutDatagram.H : Hints := hintsOf [(5000001, .join [⟨.normal, [0, 1], [17], [ak_b], [], [⟨[], [], [], []⟩]⟩]),
  (2000004, .loop ⟨.normal, [1], [0, 6], [ak_s, .one (.own 0)], [.rows .str], [⟨[(6, .str)], [], [], [0]⟩, ⟨[], [], [], [0]⟩]⟩ [⟨.ret, [], [4, 5], [.one .nil, ak_b], [], [⟨[], [], [], []⟩]⟩, ⟨(.exit 0), [], [6], [.one (.own 0)], [.rows .str], [⟨[], [], [], [0]⟩]⟩])]
noncomputable def impl_CutDatagram.says (N : Nat) : List Say := [impl_shortOk.S N, impl_ReadHeader.S N]
noncomputable def impl_CutDatagram.call (N : Nat) : CallK := callBy (impl_CutDatagram.says N)
noncomputable def impl_CutDatagram.qt (N : Nat) : FuncId → List PV → Sig → Cl := qtBy (impl_CutDatagram.says N)
noncomputable def impl_CutDatagram.l0.hd : Alt := ⟨.normal, [1], [0, 6], [ak_s, .one (.own 0)], [.rows .str], [⟨[(6, .str)], [], [], [0]⟩, ⟨[], [], [], [0]⟩]⟩
noncomputable def impl_CutDatagram.l0.outs : List Alt := [⟨.ret, [], [4, 5], [.one .nil, ak_b], [], [⟨[], [], [], []⟩]⟩, ⟨(.exit 0), [], [6], [.one (.own 0)], [.rows .str], [⟨[], [], [], [0]⟩]⟩]
noncomputable def impl_CutDatagram.l0 (N : Nat) (short1 : Int) (s1 : ByteArray) (p0 : (List ByteArray)) : Option (((Unit × (Bool × Unit)) × Unit) ⊕ ((Unit × Unit) × ((List ByteArray) × Unit))) :=
  loopK Try.prog impl_CutDatagram.call impl_CutDatagram.qt impl_CutDatagram.H (codeAt (bodyOf Try.f14) [1, 1, 1, 0, 0, 0]) 0 impl_CutDatagram.l0.hd impl_CutDatagram.l0.outs [(1, .v (.int .i64 short1))] N ((s1, ((), ())), (p0, ()))
noncomputable def impl_CutDatagram (N : Nat) (s : ByteArray) (short : Int) : Option ((Unit × (Bool × Unit)) × ((List ByteArray) × Unit)) :=
  ofFn Try.prog impl_CutDatagram.call impl_CutDatagram.qt impl_CutDatagram.H N Try.f14 [ak_s, ak_i] [] [.one (.own 0), ak_b] [.rows .str] [⟨[(0, .str)], [], [], [0]⟩, ⟨[], [], [], [0]⟩] (s, (short, ())) ()
noncomputable def impl_CutDatagram.S (N : Nat) : Say := ⟨false, 14, [ak_s, ak_i], [], [.one (.own 0), ak_b], [.rows .str], fun a s => impl_CutDatagram N a.1 a.2.1⟩
set_option maxRecDepth 100000 in
theorem impl_CutDatagram.l0.eq (N : Nat) (short1 : Int) (s1 : ByteArray) (p0 : (List ByteArray)) : impl_CutDatagram.l0 (N + 1) short1 s1 p0 =
 sel (!(decide (s1 = (⟨#[]⟩ : ByteArray))))
  (
  andK (impl_ReadHeader N s1 short1) fun u3 =>
  sel (!(decide (u3.1.2.2.1 = 0)))
   (
   some (.inl (((), (false, ())), ())))
   (
   chk ((decide (0 ≤ u3.1.2.1)) && (decide (u3.1.2.1 ≤ (s1.size : Int)))) (
   chk (decide (p0.length + 1 < most)) (
   chk ((decide (0 ≤ u3.1.2.1)) && ((decide (u3.1.2.1 ≤ (s1.size : Int))) && (decide ((s1.size : Int) ≤ (s1.size : Int))))) (
   impl_CutDatagram.l0 N short1 (s1.extract (Int.toNat u3.1.2.1) (Int.toNat (s1.size : Int))) (p0 ++ [(s1.extract 0 (Int.toNat u3.1.2.1))]))))))
  (
  some (.inr ((((), ()), (p0, ()))))) := by kernel_rfl
set_option maxRecDepth 100000 in
theorem impl_CutDatagram.eq (N : Nat) (s : ByteArray) (short : Int) : impl_CutDatagram N s short =
 andK (α := ((Bool × Unit) × Unit)) (
  sel (decide (1500 < (s.size : Int)))
   (
   some (((true, ()), ())))
   (
   andK (impl_shortOk N short) fun u1 =>
   some ((((!u1.1.1), ()), ())))) fun j2 =>
 sel j2.1.1
  (
  some (((), (false, ())), ([], ())))
  (
  andK (impl_CutDatagram.l0 N short s []) fun l4 =>
  orK l4 (fun x5 =>
   some (((), (x5.1.2.1, ())), ([], ())))
   (fun x6 =>
   some (((), (true, ())), (x6.2.1, ())))) := by kernel_rfl
set_option maxRecDepth 100000 in
theorem impl_CutDatagram.say (N : Nat) : SayOk Try.prog (impl_CutDatagram.S N) := sayOk_mk (N := N) (H := impl_CutDatagram.H) (preps := [⟨[(0, .str)], [], [], [0]⟩, ⟨[], [], [], [0]⟩]) (l := impl_CutDatagram.says) (fn := Try.f14) (c := bodyOf Try.f14)
  (by kernel_rfl) (by kernel_rfl) (by kernel_rfl) (by kernel_rfl) (by kernel_rfl) (by kernel_rfl) (by kernel_rfl)
  (fun N => SayAll.cons (impl_shortOk.say N) (SayAll.cons (impl_ReadHeader.say N) (SayAll.nil))) (fun a s => by kernel_rfl)

/-! ### loop.example/g00206/laws.eqStringS: function 15 -/
noncomputable def laws_eqStringS.H : Hints := hintsOf [(2000004, .loop ⟨.normal, [0, 1], [5], [ak_i], [], [⟨[], [], [], []⟩]⟩ [⟨.ret, [], [4], [ak_b], [], [⟨[], [], [], []⟩]⟩, ⟨(.exit 0), [], [], [], [], [⟨[], [], [], []⟩]⟩])]
noncomputable def laws_eqStringS.says (N : Nat) : List Say := []
noncomputable def laws_eqStringS.call (N : Nat) : CallK := callBy (laws_eqStringS.says N)
noncomputable def laws_eqStringS.qt (N : Nat) : FuncId → List PV → Sig → Cl := qtBy (laws_eqStringS.says N)
noncomputable def laws_eqStringS.l0.hd : Alt := ⟨.normal, [0, 1], [5], [ak_i], [], [⟨[], [], [], []⟩]⟩
noncomputable def laws_eqStringS.l0.outs : List Alt := [⟨.ret, [], [4], [ak_b], [], [⟨[], [], [], []⟩]⟩, ⟨(.exit 0), [], [], [], [], [⟨[], [], [], []⟩]⟩]
noncomputable def laws_eqStringS.l0 (N : Nat) (a1 : (List ByteArray)) (b1 : (List ByteArray)) (i : Int) : Option (((Bool × Unit) × Unit) ⊕ (Unit × Unit)) :=
  loopK Try.prog laws_eqStringS.call laws_eqStringS.qt laws_eqStringS.H (codeAt (bodyOf Try.f15) [1, 1, 0, 1, 0, 0]) 0 laws_eqStringS.l0.hd laws_eqStringS.l0.outs [(0, .rows false .str a1), (1, .rows false .str b1)] N ((i, ()), ())
noncomputable def laws_eqStringS (N : Nat) (a : (List ByteArray)) (b : (List ByteArray)) : Option ((Bool × Unit) × Unit) :=
  ofFn Try.prog laws_eqStringS.call laws_eqStringS.qt laws_eqStringS.H N Try.f15 [.one (.sh (.rows .str)), .one (.sh (.rows .str))] [] [ak_b] [] [⟨[], [], [], []⟩] (a, (b, ())) ()
noncomputable def laws_eqStringS.S (N : Nat) : Say := ⟨false, 15, [.one (.sh (.rows .str)), .one (.sh (.rows .str))], [], [ak_b], [], fun a s => laws_eqStringS N a.1 a.2.1⟩
set_option maxRecDepth 100000 in
theorem laws_eqStringS.l0.eq (N : Nat) (a1 : (List ByteArray)) (b1 : (List ByteArray)) (i : Int) : laws_eqStringS.l0 (N + 1) a1 b1 i =
 sel (decide (i < (a1.length : Int)))
  (
  chk ((decide (0 ≤ i)) && (decide (i < (a1.length : Int)))) (
  chk ((decide (0 ≤ i)) && (decide (i < (b1.length : Int)))) (
  sel (!(decide ((a1.getD (Int.toNat i) (⟨#[]⟩ : ByteArray)) = (b1.getD (Int.toNat i) (⟨#[]⟩ : ByteArray)))))
   (
   some (.inl ((false, ()), ())))
   (
   laws_eqStringS.l0 N a1 b1 (IntKind.i64.wrap (i + 1))))))
  (
  some (.inr (((), ())))) := by kernel_rfl
set_option maxRecDepth 100000 in
theorem laws_eqStringS.eq (N : Nat) (a : (List ByteArray)) (b : (List ByteArray)) : laws_eqStringS N a b =
 sel (!(decide ((a.length : Int) = (b.length : Int))))
  (
  some ((false, ()), ()))
  (
  andK (laws_eqStringS.l0 N a b 0) fun l1 =>
  orK l1 (fun x2 =>
   some ((x2.1.1, ()), ()))
   (fun x3 =>
   some ((true, ()), ()))) := by kernel_rfl
set_option maxRecDepth 100000 in
theorem laws_eqStringS.say (N : Nat) : SayOk Try.prog (laws_eqStringS.S N) := sayOk_mk (N := N) (H := laws_eqStringS.H) (preps := [⟨[], [], [], []⟩]) (l := laws_eqStringS.says) (fn := Try.f15) (c := bodyOf Try.f15)
  (by kernel_rfl) (by kernel_rfl) (by kernel_rfl) (by kernel_rfl) (by kernel_rfl) (by kernel_rfl) (by kernel_rfl)
  (fun N => SayAll.nil) (fun a s => by kernel_rfl)
noncomputable def laws_eqStringS.SB (N : Nat) : Say := laws_eqStringS.S N |>.lent
theorem laws_eqStringS.sayB (N : Nat) : SayOk Try.prog (laws_eqStringS.SB N) := (laws_eqStringS.say N).lent

/-! ### loop.example/g00206/laws.markText: function 56 -/
noncomputable def laws_markText.H : Hints := hintsOf [(2000004, .loop ⟨.normal, [], [0, 3], [ak_i, ak_s], [], [⟨[], [], [], []⟩]⟩ [⟨(.exit 0), [], [3], [ak_s], [], [⟨[], [], [], []⟩]⟩])]
noncomputable def laws_markText.says (N : Nat) : List Say := []
noncomputable def laws_markText.call (N : Nat) : CallK := callBy (laws_markText.says N)
noncomputable def laws_markText.qt (N : Nat) : FuncId → List PV → Sig → Cl := qtBy (laws_markText.says N)
noncomputable def laws_markText.l0.hd : Alt := ⟨.normal, [], [0, 3], [ak_i, ak_s], [], [⟨[], [], [], []⟩]⟩
noncomputable def laws_markText.l0.outs : List Alt := [⟨(.exit 0), [], [3], [ak_s], [], [⟨[], [], [], []⟩]⟩]
noncomputable def laws_markText.l0 (N : Nat) (k1 : Int) (out : ByteArray) : Option ((ByteArray × Unit) × Unit) :=
  loopK Try.prog laws_markText.call laws_markText.qt laws_markText.H (codeAt (bodyOf Try.f56) [1, 1, 1, 0, 0, 0]) 0 laws_markText.l0.hd laws_markText.l0.outs [] N ((k1, (out, ())), ())
noncomputable def laws_markText (N : Nat) (k : Int) : Option ((ByteArray × Unit) × Unit) :=
  ofFn Try.prog laws_markText.call laws_markText.qt laws_markText.H N Try.f56 [ak_i] [] [ak_s] [] [⟨[], [], [], []⟩] (k, ()) ()
noncomputable def laws_markText.S (N : Nat) : Say := ⟨false, 56, [ak_i], [], [ak_s], [], fun a s => laws_markText N a.1⟩
set_option maxRecDepth 100000 in
theorem laws_markText.l0.eq (N : Nat) (k1 : Int) (out : ByteArray) : laws_markText.l0 (N + 1) k1 out =
 sel (decide (0 < k1))
  (
  chk (decide ((strL [(IntKind.u8.wrap (IntKind.i64.wrap (48 + (Int.tmod k1 10))))]).size + out.size ≤ 9223372036854775807)) (
  laws_markText.l0 N (IntKind.i64.wrap (Int.tdiv k1 10)) ((strL [(IntKind.u8.wrap (IntKind.i64.wrap (48 + (Int.tmod k1 10))))]) ++ out)))
  (
  some (((out, ()), ()))) := by kernel_rfl
set_option maxRecDepth 100000 in
theorem laws_markText.eq (N : Nat) (k : Int) : laws_markText N k =
 sel (decide (k ≤ 0))
  (
  some (((⟨#[109, 48]⟩ : ByteArray), ()), ()))
  (
  andK (laws_markText.l0 N k (⟨#[]⟩ : ByteArray)) fun l1 =>
  chk (decide (1 + l1.1.1.size ≤ 9223372036854775807)) (
  some ((((⟨#[109]⟩ : ByteArray) ++ l1.1.1), ()), ()))) := by kernel_rfl
set_option maxRecDepth 100000 in
theorem laws_markText.say (N : Nat) : SayOk Try.prog (laws_markText.S N) := sayOk_mk (N := N) (H := laws_markText.H) (preps := [⟨[], [], [], []⟩]) (l := laws_markText.says) (fn := Try.f56) (c := bodyOf Try.f56)
  (by kernel_rfl) (by kernel_rfl) (by kernel_rfl) (by kernel_rfl) (by kernel_rfl) (by kernel_rfl) (by kernel_rfl)
  (fun N => SayAll.nil) (fun a s => by kernel_rfl)

/-! ### loop.example/g00206/laws.markStringS: function 16 -/
noncomputable def laws_markStringS.H : Hints := hintsOf [(2000002, .loop ⟨.normal, [], [0, 1, 5], [.one (.own 0), ak_i, ak_i], [.rows .str true], [⟨[], [], [], []⟩]⟩ [⟨(.exit 0), [], [1], [ak_i], [.rows .str true], [⟨[], [], [], []⟩]⟩])]
noncomputable def laws_markStringS.says (N : Nat) : List Say := [laws_markText.S N]
noncomputable def laws_markStringS.call (N : Nat) : CallK := callBy (laws_markStringS.says N)
noncomputable def laws_markStringS.qt (N : Nat) : FuncId → List PV → Sig → Cl := qtBy (laws_markStringS.says N)
noncomputable def laws_markStringS.l0.hd : Alt := ⟨.normal, [], [0, 1, 5], [.one (.own 0), ak_i, ak_i], [.rows .str true], [⟨[], [], [], []⟩]⟩
noncomputable def laws_markStringS.l0.outs : List Alt := [⟨(.exit 0), [], [1], [ak_i], [.rows .str true], [⟨[], [], [], []⟩]⟩]
noncomputable def laws_markStringS.l0 (N : Nat) (k1 : Int) (i : Int) (p01 : (List ByteArray)) : Option ((Int × Unit) × ((List ByteArray) × Unit)) :=
  loopK Try.prog laws_markStringS.call laws_markStringS.qt laws_markStringS.H (codeAt (bodyOf Try.f16) [1, 0, 1, 0, 0]) 1 laws_markStringS.l0.hd laws_markStringS.l0.outs [] N (((), (k1, (i, ()))), (p01, ()))
noncomputable def laws_markStringS (N : Nat) (k : Int) (p0 : (List ByteArray)) : Option ((Int × Unit) × ((List ByteArray) × Unit)) :=
  ofFn Try.prog laws_markStringS.call laws_markStringS.qt laws_markStringS.H N Try.f16 [.one (.own 0), ak_i] [.rows .str] [ak_i] [.rows .str true] [⟨[], [], [], []⟩] ((), (k, ())) (p0, ())
noncomputable def laws_markStringS.S (N : Nat) : Say := ⟨false, 16, [.one (.own 0), ak_i], [.rows .str], [ak_i], [.rows .str true], fun a s => laws_markStringS N a.2.1 s.1⟩
set_option maxRecDepth 100000 in
theorem laws_markStringS.l0.eq (N : Nat) (k1 : Int) (i : Int) (p01 : (List ByteArray)) : laws_markStringS.l0 (N + 1) k1 i p01 =
 sel (decide (i < (p01.length : Int)))
  (
  andK (laws_markText N k1) fun u1 =>
  chk ((decide (0 ≤ i)) && (decide (i < (p01.length : Int)))) (
  laws_markStringS.l0 N (IntKind.i64.wrap (k1 + 1)) (IntKind.i64.wrap (i + 1)) (p01.set (Int.toNat i) u1.1.1)))
  (
  some (((k1, ()), (p01, ())))) := by kernel_rfl
set_option maxRecDepth 100000 in
theorem laws_markStringS.eq (N : Nat) (k : Int) (p0 : (List ByteArray)) : laws_markStringS N k p0 =
 andK (laws_markStringS.l0 N k 0 p0) fun l2 =>
 some ((l2.1.1, ()), (l2.2.1, ())) := by kernel_rfl
set_option maxRecDepth 100000 in
theorem laws_markStringS.say (N : Nat) : SayOk Try.prog (laws_markStringS.S N) := sayOk_mk (N := N) (H := laws_markStringS.H) (preps := [⟨[], [], [], []⟩]) (l := laws_markStringS.says) (fn := Try.f16) (c := bodyOf Try.f16)
  (by kernel_rfl) (by kernel_rfl) (by kernel_rfl) (by kernel_rfl) (by kernel_rfl) (by kernel_rfl) (by kernel_rfl)
  (fun N => SayAll.cons (laws_markText.say N) (SayAll.nil)) (fun a s => by kernel_rfl)

/-! ### loop.example/g00206/laws.heldStringS: function 17 -/
noncomputable def laws_heldStringS.H : Hints := hintsOf [(2000002, .loop ⟨.normal, [0], [1, 5], [ak_i, ak_i], [], [⟨[], [], [], []⟩]⟩ [⟨.ret, [], [4], [ak_i], [], [⟨[], [], [], []⟩]⟩, ⟨(.exit 0), [], [1], [ak_i], [], [⟨[], [], [], []⟩]⟩])]
noncomputable def laws_heldStringS.says (N : Nat) : List Say := [laws_markText.S N]
noncomputable def laws_heldStringS.call (N : Nat) : CallK := callBy (laws_heldStringS.says N)
noncomputable def laws_heldStringS.qt (N : Nat) : FuncId → List PV → Sig → Cl := qtBy (laws_heldStringS.says N)
noncomputable def laws_heldStringS.l0.hd : Alt := ⟨.normal, [0], [1, 5], [ak_i, ak_i], [], [⟨[], [], [], []⟩]⟩
noncomputable def laws_heldStringS.l0.outs : List Alt := [⟨.ret, [], [4], [ak_i], [], [⟨[], [], [], []⟩]⟩, ⟨(.exit 0), [], [1], [ak_i], [], [⟨[], [], [], []⟩]⟩]
noncomputable def laws_heldStringS.l0 (N : Nat) (a1 : (List ByteArray)) (k1 : Int) (i : Int) : Option (((Int × Unit) × Unit) ⊕ ((Int × Unit) × Unit)) :=
  loopK Try.prog laws_heldStringS.call laws_heldStringS.qt laws_heldStringS.H (codeAt (bodyOf Try.f17) [1, 0, 1, 0, 0]) 0 laws_heldStringS.l0.hd laws_heldStringS.l0.outs [(0, .rows false .str a1)] N ((k1, (i, ())), ())
noncomputable def laws_heldStringS (N : Nat) (a : (List ByteArray)) (k : Int) : Option ((Int × Unit) × Unit) :=
  ofFn Try.prog laws_heldStringS.call laws_heldStringS.qt laws_heldStringS.H N Try.f17 [.one (.sh (.rows .str)), ak_i] [] [ak_i] [] [⟨[], [], [], []⟩] (a, (k, ())) ()
noncomputable def laws_heldStringS.S (N : Nat) : Say := ⟨false, 17, [.one (.sh (.rows .str)), ak_i], [], [ak_i], [], fun a s => laws_heldStringS N a.1 a.2.1⟩
set_option maxRecDepth 100000 in
theorem laws_heldStringS.l0.eq (N : Nat) (a1 : (List ByteArray)) (k1 : Int) (i : Int) : laws_heldStringS.l0 (N + 1) a1 k1 i =
 sel (decide (i < (a1.length : Int)))
  (
  chk ((decide (0 ≤ i)) && (decide (i < (a1.length : Int)))) (
  andK (laws_markText N k1) fun u1 =>
  sel (!(decide ((a1.getD (Int.toNat i) (⟨#[]⟩ : ByteArray)) = u1.1.1)))
   (
   some (.inl (((-1), ()), ())))
   (
   laws_heldStringS.l0 N a1 (IntKind.i64.wrap (k1 + 1)) (IntKind.i64.wrap (i + 1)))))
  (
  some (.inr (((k1, ()), ())))) := by kernel_rfl
set_option maxRecDepth 100000 in
theorem laws_heldStringS.eq (N : Nat) (a : (List ByteArray)) (k : Int) : laws_heldStringS N a k =
 andK (laws_heldStringS.l0 N a k 0) fun l2 =>
 orK l2 (fun x3 =>
  some ((x3.1.1, ()), ()))
  (fun x4 =>
  some ((x4.1.1, ()), ())) := by kernel_rfl
set_option maxRecDepth 100000 in
theorem laws_heldStringS.say (N : Nat) : SayOk Try.prog (laws_heldStringS.S N) := sayOk_mk (N := N) (H := laws_heldStringS.H) (preps := [⟨[], [], [], []⟩]) (l := laws_heldStringS.says) (fn := Try.f17) (c := bodyOf Try.f17)
  (by kernel_rfl) (by kernel_rfl) (by kernel_rfl) (by kernel_rfl) (by kernel_rfl) (by kernel_rfl) (by kernel_rfl)
  (fun N => SayAll.cons (laws_markText.say N) (SayAll.nil)) (fun a s => by kernel_rfl)
noncomputable def laws_heldStringS.SB (N : Nat) : Say := laws_heldStringS.S N |>.lent
theorem laws_heldStringS.sayB (N : Nat) : SayOk Try.prog (laws_heldStringS.SB N) := (laws_heldStringS.say N).lent

/-! ### loop.example/g00206/laws.FnExactCutDatagram: function 4 -/
noncomputable def laws_FnExactCutDatagram.H : Hints := hintsOf [(5000005, .join [⟨.normal, [0, 1, 6], [5, 7, 36], [.one (.own 0), .one (.own 1), ak_b], [.rows .str, .rows .str], [⟨[], [], [], []⟩]⟩]),
  (5000016, .join [⟨.normal, [9], [7, 62], [.one (.own 1), ak_b], [.rows .str, .rows .str, .rows .str], [⟨[], [], [], []⟩]⟩])]
noncomputable def laws_FnExactCutDatagram.says (N : Nat) : List Say := [spec_CutDatagram.S N, impl_CutDatagram.S N, laws_eqStringS.SB N, laws_markStringS.S N, laws_heldStringS.SB N]
noncomputable def laws_FnExactCutDatagram.call (N : Nat) : CallK := callBy (laws_FnExactCutDatagram.says N)
noncomputable def laws_FnExactCutDatagram.qt (N : Nat) : FuncId → List PV → Sig → Cl := qtBy (laws_FnExactCutDatagram.says N)
noncomputable def laws_FnExactCutDatagram (N : Nat) (G : ByteArray) (o : Int) : Option ((Bool × Unit) × Unit) :=
  ofFn Try.prog laws_FnExactCutDatagram.call laws_FnExactCutDatagram.qt laws_FnExactCutDatagram.H N Try.f4 [ak_s, ak_i] [] [ak_b] [] [⟨[], [], [], []⟩] (G, (o, ())) ()
noncomputable def laws_FnExactCutDatagram.S (N : Nat) : Say := ⟨false, 4, [ak_s, ak_i], [], [ak_b], [], fun a s => laws_FnExactCutDatagram N a.1 a.2.1⟩
set_option maxRecDepth 100000 in
theorem laws_FnExactCutDatagram.eq (N : Nat) (G : ByteArray) (o : Int) : laws_FnExactCutDatagram N G o =
 sel (decide (1048576 < (G.size : Int)))
  (
  some ((true, ()), ()))
  (
  andK (spec_CutDatagram N G o) fun u1 =>
  andK (impl_CutDatagram N G o) fun u2 =>
  andK (α := ((Unit × (Unit × (Bool × Unit))) × ((List ByteArray) × ((List ByteArray) × Unit)))) (
   andK (laws_eqStringS N u2.2.1 u1.2.1) fun u3 =>
   sel (!u3.1.1)
    (
    some ((((), ((), (true, ()))), (u1.2.1, (u2.2.1, ())))))
    (
    some ((((), ((), ((!(u2.1.2.1 == u1.1.2.1)), ()))), (u1.2.1, (u2.2.1, ())))))) fun j4 =>
  sel j4.1.2.2.1
   (
   some ((false, ()), ()))
   (
   andK (laws_markStringS N 1 j4.2.2.1) fun u5 =>
   andK (laws_heldStringS N u5.2.1 1) fun u6 =>
   sel (decide (u6.1.1 < 0))
    (
    some ((false, ()), ()))
    (
    sel (!(decide (u6.1.1 = u5.1.1)))
     (
     some ((false, ()), ()))
     (
     andK (impl_CutDatagram N G o) fun u7 =>
     andK (α := ((Unit × (Bool × Unit)) × ((List ByteArray) × ((List ByteArray) × ((List ByteArray) × Unit))))) (
      andK (laws_eqStringS N u7.2.1 j4.2.1) fun u8 =>
      sel (!u8.1.1)
       (
       some ((((), (true, ())), (j4.2.1, (u5.2.1, (u7.2.1, ()))))))
       (
       some ((((), ((!(u7.1.2.1 == u1.1.2.1)), ())), (j4.2.1, (u5.2.1, (u7.2.1, ()))))))) fun j9 =>
     sel j9.1.2.1
      (
      some ((false, ()), ()))
      (
      andK (laws_heldStringS N j9.2.2.1 1) fun u10 =>
      sel (decide (u10.1.1 < 0))
       (
       some ((false, ()), ()))
       (
       sel (!(decide (u10.1.1 = u5.1.1)))
        (
        some ((false, ()), ()))
        (
        some ((true, ()), ())))))))) := by kernel_rfl
set_option maxRecDepth 100000 in
theorem laws_FnExactCutDatagram.say (N : Nat) : SayOk Try.prog (laws_FnExactCutDatagram.S N) := sayOk_mk (N := N) (H := laws_FnExactCutDatagram.H) (preps := [⟨[], [], [], []⟩]) (l := laws_FnExactCutDatagram.says) (fn := Try.f4) (c := bodyOf Try.f4)
  (by kernel_rfl) (by kernel_rfl) (by kernel_rfl) (by kernel_rfl) (by kernel_rfl) (by kernel_rfl) (by kernel_rfl)
  (fun N => SayAll.cons (spec_CutDatagram.say N) (SayAll.cons (impl_CutDatagram.say N) (SayAll.cons (laws_eqStringS.sayB N) (SayAll.cons (laws_markStringS.say N) (SayAll.cons (laws_heldStringS.sayB N) (SayAll.nil)))))) (fun a s => by kernel_rfl)

end Go.Proofs.Ytcngjidojibleab.GFnExactCutDatagram
