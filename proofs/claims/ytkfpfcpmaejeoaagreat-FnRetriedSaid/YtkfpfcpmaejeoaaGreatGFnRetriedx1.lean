-- Written by a program of this session out of the translation; Lean checks it.
import Derived.Test.YtkfpfcpmaejeoaaGreatPmLaw
import Derived.Test.YtkfpfcpmaejeoaaGreatProg
import Derived.Test.YtkfpfcpmaejeoaaGreatShelf
import Derived.Test.YtkfpfcpmaejeoaaGreatGFnRetriedx0
set_option linter.unusedVariables false
namespace Go.Proofs.YtkfpfcpmaejeoaaGreat.GFnRetried
open Go Go.Proofs Go.Proofs.YtkfpfcpmaejeoaaGreatPM

/-! ### (*loop.example/g00206/spec.l5K).count: function 86 -/
noncomputable def spec_l5K_count.H : Hints := hintsOf [(5000007, .join [⟨.normal, [1, 2, 8, 9, 10], [0, 7, 41], [.one (.ptr 0 0), .one (.own 3), ak_b], [.cells [.own 1, .own 2, ck_s], .rows (.int .u8) true, .rows (.int .u8) true, .rows (.int .u8)], [⟨[], [], [], []⟩]⟩]),
  (2000007, .loop ⟨.normal, [1, 2, 8, 9], [0, 7, 10], [.one (.ptr 0 0), .one (.own 3), ak_i], [.cells [.own 1, .own 2, ck_s], .rows (.int .u8) true, .rows (.int .u8) true, .rows (.int .u8)], [⟨[], [], [], []⟩]⟩ [⟨(.exit 2), [1, 2, 8], [0, 7], [.one (.ptr 0 0), .one (.own 3)], [.cells [.own 1, .own 2, ck_s], .rows (.int .u8) true, .rows (.int .u8) true, .rows (.int .u8)], [⟨[], [], [], []⟩]⟩]),
  (2000003, .loop ⟨.normal, [1, 2], [0, 7, 8], [.one (.ptr 0 0), .one (.own 3), ak_i], [.cells [.own 1, .own 2, ck_s], .rows (.int .u8) true, .rows (.int .u8) true, .rows (.int .u8)], [⟨[(7, (.int .u8))], [], [], [3]⟩, ⟨[], [], [], [3]⟩]⟩ [⟨(.exit 0), [], [7], [.one (.own 3)], [.cells [.own 1, .own 2, ck_s], .rows (.int .u8) true, .rows (.int .u8) true, .rows (.int .u8)], [⟨[], [], [], [3]⟩]⟩])]
noncomputable def spec_l5K_count.says (N : Nat) : List Say := [spec_l1Fixed.S N, spec_l3With.SB N]
noncomputable def spec_l5K_count.call (N : Nat) : CallK := callBy (spec_l5K_count.says N)
noncomputable def spec_l5K_count.qt (N : Nat) : FuncId → List PV → Sig → Cl := qtBy (spec_l5K_count.says N)
noncomputable def spec_l5K_count.l0.hd : Alt := ⟨.normal, [1, 2], [0, 7, 8], [.one (.ptr 0 0), .one (.own 3), ak_i], [.cells [.own 1, .own 2, ck_s], .rows (.int .u8) true, .rows (.int .u8) true, .rows (.int .u8)], [⟨[(7, (.int .u8))], [], [], [3]⟩, ⟨[], [], [], [3]⟩]⟩
noncomputable def spec_l5K_count.l0.outs : List Alt := [⟨(.exit 0), [], [7], [.one (.own 3)], [.cells [.own 1, .own 2, ck_s], .rows (.int .u8) true, .rows (.int .u8) true, .rows (.int .u8)], [⟨[], [], [], [3]⟩]⟩]
noncomputable def spec_l5K_count.l0 (N : Nat) (nonce1 : ByteArray) (text1 : ByteArray) (atv : Int) (p0_21 : ByteArray) (p11 : (List Int)) (p21 : (List Int)) (p3 : (List Int)) : Option ((Unit × Unit) × ((Unit × (Unit × (ByteArray × Unit))) × ((List Int) × ((List Int) × ((List Int) × Unit))))) :=
  loopK Tryz.prog spec_l5K_count.call spec_l5K_count.qt spec_l5K_count.H (codeAt (bodyOf Tryz.f86) [1, 1, 0, 1, 0, 0]) 3 spec_l5K_count.l0.hd spec_l5K_count.l0.outs [(1, .v (.string nonce1)), (2, .v (.string text1))] N (((), ((), (atv, ()))), (((), ((), (p0_21, ()))), (p11, (p21, (p3, ())))))
noncomputable def spec_l5K_count.l1.hd : Alt := ⟨.normal, [1, 2, 8, 9], [0, 7, 10], [.one (.ptr 0 0), .one (.own 3), ak_i], [.cells [.own 1, .own 2, ck_s], .rows (.int .u8) true, .rows (.int .u8) true, .rows (.int .u8)], [⟨[], [], [], []⟩]⟩
noncomputable def spec_l5K_count.l1.outs : List Alt := [⟨(.exit 2), [1, 2, 8], [0, 7], [.one (.ptr 0 0), .one (.own 3)], [.cells [.own 1, .own 2, ck_s], .rows (.int .u8) true, .rows (.int .u8) true, .rows (.int .u8)], [⟨[], [], [], []⟩]⟩]
noncomputable def spec_l5K_count.l1 (N : Nat) (nonce2 : ByteArray) (text2 : ByteArray) (atv1 : Int) (b : ByteArray) (i : Int) (p0_22 : ByteArray) (p12 : (List Int)) (p22 : (List Int)) (p31 : (List Int)) : Option ((Unit × (Unit × Unit)) × ((Unit × (Unit × (ByteArray × Unit))) × ((List Int) × ((List Int) × ((List Int) × Unit))))) :=
  loopK Tryz.prog spec_l5K_count.call spec_l5K_count.qt spec_l5K_count.H (codeAt (bodyOf Tryz.f86) [1, 1, 0, 1, 0, 0, 1, 0, 0, 1, 1, 0, 0]) 4 spec_l5K_count.l1.hd spec_l5K_count.l1.outs [(1, .v (.string nonce2)), (2, .v (.string text2)), (8, .v (.int .i64 atv1)), (9, .v (.string b))] N (((), ((), (i, ()))), (((), ((), (p0_22, ()))), (p12, (p22, (p31, ())))))
noncomputable def spec_l5K_count (N : Nat) (nonce : ByteArray) (text : ByteArray) (p0_2 : ByteArray) (p1 : (List Int)) (p2 : (List Int)) : Option ((ByteArray × Unit) × ((Unit × (Unit × (ByteArray × Unit))) × ((List Int) × ((List Int) × Unit)))) :=
  ofFn Tryz.prog spec_l5K_count.call spec_l5K_count.qt spec_l5K_count.H N Tryz.f86 [.one (.ptr 0 0), ak_s, ak_s] [.cells [.own 1, .own 2, ck_s], .rows (.int .u8), .rows (.int .u8)] [ak_s] [.cells [.own 1, .own 2, ck_s], .rows (.int .u8) true, .rows (.int .u8) true] [⟨[], [], [], []⟩] ((), (nonce, (text, ()))) (((), ((), (p0_2, ()))), (p1, (p2, ())))
noncomputable def spec_l5K_count.S (N : Nat) : Say := ⟨false, 86, [.one (.ptr 0 0), ak_s, ak_s], [.cells [.own 1, .own 2, ck_s], .rows (.int .u8), .rows (.int .u8)], [ak_s], [.cells [.own 1, .own 2, ck_s], .rows (.int .u8) true, .rows (.int .u8) true], fun a s => spec_l5K_count N a.2.1 a.2.2.1 s.1.2.2.1 s.2.1 s.2.2.1⟩
set_option maxRecDepth 100000 in
theorem spec_l5K_count.l1.eq (N : Nat) (nonce2 : ByteArray) (text2 : ByteArray) (atv1 : Int) (b : ByteArray) (i : Int) (p0_22 : ByteArray) (p12 : (List Int)) (p22 : (List Int)) (p31 : (List Int)) : spec_l5K_count.l1 (N + 1) nonce2 text2 atv1 b i p0_22 p12 p22 p31 =
 andK (α := ((Unit × (Unit × (Bool × Unit))) × ((Unit × (Unit × (ByteArray × Unit))) × ((List Int) × ((List Int) × ((List Int) × Unit)))))) (
  sel (decide (i < 16))
   (
   some ((((), ((), ((decide ((IntKind.i64.wrap (atv1 + i)) < (text2.size : Int))), ()))), (((), ((), (p0_22, ()))), (p12, (p22, (p31, ())))))))
   (
   some ((((), ((), (false, ()))), (((), ((), (p0_22, ()))), (p12, (p22, (p31, ())))))))) fun j3 =>
 sel j3.1.2.2.1
  (
  chk ((decide (0 ≤ (IntKind.i64.wrap (atv1 + i)))) && (decide ((IntKind.i64.wrap (atv1 + i)) < (text2.size : Int)))) (
  chk ((decide (0 ≤ i)) && (decide (i < (b.size : Int)))) (
  chk (decide (j3.2.2.2.2.1.length + 1 < most)) (
  spec_l5K_count.l1 N nonce2 text2 atv1 b (IntKind.i64.wrap (i + 1)) j3.2.1.2.2.1 j3.2.2.1 j3.2.2.2.1 (j3.2.2.2.2.1 ++ [(Go.bits .xor .u8 ((bytesL text2).getD (Int.toNat (IntKind.i64.wrap (atv1 + i))) 0) ((bytesL b).getD (Int.toNat i) 0))])))))
  (
  some ((((), ((), ())), (((), ((), (j3.2.1.2.2.1, ()))), (j3.2.2.1, (j3.2.2.2.1, (j3.2.2.2.2.1, ()))))))) := by kernel_rfl
set_option maxRecDepth 100000 in
theorem spec_l5K_count.l0.eq (N : Nat) (nonce1 : ByteArray) (text1 : ByteArray) (atv : Int) (p0_21 : ByteArray) (p11 : (List Int)) (p21 : (List Int)) (p3 : (List Int)) : spec_l5K_count.l0 (N + 1) nonce1 text1 atv p0_21 p11 p21 p3 =
 sel (decide (atv < (text1.size : Int)))
  (
  andK (spec_l1Fixed N (IntKind.i64.wrap (2 + (IntKind.i64.wrap (Int.tdiv atv 16)))) 4) fun u1 =>
  chk (decide (nonce1.size + u1.1.1.size ≤ 9223372036854775807)) (
  andK (spec_l3With N p11 p21 (nonce1 ++ u1.1.1)) fun u2 =>
  andK (spec_l5K_count.l1 N nonce1 text1 atv u2.1.1 0 p0_21 p11 p21 p3) fun l4 =>
  spec_l5K_count.l0 N nonce1 text1 (IntKind.i64.wrap (atv + 16)) l4.2.1.2.2.1 l4.2.2.1 l4.2.2.2.1 l4.2.2.2.2.1))
  (
  some ((((), ()), (((), ((), (p0_21, ()))), (p11, (p21, (p3, ()))))))) := by kernel_rfl
set_option maxRecDepth 100000 in
theorem spec_l5K_count.eq (N : Nat) (nonce : ByteArray) (text : ByteArray) (p0_2 : ByteArray) (p1 : (List Int)) (p2 : (List Int)) : spec_l5K_count N nonce text p0_2 p1 p2 =
 andK (spec_l5K_count.l0 N nonce text 0 p0_2 p1 p2 []) fun l5 =>
 some (((strL l5.2.2.2.2.1), ()), (((), ((), (l5.2.1.2.2.1, ()))), (l5.2.2.1, (l5.2.2.2.1, ())))) := by kernel_rfl
set_option maxRecDepth 100000 in
theorem spec_l5K_count.say (N : Nat) : SayOk Tryz.prog (spec_l5K_count.S N) := sayOk_mk (N := N) (H := spec_l5K_count.H) (preps := [⟨[], [], [], []⟩]) (l := spec_l5K_count.says) (fn := Tryz.f86) (c := bodyOf Tryz.f86)
  (by kernel_rfl) (by kernel_rfl) (by kernel_rfl) (by kernel_rfl) (by kernel_rfl) (by kernel_rfl) (by kernel_rfl)
  (fun N => SayAll.cons (spec_l1Fixed.say N) (SayAll.cons (spec_l3With.sayB N) (SayAll.nil))) (fun a s => by kernel_rfl)

/-! ### loop.example/g00206/spec.l5Full: function 114 -/
noncomputable def spec_l5Full.H : Hints := hintsOf [(2000001, .loop ⟨.normal, [], [0], [ak_s], [], [⟨[], [], [], []⟩]⟩ [⟨(.exit 0), [], [0], [ak_s], [], [⟨[], [], [], []⟩]⟩])]
noncomputable def spec_l5Full.says (N : Nat) : List Say := []
noncomputable def spec_l5Full.call (N : Nat) : CallK := callBy (spec_l5Full.says N)
noncomputable def spec_l5Full.qt (N : Nat) : FuncId → List PV → Sig → Cl := qtBy (spec_l5Full.says N)
noncomputable def spec_l5Full.l0.hd : Alt := ⟨.normal, [], [0], [ak_s], [], [⟨[], [], [], []⟩]⟩
noncomputable def spec_l5Full.l0.outs : List Alt := [⟨(.exit 0), [], [0], [ak_s], [], [⟨[], [], [], []⟩]⟩]
noncomputable def spec_l5Full.l0 (N : Nat) (s1 : ByteArray) : Option ((ByteArray × Unit) × Unit) :=
  loopK Tryz.prog spec_l5Full.call spec_l5Full.qt spec_l5Full.H (codeAt (bodyOf Tryz.f114) [1, 0, 0, 0]) 0 spec_l5Full.l0.hd spec_l5Full.l0.outs [] N ((s1, ()), ())
noncomputable def spec_l5Full (N : Nat) (s : ByteArray) : Option ((ByteArray × Unit) × Unit) :=
  ofFn Tryz.prog spec_l5Full.call spec_l5Full.qt spec_l5Full.H N Tryz.f114 [ak_s] [] [ak_s] [] [⟨[], [], [], []⟩] (s, ()) ()
noncomputable def spec_l5Full.S (N : Nat) : Say := ⟨false, 114, [ak_s], [], [ak_s], [], fun a s => spec_l5Full N a.1⟩
set_option maxRecDepth 100000 in
theorem spec_l5Full.l0.eq (N : Nat) (s1 : ByteArray) : spec_l5Full.l0 (N + 1) s1 =
 sel (!(decide ((Int.tmod (s1.size : Int) 16) = 0)))
  (
  chk (decide (s1.size + 1 ≤ 9223372036854775807)) (
  spec_l5Full.l0 N (s1 ++ (⟨#[0]⟩ : ByteArray))))
  (
  some (((s1, ()), ()))) := by kernel_rfl
set_option maxRecDepth 100000 in
theorem spec_l5Full.eq (N : Nat) (s : ByteArray) : spec_l5Full N s =
 andK (spec_l5Full.l0 N s) fun l1 =>
 some ((l1.1.1, ()), ()) := by kernel_rfl
set_option maxRecDepth 100000 in
theorem spec_l5Full.say (N : Nat) : SayOk Tryz.prog (spec_l5Full.S N) := sayOk_mk (N := N) (H := spec_l5Full.H) (preps := [⟨[], [], [], []⟩]) (l := spec_l5Full.says) (fn := Tryz.f114) (c := bodyOf Tryz.f114)
  (by kernel_rfl) (by kernel_rfl) (by kernel_rfl) (by kernel_rfl) (by kernel_rfl) (by kernel_rfl) (by kernel_rfl)
  (fun N => SayAll.nil) (fun a s => by kernel_rfl)

/-! ### loop.example/g00206/spec.l1Big: function 47 -/
noncomputable def spec_l1Big.H : Hints := hintsOf [(2000003, .loop ⟨.normal, [0], [3, 4], [ak_i, ak_i], [], [⟨[], [], [], []⟩]⟩ [⟨(.exit 0), [], [3], [ak_i], [], [⟨[], [], [], []⟩]⟩])]
noncomputable def spec_l1Big.says (N : Nat) : List Say := []
noncomputable def spec_l1Big.call (N : Nat) : CallK := callBy (spec_l1Big.says N)
noncomputable def spec_l1Big.qt (N : Nat) : FuncId → List PV → Sig → Cl := qtBy (spec_l1Big.says N)
noncomputable def spec_l1Big.l0.hd : Alt := ⟨.normal, [0], [3, 4], [ak_i, ak_i], [], [⟨[], [], [], []⟩]⟩
noncomputable def spec_l1Big.l0.outs : List Alt := [⟨(.exit 0), [], [3], [ak_i], [], [⟨[], [], [], []⟩]⟩]
noncomputable def spec_l1Big.l0 (N : Nat) (s1 : ByteArray) (n : Int) (i : Int) : Option ((Int × Unit) × Unit) :=
  loopK Tryz.prog spec_l1Big.call spec_l1Big.qt spec_l1Big.H (codeAt (bodyOf Tryz.f47) [1, 1, 0, 1, 0, 0]) 0 spec_l1Big.l0.hd spec_l1Big.l0.outs [(0, .v (.string s1))] N ((n, (i, ())), ())
noncomputable def spec_l1Big (N : Nat) (s : ByteArray) : Option ((Int × Unit) × Unit) :=
  ofFn Tryz.prog spec_l1Big.call spec_l1Big.qt spec_l1Big.H N Tryz.f47 [ak_s] [] [ak_i] [] [⟨[], [], [], []⟩] (s, ()) ()
noncomputable def spec_l1Big.S (N : Nat) : Say := ⟨false, 47, [ak_s], [], [ak_i], [], fun a s => spec_l1Big N a.1⟩
set_option maxRecDepth 100000 in
theorem spec_l1Big.l0.eq (N : Nat) (s1 : ByteArray) (n : Int) (i : Int) : spec_l1Big.l0 (N + 1) s1 n i =
 sel (decide (i < (s1.size : Int)))
  (
  chk ((decide (0 ≤ i)) && (decide (i < (s1.size : Int)))) (
  spec_l1Big.l0 N s1 (Go.bits .or .i64 (shlI .i64 n 8) (IntKind.i64.wrap ((bytesL s1).getD (Int.toNat i) 0))) (IntKind.i64.wrap (i + 1))))
  (
  some (((n, ()), ()))) := by kernel_rfl
set_option maxRecDepth 100000 in
theorem spec_l1Big.eq (N : Nat) (s : ByteArray) : spec_l1Big N s =
 andK (spec_l1Big.l0 N s 0 0) fun l1 =>
 some ((l1.1.1, ()), ()) := by kernel_rfl
set_option maxRecDepth 100000 in
theorem spec_l1Big.say (N : Nat) : SayOk Tryz.prog (spec_l1Big.S N) := sayOk_mk (N := N) (H := spec_l1Big.H) (preps := [⟨[], [], [], []⟩]) (l := spec_l1Big.says) (fn := Tryz.f47) (c := bodyOf Tryz.f47)
  (by kernel_rfl) (by kernel_rfl) (by kernel_rfl) (by kernel_rfl) (by kernel_rfl) (by kernel_rfl) (by kernel_rfl)
  (fun N => SayAll.nil) (fun a s => by kernel_rfl)

/-! ### loop.example/g00206/spec.l5Of: function 133 -/
noncomputable def spec_l5Of.H : Hints := hintsOf []
noncomputable def spec_l5Of.says (N : Nat) : List Say := [spec_l1Big.S N]
noncomputable def spec_l5Of.call (N : Nat) : CallK := callBy (spec_l5Of.says N)
noncomputable def spec_l5Of.qt (N : Nat) : FuncId → List PV → Sig → Cl := qtBy (spec_l5Of.says N)
noncomputable def spec_l5Of (N : Nat) (s : ByteArray) : Option (((Int × (Int × Unit)) × Unit) × Unit) :=
  ofFn Tryz.prog spec_l5Of.call spec_l5Of.qt spec_l5Of.H N Tryz.f133 [ak_s] [] [.agg [.sh (.int .u64), .sh (.int .u64)]] [] [⟨[], [], [], []⟩] (s, ()) ()
noncomputable def spec_l5Of.S (N : Nat) : Say := ⟨false, 133, [ak_s], [], [.agg [.sh (.int .u64), .sh (.int .u64)]], [], fun a s => spec_l5Of N a.1⟩
set_option maxRecDepth 100000 in
theorem spec_l5Of.eq (N : Nat) (s : ByteArray) : spec_l5Of N s =
 chk (decide (8 ≤ (s.size : Int))) (
 andK (spec_l1Big N (s.extract 0 8)) fun u1 =>
 chk ((decide (8 ≤ (s.size : Int))) && (decide ((s.size : Int) ≤ (s.size : Int)))) (
 andK (spec_l1Big N (s.extract 8 (Int.toNat (s.size : Int)))) fun u2 =>
 some ((((IntKind.u64.wrap u1.1.1), ((IntKind.u64.wrap u2.1.1), ())), ()), ()))) := by kernel_rfl
set_option maxRecDepth 100000 in
theorem spec_l5Of.say (N : Nat) : SayOk Tryz.prog (spec_l5Of.S N) := sayOk_mk (N := N) (H := spec_l5Of.H) (preps := [⟨[], [], [], []⟩]) (l := spec_l5Of.says) (fn := Tryz.f133) (c := bodyOf Tryz.f133)
  (by kernel_rfl) (by kernel_rfl) (by kernel_rfl) (by kernel_rfl) (by kernel_rfl) (by kernel_rfl) (by kernel_rfl)
  (fun N => SayAll.cons (spec_l1Big.say N) (SayAll.nil)) (fun a s => by kernel_rfl)

/-! ### loop.example/g00206/spec.l5Mul: function 134 -/
noncomputable def spec_l5Mul.H : Hints := hintsOf [(8, .join [⟨.normal, [6], [2, 3, 4, 5, 7], [.one (.ptr 0 0), .one (.ptr 1 0), .one (.ptr 2 0), .one (.ptr 3 0), .one (.sh (.int .u64))], [.cells [.sh (.int .u64), .sh (.int .u64)], .cells [.sh (.int .u64), .sh (.int .u64)], .cells [.sh (.int .u64), .sh (.int .u64)], .cells [.sh (.int .u64), .sh (.int .u64)]], [⟨[], [], [], []⟩]⟩]),
  (11, .join [⟨.normal, [6], [2, 3, 4, 5], [.one (.ptr 0 0), .one (.ptr 1 0), .one (.ptr 2 0), .one (.ptr 3 0)], [.cells [.sh (.int .u64), .sh (.int .u64)], .cells [.sh (.int .u64), .sh (.int .u64)], .cells [.sh (.int .u64), .sh (.int .u64)], .cells [.sh (.int .u64), .sh (.int .u64)]], [⟨[], [], [], []⟩]⟩]),
  (4, .join [⟨.normal, [6], [2, 3, 4, 5], [.one (.ptr 0 0), .one (.ptr 1 0), .one (.ptr 2 0), .one (.ptr 3 0)], [.cells [.sh (.int .u64), .sh (.int .u64)], .cells [.sh (.int .u64), .sh (.int .u64)], .cells [.sh (.int .u64), .sh (.int .u64)], .cells [.sh (.int .u64), .sh (.int .u64)]], [⟨[], [], [], []⟩]⟩]),
  (2000003, .loop ⟨.normal, [], [2, 3, 4, 5, 6], [.one (.ptr 0 0), .one (.ptr 1 0), .one (.ptr 2 0), .one (.ptr 3 0), ak_i], [.cells [.sh (.int .u64), .sh (.int .u64)], .cells [.sh (.int .u64), .sh (.int .u64)], .cells [.sh (.int .u64), .sh (.int .u64)], .cells [.sh (.int .u64), .sh (.int .u64)]], [⟨[], [], [], []⟩]⟩ [⟨(.exit 0), [], [4, 5], [.one (.ptr 2 0), .one (.ptr 3 0)], [.cells [.sh (.int .u64), .sh (.int .u64)], .cells [.sh (.int .u64), .sh (.int .u64)], .cells [.sh (.int .u64), .sh (.int .u64)], .cells [.sh (.int .u64), .sh (.int .u64)]], [⟨[], [], [], []⟩]⟩])]
noncomputable def spec_l5Mul.says (N : Nat) : List Say := []
noncomputable def spec_l5Mul.call (N : Nat) : CallK := callBy (spec_l5Mul.says N)
noncomputable def spec_l5Mul.qt (N : Nat) : FuncId → List PV → Sig → Cl := qtBy (spec_l5Mul.says N)
noncomputable def spec_l5Mul.l0.hd : Alt := ⟨.normal, [], [2, 3, 4, 5, 6], [.one (.ptr 0 0), .one (.ptr 1 0), .one (.ptr 2 0), .one (.ptr 3 0), ak_i], [.cells [.sh (.int .u64), .sh (.int .u64)], .cells [.sh (.int .u64), .sh (.int .u64)], .cells [.sh (.int .u64), .sh (.int .u64)], .cells [.sh (.int .u64), .sh (.int .u64)]], [⟨[], [], [], []⟩]⟩
noncomputable def spec_l5Mul.l0.outs : List Alt := [⟨(.exit 0), [], [4, 5], [.one (.ptr 2 0), .one (.ptr 3 0)], [.cells [.sh (.int .u64), .sh (.int .u64)], .cells [.sh (.int .u64), .sh (.int .u64)], .cells [.sh (.int .u64), .sh (.int .u64)], .cells [.sh (.int .u64), .sh (.int .u64)]], [⟨[], [], [], []⟩]⟩]
noncomputable def spec_l5Mul.l0 (N : Nat) (e : Int) (p0_0 : Int) (p0_1 : Int) (p1_0 : Int) (p1_1 : Int) (p2_0 : Int) (p2_1 : Int) (p3_0 : Int) (p3_1 : Int) : Option ((Unit × (Unit × Unit)) × ((Int × (Int × Unit)) × ((Int × (Int × Unit)) × ((Int × (Int × Unit)) × ((Int × (Int × Unit)) × Unit))))) :=
  loopK Tryz.prog spec_l5Mul.call spec_l5Mul.qt spec_l5Mul.H (codeAt (bodyOf Tryz.f134) [1, 1, 0, 1, 0, 0]) 4 spec_l5Mul.l0.hd spec_l5Mul.l0.outs [] N (((), ((), ((), ((), (e, ()))))), ((p0_0, (p0_1, ())), ((p1_0, (p1_1, ())), ((p2_0, (p2_1, ())), ((p3_0, (p3_1, ())), ())))))
noncomputable def spec_l5Mul (N : Nat) (G_0 : Int) (G_1 : Int) (o_0 : Int) (o_1 : Int) : Option (((Int × (Int × Unit)) × Unit) × Unit) :=
  ofFn Tryz.prog spec_l5Mul.call spec_l5Mul.qt spec_l5Mul.H N Tryz.f134 [.agg [.sh (.int .u64), .sh (.int .u64)], .agg [.sh (.int .u64), .sh (.int .u64)]] [] [.agg [.sh (.int .u64), .sh (.int .u64)]] [] [⟨[], [], [], []⟩] ((G_0, (G_1, ())), ((o_0, (o_1, ())), ())) ()
noncomputable def spec_l5Mul.S (N : Nat) : Say := ⟨false, 134, [.agg [.sh (.int .u64), .sh (.int .u64)], .agg [.sh (.int .u64), .sh (.int .u64)]], [], [.agg [.sh (.int .u64), .sh (.int .u64)]], [], fun a s => spec_l5Mul N a.1.1 a.1.2.1 a.2.1.1 a.2.1.2.1⟩
set_option maxRecDepth 100000 in
theorem spec_l5Mul.l0.eq (N : Nat) (e : Int) (p0_0 : Int) (p0_1 : Int) (p1_0 : Int) (p1_1 : Int) (p2_0 : Int) (p2_1 : Int) (p3_0 : Int) (p3_1 : Int) : spec_l5Mul.l0 (N + 1) e p0_0 p0_1 p1_0 p1_1 p2_0 p2_1 p3_0 p3_1 =
 sel (decide (e < 128))
  (
  andK (α := ((Unit × (Unit × (Unit × (Unit × Unit)))) × ((Int × (Int × Unit)) × ((Int × (Int × Unit)) × ((Int × (Int × Unit)) × ((Int × (Int × Unit)) × Unit)))))) (
   chk (decide (0 ≤ (IntKind.u64.wrap (IntKind.i64.wrap (63 - e))))) (
   andK (α := ((Unit × (Unit × (Unit × (Unit × (Int × Unit))))) × ((Int × (Int × Unit)) × ((Int × (Int × Unit)) × ((Int × (Int × Unit)) × ((Int × (Int × Unit)) × Unit)))))) (
    sel (decide (63 < e))
     (
     chk (decide (0 ≤ (IntKind.u64.wrap (IntKind.i64.wrap (127 - e))))) (
     some ((((), ((), ((), ((), ((shrI .u64 p0_1 (IntKind.u64.wrap (IntKind.i64.wrap (127 - e)))), ()))))), ((p0_0, (p0_1, ())), ((p1_0, (p1_1, ())), ((p2_0, (p2_1, ())), ((p3_0, (p3_1, ())), ()))))))))
     (
     some ((((), ((), ((), ((), ((shrI .u64 p0_0 (IntKind.u64.wrap (IntKind.i64.wrap (63 - e)))), ()))))), ((p0_0, (p0_1, ())), ((p1_0, (p1_1, ())), ((p2_0, (p2_1, ())), ((p3_0, (p3_1, ())), ())))))))) fun j1 =>
   andK (α := ((Unit × (Unit × (Unit × (Unit × Unit)))) × ((Int × (Int × Unit)) × ((Int × (Int × Unit)) × ((Int × (Int × Unit)) × ((Int × (Int × Unit)) × Unit)))))) (
    sel (decide ((Go.bits .and .u64 j1.1.2.2.2.2.1 1) = 1))
     (
     some ((((), ((), ((), ((), ())))), ((j1.2.1.1, (j1.2.1.2.1, ())), ((j1.2.2.1.1, (j1.2.2.1.2.1, ())), ((j1.2.2.2.1.1, (j1.2.2.2.1.2.1, ())), (((Go.bits .xor .u64 j1.2.2.2.2.1.1 j1.2.2.1.1), ((Go.bits .xor .u64 j1.2.2.2.2.1.2.1 j1.2.2.1.2.1), ())), ())))))))
     (
     some ((((), ((), ((), ((), ())))), ((j1.2.1.1, (j1.2.1.2.1, ())), ((j1.2.2.1.1, (j1.2.2.1.2.1, ())), ((j1.2.2.2.1.1, (j1.2.2.2.1.2.1, ())), ((j1.2.2.2.2.1.1, (j1.2.2.2.2.1.2.1, ())), ())))))))) fun j2 =>
   sel (decide ((Go.bits .and .u64 j2.2.2.1.2.1 1) = 1))
    (
    some ((((), ((), ((), ((), ())))), ((j2.2.1.1, (j2.2.1.2.1, ())), (((Go.bits .xor .u64 (shrI .u64 j2.2.2.1.1 1) 16212958658533785600), ((Go.bits .or .u64 (shrI .u64 j2.2.2.1.2.1 1) (shlI .u64 j2.2.2.1.1 63)), ())), ((j2.2.2.2.1.1, (j2.2.2.2.1.2.1, ())), ((j2.2.2.2.2.1.1, (j2.2.2.2.2.1.2.1, ())), ())))))))
    (
    some ((((), ((), ((), ((), ())))), ((j2.2.1.1, (j2.2.1.2.1, ())), (((shrI .u64 j2.2.2.1.1 1), ((Go.bits .or .u64 (shrI .u64 j2.2.2.1.2.1 1) (shlI .u64 j2.2.2.1.1 63)), ())), ((j2.2.2.2.1.1, (j2.2.2.2.1.2.1, ())), ((j2.2.2.2.2.1.1, (j2.2.2.2.2.1.2.1, ())), ()))))))))) fun j3 =>
  spec_l5Mul.l0 N (IntKind.i64.wrap (e + 1)) j3.2.1.1 j3.2.1.2.1 j3.2.2.1.1 j3.2.2.1.2.1 j3.2.2.2.1.1 j3.2.2.2.1.2.1 j3.2.2.2.2.1.1 j3.2.2.2.2.1.2.1)
  (
  some ((((), ((), ())), ((p0_0, (p0_1, ())), ((p1_0, (p1_1, ())), ((p2_0, (p2_1, ())), ((p3_0, (p3_1, ())), ()))))))) := by kernel_rfl
set_option maxRecDepth 100000 in
theorem spec_l5Mul.eq (N : Nat) (G_0 : Int) (G_1 : Int) (o_0 : Int) (o_1 : Int) : spec_l5Mul N G_0 G_1 o_0 o_1 =
 andK (spec_l5Mul.l0 N 0 G_0 G_1 o_0 o_1 0 0 0 0) fun l4 =>
 some (((l4.2.2.2.2.1.1, (l4.2.2.2.2.1.2.1, ())), ()), ()) := by kernel_rfl
set_option maxRecDepth 100000 in
theorem spec_l5Mul.say (N : Nat) : SayOk Tryz.prog (spec_l5Mul.S N) := sayOk_mk (N := N) (H := spec_l5Mul.H) (preps := [⟨[], [], [], []⟩]) (l := spec_l5Mul.says) (fn := Tryz.f134) (c := bodyOf Tryz.f134)
  (by kernel_rfl) (by kernel_rfl) (by kernel_rfl) (by kernel_rfl) (by kernel_rfl) (by kernel_rfl) (by kernel_rfl)
  (fun N => SayAll.nil) (fun a s => by kernel_rfl)

/-! ### loop.example/g00206/spec.l5Ghash: function 116 -/
noncomputable def spec_l5Ghash.H : Hints := hintsOf [(2000004, .loop ⟨.normal, [1], [4, 5, 6, 7], [.one (.ptr 0 0), .one (.ptr 1 0), .one (.ptr 2 0), ak_i], [.cells [.sh (.int .u64), .sh (.int .u64)], .cells [.sh (.int .u64), .sh (.int .u64)], .cells [.sh (.int .u64), .sh (.int .u64)]], [⟨[], [], [], []⟩]⟩ [⟨(.exit 0), [], [4, 5], [.one (.ptr 0 0), .one (.ptr 1 0)], [.cells [.sh (.int .u64), .sh (.int .u64)], .cells [.sh (.int .u64), .sh (.int .u64)], .cells [.sh (.int .u64), .sh (.int .u64)]], [⟨[], [], [], []⟩]⟩])]
noncomputable def spec_l5Ghash.says (N : Nat) : List Say := [spec_l5Of.S N, spec_l5Mul.S N]
noncomputable def spec_l5Ghash.call (N : Nat) : CallK := callBy (spec_l5Ghash.says N)
noncomputable def spec_l5Ghash.qt (N : Nat) : FuncId → List PV → Sig → Cl := qtBy (spec_l5Ghash.says N)
noncomputable def spec_l5Ghash.l0.hd : Alt := ⟨.normal, [1], [4, 5, 6, 7], [.one (.ptr 0 0), .one (.ptr 1 0), .one (.ptr 2 0), ak_i], [.cells [.sh (.int .u64), .sh (.int .u64)], .cells [.sh (.int .u64), .sh (.int .u64)], .cells [.sh (.int .u64), .sh (.int .u64)]], [⟨[], [], [], []⟩]⟩
noncomputable def spec_l5Ghash.l0.outs : List Alt := [⟨(.exit 0), [], [4, 5], [.one (.ptr 0 0), .one (.ptr 1 0)], [.cells [.sh (.int .u64), .sh (.int .u64)], .cells [.sh (.int .u64), .sh (.int .u64)], .cells [.sh (.int .u64), .sh (.int .u64)]], [⟨[], [], [], []⟩]⟩]
noncomputable def spec_l5Ghash.l0 (N : Nat) (s1 : ByteArray) (atv : Int) (p0_0 : Int) (p0_1 : Int) (p1_0 : Int) (p1_1 : Int) (p2_0 : Int) (p2_1 : Int) : Option ((Unit × (Unit × Unit)) × ((Int × (Int × Unit)) × ((Int × (Int × Unit)) × ((Int × (Int × Unit)) × Unit)))) :=
  loopK Tryz.prog spec_l5Ghash.call spec_l5Ghash.qt spec_l5Ghash.H (codeAt (bodyOf Tryz.f116) [1, 1, 1, 0, 1, 0, 0]) 3 spec_l5Ghash.l0.hd spec_l5Ghash.l0.outs [(1, .v (.string s1))] N (((), ((), ((), (atv, ())))), ((p0_0, (p0_1, ())), ((p1_0, (p1_1, ())), ((p2_0, (p2_1, ())), ()))))
noncomputable def spec_l5Ghash (N : Nat) (h : ByteArray) (s : ByteArray) : Option (((Int × (Int × Unit)) × Unit) × Unit) :=
  ofFn Tryz.prog spec_l5Ghash.call spec_l5Ghash.qt spec_l5Ghash.H N Tryz.f116 [ak_s, ak_s] [] [.agg [.sh (.int .u64), .sh (.int .u64)]] [] [⟨[], [], [], []⟩] (h, (s, ())) ()
noncomputable def spec_l5Ghash.S (N : Nat) : Say := ⟨false, 116, [ak_s, ak_s], [], [.agg [.sh (.int .u64), .sh (.int .u64)]], [], fun a s => spec_l5Ghash N a.1 a.2.1⟩
set_option maxRecDepth 100000 in
theorem spec_l5Ghash.l0.eq (N : Nat) (s1 : ByteArray) (atv : Int) (p0_0 : Int) (p0_1 : Int) (p1_0 : Int) (p1_1 : Int) (p2_0 : Int) (p2_1 : Int) : spec_l5Ghash.l0 (N + 1) s1 atv p0_0 p0_1 p1_0 p1_1 p2_0 p2_1 =
 sel (decide (atv < (s1.size : Int)))
  (
  chk ((decide (0 ≤ atv)) && ((decide (atv ≤ (IntKind.i64.wrap (atv + 16)))) && (decide ((IntKind.i64.wrap (atv + 16)) ≤ (s1.size : Int))))) (
  andK (spec_l5Of N (s1.extract (Int.toNat atv) (Int.toNat (IntKind.i64.wrap (atv + 16))))) fun u2 =>
  andK (spec_l5Mul N (Go.bits .xor .u64 p1_0 u2.1.1.1) (Go.bits .xor .u64 p1_1 u2.1.1.2.1) p2_0 p2_1) fun u3 =>
  spec_l5Ghash.l0 N s1 (IntKind.i64.wrap (atv + 16)) p0_0 p0_1 u3.1.1.1 u3.1.1.2.1 p2_0 p2_1))
  (
  some ((((), ((), ())), ((p0_0, (p0_1, ())), ((p1_0, (p1_1, ())), ((p2_0, (p2_1, ())), ())))))) := by kernel_rfl
set_option maxRecDepth 100000 in
theorem spec_l5Ghash.eq (N : Nat) (h : ByteArray) (s : ByteArray) : spec_l5Ghash N h s =
 andK (spec_l5Of N h) fun u1 =>
 andK (spec_l5Ghash.l0 N s 0 0 0 0 0 u1.1.1.1 u1.1.1.2.1) fun l4 =>
 some (((l4.2.2.1.1, (l4.2.2.1.2.1, ())), ()), ()) := by kernel_rfl
set_option maxRecDepth 100000 in
theorem spec_l5Ghash.say (N : Nat) : SayOk Tryz.prog (spec_l5Ghash.S N) := sayOk_mk (N := N) (H := spec_l5Ghash.H) (preps := [⟨[], [], [], []⟩]) (l := spec_l5Ghash.says) (fn := Tryz.f116) (c := bodyOf Tryz.f116)
  (by kernel_rfl) (by kernel_rfl) (by kernel_rfl) (by kernel_rfl) (by kernel_rfl) (by kernel_rfl) (by kernel_rfl)
  (fun N => SayAll.cons (spec_l5Of.say N) (SayAll.cons (spec_l5Mul.say N) (SayAll.nil))) (fun a s => by kernel_rfl)

/-! ### loop.example/g00206/spec.l5Told: function 115 -/
noncomputable def spec_l5Told.H : Hints := hintsOf []
noncomputable def spec_l5Told.says (N : Nat) : List Say := [spec_l1Fixed.S N]
noncomputable def spec_l5Told.call (N : Nat) : CallK := callBy (spec_l5Told.says N)
noncomputable def spec_l5Told.qt (N : Nat) : FuncId → List PV → Sig → Cl := qtBy (spec_l5Told.says N)
noncomputable def spec_l5Told (N : Nat) (b_0 : Int) (b_1 : Int) : Option ((ByteArray × Unit) × Unit) :=
  ofFn Tryz.prog spec_l5Told.call spec_l5Told.qt spec_l5Told.H N Tryz.f115 [.agg [.sh (.int .u64), .sh (.int .u64)]] [] [ak_s] [] [⟨[], [], [], []⟩] ((b_0, (b_1, ())), ()) ()
noncomputable def spec_l5Told.S (N : Nat) : Say := ⟨false, 115, [.agg [.sh (.int .u64), .sh (.int .u64)]], [], [ak_s], [], fun a s => spec_l5Told N a.1.1 a.1.2.1⟩
set_option maxRecDepth 100000 in
theorem spec_l5Told.eq (N : Nat) (b_0 : Int) (b_1 : Int) : spec_l5Told N b_0 b_1 =
 andK (spec_l1Fixed N (IntKind.i64.wrap b_0) 8) fun u1 =>
 andK (spec_l1Fixed N (IntKind.i64.wrap b_1) 8) fun u2 =>
 chk (decide (u1.1.1.size + u2.1.1.size ≤ 9223372036854775807)) (
 some (((u1.1.1 ++ u2.1.1), ()), ())) := by kernel_rfl
set_option maxRecDepth 100000 in
theorem spec_l5Told.say (N : Nat) : SayOk Tryz.prog (spec_l5Told.S N) := sayOk_mk (N := N) (H := spec_l5Told.H) (preps := [⟨[], [], [], []⟩]) (l := spec_l5Told.says) (fn := Tryz.f115) (c := bodyOf Tryz.f115)
  (by kernel_rfl) (by kernel_rfl) (by kernel_rfl) (by kernel_rfl) (by kernel_rfl) (by kernel_rfl) (by kernel_rfl)
  (fun N => SayAll.cons (spec_l1Fixed.say N) (SayAll.nil)) (fun a s => by kernel_rfl)

/-! ### (*loop.example/g00206/spec.l5K).tag: function 85 -/
noncomputable def spec_l5K_tag.H : Hints := hintsOf [(8000003, .alts [34])]
noncomputable def spec_l5K_tag.says (N : Nat) : List Say := [spec_l5Full.S N, spec_l1Fixed.S N, spec_l5Ghash.S N, spec_l5Told.S N, spec_l3With.SB N, spec_l3Xor.SB N]
noncomputable def spec_l5K_tag.call (N : Nat) : CallK := callBy (spec_l5K_tag.says N)
noncomputable def spec_l5K_tag.qt (N : Nat) : FuncId → List PV → Sig → Cl := qtBy (spec_l5K_tag.says N)
noncomputable def spec_l5K_tag (N : Nat) (nonce : ByteArray) (beside : ByteArray) (sealed : ByteArray) (p0_2 : ByteArray) (p1 : (List Int)) (p2 : (List Int)) : Option ((ByteArray × Unit) × ((Unit × (Unit × (ByteArray × Unit))) × ((List Int) × ((List Int) × Unit)))) :=
  ofFn Tryz.prog spec_l5K_tag.call spec_l5K_tag.qt spec_l5K_tag.H N Tryz.f85 [.one (.ptr 0 0), ak_s, ak_s, ak_s] [.cells [.own 1, .own 2, ck_s], .rows (.int .u8), .rows (.int .u8)] [ak_s] [.cells [.own 1, .own 2, ck_s], .rows (.int .u8) true, .rows (.int .u8) true] [⟨[], [], [], []⟩] ((), (nonce, (beside, (sealed, ())))) (((), ((), (p0_2, ()))), (p1, (p2, ())))
noncomputable def spec_l5K_tag.S (N : Nat) : Say := ⟨false, 85, [.one (.ptr 0 0), ak_s, ak_s, ak_s], [.cells [.own 1, .own 2, ck_s], .rows (.int .u8), .rows (.int .u8)], [ak_s], [.cells [.own 1, .own 2, ck_s], .rows (.int .u8) true, .rows (.int .u8) true], fun a s => spec_l5K_tag N a.2.1 a.2.2.1 a.2.2.2.1 s.1.2.2.1 s.2.1 s.2.2.1⟩
set_option maxRecDepth 100000 in
theorem spec_l5K_tag.eq (N : Nat) (nonce : ByteArray) (beside : ByteArray) (sealed : ByteArray) (p0_2 : ByteArray) (p1 : (List Int)) (p2 : (List Int)) : spec_l5K_tag N nonce beside sealed p0_2 p1 p2 =
 andK (spec_l5Full N beside) fun u1 =>
 andK (spec_l5Full N sealed) fun u2 =>
 chk (decide (u1.1.1.size + u2.1.1.size ≤ 9223372036854775807)) (
 andK (spec_l1Fixed N (IntKind.i64.wrap (8 * (beside.size : Int))) 8) fun u3 =>
 chk (decide ((u1.1.1 ++ u2.1.1).size + u3.1.1.size ≤ 9223372036854775807)) (
 andK (spec_l1Fixed N (IntKind.i64.wrap (8 * (sealed.size : Int))) 8) fun u4 =>
 chk (decide (((u1.1.1 ++ u2.1.1) ++ u3.1.1).size + u4.1.1.size ≤ 9223372036854775807)) (
 andK (spec_l5Ghash N p0_2 (((u1.1.1 ++ u2.1.1) ++ u3.1.1) ++ u4.1.1)) fun u5 =>
 andK (spec_l5Told N u5.1.1.1 u5.1.1.2.1) fun u6 =>
 chk (decide (nonce.size + 4 ≤ 9223372036854775807)) (
 andK (spec_l3With N p1 p2 (nonce ++ (⟨#[0, 0, 0, 1]⟩ : ByteArray))) fun u7 =>
 andK (spec_l3Xor N (bytesL u6.1.1) (bytesL u7.1.1)) fun u8 =>
 some (((strL u8.2.1), ()), (((), ((), (p0_2, ()))), (p1, (p2, ())))))))) := by kernel_rfl
set_option maxRecDepth 100000 in
theorem spec_l5K_tag.say (N : Nat) : SayOk Tryz.prog (spec_l5K_tag.S N) := sayOk_mk (N := N) (H := spec_l5K_tag.H) (preps := [⟨[], [], [], []⟩]) (l := spec_l5K_tag.says) (fn := Tryz.f85) (c := bodyOf Tryz.f85)
  (by kernel_rfl) (by kernel_rfl) (by kernel_rfl) (by kernel_rfl) (by kernel_rfl) (by kernel_rfl) (by kernel_rfl)
  (fun N => SayAll.cons (spec_l5Full.say N) (SayAll.cons (spec_l1Fixed.say N) (SayAll.cons (spec_l5Ghash.say N) (SayAll.cons (spec_l5Told.say N) (SayAll.cons (spec_l3With.sayB N) (SayAll.cons (spec_l3Xor.sayB N) (SayAll.nil))))))) (fun a s => by kernel_rfl)

/-! ### (*loop.example/g00206/spec.l5K).seal: function 62 -/
noncomputable def spec_l5K_seal.H : Hints := hintsOf []
noncomputable def spec_l5K_seal.says (N : Nat) : List Say := [spec_l5K_count.S N, spec_l5K_tag.S N]
noncomputable def spec_l5K_seal.call (N : Nat) : CallK := callBy (spec_l5K_seal.says N)
noncomputable def spec_l5K_seal.qt (N : Nat) : FuncId → List PV → Sig → Cl := qtBy (spec_l5K_seal.says N)
noncomputable def spec_l5K_seal (N : Nat) (nonce : ByteArray) (beside : ByteArray) (text : ByteArray) (p0_2 : ByteArray) (p1 : (List Int)) (p2 : (List Int)) : Option ((ByteArray × Unit) × ((Unit × (Unit × (ByteArray × Unit))) × ((List Int) × ((List Int) × Unit)))) :=
  ofFn Tryz.prog spec_l5K_seal.call spec_l5K_seal.qt spec_l5K_seal.H N Tryz.f62 [.one (.ptr 0 0), ak_s, ak_s, ak_s] [.cells [.own 1, .own 2, ck_s], .rows (.int .u8), .rows (.int .u8)] [ak_s] [.cells [.own 1, .own 2, ck_s], .rows (.int .u8) true, .rows (.int .u8) true] [⟨[], [], [], []⟩] ((), (nonce, (beside, (text, ())))) (((), ((), (p0_2, ()))), (p1, (p2, ())))
noncomputable def spec_l5K_seal.S (N : Nat) : Say := ⟨false, 62, [.one (.ptr 0 0), ak_s, ak_s, ak_s], [.cells [.own 1, .own 2, ck_s], .rows (.int .u8), .rows (.int .u8)], [ak_s], [.cells [.own 1, .own 2, ck_s], .rows (.int .u8) true, .rows (.int .u8) true], fun a s => spec_l5K_seal N a.2.1 a.2.2.1 a.2.2.2.1 s.1.2.2.1 s.2.1 s.2.2.1⟩
set_option maxRecDepth 100000 in
theorem spec_l5K_seal.eq (N : Nat) (nonce : ByteArray) (beside : ByteArray) (text : ByteArray) (p0_2 : ByteArray) (p1 : (List Int)) (p2 : (List Int)) : spec_l5K_seal N nonce beside text p0_2 p1 p2 =
 andK (spec_l5K_count N nonce text p0_2 p1 p2) fun u1 =>
 andK (spec_l5K_tag N nonce beside u1.1.1 u1.2.1.2.2.1 u1.2.2.1 u1.2.2.2.1) fun u2 =>
 chk (decide (u1.1.1.size + u2.1.1.size ≤ 9223372036854775807)) (
 some (((u1.1.1 ++ u2.1.1), ()), (((), ((), (u2.2.1.2.2.1, ()))), (u2.2.2.1, (u2.2.2.2.1, ()))))) := by kernel_rfl
set_option maxRecDepth 100000 in
theorem spec_l5K_seal.say (N : Nat) : SayOk Tryz.prog (spec_l5K_seal.S N) := sayOk_mk (N := N) (H := spec_l5K_seal.H) (preps := [⟨[], [], [], []⟩]) (l := spec_l5K_seal.says) (fn := Tryz.f62) (c := bodyOf Tryz.f62)
  (by kernel_rfl) (by kernel_rfl) (by kernel_rfl) (by kernel_rfl) (by kernel_rfl) (by kernel_rfl) (by kernel_rfl)
  (fun N => SayAll.cons (spec_l5K_count.say N) (SayAll.cons (spec_l5K_tag.say N) (SayAll.nil))) (fun a s => by kernel_rfl)

/-! ### loop.example/g00206/spec.l10Tag: function 24 -/
noncomputable def spec_l10Tag.H : Hints := hintsOf []
noncomputable def spec_l10Tag.says (N : Nat) : List Say := [spec_l5Key.S N, spec_l2Id.S N, spec_l5K_seal.S N]
noncomputable def spec_l10Tag.call (N : Nat) : CallK := callBy (spec_l10Tag.says N)
noncomputable def spec_l10Tag.qt (N : Nat) : FuncId → List PV → Sig → Cl := qtBy (spec_l10Tag.says N)
noncomputable def spec_l10Tag (N : Nat) (original : ByteArray) (packet : ByteArray) : Option ((ByteArray × Unit) × Unit) :=
  ofFn Tryz.prog spec_l10Tag.call spec_l10Tag.qt spec_l10Tag.H N Tryz.f24 [ak_s, ak_s] [] [ak_s] [] [⟨[], [], [], []⟩] (original, (packet, ())) ()
noncomputable def spec_l10Tag.S (N : Nat) : Say := ⟨false, 24, [ak_s, ak_s], [], [ak_s], [], fun a s => spec_l10Tag N a.1 a.2.1⟩
set_option maxRecDepth 100000 in
theorem spec_l10Tag.eq (N : Nat) (original : ByteArray) (packet : ByteArray) : spec_l10Tag N original packet =
 andK (spec_l5Key N (⟨#[190, 12, 105, 11, 159, 102, 87, 90, 29, 118, 107, 84, 227, 104, 200, 78]⟩ : ByteArray)) fun u1 =>
 andK (spec_l2Id N original) fun u2 =>
 chk (decide (u2.1.1.size + packet.size ≤ 9223372036854775807)) (
 andK (spec_l5K_seal N (⟨#[70, 21, 153, 211, 93, 99, 43, 242, 35, 152, 37, 187]⟩ : ByteArray) (u2.1.1 ++ packet) (⟨#[]⟩ : ByteArray) u1.2.1.2.2.1 u1.2.2.1 u1.2.2.2.1) fun u3 =>
 some ((u3.1.1, ()), ())) := by kernel_rfl
set_option maxRecDepth 100000 in
theorem spec_l10Tag.say (N : Nat) : SayOk Tryz.prog (spec_l10Tag.S N) := sayOk_mk (N := N) (H := spec_l10Tag.H) (preps := [⟨[], [], [], []⟩]) (l := spec_l10Tag.says) (fn := Tryz.f24) (c := bodyOf Tryz.f24)
  (by kernel_rfl) (by kernel_rfl) (by kernel_rfl) (by kernel_rfl) (by kernel_rfl) (by kernel_rfl) (by kernel_rfl)
  (fun N => SayAll.cons (spec_l5Key.say N) (SayAll.cons (spec_l2Id.say N) (SayAll.cons (spec_l5K_seal.say N) (SayAll.nil)))) (fun a s => by kernel_rfl)

/-! ### loop.example/g00206/spec.RetryPacket: function 7 -/
noncomputable def spec_RetryPacket.H : Hints := hintsOf [(5000001, .join [⟨.normal, [1, 2], [3, 6, 27], [.one (.ptr 0 0), .one (.ptr 1 0), ak_b], [.cells [ck_i, ck_i, ck_i, ck_s, ck_s, ck_s, ck_s, .sh (.rows (.int .i64))], .cells [ck_i, ck_i, ck_i, ck_s, ck_s, ck_s, ck_s, .nil]], [⟨[], [], [], []⟩]⟩])]
noncomputable def spec_RetryPacket.says (N : Nat) : List Say := [spec_GoodHeader.S N, spec_l1In.S N, spec_l2Bytes.S N, spec_l10Tag.S N]
noncomputable def spec_RetryPacket.call (N : Nat) : CallK := callBy (spec_RetryPacket.says N)
noncomputable def spec_RetryPacket.qt (N : Nat) : FuncId → List PV → Sig → Cl := qtBy (spec_RetryPacket.says N)
noncomputable def spec_RetryPacket (N : Nat) (h_0 : Int) (h_1 : Int) (h_2 : Int) (h_3 : ByteArray) (h_4 : ByteArray) (h_5 : ByteArray) (h_6 : ByteArray) (h_7 : (List Int)) (token : ByteArray) (scid : ByteArray) : Option (((Int × (Int × (Int × (ByteArray × (ByteArray × (ByteArray × (ByteArray × (Unit × Unit)))))))) × (Bool × Unit)) × Unit) :=
  ofFn Tryz.prog spec_RetryPacket.call spec_RetryPacket.qt spec_RetryPacket.H N Tryz.f7 [.agg [ck_i, ck_i, ck_i, ck_s, ck_s, ck_s, ck_s, .sh (.rows (.int .i64))], ak_s, ak_s] [] [.agg [ck_i, ck_i, ck_i, ck_s, ck_s, ck_s, ck_s, .nil], ak_b] [] [⟨[], [], [], []⟩] ((h_0, (h_1, (h_2, (h_3, (h_4, (h_5, (h_6, (h_7, ())))))))), (token, (scid, ()))) ()
noncomputable def spec_RetryPacket.S (N : Nat) : Say := ⟨false, 7, [.agg [ck_i, ck_i, ck_i, ck_s, ck_s, ck_s, ck_s, .sh (.rows (.int .i64))], ak_s, ak_s], [], [.agg [ck_i, ck_i, ck_i, ck_s, ck_s, ck_s, ck_s, .nil], ak_b], [], fun a s => spec_RetryPacket N a.1.1 a.1.2.1 a.1.2.2.1 a.1.2.2.2.1 a.1.2.2.2.2.1 a.1.2.2.2.2.2.1 a.1.2.2.2.2.2.2.1 a.1.2.2.2.2.2.2.2.1 a.2.1 a.2.2.1⟩
set_option maxRecDepth 100000 in
theorem spec_RetryPacket.eq (N : Nat) (h_0 : Int) (h_1 : Int) (h_2 : Int) (h_3 : ByteArray) (h_4 : ByteArray) (h_5 : ByteArray) (h_6 : ByteArray) (h_7 : (List Int)) (token : ByteArray) (scid : ByteArray) : spec_RetryPacket N h_0 h_1 h_2 h_3 h_4 h_5 h_6 h_7 token scid =
 andK (α := ((Unit × (Unit × (Bool × Unit))) × ((Int × (Int × (Int × (ByteArray × (ByteArray × (ByteArray × (ByteArray × ((List Int) × Unit)))))))) × ((Int × (Int × (Int × (ByteArray × (ByteArray × (ByteArray × (ByteArray × (Unit × Unit)))))))) × Unit)))) (
  andK (spec_GoodHeader N h_0 h_1 h_2 h_3 h_4 h_5 h_6 h_7) fun u1 =>
  sel (!u1.1.1)
   (
   some ((((), ((), (true, ()))), ((h_0, (h_1, (h_2, (h_3, (h_4, (h_5, (h_6, (h_7, ())))))))), ((0, (0, (0, ((⟨#[]⟩ : ByteArray), ((⟨#[]⟩ : ByteArray), ((⟨#[]⟩ : ByteArray), ((⟨#[]⟩ : ByteArray), ((), ())))))))), ())))))
   (
   sel (!(decide (h_0 = 0)))
    (
    some ((((), ((), (true, ()))), ((h_0, (h_1, (h_2, (h_3, (h_4, (h_5, (h_6, (h_7, ())))))))), ((0, (0, (0, ((⟨#[]⟩ : ByteArray), ((⟨#[]⟩ : ByteArray), ((⟨#[]⟩ : ByteArray), ((⟨#[]⟩ : ByteArray), ((), ())))))))), ())))))
    (
    andK (spec_l1In N (token.size : Int) 1 200) fun u2 =>
    sel (!u2.1.1)
     (
     some ((((), ((), (true, ()))), ((h_0, (h_1, (h_2, (h_3, (h_4, (h_5, (h_6, (h_7, ())))))))), ((0, (0, (0, ((⟨#[]⟩ : ByteArray), ((⟨#[]⟩ : ByteArray), ((⟨#[]⟩ : ByteArray), ((⟨#[]⟩ : ByteArray), ((), ())))))))), ())))))
     (
     some ((((), ((), ((decide (20 < (scid.size : Int))), ()))), ((h_0, (h_1, (h_2, (h_3, (h_4, (h_5, (h_6, (h_7, ())))))))), ((0, (0, (0, ((⟨#[]⟩ : ByteArray), ((⟨#[]⟩ : ByteArray), ((⟨#[]⟩ : ByteArray), ((⟨#[]⟩ : ByteArray), ((), ())))))))), ())))))))) fun j3 =>
 sel j3.1.2.2.1
  (
  some (((0, (0, (0, ((⟨#[]⟩ : ByteArray), ((⟨#[]⟩ : ByteArray), ((⟨#[]⟩ : ByteArray), ((⟨#[]⟩ : ByteArray), ((), ())))))))), (false, ())), ()))
  (
  andK (spec_l2Bytes N 3 0 j3.2.1.2.2.1 j3.2.1.2.2.2.2.1 scid (⟨#[]⟩ : ByteArray) token []) fun u4 =>
  andK (spec_l10Tag N j3.2.1.2.2.2.1 u4.1.1) fun u5 =>
  chk (decide (token.size + u5.1.1.size ≤ 9223372036854775807)) (
  some (((3, (0, (j3.2.1.2.2.1, (j3.2.1.2.2.2.2.1, (scid, ((⟨#[]⟩ : ByteArray), ((token ++ u5.1.1), ((), ())))))))), (true, ())), ()))) := by kernel_rfl
set_option maxRecDepth 100000 in
theorem spec_RetryPacket.say (N : Nat) : SayOk Tryz.prog (spec_RetryPacket.S N) := sayOk_mk (N := N) (H := spec_RetryPacket.H) (preps := [⟨[], [], [], []⟩]) (l := spec_RetryPacket.says) (fn := Tryz.f7) (c := bodyOf Tryz.f7)
  (by kernel_rfl) (by kernel_rfl) (by kernel_rfl) (by kernel_rfl) (by kernel_rfl) (by kernel_rfl) (by kernel_rfl)
  (fun N => SayAll.cons (spec_GoodHeader.say N) (SayAll.cons (spec_l1In.say N) (SayAll.cons (spec_l2Bytes.say N) (SayAll.cons (spec_l10Tag.say N) (SayAll.nil))))) (fun a s => by kernel_rfl)

/-! ### loop.example/g00206/laws.sameInts: function 37 -/
noncomputable def laws_sameInts.H : Hints := hintsOf [(2000004, .loop ⟨.normal, [0, 1, 12], [13], [ak_i], [], [⟨[], [], [], []⟩]⟩ [⟨.ret, [], [4], [ak_b], [], [⟨[], [], [], []⟩]⟩, ⟨(.exit 0), [], [], [], [], [⟨[], [], [], []⟩]⟩])]
noncomputable def laws_sameInts.says (N : Nat) : List Say := []
noncomputable def laws_sameInts.call (N : Nat) : CallK := callBy (laws_sameInts.says N)
noncomputable def laws_sameInts.qt (N : Nat) : FuncId → List PV → Sig → Cl := qtBy (laws_sameInts.says N)
noncomputable def laws_sameInts.l0.hd : Alt := ⟨.normal, [0, 1, 12], [13], [ak_i], [], [⟨[], [], [], []⟩]⟩
noncomputable def laws_sameInts.l0.outs : List Alt := [⟨.ret, [], [4], [ak_b], [], [⟨[], [], [], []⟩]⟩, ⟨(.exit 0), [], [], [], [], [⟨[], [], [], []⟩]⟩]
noncomputable def laws_sameInts.l0 (N : Nat) (a1 : (List Int)) (b1 : (List Int)) (t12 : Int) (t13 : Int) : Option (((Bool × Unit) × Unit) ⊕ (Unit × Unit)) :=
  loopK Tryz.prog laws_sameInts.call laws_sameInts.qt laws_sameInts.H (codeAt (bodyOf Tryz.f37) [1, 1, 0, 1, 0, 0]) 0 laws_sameInts.l0.hd laws_sameInts.l0.outs [(0, .rows false (.int .i64) a1), (1, .rows false (.int .i64) b1), (12, .v (.int .i64 t12))] N ((t13, ()), ())
noncomputable def laws_sameInts (N : Nat) (a : (List Int)) (b : (List Int)) : Option ((Bool × Unit) × Unit) :=
  ofFn Tryz.prog laws_sameInts.call laws_sameInts.qt laws_sameInts.H N Tryz.f37 [.one (.sh (.rows (.int .i64))), .one (.sh (.rows (.int .i64)))] [] [ak_b] [] [⟨[], [], [], []⟩] (a, (b, ())) ()
noncomputable def laws_sameInts.S (N : Nat) : Say := ⟨false, 37, [.one (.sh (.rows (.int .i64))), .one (.sh (.rows (.int .i64)))], [], [ak_b], [], fun a s => laws_sameInts N a.1 a.2.1⟩
set_option maxRecDepth 100000 in
theorem laws_sameInts.l0.eq (N : Nat) (a1 : (List Int)) (b1 : (List Int)) (t12 : Int) (t13 : Int) : laws_sameInts.l0 (N + 1) a1 b1 t12 t13 =
 sel (decide (t13 < t12))
  (
  chk ((decide (0 ≤ t13)) && (decide (t13 < (a1.length : Int)))) (
  chk ((decide (0 ≤ t13)) && (decide (t13 < (b1.length : Int)))) (
  sel (!(decide ((a1.getD (Int.toNat t13) 0) = (b1.getD (Int.toNat t13) 0))))
   (
   some (.inl ((false, ()), ())))
   (
   laws_sameInts.l0 N a1 b1 t12 (IntKind.i64.wrap (t13 + 1))))))
  (
  some (.inr (((), ())))) := by kernel_rfl
set_option maxRecDepth 100000 in
theorem laws_sameInts.eq (N : Nat) (a : (List Int)) (b : (List Int)) : laws_sameInts N a b =
 sel (!(decide ((a.length : Int) = (b.length : Int))))
  (
  some ((false, ()), ()))
  (
  andK (laws_sameInts.l0 N a b (a.length : Int) 0) fun l1 =>
  orK l1 (fun x2 =>
   some ((x2.1.1, ()), ()))
   (fun x3 =>
   some ((true, ()), ()))) := by kernel_rfl
set_option maxRecDepth 100000 in
theorem laws_sameInts.say (N : Nat) : SayOk Tryz.prog (laws_sameInts.S N) := sayOk_mk (N := N) (H := laws_sameInts.H) (preps := [⟨[], [], [], []⟩]) (l := laws_sameInts.says) (fn := Tryz.f37) (c := bodyOf Tryz.f37)
  (by kernel_rfl) (by kernel_rfl) (by kernel_rfl) (by kernel_rfl) (by kernel_rfl) (by kernel_rfl) (by kernel_rfl)
  (fun N => SayAll.nil) (fun a s => by kernel_rfl)

/-! ### loop.example/g00206/laws.sameHeaders: function 14 -/
noncomputable def laws_sameHeaders.H : Hints := hintsOf []
noncomputable def laws_sameHeaders.says (N : Nat) : List Say := [laws_sameInts.S N]
noncomputable def laws_sameHeaders.call (N : Nat) : CallK := callBy (laws_sameHeaders.says N)
noncomputable def laws_sameHeaders.qt (N : Nat) : FuncId → List PV → Sig → Cl := qtBy (laws_sameHeaders.says N)
noncomputable def laws_sameHeaders (N : Nat) (a_0 : Int) (a_1 : Int) (a_2 : Int) (a_3 : ByteArray) (a_4 : ByteArray) (a_5 : ByteArray) (a_6 : ByteArray) (a_7 : (List Int)) (b_0 : Int) (b_1 : Int) (b_2 : Int) (b_3 : ByteArray) (b_4 : ByteArray) (b_5 : ByteArray) (b_6 : ByteArray) (b_7 : (List Int)) : Option ((Bool × Unit) × Unit) :=
  ofFn Tryz.prog laws_sameHeaders.call laws_sameHeaders.qt laws_sameHeaders.H N Tryz.f14 [.agg [ck_i, ck_i, ck_i, ck_s, ck_s, ck_s, ck_s, .sh (.rows (.int .i64))], .agg [ck_i, ck_i, ck_i, ck_s, ck_s, ck_s, ck_s, .sh (.rows (.int .i64))]] [] [ak_b] [] [⟨[], [], [], []⟩] ((a_0, (a_1, (a_2, (a_3, (a_4, (a_5, (a_6, (a_7, ())))))))), ((b_0, (b_1, (b_2, (b_3, (b_4, (b_5, (b_6, (b_7, ())))))))), ())) ()
noncomputable def laws_sameHeaders.S (N : Nat) : Say := ⟨false, 14, [.agg [ck_i, ck_i, ck_i, ck_s, ck_s, ck_s, ck_s, .sh (.rows (.int .i64))], .agg [ck_i, ck_i, ck_i, ck_s, ck_s, ck_s, ck_s, .sh (.rows (.int .i64))]], [], [ak_b], [], fun a s => laws_sameHeaders N a.1.1 a.1.2.1 a.1.2.2.1 a.1.2.2.2.1 a.1.2.2.2.2.1 a.1.2.2.2.2.2.1 a.1.2.2.2.2.2.2.1 a.1.2.2.2.2.2.2.2.1 a.2.1.1 a.2.1.2.1 a.2.1.2.2.1 a.2.1.2.2.2.1 a.2.1.2.2.2.2.1 a.2.1.2.2.2.2.2.1 a.2.1.2.2.2.2.2.2.1 a.2.1.2.2.2.2.2.2.2.1⟩
set_option maxRecDepth 100000 in
theorem laws_sameHeaders.eq (N : Nat) (a_0 : Int) (a_1 : Int) (a_2 : Int) (a_3 : ByteArray) (a_4 : ByteArray) (a_5 : ByteArray) (a_6 : ByteArray) (a_7 : (List Int)) (b_0 : Int) (b_1 : Int) (b_2 : Int) (b_3 : ByteArray) (b_4 : ByteArray) (b_5 : ByteArray) (b_6 : ByteArray) (b_7 : (List Int)) : laws_sameHeaders N a_0 a_1 a_2 a_3 a_4 a_5 a_6 a_7 b_0 b_1 b_2 b_3 b_4 b_5 b_6 b_7 =
 sel (decide (a_0 = b_0))
  (
  sel (decide (a_1 = b_1))
   (
   sel (decide (a_2 = b_2))
    (
    sel (decide (a_3 = b_3))
     (
     sel (decide (a_4 = b_4))
      (
      sel (decide (a_5 = b_5))
       (
       sel (decide (a_6 = b_6))
        (
        andK (laws_sameInts N a_7 b_7) fun u1 =>
        some ((u1.1.1, ()), ()))
        (
        some ((false, ()), ())))
       (
       some ((false, ()), ())))
      (
      some ((false, ()), ())))
     (
     some ((false, ()), ())))
    (
    some ((false, ()), ())))
   (
   some ((false, ()), ())))
  (
  some ((false, ()), ())) := by kernel_rfl
set_option maxRecDepth 100000 in
theorem laws_sameHeaders.say (N : Nat) : SayOk Tryz.prog (laws_sameHeaders.S N) := sayOk_mk (N := N) (H := laws_sameHeaders.H) (preps := [⟨[], [], [], []⟩]) (l := laws_sameHeaders.says) (fn := Tryz.f14) (c := bodyOf Tryz.f14)
  (by kernel_rfl) (by kernel_rfl) (by kernel_rfl) (by kernel_rfl) (by kernel_rfl) (by kernel_rfl) (by kernel_rfl)
  (fun N => SayAll.cons (laws_sameInts.say N) (SayAll.nil)) (fun a s => by kernel_rfl)

/-! ### (*loop.example/g00206/impl.Header).ids: function 71 -/
noncomputable def impl_Header_ids_2.H : Hints := hintsOf []
noncomputable def impl_Header_ids_2.says (N : Nat) : List Say := [impl_byteCounted.S N]
noncomputable def impl_Header_ids_2.call (N : Nat) : CallK := callBy (impl_Header_ids_2.says N)
noncomputable def impl_Header_ids_2.qt (N : Nat) : FuncId → List PV → Sig → Cl := qtBy (impl_Header_ids_2.says N)
noncomputable def impl_Header_ids_2 (N : Nat) (p0_0 : Int) (p0_1 : Int) (p0_2 : Int) (p0_3 : ByteArray) (p0_4 : ByteArray) (p0_5 : ByteArray) (p0_6 : ByteArray) (p0_7 : (List Int)) : Option ((ByteArray × Unit) × ((Int × (Int × (Int × (ByteArray × (ByteArray × (ByteArray × (ByteArray × ((List Int) × Unit)))))))) × Unit)) :=
  ofFn Tryz.prog impl_Header_ids_2.call impl_Header_ids_2.qt impl_Header_ids_2.H N Tryz.f71 [.one (.ptr 0 0)] [.cells [ck_i, ck_i, ck_i, ck_s, ck_s, ck_s, ck_s, .sh (.rows (.int .i64))]] [ak_s] [.cells [ck_i, ck_i, ck_i, ck_s, ck_s, ck_s, ck_s, .sh (.rows (.int .i64))]] [⟨[], [], [], []⟩] ((), ()) ((p0_0, (p0_1, (p0_2, (p0_3, (p0_4, (p0_5, (p0_6, (p0_7, ())))))))), ())
noncomputable def impl_Header_ids_2.S (N : Nat) : Say := ⟨false, 71, [.one (.ptr 0 0)], [.cells [ck_i, ck_i, ck_i, ck_s, ck_s, ck_s, ck_s, .sh (.rows (.int .i64))]], [ak_s], [.cells [ck_i, ck_i, ck_i, ck_s, ck_s, ck_s, ck_s, .sh (.rows (.int .i64))]], fun a s => impl_Header_ids_2 N s.1.1 s.1.2.1 s.1.2.2.1 s.1.2.2.2.1 s.1.2.2.2.2.1 s.1.2.2.2.2.2.1 s.1.2.2.2.2.2.2.1 s.1.2.2.2.2.2.2.2.1⟩
set_option maxRecDepth 100000 in
theorem impl_Header_ids_2.eq (N : Nat) (p0_0 : Int) (p0_1 : Int) (p0_2 : Int) (p0_3 : ByteArray) (p0_4 : ByteArray) (p0_5 : ByteArray) (p0_6 : ByteArray) (p0_7 : (List Int)) : impl_Header_ids_2 N p0_0 p0_1 p0_2 p0_3 p0_4 p0_5 p0_6 p0_7 =
 andK (impl_byteCounted N p0_3) fun u1 =>
 andK (impl_byteCounted N p0_4) fun u2 =>
 chk (decide (u1.1.1.size + u2.1.1.size ≤ 9223372036854775807)) (
 some (((u1.1.1 ++ u2.1.1), ()), ((p0_0, (p0_1, (p0_2, (p0_3, (p0_4, (p0_5, (p0_6, (p0_7, ())))))))), ()))) := by kernel_rfl
set_option maxRecDepth 100000 in
theorem impl_Header_ids_2.say (N : Nat) : SayOk Tryz.prog (impl_Header_ids_2.S N) := sayOk_mk (N := N) (H := impl_Header_ids_2.H) (preps := [⟨[], [], [], []⟩]) (l := impl_Header_ids_2.says) (fn := Tryz.f71) (c := bodyOf Tryz.f71)
  (by kernel_rfl) (by kernel_rfl) (by kernel_rfl) (by kernel_rfl) (by kernel_rfl) (by kernel_rfl) (by kernel_rfl)
  (fun N => SayAll.cons (impl_byteCounted.say N) (SayAll.nil)) (fun a s => by kernel_rfl)

/-! ### (*loop.example/g00206/impl.Header).bytes: function 29 -/
noncomputable def impl_Header_bytes_2.H : Hints := hintsOf [(2000007, .loop ⟨.normal, [47, 48], [3, 49], [ak_s, ak_i], [.cells [ck_i, ck_i, ck_i, ck_s, ck_s, ck_s, ck_s, .sh (.rows (.int .i64))]], [⟨[], [], [], []⟩]⟩ [⟨(.exit 1), [], [3], [ak_s], [.cells [ck_i, ck_i, ck_i, ck_s, ck_s, ck_s, ck_s, .sh (.rows (.int .i64))]], [⟨[], [], [], []⟩]⟩]),
  (15, .join [⟨.normal, [], [0, 6], [.one (.ptr 0 0), ak_s], [.cells [ck_i, ck_i, ck_i, ck_s, ck_s, ck_s, ck_s, .sh (.rows (.int .i64))]], [⟨[], [], [], []⟩]⟩]),
  (17, .join [⟨.normal, [], [0, 6], [.one (.ptr 0 0), ak_s], [.cells [ck_i, ck_i, ck_i, ck_s, ck_s, ck_s, ck_s, .sh (.rows (.int .i64))]], [⟨[], [], [], []⟩]⟩])]
noncomputable def impl_Header_bytes_2.says (N : Nat) : List Say := [impl_bigEndian.S N, impl_Header_ids_2.S N, impl_counted.S N]
noncomputable def impl_Header_bytes_2.call (N : Nat) : CallK := callBy (impl_Header_bytes_2.says N)
noncomputable def impl_Header_bytes_2.qt (N : Nat) : FuncId → List PV → Sig → Cl := qtBy (impl_Header_bytes_2.says N)
noncomputable def impl_Header_bytes_2.l0.hd : Alt := ⟨.normal, [47, 48], [3, 49], [ak_s, ak_i], [.cells [ck_i, ck_i, ck_i, ck_s, ck_s, ck_s, ck_s, .sh (.rows (.int .i64))]], [⟨[], [], [], []⟩]⟩
noncomputable def impl_Header_bytes_2.l0.outs : List Alt := [⟨(.exit 1), [], [3], [ak_s], [.cells [ck_i, ck_i, ck_i, ck_s, ck_s, ck_s, ck_s, .sh (.rows (.int .i64))]], [⟨[], [], [], []⟩]⟩]
noncomputable def impl_Header_bytes_2.l0 (N : Nat) (t47 : (List Int)) (t48 : Int) (C : ByteArray) (t49 : Int) (p0_01 : Int) (p0_11 : Int) (p0_21 : Int) (p0_31 : ByteArray) (p0_41 : ByteArray) (p0_51 : ByteArray) (p0_61 : ByteArray) (p0_71 : (List Int)) : Option ((ByteArray × Unit) × ((Int × (Int × (Int × (ByteArray × (ByteArray × (ByteArray × (ByteArray × ((List Int) × Unit)))))))) × Unit)) :=
  loopK Tryz.prog impl_Header_bytes_2.call impl_Header_bytes_2.qt impl_Header_bytes_2.H (codeAt (bodyOf Tryz.f29) [1, 0, 1, 0, 1, 1, 1, 0, 1, 0, 1, 0, 0]) 1 impl_Header_bytes_2.l0.hd impl_Header_bytes_2.l0.outs [(47, .rows false (.int .i64) t47), (48, .v (.int .i64 t48))] N ((C, (t49, ())), ((p0_01, (p0_11, (p0_21, (p0_31, (p0_41, (p0_51, (p0_61, (p0_71, ())))))))), ()))
noncomputable def impl_Header_bytes_2 (N : Nat) (p0_0 : Int) (p0_1 : Int) (p0_2 : Int) (p0_3 : ByteArray) (p0_4 : ByteArray) (p0_5 : ByteArray) (p0_6 : ByteArray) (p0_7 : (List Int)) : Option ((ByteArray × Unit) × ((Int × (Int × (Int × (ByteArray × (ByteArray × (ByteArray × (ByteArray × ((List Int) × Unit)))))))) × Unit)) :=
  ofFn Tryz.prog impl_Header_bytes_2.call impl_Header_bytes_2.qt impl_Header_bytes_2.H N Tryz.f29 [.one (.ptr 0 0)] [.cells [ck_i, ck_i, ck_i, ck_s, ck_s, ck_s, ck_s, .sh (.rows (.int .i64))]] [ak_s] [.cells [ck_i, ck_i, ck_i, ck_s, ck_s, ck_s, ck_s, .sh (.rows (.int .i64))]] [⟨[], [], [], []⟩] ((), ()) ((p0_0, (p0_1, (p0_2, (p0_3, (p0_4, (p0_5, (p0_6, (p0_7, ())))))))), ())
noncomputable def impl_Header_bytes_2.S (N : Nat) : Say := ⟨false, 29, [.one (.ptr 0 0)], [.cells [ck_i, ck_i, ck_i, ck_s, ck_s, ck_s, ck_s, .sh (.rows (.int .i64))]], [ak_s], [.cells [ck_i, ck_i, ck_i, ck_s, ck_s, ck_s, ck_s, .sh (.rows (.int .i64))]], fun a s => impl_Header_bytes_2 N s.1.1 s.1.2.1 s.1.2.2.1 s.1.2.2.2.1 s.1.2.2.2.2.1 s.1.2.2.2.2.2.1 s.1.2.2.2.2.2.2.1 s.1.2.2.2.2.2.2.2.1⟩
set_option maxRecDepth 100000 in
theorem impl_Header_bytes_2.l0.eq (N : Nat) (t47 : (List Int)) (t48 : Int) (C : ByteArray) (t49 : Int) (p0_01 : Int) (p0_11 : Int) (p0_21 : Int) (p0_31 : ByteArray) (p0_41 : ByteArray) (p0_51 : ByteArray) (p0_61 : ByteArray) (p0_71 : (List Int)) : impl_Header_bytes_2.l0 (N + 1) t47 t48 C t49 p0_01 p0_11 p0_21 p0_31 p0_41 p0_51 p0_61 p0_71 =
 sel (decide (t49 < t48))
  (
  chk ((decide (0 ≤ t49)) && (decide (t49 < (t47.length : Int)))) (
  andK (impl_bigEndian N (IntKind.u64.wrap (t47.getD (Int.toNat t49) 0)) 4) fun u5 =>
  chk (decide (C.size + u5.1.1.size ≤ 9223372036854775807)) (
  impl_Header_bytes_2.l0 N t47 t48 (C ++ u5.1.1) (IntKind.i64.wrap (t49 + 1)) p0_01 p0_11 p0_21 p0_31 p0_41 p0_51 p0_61 p0_71)))
  (
  some (((C, ()), ((p0_01, (p0_11, (p0_21, (p0_31, (p0_41, (p0_51, (p0_61, (p0_71, ())))))))), ())))) := by kernel_rfl
set_option maxRecDepth 100000 in
theorem impl_Header_bytes_2.eq (N : Nat) (p0_0 : Int) (p0_1 : Int) (p0_2 : Int) (p0_3 : ByteArray) (p0_4 : ByteArray) (p0_5 : ByteArray) (p0_6 : ByteArray) (p0_7 : (List Int)) : impl_Header_bytes_2 N p0_0 p0_1 p0_2 p0_3 p0_4 p0_5 p0_6 p0_7 =
 sel (decide (p0_0 = 5))
  (
  andK (impl_bigEndian N (IntKind.u64.wrap (IntKind.i64.wrap (64 + p0_1))) 1) fun u1 =>
  chk (decide (u1.1.1.size + p0_3.size ≤ 9223372036854775807)) (
  chk (decide ((u1.1.1 ++ p0_3).size + p0_6.size ≤ 9223372036854775807)) (
  some ((((u1.1.1 ++ p0_3) ++ p0_6), ()), ((p0_0, (p0_1, (p0_2, (p0_3, (p0_4, (p0_5, (p0_6, (p0_7, ())))))))), ())))))
  (
  sel (decide (p0_0 = 4))
   (
   andK (impl_bigEndian N (IntKind.u64.wrap (IntKind.i64.wrap (192 + p0_1))) 1) fun u2 =>
   andK (impl_bigEndian N 0 4) fun u3 =>
   chk (decide (u2.1.1.size + u3.1.1.size ≤ 9223372036854775807)) (
   andK (impl_Header_ids_2 N p0_0 p0_1 p0_2 p0_3 p0_4 p0_5 p0_6 p0_7) fun u4 =>
   chk (decide ((u2.1.1 ++ u3.1.1).size + u4.1.1.size ≤ 9223372036854775807)) (
   andK (impl_Header_bytes_2.l0 N u4.2.1.2.2.2.2.2.2.2.1 (u4.2.1.2.2.2.2.2.2.2.1.length : Int) ((u2.1.1 ++ u3.1.1) ++ u4.1.1) 0 u4.2.1.1 u4.2.1.2.1 u4.2.1.2.2.1 u4.2.1.2.2.2.1 u4.2.1.2.2.2.2.1 u4.2.1.2.2.2.2.2.1 u4.2.1.2.2.2.2.2.2.1 u4.2.1.2.2.2.2.2.2.2.1) fun l6 =>
   some ((l6.1.1, ()), ((l6.2.1.1, (l6.2.1.2.1, (l6.2.1.2.2.1, (l6.2.1.2.2.2.1, (l6.2.1.2.2.2.2.1, (l6.2.1.2.2.2.2.2.1, (l6.2.1.2.2.2.2.2.2.1, (l6.2.1.2.2.2.2.2.2.2.1, ())))))))), ())))))
   (
   andK (impl_bigEndian N (IntKind.u64.wrap (IntKind.i64.wrap ((IntKind.i64.wrap (192 + (IntKind.i64.wrap (16 * p0_0)))) + p0_1))) 1) fun u7 =>
   andK (impl_bigEndian N (IntKind.u64.wrap p0_2) 4) fun u8 =>
   chk (decide (u7.1.1.size + u8.1.1.size ≤ 9223372036854775807)) (
   andK (impl_Header_ids_2 N p0_0 p0_1 p0_2 p0_3 p0_4 p0_5 p0_6 p0_7) fun u9 =>
   chk (decide ((u7.1.1 ++ u8.1.1).size + u9.1.1.size ≤ 9223372036854775807)) (
   andK (α := ((Unit × (ByteArray × Unit)) × ((Int × (Int × (Int × (ByteArray × (ByteArray × (ByteArray × (ByteArray × ((List Int) × Unit)))))))) × Unit))) (
    sel (decide (u9.2.1.1 = 0))
     (
     andK (impl_counted N u9.2.1.2.2.2.2.2.1) fun u10 =>
     chk (decide (((u7.1.1 ++ u8.1.1) ++ u9.1.1).size + u10.1.1.size ≤ 9223372036854775807)) (
     some ((((), ((((u7.1.1 ++ u8.1.1) ++ u9.1.1) ++ u10.1.1), ())), ((u9.2.1.1, (u9.2.1.2.1, (u9.2.1.2.2.1, (u9.2.1.2.2.2.1, (u9.2.1.2.2.2.2.1, (u9.2.1.2.2.2.2.2.1, (u9.2.1.2.2.2.2.2.2.1, (u9.2.1.2.2.2.2.2.2.2.1, ())))))))), ())))))
     (
     some ((((), (((u7.1.1 ++ u8.1.1) ++ u9.1.1), ())), ((u9.2.1.1, (u9.2.1.2.1, (u9.2.1.2.2.1, (u9.2.1.2.2.2.1, (u9.2.1.2.2.2.2.1, (u9.2.1.2.2.2.2.2.1, (u9.2.1.2.2.2.2.2.2.1, (u9.2.1.2.2.2.2.2.2.2.1, ())))))))), ()))))) fun j11 =>
   andK (α := ((Unit × (ByteArray × Unit)) × ((Int × (Int × (Int × (ByteArray × (ByteArray × (ByteArray × (ByteArray × ((List Int) × Unit)))))))) × Unit))) (
    sel (!(decide (j11.2.1.1 = 3)))
     (
     andK (impl_bigEndian N (IntKind.u64.wrap (IntKind.i64.wrap (16384 + (j11.2.1.2.2.2.2.2.2.1.size : Int)))) 2) fun u12 =>
     chk (decide (j11.1.2.1.size + u12.1.1.size ≤ 9223372036854775807)) (
     some ((((), ((j11.1.2.1 ++ u12.1.1), ())), ((j11.2.1.1, (j11.2.1.2.1, (j11.2.1.2.2.1, (j11.2.1.2.2.2.1, (j11.2.1.2.2.2.2.1, (j11.2.1.2.2.2.2.2.1, (j11.2.1.2.2.2.2.2.2.1, (j11.2.1.2.2.2.2.2.2.2.1, ())))))))), ())))))
     (
     some ((((), (j11.1.2.1, ())), ((j11.2.1.1, (j11.2.1.2.1, (j11.2.1.2.2.1, (j11.2.1.2.2.2.1, (j11.2.1.2.2.2.2.1, (j11.2.1.2.2.2.2.2.1, (j11.2.1.2.2.2.2.2.2.1, (j11.2.1.2.2.2.2.2.2.2.1, ())))))))), ()))))) fun j13 =>
   chk (decide (j13.1.2.1.size + j13.2.1.2.2.2.2.2.2.1.size ≤ 9223372036854775807)) (
   some (((j13.1.2.1 ++ j13.2.1.2.2.2.2.2.2.1), ()), ((j13.2.1.1, (j13.2.1.2.1, (j13.2.1.2.2.1, (j13.2.1.2.2.2.1, (j13.2.1.2.2.2.2.1, (j13.2.1.2.2.2.2.2.1, (j13.2.1.2.2.2.2.2.2.1, (j13.2.1.2.2.2.2.2.2.2.1, ())))))))), ()))))))) := by kernel_rfl
set_option maxRecDepth 100000 in
theorem impl_Header_bytes_2.say (N : Nat) : SayOk Tryz.prog (impl_Header_bytes_2.S N) := sayOk_mk (N := N) (H := impl_Header_bytes_2.H) (preps := [⟨[], [], [], []⟩]) (l := impl_Header_bytes_2.says) (fn := Tryz.f29) (c := bodyOf Tryz.f29)
  (by kernel_rfl) (by kernel_rfl) (by kernel_rfl) (by kernel_rfl) (by kernel_rfl) (by kernel_rfl) (by kernel_rfl)
  (fun N => SayAll.cons (impl_bigEndian.say N) (SayAll.cons (impl_Header_ids_2.say N) (SayAll.cons (impl_counted.say N) (SayAll.nil)))) (fun a s => by kernel_rfl)

/-! ### loop.example/g00206/impl.HeaderBytes: function 15 -/
noncomputable def impl_HeaderBytes.H : Hints := hintsOf []
noncomputable def impl_HeaderBytes.says (N : Nat) : List Say := [impl_GoodHeader.S N, impl_Header_bytes_2.S N]
noncomputable def impl_HeaderBytes.call (N : Nat) : CallK := callBy (impl_HeaderBytes.says N)
noncomputable def impl_HeaderBytes.qt (N : Nat) : FuncId → List PV → Sig → Cl := qtBy (impl_HeaderBytes.says N)
noncomputable def impl_HeaderBytes (N : Nat) (h_0 : Int) (h_1 : Int) (h_2 : Int) (h_3 : ByteArray) (h_4 : ByteArray) (h_5 : ByteArray) (h_6 : ByteArray) (h_7 : (List Int)) : Option ((ByteArray × (Bool × Unit)) × Unit) :=
  ofFn Tryz.prog impl_HeaderBytes.call impl_HeaderBytes.qt impl_HeaderBytes.H N Tryz.f15 [.agg [ck_i, ck_i, ck_i, ck_s, ck_s, ck_s, ck_s, .sh (.rows (.int .i64))]] [] [ak_s, ak_b] [] [⟨[], [], [], []⟩] ((h_0, (h_1, (h_2, (h_3, (h_4, (h_5, (h_6, (h_7, ())))))))), ()) ()
noncomputable def impl_HeaderBytes.S (N : Nat) : Say := ⟨false, 15, [.agg [ck_i, ck_i, ck_i, ck_s, ck_s, ck_s, ck_s, .sh (.rows (.int .i64))]], [], [ak_s, ak_b], [], fun a s => impl_HeaderBytes N a.1.1 a.1.2.1 a.1.2.2.1 a.1.2.2.2.1 a.1.2.2.2.2.1 a.1.2.2.2.2.2.1 a.1.2.2.2.2.2.2.1 a.1.2.2.2.2.2.2.2.1⟩
set_option maxRecDepth 100000 in
theorem impl_HeaderBytes.eq (N : Nat) (h_0 : Int) (h_1 : Int) (h_2 : Int) (h_3 : ByteArray) (h_4 : ByteArray) (h_5 : ByteArray) (h_6 : ByteArray) (h_7 : (List Int)) : impl_HeaderBytes N h_0 h_1 h_2 h_3 h_4 h_5 h_6 h_7 =
 andK (impl_GoodHeader N h_0 h_1 h_2 h_3 h_4 h_5 h_6 h_7) fun u1 =>
 sel (!u1.1.1)
  (
  some (((⟨#[]⟩ : ByteArray), (false, ())), ()))
  (
  andK (impl_Header_bytes_2 N h_0 h_1 h_2 h_3 h_4 h_5 h_6 h_7) fun u2 =>
  some ((u2.1.1, (true, ())), ())) := by kernel_rfl
set_option maxRecDepth 100000 in
theorem impl_HeaderBytes.say (N : Nat) : SayOk Tryz.prog (impl_HeaderBytes.S N) := sayOk_mk (N := N) (H := impl_HeaderBytes.H) (preps := [⟨[], [], [], []⟩]) (l := impl_HeaderBytes.says) (fn := Tryz.f15) (c := bodyOf Tryz.f15)
  (by kernel_rfl) (by kernel_rfl) (by kernel_rfl) (by kernel_rfl) (by kernel_rfl) (by kernel_rfl) (by kernel_rfl)
  (fun N => SayAll.cons (impl_GoodHeader.say N) (SayAll.cons (impl_Header_bytes_2.say N) (SayAll.nil))) (fun a s => by kernel_rfl)

/-! ### loop.example/g00206/laws.FnRetried: function 4 -/
noncomputable def laws_FnRetried.H : Hints := hintsOf [(5000006, .join [⟨.normal, [4, 5, 7], [3, 6, 47], [.one (.ptr 0 0), .one (.ptr 1 0), ak_b], [.cells [ck_i, ck_i, ck_i, ck_s, ck_s, ck_s, ck_s, .sh (.rows (.int .i64))], .cells [ck_i, ck_i, ck_i, ck_s, ck_s, ck_s, ck_s, .nil], .cells [ck_i, ck_i, ck_i, ck_s, ck_s, ck_s, ck_s, .nil]], [⟨[], [], [], []⟩]⟩]),
  (5000011, .join [⟨.normal, [4, 10], [3, 6, 88], [.one (.ptr 0 0), .one (.ptr 1 0), ak_b], [.cells [ck_i, ck_i, ck_i, ck_s, ck_s, ck_s, ck_s, .sh (.rows (.int .i64))], .cells [ck_i, ck_i, ck_i, ck_s, ck_s, ck_s, ck_s, .nil], .cells [ck_i, ck_i, ck_i, ck_s, ck_s, ck_s, ck_s, .nil]], [⟨[], [], [], []⟩]⟩])]
noncomputable def laws_FnRetried.says (N : Nat) : List Say := [spec_DrawRetryPacket.S N, impl_RetryPacket.S N, spec_RetryPacket.S N, laws_sameHeaders.S N, impl_HeaderBytes.S N, impl_RetryTag.S N]
noncomputable def laws_FnRetried.call (N : Nat) : CallK := callBy (laws_FnRetried.says N)
noncomputable def laws_FnRetried.qt (N : Nat) : FuncId → List PV → Sig → Cl := qtBy (laws_FnRetried.says N)
noncomputable def laws_FnRetried (N : Nat) (G : (List Int)) : Option ((Bool × Unit) × Unit) :=
  ofFn Tryz.prog laws_FnRetried.call laws_FnRetried.qt laws_FnRetried.H N Tryz.f4 [.one (.sh (.rows (.int .u8)))] [] [ak_b] [] [⟨[], [], [], []⟩] (G, ()) ()
noncomputable def laws_FnRetried.S (N : Nat) : Say := ⟨false, 4, [.one (.sh (.rows (.int .u8)))], [], [ak_b], [], fun a s => laws_FnRetried N a.1⟩
set_option maxRecDepth 100000 in
theorem laws_FnRetried.eq (N : Nat) (G : (List Int)) : laws_FnRetried N G =
 sel (decide (1048576 < (G.length : Int)))
  (
  some ((true, ()), ()))
  (
  andK (spec_DrawRetryPacket N G) fun u1 =>
  andK (impl_RetryPacket N u1.1.1.1 u1.1.1.2.1 u1.1.1.2.2.1 u1.1.1.2.2.2.1 u1.1.1.2.2.2.2.1 u1.1.1.2.2.2.2.2.1 u1.1.1.2.2.2.2.2.2.1 u1.1.1.2.2.2.2.2.2.2.1 u1.1.2.1 u1.1.2.2.1) fun u2 =>
  andK (spec_RetryPacket N u1.1.1.1 u1.1.1.2.1 u1.1.1.2.2.1 u1.1.1.2.2.2.1 u1.1.1.2.2.2.2.1 u1.1.1.2.2.2.2.2.1 u1.1.1.2.2.2.2.2.2.1 u1.1.1.2.2.2.2.2.2.2.1 u1.1.2.1 u1.1.2.2.1) fun u3 =>
  andK (α := ((Unit × (Unit × (Bool × Unit))) × ((Int × (Int × (Int × (ByteArray × (ByteArray × (ByteArray × (ByteArray × ((List Int) × Unit)))))))) × ((Int × (Int × (Int × (ByteArray × (ByteArray × (ByteArray × (ByteArray × (Unit × Unit)))))))) × ((Int × (Int × (Int × (ByteArray × (ByteArray × (ByteArray × (ByteArray × (Unit × Unit)))))))) × Unit))))) (
   sel (!(u2.1.2.1 == u3.1.2.1))
    (
    some ((((), ((), (true, ()))), ((u1.1.1.1, (u1.1.1.2.1, (u1.1.1.2.2.1, (u1.1.1.2.2.2.1, (u1.1.1.2.2.2.2.1, (u1.1.1.2.2.2.2.2.1, (u1.1.1.2.2.2.2.2.2.1, (u1.1.1.2.2.2.2.2.2.2.1, ())))))))), ((u2.1.1.1, (u2.1.1.2.1, (u2.1.1.2.2.1, (u2.1.1.2.2.2.1, (u2.1.1.2.2.2.2.1, (u2.1.1.2.2.2.2.2.1, (u2.1.1.2.2.2.2.2.2.1, ((), ())))))))), ((u3.1.1.1, (u3.1.1.2.1, (u3.1.1.2.2.1, (u3.1.1.2.2.2.1, (u3.1.1.2.2.2.2.1, (u3.1.1.2.2.2.2.2.1, (u3.1.1.2.2.2.2.2.2.1, ((), ())))))))), ()))))))
    (
    andK (laws_sameHeaders N u2.1.1.1 u2.1.1.2.1 u2.1.1.2.2.1 u2.1.1.2.2.2.1 u2.1.1.2.2.2.2.1 u2.1.1.2.2.2.2.2.1 u2.1.1.2.2.2.2.2.2.1 [] u3.1.1.1 u3.1.1.2.1 u3.1.1.2.2.1 u3.1.1.2.2.2.1 u3.1.1.2.2.2.2.1 u3.1.1.2.2.2.2.2.1 u3.1.1.2.2.2.2.2.2.1 []) fun u4 =>
    some ((((), ((), ((!u4.1.1), ()))), ((u1.1.1.1, (u1.1.1.2.1, (u1.1.1.2.2.1, (u1.1.1.2.2.2.1, (u1.1.1.2.2.2.2.1, (u1.1.1.2.2.2.2.2.1, (u1.1.1.2.2.2.2.2.2.1, (u1.1.1.2.2.2.2.2.2.2.1, ())))))))), ((u2.1.1.1, (u2.1.1.2.1, (u2.1.1.2.2.1, (u2.1.1.2.2.2.1, (u2.1.1.2.2.2.2.1, (u2.1.1.2.2.2.2.2.1, (u2.1.1.2.2.2.2.2.2.1, ((), ())))))))), ((u3.1.1.1, (u3.1.1.2.1, (u3.1.1.2.2.1, (u3.1.1.2.2.2.1, (u3.1.1.2.2.2.2.1, (u3.1.1.2.2.2.2.2.1, (u3.1.1.2.2.2.2.2.2.1, ((), ())))))))), ()))))))) fun j5 =>
  sel j5.1.2.2.1
   (
   some ((false, ()), ()))
   (
   sel (!u2.1.2.1)
    (
    some (((decide (j5.2.2.1.2.2.2.2.2.2.1 = (⟨#[]⟩ : ByteArray))), ()), ()))
    (
    andK (α := ((Unit × (Unit × (Bool × Unit))) × ((Int × (Int × (Int × (ByteArray × (ByteArray × (ByteArray × (ByteArray × ((List Int) × Unit)))))))) × ((Int × (Int × (Int × (ByteArray × (ByteArray × (ByteArray × (ByteArray × (Unit × Unit)))))))) × ((Int × (Int × (Int × (ByteArray × (ByteArray × (ByteArray × (ByteArray × (Unit × Unit)))))))) × Unit))))) (
     sel (!(decide (j5.2.2.1.2.2.2.1 = j5.2.1.2.2.2.2.1)))
      (
      some ((((), ((), (true, ()))), ((j5.2.1.1, (j5.2.1.2.1, (j5.2.1.2.2.1, (j5.2.1.2.2.2.1, (j5.2.1.2.2.2.2.1, (j5.2.1.2.2.2.2.2.1, (j5.2.1.2.2.2.2.2.2.1, (j5.2.1.2.2.2.2.2.2.2.1, ())))))))), ((j5.2.2.1.1, (j5.2.2.1.2.1, (j5.2.2.1.2.2.1, (j5.2.2.1.2.2.2.1, (j5.2.2.1.2.2.2.2.1, (j5.2.2.1.2.2.2.2.2.1, (j5.2.2.1.2.2.2.2.2.2.1, ((), ())))))))), ((j5.2.2.2.1.1, (j5.2.2.2.1.2.1, (j5.2.2.2.1.2.2.1, (j5.2.2.2.1.2.2.2.1, (j5.2.2.2.1.2.2.2.2.1, (j5.2.2.2.1.2.2.2.2.2.1, (j5.2.2.2.1.2.2.2.2.2.2.1, ((), ())))))))), ()))))))
      (
      sel (!(decide (j5.2.2.1.2.2.2.2.1 = u1.1.2.2.1)))
       (
       some ((((), ((), (true, ()))), ((j5.2.1.1, (j5.2.1.2.1, (j5.2.1.2.2.1, (j5.2.1.2.2.2.1, (j5.2.1.2.2.2.2.1, (j5.2.1.2.2.2.2.2.1, (j5.2.1.2.2.2.2.2.2.1, (j5.2.1.2.2.2.2.2.2.2.1, ())))))))), ((j5.2.2.1.1, (j5.2.2.1.2.1, (j5.2.2.1.2.2.1, (j5.2.2.1.2.2.2.1, (j5.2.2.1.2.2.2.2.1, (j5.2.2.1.2.2.2.2.2.1, (j5.2.2.1.2.2.2.2.2.2.1, ((), ())))))))), ((j5.2.2.2.1.1, (j5.2.2.2.1.2.1, (j5.2.2.2.1.2.2.1, (j5.2.2.2.1.2.2.2.1, (j5.2.2.2.1.2.2.2.2.1, (j5.2.2.2.1.2.2.2.2.2.1, (j5.2.2.2.1.2.2.2.2.2.2.1, ((), ())))))))), ()))))))
       (
       sel (!(decide (j5.2.2.1.2.2.1 = j5.2.1.2.2.1)))
        (
        some ((((), ((), (true, ()))), ((j5.2.1.1, (j5.2.1.2.1, (j5.2.1.2.2.1, (j5.2.1.2.2.2.1, (j5.2.1.2.2.2.2.1, (j5.2.1.2.2.2.2.2.1, (j5.2.1.2.2.2.2.2.2.1, (j5.2.1.2.2.2.2.2.2.2.1, ())))))))), ((j5.2.2.1.1, (j5.2.2.1.2.1, (j5.2.2.1.2.2.1, (j5.2.2.1.2.2.2.1, (j5.2.2.1.2.2.2.2.1, (j5.2.2.1.2.2.2.2.2.1, (j5.2.2.1.2.2.2.2.2.2.1, ((), ())))))))), ((j5.2.2.2.1.1, (j5.2.2.2.1.2.1, (j5.2.2.2.1.2.2.1, (j5.2.2.2.1.2.2.2.1, (j5.2.2.2.1.2.2.2.2.1, (j5.2.2.2.1.2.2.2.2.2.1, (j5.2.2.2.1.2.2.2.2.2.2.1, ((), ())))))))), ()))))))
        (
        sel (!(decide ((j5.2.2.1.2.2.2.2.2.2.1.size : Int) = (IntKind.i64.wrap ((u1.1.2.1.size : Int) + 16)))))
         (
         some ((((), ((), (true, ()))), ((j5.2.1.1, (j5.2.1.2.1, (j5.2.1.2.2.1, (j5.2.1.2.2.2.1, (j5.2.1.2.2.2.2.1, (j5.2.1.2.2.2.2.2.1, (j5.2.1.2.2.2.2.2.2.1, (j5.2.1.2.2.2.2.2.2.2.1, ())))))))), ((j5.2.2.1.1, (j5.2.2.1.2.1, (j5.2.2.1.2.2.1, (j5.2.2.1.2.2.2.1, (j5.2.2.1.2.2.2.2.1, (j5.2.2.1.2.2.2.2.2.1, (j5.2.2.1.2.2.2.2.2.2.1, ((), ())))))))), ((j5.2.2.2.1.1, (j5.2.2.2.1.2.1, (j5.2.2.2.1.2.2.1, (j5.2.2.2.1.2.2.2.1, (j5.2.2.2.1.2.2.2.2.1, (j5.2.2.2.1.2.2.2.2.2.1, (j5.2.2.2.1.2.2.2.2.2.2.1, ((), ())))))))), ()))))))
         (
         chk ((decide (0 ≤ (u1.1.2.1.size : Int))) && (decide ((u1.1.2.1.size : Int) ≤ (j5.2.2.1.2.2.2.2.2.2.1.size : Int)))) (
         some ((((), ((), ((!(decide ((j5.2.2.1.2.2.2.2.2.2.1.extract 0 (Int.toNat (u1.1.2.1.size : Int))) = u1.1.2.1))), ()))), ((j5.2.1.1, (j5.2.1.2.1, (j5.2.1.2.2.1, (j5.2.1.2.2.2.1, (j5.2.1.2.2.2.2.1, (j5.2.1.2.2.2.2.2.1, (j5.2.1.2.2.2.2.2.2.1, (j5.2.1.2.2.2.2.2.2.2.1, ())))))))), ((j5.2.2.1.1, (j5.2.2.1.2.1, (j5.2.2.1.2.2.1, (j5.2.2.1.2.2.2.1, (j5.2.2.1.2.2.2.2.1, (j5.2.2.1.2.2.2.2.2.1, (j5.2.2.1.2.2.2.2.2.2.1, ((), ())))))))), ((j5.2.2.2.1.1, (j5.2.2.2.1.2.1, (j5.2.2.2.1.2.2.1, (j5.2.2.2.1.2.2.2.1, (j5.2.2.2.1.2.2.2.2.1, (j5.2.2.2.1.2.2.2.2.2.1, (j5.2.2.2.1.2.2.2.2.2.2.1, ((), ())))))))), ()))))))))))) fun j6 =>
    sel j6.1.2.2.1
     (
     some ((false, ()), ()))
     (
     andK (impl_HeaderBytes N j6.2.2.1.1 j6.2.2.1.2.1 j6.2.2.1.2.2.1 j6.2.2.1.2.2.2.1 j6.2.2.1.2.2.2.2.1 j6.2.2.1.2.2.2.2.2.1 u1.1.2.1 []) fun u7 =>
     andK (impl_RetryTag N j6.2.1.2.2.2.1 u7.1.1) fun u8 =>
     sel u7.1.2.1
      (
      sel u8.1.2.1
       (
       chk ((decide (0 ≤ (u1.1.2.1.size : Int))) && ((decide ((u1.1.2.1.size : Int) ≤ (j6.2.2.1.2.2.2.2.2.2.1.size : Int))) && (decide ((j6.2.2.1.2.2.2.2.2.2.1.size : Int) ≤ (j6.2.2.1.2.2.2.2.2.2.1.size : Int))))) (
       some (((decide (u8.1.1 = (j6.2.2.1.2.2.2.2.2.2.1.extract (Int.toNat (u1.1.2.1.size : Int)) (Int.toNat (j6.2.2.1.2.2.2.2.2.2.1.size : Int))))), ()), ())))
       (
       some ((false, ()), ())))
      (
      some ((false, ()), ())))))) := by kernel_rfl
set_option maxRecDepth 100000 in
theorem laws_FnRetried.say (N : Nat) : SayOk Tryz.prog (laws_FnRetried.S N) := sayOk_mk (N := N) (H := laws_FnRetried.H) (preps := [⟨[], [], [], []⟩]) (l := laws_FnRetried.says) (fn := Tryz.f4) (c := bodyOf Tryz.f4)
  (by kernel_rfl) (by kernel_rfl) (by kernel_rfl) (by kernel_rfl) (by kernel_rfl) (by kernel_rfl) (by kernel_rfl)
  (fun N => SayAll.cons (spec_DrawRetryPacket.say N) (SayAll.cons (impl_RetryPacket.say N) (SayAll.cons (spec_RetryPacket.say N) (SayAll.cons (laws_sameHeaders.say N) (SayAll.cons (impl_HeaderBytes.say N) (SayAll.cons (impl_RetryTag.say N) (SayAll.nil))))))) (fun a s => by kernel_rfl)

end Go.Proofs.YtkfpfcpmaejeoaaGreat.GFnRetried
