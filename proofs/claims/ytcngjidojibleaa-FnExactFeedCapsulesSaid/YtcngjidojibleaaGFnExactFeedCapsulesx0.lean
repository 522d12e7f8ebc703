-- Written by a program of this session out of the translation; Lean checks it.
import Derived.Test.YtcngjidojibleaaPmLaw
import Derived.Test.YtcngjidojibleaaProg
import Derived.Test.YtcngjidojibleaaShelf
set_option linter.unusedVariables false
namespace Go.Proofs.Ytcngjidojibleaa.GFnExactFeedCapsules
open Go Go.Proofs Go.Proofs.YtcngjidojibleaaPM

/-! ### loop.example/g00206/laws.szStringS: function 34 -/
noncomputable def laws_szStringS.H : Hints := hintsOf [(2000005, .loop ⟨.normal, [0], [1, 5], [ak_i, ak_i], [], [⟨[], [], [], []⟩]⟩ [⟨.ret, [], [4], [ak_i], [], [⟨[], [], [], []⟩]⟩, ⟨(.exit 0), [], [1], [ak_i], [], [⟨[], [], [], []⟩]⟩])]
noncomputable def laws_szStringS.says (N : Nat) : List Say := []
noncomputable def laws_szStringS.call (N : Nat) : CallK := callBy (laws_szStringS.says N)
noncomputable def laws_szStringS.qt (N : Nat) : FuncId → List PV → Sig → Cl := qtBy (laws_szStringS.says N)
noncomputable def laws_szStringS.l0.hd : Alt := ⟨.normal, [0], [1, 5], [ak_i, ak_i], [], [⟨[], [], [], []⟩]⟩
noncomputable def laws_szStringS.l0.outs : List Alt := [⟨.ret, [], [4], [ak_i], [], [⟨[], [], [], []⟩]⟩, ⟨(.exit 0), [], [1], [ak_i], [], [⟨[], [], [], []⟩]⟩]
noncomputable def laws_szStringS.l0 (N : Nat) (a1 : (List ByteArray)) (left1 : Int) (i : Int) : Option (((Int × Unit) × Unit) ⊕ ((Int × Unit) × Unit)) :=
  loopK Try.prog laws_szStringS.call laws_szStringS.qt laws_szStringS.H (codeAt (bodyOf Try.f34) [1, 1, 1, 0, 1, 0, 0]) 0 laws_szStringS.l0.hd laws_szStringS.l0.outs [(0, .rows false .str a1)] N ((left1, (i, ())), ())
noncomputable def laws_szStringS (N : Nat) (a : (List ByteArray)) (left : Int) : Option ((Int × Unit) × Unit) :=
  ofFn Try.prog laws_szStringS.call laws_szStringS.qt laws_szStringS.H N Try.f34 [.one (.sh (.rows .str)), ak_i] [] [ak_i] [] [⟨[], [], [], []⟩] (a, (left, ())) ()
noncomputable def laws_szStringS.S (N : Nat) : Say := ⟨false, 34, [.one (.sh (.rows .str)), ak_i], [], [ak_i], [], fun a s => laws_szStringS N a.1 a.2.1⟩
set_option maxRecDepth 100000 in
theorem laws_szStringS.l0.eq (N : Nat) (a1 : (List ByteArray)) (left1 : Int) (i : Int) : laws_szStringS.l0 (N + 1) a1 left1 i =
 sel (decide (i < (a1.length : Int)))
  (
  chk ((decide (0 ≤ i)) && (decide (i < (a1.length : Int)))) (
  sel (decide ((IntKind.i64.wrap (left1 - ((a1.getD (Int.toNat i) (⟨#[]⟩ : ByteArray)).size : Int))) < 0))
   (
   some (.inl (((-1), ()), ())))
   (
   laws_szStringS.l0 N a1 (IntKind.i64.wrap (left1 - ((a1.getD (Int.toNat i) (⟨#[]⟩ : ByteArray)).size : Int))) (IntKind.i64.wrap (i + 1)))))
  (
  some (.inr (((left1, ()), ())))) := by kernel_rfl
set_option maxRecDepth 100000 in
theorem laws_szStringS.eq (N : Nat) (a : (List ByteArray)) (left : Int) : laws_szStringS N a left =
 sel (decide ((IntKind.i64.wrap (left - (a.length : Int))) < 0))
  (
  some (((-1), ()), ()))
  (
  andK (laws_szStringS.l0 N a (IntKind.i64.wrap (left - (a.length : Int))) 0) fun l1 =>
  orK l1 (fun x2 =>
   some ((x2.1.1, ()), ()))
   (fun x3 =>
   some ((x3.1.1, ()), ()))) := by kernel_rfl
set_option maxRecDepth 100000 in
theorem laws_szStringS.say (N : Nat) : SayOk Try.prog (laws_szStringS.S N) := sayOk_mk (N := N) (H := laws_szStringS.H) (preps := [⟨[], [], [], []⟩]) (l := laws_szStringS.says) (fn := Try.f34) (c := bodyOf Try.f34)
  (by kernel_rfl) (by kernel_rfl) (by kernel_rfl) (by kernel_rfl) (by kernel_rfl) (by kernel_rfl) (by kernel_rfl)
  (fun N => SayAll.nil) (fun a s => by kernel_rfl)

/-! ### loop.example/g00206/laws.toStringS: function 36 -/
noncomputable def laws_toStringS.H : Hints := hintsOf [(2000003, .loop ⟨.normal, [0], [3, 4], [.one (.own 0), ak_i], [.rows .str], [⟨[], [], [], []⟩]⟩ [⟨(.exit 0), [], [3], [.one (.own 0)], [.rows .str], [⟨[], [], [], []⟩]⟩])]
noncomputable def laws_toStringS.says (N : Nat) : List Say := []
noncomputable def laws_toStringS.call (N : Nat) : CallK := callBy (laws_toStringS.says N)
noncomputable def laws_toStringS.qt (N : Nat) : FuncId → List PV → Sig → Cl := qtBy (laws_toStringS.says N)
noncomputable def laws_toStringS.l0.hd : Alt := ⟨.normal, [0], [3, 4], [.one (.own 0), ak_i], [.rows .str], [⟨[], [], [], []⟩]⟩
noncomputable def laws_toStringS.l0.outs : List Alt := [⟨(.exit 0), [], [3], [.one (.own 0)], [.rows .str], [⟨[], [], [], []⟩]⟩]
noncomputable def laws_toStringS.l0 (N : Nat) (a1 : (List ByteArray)) (i : Int) (p0 : (List ByteArray)) : Option ((Unit × Unit) × ((List ByteArray) × Unit)) :=
  loopK Try.prog laws_toStringS.call laws_toStringS.qt laws_toStringS.H (codeAt (bodyOf Try.f36) [1, 1, 0, 1, 0, 0]) 1 laws_toStringS.l0.hd laws_toStringS.l0.outs [(0, .rows false .str a1)] N (((), (i, ())), (p0, ()))
noncomputable def laws_toStringS (N : Nat) (a : (List ByteArray)) : Option ((Unit × Unit) × ((List ByteArray) × Unit)) :=
  ofFn Try.prog laws_toStringS.call laws_toStringS.qt laws_toStringS.H N Try.f36 [.one (.sh (.rows .str))] [] [.one (.own 0)] [.rows .str] [⟨[], [], [], [0]⟩] (a, ()) ()
noncomputable def laws_toStringS.S (N : Nat) : Say := ⟨false, 36, [.one (.sh (.rows .str))], [], [.one (.own 0)], [.rows .str], fun a s => laws_toStringS N a.1⟩
set_option maxRecDepth 100000 in
theorem laws_toStringS.l0.eq (N : Nat) (a1 : (List ByteArray)) (i : Int) (p0 : (List ByteArray)) : laws_toStringS.l0 (N + 1) a1 i p0 =
 sel (decide (i < (a1.length : Int)))
  (
  chk ((decide (0 ≤ i)) && (decide (i < (a1.length : Int)))) (
  chk ((decide (0 ≤ i)) && (decide (i < (p0.length : Int)))) (
  laws_toStringS.l0 N a1 (IntKind.i64.wrap (i + 1)) (p0.set (Int.toNat i) (a1.getD (Int.toNat i) (⟨#[]⟩ : ByteArray))))))
  (
  some ((((), ()), (p0, ())))) := by kernel_rfl
set_option maxRecDepth 100000 in
theorem laws_toStringS.eq (N : Nat) (a : (List ByteArray)) : laws_toStringS N a =
 chk ((decide (0 ≤ (a.length : Int))) && ((smallI (a.length : Int)) && (decide ((a.length : Int) = (a.length : Int))))) (
 andK (laws_toStringS.l0 N a 0 (List.replicate (Int.toNat (a.length : Int)) ((⟨#[]⟩ : ByteArray) : ByteArray))) fun l1 =>
 some (((), ()), (l1.2.1, ()))) := by kernel_rfl
set_option maxRecDepth 100000 in
theorem laws_toStringS.say (N : Nat) : SayOk Try.prog (laws_toStringS.S N) := sayOk_mk (N := N) (H := laws_toStringS.H) (preps := [⟨[], [], [], [0]⟩]) (l := laws_toStringS.says) (fn := Try.f36) (c := bodyOf Try.f36)
  (by kernel_rfl) (by kernel_rfl) (by kernel_rfl) (by kernel_rfl) (by kernel_rfl) (by kernel_rfl) (by kernel_rfl)
  (fun N => SayAll.nil) (fun a s => by kernel_rfl)

/-! ### loop.example/g00206/spec.l1Big: function 124 -/
noncomputable def spec_l1Big.H : Hints := hintsOf [(2000003, .loop ⟨.normal, [0], [3, 4], [ak_i, ak_i], [], [⟨[], [], [], []⟩]⟩ [⟨(.exit 0), [], [3], [ak_i], [], [⟨[], [], [], []⟩]⟩])]
noncomputable def spec_l1Big.says (N : Nat) : List Say := []
noncomputable def spec_l1Big.call (N : Nat) : CallK := callBy (spec_l1Big.says N)
noncomputable def spec_l1Big.qt (N : Nat) : FuncId → List PV → Sig → Cl := qtBy (spec_l1Big.says N)
noncomputable def spec_l1Big.l0.hd : Alt := ⟨.normal, [0], [3, 4], [ak_i, ak_i], [], [⟨[], [], [], []⟩]⟩
noncomputable def spec_l1Big.l0.outs : List Alt := [⟨(.exit 0), [], [3], [ak_i], [], [⟨[], [], [], []⟩]⟩]
noncomputable def spec_l1Big.l0 (N : Nat) (s1 : ByteArray) (n : Int) (i : Int) : Option ((Int × Unit) × Unit) :=
  loopK Try.prog spec_l1Big.call spec_l1Big.qt spec_l1Big.H (codeAt (bodyOf Try.f124) [1, 1, 0, 1, 0, 0]) 0 spec_l1Big.l0.hd spec_l1Big.l0.outs [(0, .v (.string s1))] N ((n, (i, ())), ())
noncomputable def spec_l1Big (N : Nat) (s : ByteArray) : Option ((Int × Unit) × Unit) :=
  ofFn Try.prog spec_l1Big.call spec_l1Big.qt spec_l1Big.H N Try.f124 [ak_s] [] [ak_i] [] [⟨[], [], [], []⟩] (s, ()) ()
noncomputable def spec_l1Big.S (N : Nat) : Say := ⟨false, 124, [ak_s], [], [ak_i], [], fun a s => spec_l1Big N a.1⟩
set_option maxRecDepth 100000 in
theorem spec_l1Big.l0.eq (N : Nat) (s1 : ByteArray) (n : Int) (i : Int) : spec_l1Big.l0 (N + 1) s1 n i =
 sel (decide (i < (s1.size : Int)))
  (
  chk ((decide (0 ≤ i)) && (decide (i < (s1.size : Int)))) (
  spec_l1Big.l0 N s1 (Go.bits .or .i64 (shlI .i64 n 8) (IntKind.i64.wrap ((bytesL s1).getD (Int.toNat i) 0))) (IntKind.i64.wrap (i + 1))))
  (
  some (((n, ()), ()))) := by kernel_rfl
set_option maxRecDepth 100000 in
theorem spec_l1Big.eq (N : Nat) (s : ByteArray) : spec_l1Big N s =
 andK (spec_l1Big.l0 N s 0 0) fun l1 =>
 some ((l1.1.1, ()), ()) := by kernel_rfl
set_option maxRecDepth 100000 in
theorem spec_l1Big.say (N : Nat) : SayOk Try.prog (spec_l1Big.S N) := sayOk_mk (N := N) (H := spec_l1Big.H) (preps := [⟨[], [], [], []⟩]) (l := spec_l1Big.says) (fn := Try.f124) (c := bodyOf Try.f124)
  (by kernel_rfl) (by kernel_rfl) (by kernel_rfl) (by kernel_rfl) (by kernel_rfl) (by kernel_rfl) (by kernel_rfl)
  (fun N => SayAll.nil) (fun a s => by kernel_rfl)

/-! ### loop.example/g00206/spec.l1Take: function 109 -/
noncomputable def spec_l1Take.H : Hints := hintsOf []
noncomputable def spec_l1Take.says (N : Nat) : List Say := [spec_l1Big.S N]
noncomputable def spec_l1Take.call (N : Nat) : CallK := callBy (spec_l1Take.says N)
noncomputable def spec_l1Take.qt (N : Nat) : FuncId → List PV → Sig → Cl := qtBy (spec_l1Take.says N)
noncomputable def spec_l1Take (N : Nat) (s : ByteArray) : Option ((Int × (Int × Unit)) × Unit) :=
  ofFn Try.prog spec_l1Take.call spec_l1Take.qt spec_l1Take.H N Try.f109 [ak_s] [] [ak_i, ak_i] [] [⟨[], [], [], []⟩] (s, ()) ()
noncomputable def spec_l1Take.S (N : Nat) : Say := ⟨false, 109, [ak_s], [], [ak_i, ak_i], [], fun a s => spec_l1Take N a.1⟩
set_option maxRecDepth 100000 in
theorem spec_l1Take.eq (N : Nat) (s : ByteArray) : spec_l1Take N s =
 sel (decide (s = (⟨#[]⟩ : ByteArray)))
  (
  some ((0, (0, ())), ()))
  (
  chk (decide (0 < (s.size : Int))) (
  chk (decide (0 ≤ (IntKind.u64.wrap (shrI .u8 ((bytesL s).getD 0 0) 6)))) (
  sel (decide ((s.size : Int) < (shlI .i64 1 (IntKind.u64.wrap (shrI .u8 ((bytesL s).getD 0 0) 6)))))
   (
   some ((0, (0, ())), ()))
   (
   chk ((decide (0 ≤ (shlI .i64 1 (IntKind.u64.wrap (shrI .u8 ((bytesL s).getD 0 0) 6))))) && (decide ((shlI .i64 1 (IntKind.u64.wrap (shrI .u8 ((bytesL s).getD 0 0) 6))) ≤ (s.size : Int)))) (
   chk (decide (0 < ((bytesL (s.extract 0 (Int.toNat (shlI .i64 1 (IntKind.u64.wrap (shrI .u8 ((bytesL s).getD 0 0) 6)))))).length : Int))) (
   chk (decide (0 < ((bytesL (s.extract 0 (Int.toNat (shlI .i64 1 (IntKind.u64.wrap (shrI .u8 ((bytesL s).getD 0 0) 6)))))).length : Int))) (
   andK (spec_l1Big N (strL ((bytesL (s.extract 0 (Int.toNat (shlI .i64 1 (IntKind.u64.wrap (shrI .u8 ((bytesL s).getD 0 0) 6)))))).set 0 (Go.bits .and .u8 ((bytesL (s.extract 0 (Int.toNat (shlI .i64 1 (IntKind.u64.wrap (shrI .u8 ((bytesL s).getD 0 0) 6)))))).getD 0 0) 63)))) fun u1 =>
   some ((u1.1.1, ((shlI .i64 1 (IntKind.u64.wrap (shrI .u8 ((bytesL s).getD 0 0) 6))), ())), ())))))))) := by kernel_rfl
set_option maxRecDepth 100000 in
theorem spec_l1Take.say (N : Nat) : SayOk Try.prog (spec_l1Take.S N) := sayOk_mk (N := N) (H := spec_l1Take.H) (preps := [⟨[], [], [], []⟩]) (l := spec_l1Take.says) (fn := Try.f109) (c := bodyOf Try.f109)
  (by kernel_rfl) (by kernel_rfl) (by kernel_rfl) (by kernel_rfl) (by kernel_rfl) (by kernel_rfl) (by kernel_rfl)
  (fun N => SayAll.cons (spec_l1Big.say N) (SayAll.nil)) (fun a s => by kernel_rfl)

/-! ### loop.example/g00206/spec.l16Read: function 81 -/
noncomputable def spec_l16Read.H : Hints := hintsOf [(2000003, .loop ⟨.normal, [0], [5, 6], [.one (.own 0), ak_i], [.rows (.pair (.int .i64) .str)], [⟨[(5, (.pair (.int .i64) .str))], [], [], [0]⟩, ⟨[], [], [], [0]⟩]⟩ [⟨.ret, [], [2, 3, 4], [.one (.own 0), ak_i, ak_b], [.rows (.pair (.int .i64) .str)], [⟨[], [], [], [0]⟩, ⟨[(2, (.pair (.int .i64) .str))], [], [], [1]⟩]⟩])]
noncomputable def spec_l16Read.says (N : Nat) : List Say := [spec_l1Take.S N]
noncomputable def spec_l16Read.call (N : Nat) : CallK := callBy (spec_l16Read.says N)
noncomputable def spec_l16Read.qt (N : Nat) : FuncId → List PV → Sig → Cl := qtBy (spec_l16Read.says N)
noncomputable def spec_l16Read.l0.hd : Alt := ⟨.normal, [0], [5, 6], [.one (.own 0), ak_i], [.rows (.pair (.int .i64) .str)], [⟨[(5, (.pair (.int .i64) .str))], [], [], [0]⟩, ⟨[], [], [], [0]⟩]⟩
noncomputable def spec_l16Read.l0.outs : List Alt := [⟨.ret, [], [2, 3, 4], [.one (.own 0), ak_i, ak_b], [.rows (.pair (.int .i64) .str)], [⟨[], [], [], [0]⟩, ⟨[(2, (.pair (.int .i64) .str))], [], [], [1]⟩]⟩]
noncomputable def spec_l16Read.l0 (N : Nat) (G1 : ByteArray) (e : Int) (p0 : (List (Int × ByteArray))) : Option ((Unit × (Int × (Bool × Unit))) × ((List (Int × ByteArray)) × Unit)) :=
  loopK Try.prog spec_l16Read.call spec_l16Read.qt spec_l16Read.H (codeAt (bodyOf Try.f81) [1, 1, 1, 0, 0]) 0 spec_l16Read.l0.hd spec_l16Read.l0.outs [(0, .v (.string G1))] N (((), (e, ())), (p0, ()))
noncomputable def spec_l16Read (N : Nat) (G : ByteArray) : Option ((Unit × (Int × (Bool × Unit))) × ((List (Int × ByteArray)) × Unit)) :=
  ofFn Try.prog spec_l16Read.call spec_l16Read.qt spec_l16Read.H N Try.f81 [ak_s] [] [.one (.own 0), ak_i, ak_b] [.rows (.pair (.int .i64) .str)] [⟨[], [], [], [0]⟩] (G, ()) ()
noncomputable def spec_l16Read.S (N : Nat) : Say := ⟨false, 81, [ak_s], [], [.one (.own 0), ak_i, ak_b], [.rows (.pair (.int .i64) .str)], fun a s => spec_l16Read N a.1⟩
set_option maxRecDepth 100000 in
theorem spec_l16Read.l0.eq (N : Nat) (G1 : ByteArray) (e : Int) (p0 : (List (Int × ByteArray))) : spec_l16Read.l0 (N + 1) G1 e p0 =
 chk ((decide (0 ≤ e)) && ((decide (e ≤ (G1.size : Int))) && (decide ((G1.size : Int) ≤ (G1.size : Int))))) (
 andK (spec_l1Take N (G1.extract (Int.toNat e) (Int.toNat (G1.size : Int)))) fun u1 =>
 sel (decide (u1.1.2.1 = 0))
  (
  some ((((), (e, (true, ()))), (p0, ()))))
  (
  chk ((decide (0 ≤ (IntKind.i64.wrap (e + u1.1.2.1)))) && ((decide ((IntKind.i64.wrap (e + u1.1.2.1)) ≤ (G1.size : Int))) && (decide ((G1.size : Int) ≤ (G1.size : Int))))) (
  andK (spec_l1Take N (G1.extract (Int.toNat (IntKind.i64.wrap (e + u1.1.2.1))) (Int.toNat (G1.size : Int)))) fun u2 =>
  sel (decide (u2.1.2.1 = 0))
   (
   some ((((), (e, (true, ()))), (p0, ()))))
   (
   sel (decide (200 < u2.1.1))
    (
    some ((((), (0, (false, ()))), ([], ()))))
    (
    sel (decide ((IntKind.i64.wrap ((G1.size : Int) - (IntKind.i64.wrap ((IntKind.i64.wrap (e + u1.1.2.1)) + u2.1.2.1)))) < u2.1.1))
     (
     some ((((), (e, (true, ()))), (p0, ()))))
     (
     sel (decide ((p0.length : Int) = 30))
      (
      some ((((), (0, (false, ()))), ([], ()))))
      (
      chk ((decide (0 ≤ (IntKind.i64.wrap ((IntKind.i64.wrap (e + u1.1.2.1)) + u2.1.2.1)))) && ((decide ((IntKind.i64.wrap ((IntKind.i64.wrap (e + u1.1.2.1)) + u2.1.2.1)) ≤ (IntKind.i64.wrap ((IntKind.i64.wrap ((IntKind.i64.wrap (e + u1.1.2.1)) + u2.1.2.1)) + u2.1.1)))) && (decide ((IntKind.i64.wrap ((IntKind.i64.wrap ((IntKind.i64.wrap (e + u1.1.2.1)) + u2.1.2.1)) + u2.1.1)) ≤ (G1.size : Int))))) (
      chk (decide (p0.length + 1 < most)) (
      spec_l16Read.l0 N G1 (IntKind.i64.wrap ((IntKind.i64.wrap ((IntKind.i64.wrap (e + u1.1.2.1)) + u2.1.2.1)) + u2.1.1)) (p0 ++ [(u1.1.1, (G1.extract (Int.toNat (IntKind.i64.wrap ((IntKind.i64.wrap (e + u1.1.2.1)) + u2.1.2.1))) (Int.toNat (IntKind.i64.wrap ((IntKind.i64.wrap ((IntKind.i64.wrap (e + u1.1.2.1)) + u2.1.2.1)) + u2.1.1)))))])))))))))) := by kernel_rfl
set_option maxRecDepth 100000 in
theorem spec_l16Read.eq (N : Nat) (G : ByteArray) : spec_l16Read N G =
 andK (spec_l16Read.l0 N G 0 []) fun l3 =>
 some (((), (l3.1.2.1, (l3.1.2.2.1, ()))), (l3.2.1, ())) := by kernel_rfl
set_option maxRecDepth 100000 in
theorem spec_l16Read.say (N : Nat) : SayOk Try.prog (spec_l16Read.S N) := sayOk_mk (N := N) (H := spec_l16Read.H) (preps := [⟨[], [], [], [0]⟩]) (l := spec_l16Read.says) (fn := Try.f81) (c := bodyOf Try.f81)
  (by kernel_rfl) (by kernel_rfl) (by kernel_rfl) (by kernel_rfl) (by kernel_rfl) (by kernel_rfl) (by kernel_rfl)
  (fun N => SayAll.cons (spec_l1Take.say N) (SayAll.nil)) (fun a s => by kernel_rfl)

/-! ### loop.example/g00206/spec.FeedCapsules: function 35 -/
noncomputable def spec_FeedCapsules.H : Hints := hintsOf [(2000003, .loop ⟨.normal, [0, 11, 12], [5, 13], [ak_s, ak_i], [], [⟨[], [], [], []⟩]⟩ [⟨(.exit 0), [0], [5], [ak_s], [], [⟨[], [], [], []⟩]⟩]),
  (5000007, .join [⟨.normal, [5], [28], [ak_b], [], [⟨[], [], [], []⟩]⟩])]
noncomputable def spec_FeedCapsules.says (N : Nat) : List Say := [spec_l16Read.S N]
noncomputable def spec_FeedCapsules.call (N : Nat) : CallK := callBy (spec_FeedCapsules.says N)
noncomputable def spec_FeedCapsules.qt (N : Nat) : FuncId → List PV → Sig → Cl := qtBy (spec_FeedCapsules.says N)
noncomputable def spec_FeedCapsules.l0.hd : Alt := ⟨.normal, [0, 11, 12], [5, 13], [ak_s, ak_i], [], [⟨[], [], [], []⟩]⟩
noncomputable def spec_FeedCapsules.l0.outs : List Alt := [⟨(.exit 0), [0], [5], [ak_s], [], [⟨[], [], [], []⟩]⟩]
noncomputable def spec_FeedCapsules.l0 (N : Nat) (pieces1 : (List ByteArray)) (t11 : (List ByteArray)) (t12 : Int) (s : ByteArray) (t13 : Int) : Option ((ByteArray × Unit) × Unit) :=
  loopK Try.prog spec_FeedCapsules.call spec_FeedCapsules.qt spec_FeedCapsules.H (codeAt (bodyOf Try.f35) [1, 1, 0, 1, 0, 0]) 0 spec_FeedCapsules.l0.hd spec_FeedCapsules.l0.outs [(0, .rows false .str pieces1), (11, .rows false .str t11), (12, .v (.int .i64 t12))] N ((s, (t13, ())), ())
noncomputable def spec_FeedCapsules (N : Nat) (pieces : (List ByteArray)) : Option ((Unit × (Int × (Bool × Unit))) × ((List (Int × ByteArray)) × Unit)) :=
  ofFn Try.prog spec_FeedCapsules.call spec_FeedCapsules.qt spec_FeedCapsules.H N Try.f35 [.one (.sh (.rows .str))] [] [.one (.own 0), ak_i, ak_b] [.rows (.pair (.int .i64) .str)] [⟨[(0, (.pair (.int .i64) .str))], [], [], [0]⟩, ⟨[(0, (.pair (.int .i64) .str))], [], [], [1]⟩, ⟨[], [], [], [0]⟩] (pieces, ()) ()
noncomputable def spec_FeedCapsules.S (N : Nat) : Say := ⟨false, 35, [.one (.sh (.rows .str))], [], [.one (.own 0), ak_i, ak_b], [.rows (.pair (.int .i64) .str)], fun a s => spec_FeedCapsules N a.1⟩
set_option maxRecDepth 100000 in
theorem spec_FeedCapsules.l0.eq (N : Nat) (pieces1 : (List ByteArray)) (t11 : (List ByteArray)) (t12 : Int) (s : ByteArray) (t13 : Int) : spec_FeedCapsules.l0 (N + 1) pieces1 t11 t12 s t13 =
 sel (decide (t13 < t12))
  (
  chk ((decide (0 ≤ t13)) && (decide (t13 < (t11.length : Int)))) (
  chk (decide (s.size + (t11.getD (Int.toNat t13) (⟨#[]⟩ : ByteArray)).size ≤ 9223372036854775807)) (
  spec_FeedCapsules.l0 N pieces1 t11 t12 (s ++ (t11.getD (Int.toNat t13) (⟨#[]⟩ : ByteArray))) (IntKind.i64.wrap (t13 + 1)))))
  (
  some (((s, ()), ()))) := by kernel_rfl
set_option maxRecDepth 100000 in
theorem spec_FeedCapsules.eq (N : Nat) (pieces : (List ByteArray)) : spec_FeedCapsules N pieces =
 andK (spec_FeedCapsules.l0 N pieces pieces (pieces.length : Int) (⟨#[]⟩ : ByteArray) 0) fun l1 =>
 andK (α := ((Bool × Unit) × Unit)) (
  sel (decide (60 < (pieces.length : Int)))
   (
   some (((true, ()), ())))
   (
   some ((((decide (1500 < (l1.1.1.size : Int))), ()), ())))) fun j2 =>
 sel j2.1.1
  (
  some (((), (0, (false, ()))), ([], ())))
  (
  andK (spec_l16Read N l1.1.1) fun u3 =>
  sel (!u3.1.2.2.1)
   (
   some (((), (0, (false, ()))), ([], ())))
   (
   some (((), ((IntKind.i64.wrap ((l1.1.1.size : Int) - u3.1.2.1)), (true, ()))), (u3.2.1, ())))) := by kernel_rfl
set_option maxRecDepth 100000 in
theorem spec_FeedCapsules.say (N : Nat) : SayOk Try.prog (spec_FeedCapsules.S N) := sayOk_mk (N := N) (H := spec_FeedCapsules.H) (preps := [⟨[(0, (.pair (.int .i64) .str))], [], [], [0]⟩, ⟨[(0, (.pair (.int .i64) .str))], [], [], [1]⟩, ⟨[], [], [], [0]⟩]) (l := spec_FeedCapsules.says) (fn := Try.f35) (c := bodyOf Try.f35)
  (by kernel_rfl) (by kernel_rfl) (by kernel_rfl) (by kernel_rfl) (by kernel_rfl) (by kernel_rfl) (by kernel_rfl)
  (fun N => SayAll.cons (spec_l16Read.say N) (SayAll.nil)) (fun a s => by kernel_rfl)
noncomputable def spec_FeedCapsules.SB (N : Nat) : Say := spec_FeedCapsules.S N |>.lent
theorem spec_FeedCapsules.sayB (N : Nat) : SayOk Try.prog (spec_FeedCapsules.SB N) := (spec_FeedCapsules.say N).lent

/-! ### strings.Join: function 82 -/
noncomputable def strings_Join (N : Nat) (l : (List ByteArray)) (s : ByteArray) : Option ((ByteArray × Unit) × Unit) := joinF l s
noncomputable def strings_Join.S (N : Nat) : Say := joinS 82
theorem strings_Join.eq (N : Nat) (l : (List ByteArray)) (s : ByteArray) : strings_Join N l s =
 chk (decide (l.length ≤ 140737488355328)) (
 chk (decide ((joinL l s).size ≤ 140737488355328)) (
 some (((joinL l s), ()), ()))) := joinF_eq l s
set_option maxRecDepth 100000 in
theorem strings_Join.say (N : Nat) : SayOk Try.prog (strings_Join.S N) := sayOk_join (enters_mk (fn := Try.f82) (c := bodyOf Try.f82) (by kernel_rfl) (by kernel_rfl) (by kernel_rfl)) Try.strings_Join_none Try.strings_Join

/-! ### loop.example/g00206/impl.numberOf: function 94 -/
noncomputable def impl_numberOf.H : Hints := hintsOf [(2000003, .loop ⟨.normal, [0, 6], [3, 7], [.one (.sh (.int .u64)), ak_i], [], [⟨[], [], [], []⟩]⟩ [⟨(.exit 0), [], [3], [.one (.sh (.int .u64))], [], [⟨[], [], [], []⟩]⟩])]
noncomputable def impl_numberOf.says (N : Nat) : List Say := []
noncomputable def impl_numberOf.call (N : Nat) : CallK := callBy (impl_numberOf.says N)
noncomputable def impl_numberOf.qt (N : Nat) : FuncId → List PV → Sig → Cl := qtBy (impl_numberOf.says N)
noncomputable def impl_numberOf.l0.hd : Alt := ⟨.normal, [0, 6], [3, 7], [.one (.sh (.int .u64)), ak_i], [], [⟨[], [], [], []⟩]⟩
noncomputable def impl_numberOf.l0.outs : List Alt := [⟨(.exit 0), [], [3], [.one (.sh (.int .u64))], [], [⟨[], [], [], []⟩]⟩]
noncomputable def impl_numberOf.l0 (N : Nat) (s1 : ByteArray) (t6 : Int) (n : Int) (t7 : Int) : Option ((Int × Unit) × Unit) :=
  loopK Try.prog impl_numberOf.call impl_numberOf.qt impl_numberOf.H (codeAt (bodyOf Try.f94) [1, 1, 0, 1, 0, 0]) 0 impl_numberOf.l0.hd impl_numberOf.l0.outs [(0, .v (.string s1)), (6, .v (.int .i64 t6))] N ((n, (t7, ())), ())
noncomputable def impl_numberOf (N : Nat) (s : ByteArray) : Option ((Int × Unit) × Unit) :=
  ofFn Try.prog impl_numberOf.call impl_numberOf.qt impl_numberOf.H N Try.f94 [ak_s] [] [.one (.sh (.int .u64))] [] [⟨[], [], [], []⟩] (s, ()) ()
noncomputable def impl_numberOf.S (N : Nat) : Say := ⟨false, 94, [ak_s], [], [.one (.sh (.int .u64))], [], fun a s => impl_numberOf N a.1⟩
set_option maxRecDepth 100000 in
theorem impl_numberOf.l0.eq (N : Nat) (s1 : ByteArray) (t6 : Int) (n : Int) (t7 : Int) : impl_numberOf.l0 (N + 1) s1 t6 n t7 =
 sel (decide (t7 < t6))
  (
  chk ((decide (0 ≤ t7)) && (decide (t7 < (s1.size : Int)))) (
  impl_numberOf.l0 N s1 t6 (Go.bits .or .u64 (shlI .u64 n 8) (IntKind.u64.wrap ((bytesL s1).getD (Int.toNat t7) 0))) (IntKind.i64.wrap (t7 + 1))))
  (
  some (((n, ()), ()))) := by kernel_rfl
set_option maxRecDepth 100000 in
theorem impl_numberOf.eq (N : Nat) (s : ByteArray) : impl_numberOf N s =
 andK (impl_numberOf.l0 N s (s.size : Int) 0 0) fun l1 =>
 some ((l1.1.1, ()), ()) := by kernel_rfl
set_option maxRecDepth 100000 in
theorem impl_numberOf.say (N : Nat) : SayOk Try.prog (impl_numberOf.S N) := sayOk_mk (N := N) (H := impl_numberOf.H) (preps := [⟨[], [], [], []⟩]) (l := impl_numberOf.says) (fn := Try.f94) (c := bodyOf Try.f94)
  (by kernel_rfl) (by kernel_rfl) (by kernel_rfl) (by kernel_rfl) (by kernel_rfl) (by kernel_rfl) (by kernel_rfl)
  (fun N => SayAll.nil) (fun a s => by kernel_rfl)

/-! ### loop.example/g00206/impl.TakeVarint: function 106 -/
noncomputable def impl_TakeVarint.H : Hints := hintsOf []
noncomputable def impl_TakeVarint.says (N : Nat) : List Say := [impl_numberOf.S N]
noncomputable def impl_TakeVarint.call (N : Nat) : CallK := callBy (impl_TakeVarint.says N)
noncomputable def impl_TakeVarint.qt (N : Nat) : FuncId → List PV → Sig → Cl := qtBy (impl_TakeVarint.says N)
noncomputable def impl_TakeVarint (N : Nat) (s : ByteArray) : Option ((Int × (Int × Unit)) × Unit) :=
  ofFn Try.prog impl_TakeVarint.call impl_TakeVarint.qt impl_TakeVarint.H N Try.f106 [ak_s] [] [ak_i, ak_i] [] [⟨[], [], [], []⟩] (s, ()) ()
noncomputable def impl_TakeVarint.S (N : Nat) : Say := ⟨false, 106, [ak_s], [], [ak_i, ak_i], [], fun a s => impl_TakeVarint N a.1⟩
set_option maxRecDepth 100000 in
theorem impl_TakeVarint.eq (N : Nat) (s : ByteArray) : impl_TakeVarint N s =
 sel (decide (s = (⟨#[]⟩ : ByteArray)))
  (
  some ((0, (0, ())), ()))
  (
  chk (decide (0 < (s.size : Int))) (
  chk (decide (0 ≤ (shrI .u8 ((bytesL s).getD 0 0) 6))) (
  sel (decide ((s.size : Int) < (shlI .i64 1 (shrI .u8 ((bytesL s).getD 0 0) 6))))
   (
   some ((0, (0, ())), ()))
   (
   chk ((decide (0 ≤ (shlI .i64 1 (shrI .u8 ((bytesL s).getD 0 0) 6)))) && (decide ((shlI .i64 1 (shrI .u8 ((bytesL s).getD 0 0) 6)) ≤ (s.size : Int)))) (
   andK (impl_numberOf N (s.extract 0 (Int.toNat (shlI .i64 1 (shrI .u8 ((bytesL s).getD 0 0) 6))))) fun u1 =>
   chk (decide (0 ≤ (IntKind.i64.wrap ((IntKind.i64.wrap (8 * (shlI .i64 1 (shrI .u8 ((bytesL s).getD 0 0) 6)))) - 2)))) (
   some (((IntKind.i64.wrap (Go.bits .and .u64 u1.1.1 (IntKind.u64.wrap ((shlI .u64 1 (IntKind.i64.wrap ((IntKind.i64.wrap (8 * (shlI .i64 1 (shrI .u8 ((bytesL s).getD 0 0) 6)))) - 2))) - 1)))), ((shlI .i64 1 (shrI .u8 ((bytesL s).getD 0 0) 6)), ())), ()))))))) := by kernel_rfl
set_option maxRecDepth 100000 in
theorem impl_TakeVarint.say (N : Nat) : SayOk Try.prog (impl_TakeVarint.S N) := sayOk_mk (N := N) (H := impl_TakeVarint.H) (preps := [⟨[], [], [], []⟩]) (l := impl_TakeVarint.says) (fn := Try.f106) (c := bodyOf Try.f106)
  (by kernel_rfl) (by kernel_rfl) (by kernel_rfl) (by kernel_rfl) (by kernel_rfl) (by kernel_rfl) (by kernel_rfl)
  (fun N => SayAll.cons (impl_numberOf.say N) (SayAll.nil)) (fun a s => by kernel_rfl)

/-! ### (*loop.example/g00206/impl.cursor).number: function 67 -/
noncomputable def impl_cursor_number.H : Hints := hintsOf [(4, .join [⟨.normal, [3, 4], [0], [.one (.ptr 0 0)], [.cells [ck_s, ck_b]], [⟨[], [], [], []⟩]⟩])]
noncomputable def impl_cursor_number.says (N : Nat) : List Say := [impl_TakeVarint.S N]
noncomputable def impl_cursor_number.call (N : Nat) : CallK := callBy (impl_cursor_number.says N)
noncomputable def impl_cursor_number.qt (N : Nat) : FuncId → List PV → Sig → Cl := qtBy (impl_cursor_number.says N)
noncomputable def impl_cursor_number (N : Nat) (p0_0 : ByteArray) (p0_1 : Bool) : Option ((Int × Unit) × ((ByteArray × (Bool × Unit)) × Unit)) :=
  ofFn Try.prog impl_cursor_number.call impl_cursor_number.qt impl_cursor_number.H N Try.f67 [.one (.ptr 0 0)] [.cells [ck_s, ck_b]] [ak_i] [.cells [ck_s, ck_b]] [⟨[], [], [], []⟩] ((), ()) ((p0_0, (p0_1, ())), ())
noncomputable def impl_cursor_number.S (N : Nat) : Say := ⟨false, 67, [.one (.ptr 0 0)], [.cells [ck_s, ck_b]], [ak_i], [.cells [ck_s, ck_b]], fun a s => impl_cursor_number N s.1.1 s.1.2.1⟩
set_option maxRecDepth 100000 in
theorem impl_cursor_number.eq (N : Nat) (p0_0 : ByteArray) (p0_1 : Bool) : impl_cursor_number N p0_0 p0_1 =
 andK (impl_TakeVarint N p0_0) fun u1 =>
 andK (α := ((Unit × Unit) × ((ByteArray × (Bool × Unit)) × Unit))) (
  sel (decide (u1.1.2.1 = 0))
   (
   some ((((), ()), ((p0_0, (true, ())), ()))))
   (
   some ((((), ()), ((p0_0, (p0_1, ())), ()))))) fun j2 =>
 chk ((decide (0 ≤ u1.1.2.1)) && ((decide (u1.1.2.1 ≤ (j2.2.1.1.size : Int))) && (decide ((j2.2.1.1.size : Int) ≤ (j2.2.1.1.size : Int))))) (
 some ((u1.1.1, ()), (((j2.2.1.1.extract (Int.toNat u1.1.2.1) (Int.toNat (j2.2.1.1.size : Int))), (j2.2.1.2.1, ())), ()))) := by kernel_rfl
set_option maxRecDepth 100000 in
theorem impl_cursor_number.say (N : Nat) : SayOk Try.prog (impl_cursor_number.S N) := sayOk_mk (N := N) (H := impl_cursor_number.H) (preps := [⟨[], [], [], []⟩]) (l := impl_cursor_number.says) (fn := Try.f67) (c := bodyOf Try.f67)
  (by kernel_rfl) (by kernel_rfl) (by kernel_rfl) (by kernel_rfl) (by kernel_rfl) (by kernel_rfl) (by kernel_rfl)
  (fun N => SayAll.cons (impl_TakeVarint.say N) (SayAll.nil)) (fun a s => by kernel_rfl)

/-! ### (*loop.example/g00206/impl.cursor).take: function 107 -/
noncomputable def impl_cursor_take.H : Hints := hintsOf [(5000001, .join [⟨.normal, [1], [0, 18], [.one (.ptr 0 0), ak_b], [.cells [ck_s, ck_b]], [⟨[], [], [], []⟩]⟩])]
noncomputable def impl_cursor_take.says (N : Nat) : List Say := []
noncomputable def impl_cursor_take.call (N : Nat) : CallK := callBy (impl_cursor_take.says N)
noncomputable def impl_cursor_take.qt (N : Nat) : FuncId → List PV → Sig → Cl := qtBy (impl_cursor_take.says N)
noncomputable def impl_cursor_take (N : Nat) (n : Int) (p0_0 : ByteArray) (p0_1 : Bool) : Option ((ByteArray × Unit) × ((ByteArray × (Bool × Unit)) × Unit)) :=
  ofFn Try.prog impl_cursor_take.call impl_cursor_take.qt impl_cursor_take.H N Try.f107 [.one (.ptr 0 0), ak_i] [.cells [ck_s, ck_b]] [ak_s] [.cells [ck_s, ck_b]] [⟨[], [], [], []⟩] ((), (n, ())) ((p0_0, (p0_1, ())), ())
noncomputable def impl_cursor_take.S (N : Nat) : Say := ⟨false, 107, [.one (.ptr 0 0), ak_i], [.cells [ck_s, ck_b]], [ak_s], [.cells [ck_s, ck_b]], fun a s => impl_cursor_take N a.2.1 s.1.1 s.1.2.1⟩
set_option maxRecDepth 100000 in
theorem impl_cursor_take.eq (N : Nat) (n : Int) (p0_0 : ByteArray) (p0_1 : Bool) : impl_cursor_take N n p0_0 p0_1 =
 andK (α := ((Unit × (Bool × Unit)) × ((ByteArray × (Bool × Unit)) × Unit))) (
  sel p0_1
   (
   some ((((), (true, ())), ((p0_0, (p0_1, ())), ()))))
   (
   some ((((), ((decide ((p0_0.size : Int) < n)), ())), ((p0_0, (p0_1, ())), ()))))) fun j1 =>
 sel j1.1.2.1
  (
  some (((⟨#[]⟩ : ByteArray), ()), ((j1.2.1.1, (true, ())), ())))
  (
  chk ((decide (0 ≤ n)) && (decide (n ≤ (j1.2.1.1.size : Int)))) (
  chk ((decide (0 ≤ n)) && ((decide (n ≤ (j1.2.1.1.size : Int))) && (decide ((j1.2.1.1.size : Int) ≤ (j1.2.1.1.size : Int))))) (
  some (((j1.2.1.1.extract 0 (Int.toNat n)), ()), (((j1.2.1.1.extract (Int.toNat n) (Int.toNat (j1.2.1.1.size : Int))), (j1.2.1.2.1, ())), ()))))) := by kernel_rfl
set_option maxRecDepth 100000 in
theorem impl_cursor_take.say (N : Nat) : SayOk Try.prog (impl_cursor_take.S N) := sayOk_mk (N := N) (H := impl_cursor_take.H) (preps := [⟨[], [], [], []⟩]) (l := impl_cursor_take.says) (fn := Try.f107) (c := bodyOf Try.f107)
  (by kernel_rfl) (by kernel_rfl) (by kernel_rfl) (by kernel_rfl) (by kernel_rfl) (by kernel_rfl) (by kernel_rfl)
  (fun N => SayAll.nil) (fun a s => by kernel_rfl)

/-! ### loop.example/g00206/impl.ReadCapsules: function 83 -/
noncomputable def impl_ReadCapsules.H : Hints := hintsOf [(5000007, .join [⟨.normal, [0, 7, 8, 9], [5, 6, 38], [.one (.own 1), .one (.ptr 0 0), ak_b], [.cells [ck_s, ck_b], .rows (.pair (.int .i64) .str)], [⟨[], [], [], []⟩]⟩]),
  (2000004, .loop ⟨.normal, [0], [5, 6], [.one (.own 1), .one (.ptr 0 0)], [.cells [ck_s, ck_b], .rows (.pair (.int .i64) .str)], [⟨[(5, (.pair (.int .i64) .str))], [], [], [1]⟩, ⟨[], [], [], [1]⟩]⟩ [⟨.ret, [], [2, 3, 4], [.one (.own 1), ak_i, ak_b], [.cells [ck_s, ck_b], .rows (.pair (.int .i64) .str)], [⟨[(2, (.pair (.int .i64) .str))], [], [], [2]⟩, ⟨[], [], [], [1]⟩]⟩])]
noncomputable def impl_ReadCapsules.says (N : Nat) : List Say := [impl_cursor_number.S N, impl_cursor_take.S N]
noncomputable def impl_ReadCapsules.call (N : Nat) : CallK := callBy (impl_ReadCapsules.says N)
noncomputable def impl_ReadCapsules.qt (N : Nat) : FuncId → List PV → Sig → Cl := qtBy (impl_ReadCapsules.says N)
noncomputable def impl_ReadCapsules.l0.hd : Alt := ⟨.normal, [0], [5, 6], [.one (.own 1), .one (.ptr 0 0)], [.cells [ck_s, ck_b], .rows (.pair (.int .i64) .str)], [⟨[(5, (.pair (.int .i64) .str))], [], [], [1]⟩, ⟨[], [], [], [1]⟩]⟩
noncomputable def impl_ReadCapsules.l0.outs : List Alt := [⟨.ret, [], [2, 3, 4], [.one (.own 1), ak_i, ak_b], [.cells [ck_s, ck_b], .rows (.pair (.int .i64) .str)], [⟨[(2, (.pair (.int .i64) .str))], [], [], [2]⟩, ⟨[], [], [], [1]⟩]⟩]
noncomputable def impl_ReadCapsules.l0 (N : Nat) (s1 : ByteArray) (p0_0 : ByteArray) (p0_1 : Bool) (p1 : (List (Int × ByteArray))) : Option ((Unit × (Int × (Bool × Unit))) × ((ByteArray × (Bool × Unit)) × ((List (Int × ByteArray)) × Unit))) :=
  loopK Try.prog impl_ReadCapsules.call impl_ReadCapsules.qt impl_ReadCapsules.H (codeAt (bodyOf Try.f83) [1, 1, 1, 0, 0]) 1 impl_ReadCapsules.l0.hd impl_ReadCapsules.l0.outs [(0, .v (.string s1))] N (((), ((), ())), ((p0_0, (p0_1, ())), (p1, ())))
noncomputable def impl_ReadCapsules (N : Nat) (s : ByteArray) : Option ((Unit × (Int × (Bool × Unit))) × ((List (Int × ByteArray)) × Unit)) :=
  ofFn Try.prog impl_ReadCapsules.call impl_ReadCapsules.qt impl_ReadCapsules.H N Try.f83 [ak_s] [] [.one (.own 0), ak_i, ak_b] [.rows (.pair (.int .i64) .str)] [⟨[(0, (.pair (.int .i64) .str))], [], [], [0]⟩, ⟨[], [], [], [1]⟩] (s, ()) ()
noncomputable def impl_ReadCapsules.S (N : Nat) : Say := ⟨false, 83, [ak_s], [], [.one (.own 0), ak_i, ak_b], [.rows (.pair (.int .i64) .str)], fun a s => impl_ReadCapsules N a.1⟩
set_option maxRecDepth 100000 in
theorem impl_ReadCapsules.l0.eq (N : Nat) (s1 : ByteArray) (p0_0 : ByteArray) (p0_1 : Bool) (p1 : (List (Int × ByteArray))) : impl_ReadCapsules.l0 (N + 1) s1 p0_0 p0_1 p1 =
 andK (impl_cursor_number N p0_0 p0_1) fun u1 =>
 andK (impl_cursor_number N u1.2.1.1 u1.2.1.2.1) fun u2 =>
 andK (α := ((Unit × (Unit × (Bool × Unit))) × ((ByteArray × (Bool × Unit)) × ((List (Int × ByteArray)) × Unit)))) (
  sel (!u2.2.1.2.1)
   (
   some ((((), ((), ((decide (200 < u2.1.1)), ()))), ((u2.2.1.1, (u2.2.1.2.1, ())), (p1, ())))))
   (
   some ((((), ((), (false, ()))), ((u2.2.1.1, (u2.2.1.2.1, ())), (p1, ())))))) fun j3 =>
 sel j3.1.2.2.1
  (
  some ((((), (0, (false, ()))), ((j3.2.1.1, (j3.2.1.2.1, ())), ([], ())))))
  (
  andK (impl_cursor_take N u2.1.1 j3.2.1.1 j3.2.1.2.1) fun u4 =>
  sel u4.2.1.2.1
   (
   some ((((), ((IntKind.i64.wrap ((s1.size : Int) - (p0_0.size : Int))), (true, ()))), ((u4.2.1.1, (u4.2.1.2.1, ())), (j3.2.2.1, ())))))
   (
   chk (decide (j3.2.2.1.length + 1 < most)) (
   sel (decide (30 < ((j3.2.2.1 ++ [(u1.1.1, u4.1.1)]).length : Int)))
    (
    some ((((), (0, (false, ()))), ((u4.2.1.1, (u4.2.1.2.1, ())), ([], ())))))
    (
    impl_ReadCapsules.l0 N s1 u4.2.1.1 u4.2.1.2.1 (j3.2.2.1 ++ [(u1.1.1, u4.1.1)]))))) := by kernel_rfl
set_option maxRecDepth 100000 in
theorem impl_ReadCapsules.eq (N : Nat) (s : ByteArray) : impl_ReadCapsules N s =
 sel (decide (1500 < (s.size : Int)))
  (
  some (((), (0, (false, ()))), ([], ())))
  (
  andK (impl_ReadCapsules.l0 N s s false []) fun l5 =>
  some (((), (l5.1.2.1, (l5.1.2.2.1, ()))), (l5.2.2.1, ()))) := by kernel_rfl
set_option maxRecDepth 100000 in
theorem impl_ReadCapsules.say (N : Nat) : SayOk Try.prog (impl_ReadCapsules.S N) := sayOk_mk (N := N) (H := impl_ReadCapsules.H) (preps := [⟨[(0, (.pair (.int .i64) .str))], [], [], [0]⟩, ⟨[], [], [], [1]⟩]) (l := impl_ReadCapsules.says) (fn := Try.f83) (c := bodyOf Try.f83)
  (by kernel_rfl) (by kernel_rfl) (by kernel_rfl) (by kernel_rfl) (by kernel_rfl) (by kernel_rfl) (by kernel_rfl)
  (fun N => SayAll.cons (impl_cursor_number.say N) (SayAll.cons (impl_cursor_take.say N) (SayAll.nil))) (fun a s => by kernel_rfl)

/-! ### loop.example/g00206/impl.FeedCapsules: function 37 -/
noncomputable def impl_FeedCapsules.H : Hints := hintsOf []
noncomputable def impl_FeedCapsules.says (N : Nat) : List Say := [strings_Join.S N, impl_ReadCapsules.S N]
noncomputable def impl_FeedCapsules.call (N : Nat) : CallK := callBy (impl_FeedCapsules.says N)
noncomputable def impl_FeedCapsules.qt (N : Nat) : FuncId → List PV → Sig → Cl := qtBy (impl_FeedCapsules.says N)
noncomputable def impl_FeedCapsules (N : Nat) (pieces : (List ByteArray)) : Option ((Unit × (Int × (Bool × Unit))) × ((List (Int × ByteArray)) × Unit)) :=
  ofFn Try.prog impl_FeedCapsules.call impl_FeedCapsules.qt impl_FeedCapsules.H N Try.f37 [.one (.sh (.rows .str))] [] [.one (.own 0), ak_i, ak_b] [.rows (.pair (.int .i64) .str)] [⟨[(0, (.pair (.int .i64) .str))], [], [], [1]⟩, ⟨[], [], [], [0]⟩] (pieces, ()) ()
noncomputable def impl_FeedCapsules.S (N : Nat) : Say := ⟨false, 37, [.one (.sh (.rows .str))], [], [.one (.own 0), ak_i, ak_b], [.rows (.pair (.int .i64) .str)], fun a s => impl_FeedCapsules N a.1⟩
set_option maxRecDepth 100000 in
theorem impl_FeedCapsules.eq (N : Nat) (pieces : (List ByteArray)) : impl_FeedCapsules N pieces =
 andK (strings_Join N pieces (⟨#[]⟩ : ByteArray)) fun u1 =>
 andK (impl_ReadCapsules N u1.1.1) fun u2 =>
 sel (!u2.1.2.2.1)
  (
  some (((), (0, (false, ()))), ([], ())))
  (
  sel (decide (60 < (pieces.length : Int)))
   (
   some (((), (0, (false, ()))), ([], ())))
   (
   some (((), ((IntKind.i64.wrap ((u1.1.1.size : Int) - u2.1.2.1)), (true, ()))), (u2.2.1, ())))) := by kernel_rfl
set_option maxRecDepth 100000 in
theorem impl_FeedCapsules.say (N : Nat) : SayOk Try.prog (impl_FeedCapsules.S N) := sayOk_mk (N := N) (H := impl_FeedCapsules.H) (preps := [⟨[(0, (.pair (.int .i64) .str))], [], [], [1]⟩, ⟨[], [], [], [0]⟩]) (l := impl_FeedCapsules.says) (fn := Try.f37) (c := bodyOf Try.f37)
  (by kernel_rfl) (by kernel_rfl) (by kernel_rfl) (by kernel_rfl) (by kernel_rfl) (by kernel_rfl) (by kernel_rfl)
  (fun N => SayAll.cons (strings_Join.say N) (SayAll.cons (impl_ReadCapsules.say N) (SayAll.nil))) (fun a s => by kernel_rfl)
noncomputable def impl_FeedCapsules.SB (N : Nat) : Say := impl_FeedCapsules.S N |>.lent
theorem impl_FeedCapsules.sayB (N : Nat) : SayOk Try.prog (impl_FeedCapsules.SB N) := (impl_FeedCapsules.say N).lent

/-! ### loop.example/g00206/laws.eqCapsule: function 84 -/
noncomputable def laws_eqCapsule.H : Hints := hintsOf []
noncomputable def laws_eqCapsule.says (N : Nat) : List Say := []
noncomputable def laws_eqCapsule.call (N : Nat) : CallK := callBy (laws_eqCapsule.says N)
noncomputable def laws_eqCapsule.qt (N : Nat) : FuncId → List PV → Sig → Cl := qtBy (laws_eqCapsule.says N)
noncomputable def laws_eqCapsule (N : Nat) (a_0 : Int) (a_1 : ByteArray) (b_0 : Int) (b_1 : ByteArray) : Option ((Bool × Unit) × Unit) :=
  ofFn Try.prog laws_eqCapsule.call laws_eqCapsule.qt laws_eqCapsule.H N Try.f84 [.agg [ck_i, ck_s], .agg [ck_i, ck_s]] [] [ak_b] [] [⟨[], [], [], []⟩] ((a_0, (a_1, ())), ((b_0, (b_1, ())), ())) ()
noncomputable def laws_eqCapsule.S (N : Nat) : Say := ⟨false, 84, [.agg [ck_i, ck_s], .agg [ck_i, ck_s]], [], [ak_b], [], fun a s => laws_eqCapsule N a.1.1 a.1.2.1 a.2.1.1 a.2.1.2.1⟩
set_option maxRecDepth 100000 in
theorem laws_eqCapsule.eq (N : Nat) (a_0 : Int) (a_1 : ByteArray) (b_0 : Int) (b_1 : ByteArray) : laws_eqCapsule N a_0 a_1 b_0 b_1 =
 sel (!(decide (a_0 = b_0)))
  (
  some ((false, ()), ()))
  (
  sel (!(decide (a_1 = b_1)))
   (
   some ((false, ()), ()))
   (
   some ((true, ()), ()))) := by kernel_rfl
set_option maxRecDepth 100000 in
theorem laws_eqCapsule.say (N : Nat) : SayOk Try.prog (laws_eqCapsule.S N) := sayOk_mk (N := N) (H := laws_eqCapsule.H) (preps := [⟨[], [], [], []⟩]) (l := laws_eqCapsule.says) (fn := Try.f84) (c := bodyOf Try.f84)
  (by kernel_rfl) (by kernel_rfl) (by kernel_rfl) (by kernel_rfl) (by kernel_rfl) (by kernel_rfl) (by kernel_rfl)
  (fun N => SayAll.nil) (fun a s => by kernel_rfl)

/-! ### loop.example/g00206/laws.eqCapsuleS: function 38 -/
noncomputable def laws_eqCapsuleS.H : Hints := hintsOf [(2000004, .loop ⟨.normal, [0, 1], [5], [ak_i], [], [⟨[], [], [], []⟩]⟩ [⟨.ret, [], [4], [ak_b], [], [⟨[], [], [], []⟩]⟩, ⟨(.exit 0), [], [], [], [], [⟨[], [], [], []⟩]⟩])]
noncomputable def laws_eqCapsuleS.says (N : Nat) : List Say := [laws_eqCapsule.S N]
noncomputable def laws_eqCapsuleS.call (N : Nat) : CallK := callBy (laws_eqCapsuleS.says N)
noncomputable def laws_eqCapsuleS.qt (N : Nat) : FuncId → List PV → Sig → Cl := qtBy (laws_eqCapsuleS.says N)
noncomputable def laws_eqCapsuleS.l0.hd : Alt := ⟨.normal, [0, 1], [5], [ak_i], [], [⟨[], [], [], []⟩]⟩
noncomputable def laws_eqCapsuleS.l0.outs : List Alt := [⟨.ret, [], [4], [ak_b], [], [⟨[], [], [], []⟩]⟩, ⟨(.exit 0), [], [], [], [], [⟨[], [], [], []⟩]⟩]
noncomputable def laws_eqCapsuleS.l0 (N : Nat) (a1 : (List (Int × ByteArray))) (b1 : (List (Int × ByteArray))) (i : Int) : Option (((Bool × Unit) × Unit) ⊕ (Unit × Unit)) :=
  loopK Try.prog laws_eqCapsuleS.call laws_eqCapsuleS.qt laws_eqCapsuleS.H (codeAt (bodyOf Try.f38) [1, 1, 0, 1, 0, 0]) 0 laws_eqCapsuleS.l0.hd laws_eqCapsuleS.l0.outs [(0, .rows false (.pair (.int .i64) .str) a1), (1, .rows false (.pair (.int .i64) .str) b1)] N ((i, ()), ())
noncomputable def laws_eqCapsuleS (N : Nat) (a : (List (Int × ByteArray))) (b : (List (Int × ByteArray))) : Option ((Bool × Unit) × Unit) :=
  ofFn Try.prog laws_eqCapsuleS.call laws_eqCapsuleS.qt laws_eqCapsuleS.H N Try.f38 [.one (.sh (.rows (.pair (.int .i64) .str))), .one (.sh (.rows (.pair (.int .i64) .str)))] [] [ak_b] [] [⟨[], [], [], []⟩] (a, (b, ())) ()
noncomputable def laws_eqCapsuleS.S (N : Nat) : Say := ⟨false, 38, [.one (.sh (.rows (.pair (.int .i64) .str))), .one (.sh (.rows (.pair (.int .i64) .str)))], [], [ak_b], [], fun a s => laws_eqCapsuleS N a.1 a.2.1⟩
set_option maxRecDepth 100000 in
theorem laws_eqCapsuleS.l0.eq (N : Nat) (a1 : (List (Int × ByteArray))) (b1 : (List (Int × ByteArray))) (i : Int) : laws_eqCapsuleS.l0 (N + 1) a1 b1 i =
 sel (decide (i < (a1.length : Int)))
  (
  chk ((decide (0 ≤ i)) && (decide (i < (a1.length : Int)))) (
  chk ((decide (0 ≤ i)) && (decide (i < (b1.length : Int)))) (
  andK (laws_eqCapsule N (rdS (.pair (.int .i64) .str) a1 (Int.toNat i)).1 (rdS (.pair (.int .i64) .str) a1 (Int.toNat i)).2 (rdS (.pair (.int .i64) .str) b1 (Int.toNat i)).1 (rdS (.pair (.int .i64) .str) b1 (Int.toNat i)).2) fun u1 =>
  sel (!u1.1.1)
   (
   some (.inl ((false, ()), ())))
   (
   laws_eqCapsuleS.l0 N a1 b1 (IntKind.i64.wrap (i + 1))))))
  (
  some (.inr (((), ())))) := by kernel_rfl
set_option maxRecDepth 100000 in
theorem laws_eqCapsuleS.eq (N : Nat) (a : (List (Int × ByteArray))) (b : (List (Int × ByteArray))) : laws_eqCapsuleS N a b =
 sel (!(decide ((a.length : Int) = (b.length : Int))))
  (
  some ((false, ()), ()))
  (
  andK (laws_eqCapsuleS.l0 N a b 0) fun l2 =>
  orK l2 (fun x3 =>
   some ((x3.1.1, ()), ()))
   (fun x4 =>
   some ((true, ()), ()))) := by kernel_rfl
set_option maxRecDepth 100000 in
theorem laws_eqCapsuleS.say (N : Nat) : SayOk Try.prog (laws_eqCapsuleS.S N) := sayOk_mk (N := N) (H := laws_eqCapsuleS.H) (preps := [⟨[], [], [], []⟩]) (l := laws_eqCapsuleS.says) (fn := Try.f38) (c := bodyOf Try.f38)
  (by kernel_rfl) (by kernel_rfl) (by kernel_rfl) (by kernel_rfl) (by kernel_rfl) (by kernel_rfl) (by kernel_rfl)
  (fun N => SayAll.cons (laws_eqCapsule.say N) (SayAll.nil)) (fun a s => by kernel_rfl)
noncomputable def laws_eqCapsuleS.SB (N : Nat) : Say := laws_eqCapsuleS.S N |>.lent
theorem laws_eqCapsuleS.sayB (N : Nat) : SayOk Try.prog (laws_eqCapsuleS.SB N) := (laws_eqCapsuleS.say N).lent

/-! ### loop.example/g00206/laws.eqStringS: function 39 -/
noncomputable def laws_eqStringS.H : Hints := hintsOf [(2000004, .loop ⟨.normal, [0, 1], [5], [ak_i], [], [⟨[], [], [], []⟩]⟩ [⟨.ret, [], [4], [ak_b], [], [⟨[], [], [], []⟩]⟩, ⟨(.exit 0), [], [], [], [], [⟨[], [], [], []⟩]⟩])]
noncomputable def laws_eqStringS.says (N : Nat) : List Say := []
noncomputable def laws_eqStringS.call (N : Nat) : CallK := callBy (laws_eqStringS.says N)
noncomputable def laws_eqStringS.qt (N : Nat) : FuncId → List PV → Sig → Cl := qtBy (laws_eqStringS.says N)
noncomputable def laws_eqStringS.l0.hd : Alt := ⟨.normal, [0, 1], [5], [ak_i], [], [⟨[], [], [], []⟩]⟩
noncomputable def laws_eqStringS.l0.outs : List Alt := [⟨.ret, [], [4], [ak_b], [], [⟨[], [], [], []⟩]⟩, ⟨(.exit 0), [], [], [], [], [⟨[], [], [], []⟩]⟩]
noncomputable def laws_eqStringS.l0 (N : Nat) (a1 : (List ByteArray)) (b1 : (List ByteArray)) (i : Int) : Option (((Bool × Unit) × Unit) ⊕ (Unit × Unit)) :=
  loopK Try.prog laws_eqStringS.call laws_eqStringS.qt laws_eqStringS.H (codeAt (bodyOf Try.f39) [1, 1, 0, 1, 0, 0]) 0 laws_eqStringS.l0.hd laws_eqStringS.l0.outs [(0, .rows false .str a1), (1, .rows false .str b1)] N ((i, ()), ())
noncomputable def laws_eqStringS (N : Nat) (a : (List ByteArray)) (b : (List ByteArray)) : Option ((Bool × Unit) × Unit) :=
  ofFn Try.prog laws_eqStringS.call laws_eqStringS.qt laws_eqStringS.H N Try.f39 [.one (.sh (.rows .str)), .one (.sh (.rows .str))] [] [ak_b] [] [⟨[], [], [], []⟩] (a, (b, ())) ()
noncomputable def laws_eqStringS.S (N : Nat) : Say := ⟨false, 39, [.one (.sh (.rows .str)), .one (.sh (.rows .str))], [], [ak_b], [], fun a s => laws_eqStringS N a.1 a.2.1⟩
set_option maxRecDepth 100000 in
theorem laws_eqStringS.l0.eq (N : Nat) (a1 : (List ByteArray)) (b1 : (List ByteArray)) (i : Int) : laws_eqStringS.l0 (N + 1) a1 b1 i =
 sel (decide (i < (a1.length : Int)))
  (
  chk ((decide (0 ≤ i)) && (decide (i < (a1.length : Int)))) (
  chk ((decide (0 ≤ i)) && (decide (i < (b1.length : Int)))) (
  sel (!(decide ((a1.getD (Int.toNat i) (⟨#[]⟩ : ByteArray)) = (b1.getD (Int.toNat i) (⟨#[]⟩ : ByteArray)))))
   (
   some (.inl ((false, ()), ())))
   (
   laws_eqStringS.l0 N a1 b1 (IntKind.i64.wrap (i + 1))))))
  (
  some (.inr (((), ())))) := by kernel_rfl
set_option maxRecDepth 100000 in
theorem laws_eqStringS.eq (N : Nat) (a : (List ByteArray)) (b : (List ByteArray)) : laws_eqStringS N a b =
 sel (!(decide ((a.length : Int) = (b.length : Int))))
  (
  some ((false, ()), ()))
  (
  andK (laws_eqStringS.l0 N a b 0) fun l1 =>
  orK l1 (fun x2 =>
   some ((x2.1.1, ()), ()))
   (fun x3 =>
   some ((true, ()), ()))) := by kernel_rfl
set_option maxRecDepth 100000 in
theorem laws_eqStringS.say (N : Nat) : SayOk Try.prog (laws_eqStringS.S N) := sayOk_mk (N := N) (H := laws_eqStringS.H) (preps := [⟨[], [], [], []⟩]) (l := laws_eqStringS.says) (fn := Try.f39) (c := bodyOf Try.f39)
  (by kernel_rfl) (by kernel_rfl) (by kernel_rfl) (by kernel_rfl) (by kernel_rfl) (by kernel_rfl) (by kernel_rfl)
  (fun N => SayAll.nil) (fun a s => by kernel_rfl)
noncomputable def laws_eqStringS.SB (N : Nat) : Say := laws_eqStringS.S N |>.lent
theorem laws_eqStringS.sayB (N : Nat) : SayOk Try.prog (laws_eqStringS.SB N) := (laws_eqStringS.say N).lent

/-! ### loop.example/g00206/laws.markText: function 85 -/
noncomputable def laws_markText.H : Hints := hintsOf [(2000004, .loop ⟨.normal, [], [0, 3], [ak_i, ak_s], [], [⟨[], [], [], []⟩]⟩ [⟨(.exit 0), [], [3], [ak_s], [], [⟨[], [], [], []⟩]⟩])]
noncomputable def laws_markText.says (N : Nat) : List Say := []
noncomputable def laws_markText.call (N : Nat) : CallK := callBy (laws_markText.says N)
noncomputable def laws_markText.qt (N : Nat) : FuncId → List PV → Sig → Cl := qtBy (laws_markText.says N)
noncomputable def laws_markText.l0.hd : Alt := ⟨.normal, [], [0, 3], [ak_i, ak_s], [], [⟨[], [], [], []⟩]⟩
noncomputable def laws_markText.l0.outs : List Alt := [⟨(.exit 0), [], [3], [ak_s], [], [⟨[], [], [], []⟩]⟩]
noncomputable def laws_markText.l0 (N : Nat) (k1 : Int) (out : ByteArray) : Option ((ByteArray × Unit) × Unit) :=
  loopK Try.prog laws_markText.call laws_markText.qt laws_markText.H (codeAt (bodyOf Try.f85) [1, 1, 1, 0, 0, 0]) 0 laws_markText.l0.hd laws_markText.l0.outs [] N ((k1, (out, ())), ())
noncomputable def laws_markText (N : Nat) (k : Int) : Option ((ByteArray × Unit) × Unit) :=
  ofFn Try.prog laws_markText.call laws_markText.qt laws_markText.H N Try.f85 [ak_i] [] [ak_s] [] [⟨[], [], [], []⟩] (k, ()) ()
noncomputable def laws_markText.S (N : Nat) : Say := ⟨false, 85, [ak_i], [], [ak_s], [], fun a s => laws_markText N a.1⟩
set_option maxRecDepth 100000 in
theorem laws_markText.l0.eq (N : Nat) (k1 : Int) (out : ByteArray) : laws_markText.l0 (N + 1) k1 out =
 sel (decide (0 < k1))
  (
  chk (decide ((strL [(IntKind.u8.wrap (IntKind.i64.wrap (48 + (Int.tmod k1 10))))]).size + out.size ≤ 9223372036854775807)) (
  laws_markText.l0 N (IntKind.i64.wrap (Int.tdiv k1 10)) ((strL [(IntKind.u8.wrap (IntKind.i64.wrap (48 + (Int.tmod k1 10))))]) ++ out)))
  (
  some (((out, ()), ()))) := by kernel_rfl
set_option maxRecDepth 100000 in
theorem laws_markText.eq (N : Nat) (k : Int) : laws_markText N k =
 sel (decide (k ≤ 0))
  (
  some (((⟨#[109, 48]⟩ : ByteArray), ()), ()))
  (
  andK (laws_markText.l0 N k (⟨#[]⟩ : ByteArray)) fun l1 =>
  chk (decide (1 + l1.1.1.size ≤ 9223372036854775807)) (
  some ((((⟨#[109]⟩ : ByteArray) ++ l1.1.1), ()), ()))) := by kernel_rfl
set_option maxRecDepth 100000 in
theorem laws_markText.say (N : Nat) : SayOk Try.prog (laws_markText.S N) := sayOk_mk (N := N) (H := laws_markText.H) (preps := [⟨[], [], [], []⟩]) (l := laws_markText.says) (fn := Try.f85) (c := bodyOf Try.f85)
  (by kernel_rfl) (by kernel_rfl) (by kernel_rfl) (by kernel_rfl) (by kernel_rfl) (by kernel_rfl) (by kernel_rfl)
  (fun N => SayAll.nil) (fun a s => by kernel_rfl)

/-! ### loop.example/g00206/laws.markStringS: function 40 -/
noncomputable def laws_markStringS.H : Hints := hintsOf [(2000002, .loop ⟨.normal, [], [0, 1, 5], [.one (.own 0), ak_i, ak_i], [.rows .str true], [⟨[], [], [], []⟩]⟩ [⟨(.exit 0), [], [1], [ak_i], [.rows .str true], [⟨[], [], [], []⟩]⟩])]
noncomputable def laws_markStringS.says (N : Nat) : List Say := [laws_markText.S N]
noncomputable def laws_markStringS.call (N : Nat) : CallK := callBy (laws_markStringS.says N)
noncomputable def laws_markStringS.qt (N : Nat) : FuncId → List PV → Sig → Cl := qtBy (laws_markStringS.says N)
noncomputable def laws_markStringS.l0.hd : Alt := ⟨.normal, [], [0, 1, 5], [.one (.own 0), ak_i, ak_i], [.rows .str true], [⟨[], [], [], []⟩]⟩
noncomputable def laws_markStringS.l0.outs : List Alt := [⟨(.exit 0), [], [1], [ak_i], [.rows .str true], [⟨[], [], [], []⟩]⟩]
noncomputable def laws_markStringS.l0 (N : Nat) (k1 : Int) (i : Int) (p01 : (List ByteArray)) : Option ((Int × Unit) × ((List ByteArray) × Unit)) :=
  loopK Try.prog laws_markStringS.call laws_markStringS.qt laws_markStringS.H (codeAt (bodyOf Try.f40) [1, 0, 1, 0, 0]) 1 laws_markStringS.l0.hd laws_markStringS.l0.outs [] N (((), (k1, (i, ()))), (p01, ()))
noncomputable def laws_markStringS (N : Nat) (k : Int) (p0 : (List ByteArray)) : Option ((Int × Unit) × ((List ByteArray) × Unit)) :=
  ofFn Try.prog laws_markStringS.call laws_markStringS.qt laws_markStringS.H N Try.f40 [.one (.own 0), ak_i] [.rows .str] [ak_i] [.rows .str true] [⟨[], [], [], []⟩] ((), (k, ())) (p0, ())
noncomputable def laws_markStringS.S (N : Nat) : Say := ⟨false, 40, [.one (.own 0), ak_i], [.rows .str], [ak_i], [.rows .str true], fun a s => laws_markStringS N a.2.1 s.1⟩
set_option maxRecDepth 100000 in
theorem laws_markStringS.l0.eq (N : Nat) (k1 : Int) (i : Int) (p01 : (List ByteArray)) : laws_markStringS.l0 (N + 1) k1 i p01 =
 sel (decide (i < (p01.length : Int)))
  (
  andK (laws_markText N k1) fun u1 =>
  chk ((decide (0 ≤ i)) && (decide (i < (p01.length : Int)))) (
  laws_markStringS.l0 N (IntKind.i64.wrap (k1 + 1)) (IntKind.i64.wrap (i + 1)) (p01.set (Int.toNat i) u1.1.1)))
  (
  some (((k1, ()), (p01, ())))) := by kernel_rfl
set_option maxRecDepth 100000 in
theorem laws_markStringS.eq (N : Nat) (k : Int) (p0 : (List ByteArray)) : laws_markStringS N k p0 =
 andK (laws_markStringS.l0 N k 0 p0) fun l2 =>
 some ((l2.1.1, ()), (l2.2.1, ())) := by kernel_rfl
set_option maxRecDepth 100000 in
theorem laws_markStringS.say (N : Nat) : SayOk Try.prog (laws_markStringS.S N) := sayOk_mk (N := N) (H := laws_markStringS.H) (preps := [⟨[], [], [], []⟩]) (l := laws_markStringS.says) (fn := Try.f40) (c := bodyOf Try.f40)
  (by kernel_rfl) (by kernel_rfl) (by kernel_rfl) (by kernel_rfl) (by kernel_rfl) (by kernel_rfl) (by kernel_rfl)
  (fun N => SayAll.cons (laws_markText.say N) (SayAll.nil)) (fun a s => by kernel_rfl)

/-! ### loop.example/g00206/laws.markCapsuleS: function 41 -/
noncomputable def laws_markCapsuleS.H : Hints := hintsOf [(2000002, .loop ⟨.normal, [], [0, 1, 5], [.one (.own 0), ak_i, ak_i], [.rows (.pair (.int .i64) .str) true], [⟨[], [], [], []⟩]⟩ [⟨(.exit 0), [], [1], [ak_i], [.rows (.pair (.int .i64) .str) true], [⟨[], [], [], []⟩]⟩])]
noncomputable def laws_markCapsuleS.says (N : Nat) : List Say := [laws_markText.S N]
noncomputable def laws_markCapsuleS.call (N : Nat) : CallK := callBy (laws_markCapsuleS.says N)
noncomputable def laws_markCapsuleS.qt (N : Nat) : FuncId → List PV → Sig → Cl := qtBy (laws_markCapsuleS.says N)
noncomputable def laws_markCapsuleS.l0.hd : Alt := ⟨.normal, [], [0, 1, 5], [.one (.own 0), ak_i, ak_i], [.rows (.pair (.int .i64) .str) true], [⟨[], [], [], []⟩]⟩
noncomputable def laws_markCapsuleS.l0.outs : List Alt := [⟨(.exit 0), [], [1], [ak_i], [.rows (.pair (.int .i64) .str) true], [⟨[], [], [], []⟩]⟩]
noncomputable def laws_markCapsuleS.l0 (N : Nat) (k1 : Int) (i : Int) (p01 : (List (Int × ByteArray))) : Option ((Int × Unit) × ((List (Int × ByteArray)) × Unit)) :=
  loopK Try.prog laws_markCapsuleS.call laws_markCapsuleS.qt laws_markCapsuleS.H (codeAt (bodyOf Try.f41) [1, 0, 1, 0, 0]) 1 laws_markCapsuleS.l0.hd laws_markCapsuleS.l0.outs [] N (((), (k1, (i, ()))), (p01, ()))
noncomputable def laws_markCapsuleS (N : Nat) (k : Int) (p0 : (List (Int × ByteArray))) : Option ((Int × Unit) × ((List (Int × ByteArray)) × Unit)) :=
  ofFn Try.prog laws_markCapsuleS.call laws_markCapsuleS.qt laws_markCapsuleS.H N Try.f41 [.one (.own 0), ak_i] [.rows (.pair (.int .i64) .str)] [ak_i] [.rows (.pair (.int .i64) .str) true] [⟨[], [], [], []⟩] ((), (k, ())) (p0, ())
noncomputable def laws_markCapsuleS.S (N : Nat) : Say := ⟨false, 41, [.one (.own 0), ak_i], [.rows (.pair (.int .i64) .str)], [ak_i], [.rows (.pair (.int .i64) .str) true], fun a s => laws_markCapsuleS N a.2.1 s.1⟩
set_option maxRecDepth 100000 in
theorem laws_markCapsuleS.l0.eq (N : Nat) (k1 : Int) (i : Int) (p01 : (List (Int × ByteArray))) : laws_markCapsuleS.l0 (N + 1) k1 i p01 =
 sel (decide (i < (p01.length : Int)))
  (
  chk ((decide (0 ≤ i)) && (decide (i < (p01.length : Int)))) (
  andK (laws_markText N (IntKind.i64.wrap (k1 + 1))) fun u1 =>
  chk ((decide (0 ≤ i)) && (decide (i < ((p01.set (Int.toNat i) (k1, (rdS (.pair (.int .i64) .str) p01 (Int.toNat i)).2)).length : Int)))) (
  laws_markCapsuleS.l0 N (IntKind.i64.wrap ((IntKind.i64.wrap (k1 + 1)) + 1)) (IntKind.i64.wrap (i + 1)) ((p01.set (Int.toNat i) (k1, (rdS (.pair (.int .i64) .str) p01 (Int.toNat i)).2)).set (Int.toNat i) ((rdS (.pair (.int .i64) .str) (p01.set (Int.toNat i) (k1, (rdS (.pair (.int .i64) .str) p01 (Int.toNat i)).2)) (Int.toNat i)).1, u1.1.1)))))
  (
  some (((k1, ()), (p01, ())))) := by kernel_rfl
set_option maxRecDepth 100000 in
theorem laws_markCapsuleS.eq (N : Nat) (k : Int) (p0 : (List (Int × ByteArray))) : laws_markCapsuleS N k p0 =
 andK (laws_markCapsuleS.l0 N k 0 p0) fun l2 =>
 some ((l2.1.1, ()), (l2.2.1, ())) := by kernel_rfl
set_option maxRecDepth 100000 in
theorem laws_markCapsuleS.say (N : Nat) : SayOk Try.prog (laws_markCapsuleS.S N) := sayOk_mk (N := N) (H := laws_markCapsuleS.H) (preps := [⟨[], [], [], []⟩]) (l := laws_markCapsuleS.says) (fn := Try.f41) (c := bodyOf Try.f41)
  (by kernel_rfl) (by kernel_rfl) (by kernel_rfl) (by kernel_rfl) (by kernel_rfl) (by kernel_rfl) (by kernel_rfl)
  (fun N => SayAll.cons (laws_markText.say N) (SayAll.nil)) (fun a s => by kernel_rfl)

/-! ### loop.example/g00206/laws.heldCapsuleS: function 42 -/
noncomputable def laws_heldCapsuleS.H : Hints := hintsOf [(2000002, .loop ⟨.normal, [0], [1, 5], [ak_i, ak_i], [], [⟨[], [], [], []⟩]⟩ [⟨.ret, [], [4], [ak_i], [], [⟨[], [], [], []⟩]⟩, ⟨(.exit 0), [], [1], [ak_i], [], [⟨[], [], [], []⟩]⟩])]
noncomputable def laws_heldCapsuleS.says (N : Nat) : List Say := [laws_markText.S N]
noncomputable def laws_heldCapsuleS.call (N : Nat) : CallK := callBy (laws_heldCapsuleS.says N)
noncomputable def laws_heldCapsuleS.qt (N : Nat) : FuncId → List PV → Sig → Cl := qtBy (laws_heldCapsuleS.says N)
noncomputable def laws_heldCapsuleS.l0.hd : Alt := ⟨.normal, [0], [1, 5], [ak_i, ak_i], [], [⟨[], [], [], []⟩]⟩
noncomputable def laws_heldCapsuleS.l0.outs : List Alt := [⟨.ret, [], [4], [ak_i], [], [⟨[], [], [], []⟩]⟩, ⟨(.exit 0), [], [1], [ak_i], [], [⟨[], [], [], []⟩]⟩]
noncomputable def laws_heldCapsuleS.l0 (N : Nat) (a1 : (List (Int × ByteArray))) (k1 : Int) (i : Int) : Option (((Int × Unit) × Unit) ⊕ ((Int × Unit) × Unit)) :=
  loopK Try.prog laws_heldCapsuleS.call laws_heldCapsuleS.qt laws_heldCapsuleS.H (codeAt (bodyOf Try.f42) [1, 0, 1, 0, 0]) 0 laws_heldCapsuleS.l0.hd laws_heldCapsuleS.l0.outs [(0, .rows false (.pair (.int .i64) .str) a1)] N ((k1, (i, ())), ())
noncomputable def laws_heldCapsuleS (N : Nat) (a : (List (Int × ByteArray))) (k : Int) : Option ((Int × Unit) × Unit) :=
  ofFn Try.prog laws_heldCapsuleS.call laws_heldCapsuleS.qt laws_heldCapsuleS.H N Try.f42 [.one (.sh (.rows (.pair (.int .i64) .str))), ak_i] [] [ak_i] [] [⟨[], [], [], []⟩] (a, (k, ())) ()
noncomputable def laws_heldCapsuleS.S (N : Nat) : Say := ⟨false, 42, [.one (.sh (.rows (.pair (.int .i64) .str))), ak_i], [], [ak_i], [], fun a s => laws_heldCapsuleS N a.1 a.2.1⟩
set_option maxRecDepth 100000 in
theorem laws_heldCapsuleS.l0.eq (N : Nat) (a1 : (List (Int × ByteArray))) (k1 : Int) (i : Int) : laws_heldCapsuleS.l0 (N + 1) a1 k1 i =
 sel (decide (i < (a1.length : Int)))
  (
  chk ((decide (0 ≤ i)) && (decide (i < (a1.length : Int)))) (
  sel (!(decide ((rdS (.pair (.int .i64) .str) a1 (Int.toNat i)).1 = k1)))
   (
   some (.inl (((-1), ()), ())))
   (
   chk ((decide (0 ≤ i)) && (decide (i < (a1.length : Int)))) (
   andK (laws_markText N (IntKind.i64.wrap (k1 + 1))) fun u1 =>
   sel (!(decide ((rdS (.pair (.int .i64) .str) a1 (Int.toNat i)).2 = u1.1.1)))
    (
    some (.inl (((-1), ()), ())))
    (
    laws_heldCapsuleS.l0 N a1 (IntKind.i64.wrap ((IntKind.i64.wrap (k1 + 1)) + 1)) (IntKind.i64.wrap (i + 1)))))))
  (
  some (.inr (((k1, ()), ())))) := by kernel_rfl
set_option maxRecDepth 100000 in
theorem laws_heldCapsuleS.eq (N : Nat) (a : (List (Int × ByteArray))) (k : Int) : laws_heldCapsuleS N a k =
 andK (laws_heldCapsuleS.l0 N a k 0) fun l2 =>
 orK l2 (fun x3 =>
  some ((x3.1.1, ()), ()))
  (fun x4 =>
  some ((x4.1.1, ()), ())) := by kernel_rfl
set_option maxRecDepth 100000 in
theorem laws_heldCapsuleS.say (N : Nat) : SayOk Try.prog (laws_heldCapsuleS.S N) := sayOk_mk (N := N) (H := laws_heldCapsuleS.H) (preps := [⟨[], [], [], []⟩]) (l := laws_heldCapsuleS.says) (fn := Try.f42) (c := bodyOf Try.f42)
  (by kernel_rfl) (by kernel_rfl) (by kernel_rfl) (by kernel_rfl) (by kernel_rfl) (by kernel_rfl) (by kernel_rfl)
  (fun N => SayAll.cons (laws_markText.say N) (SayAll.nil)) (fun a s => by kernel_rfl)
noncomputable def laws_heldCapsuleS.SB (N : Nat) : Say := laws_heldCapsuleS.S N |>.lent
theorem laws_heldCapsuleS.sayB (N : Nat) : SayOk Try.prog (laws_heldCapsuleS.SB N) := (laws_heldCapsuleS.say N).lent

/-! ### loop.example/g00206/laws.FnExactFeedCapsules: function 7 -/
noncomputable def laws_FnExactFeedCapsules.H : Hints := hintsOf [(5000008, .join [⟨.normal, [0, 5, 6, 9, 10], [4, 7, 8, 50], [.one (.own 1), .one (.own 2), .one (.own 3), ak_b], [.rows .str, .rows (.pair (.int .i64) .str), .rows .str, .rows (.pair (.int .i64) .str)], [⟨[], [], [], []⟩]⟩]),
  (5000014, .join [⟨.normal, [0, 5, 6], [4, 8, 76], [.one (.own 1), .one (.own 3), ak_b], [.rows .str, .rows (.pair (.int .i64) .str), .rows .str, .rows (.pair (.int .i64) .str), .rows .str], [⟨[], [], [], []⟩]⟩]),
  (5000025, .join [⟨.normal, [12], [8, 108], [.one (.own 3), ak_b], [.rows .str, .rows (.pair (.int .i64) .str), .rows .str, .rows (.pair (.int .i64) .str), .rows .str, .rows .str, .rows (.pair (.int .i64) .str)], [⟨[], [], [], []⟩]⟩])]
noncomputable def laws_FnExactFeedCapsules.says (N : Nat) : List Say := [laws_szStringS.S N, laws_toStringS.S N, spec_FeedCapsules.SB N, impl_FeedCapsules.SB N, laws_eqCapsuleS.SB N, laws_eqStringS.SB N, laws_markStringS.S N, laws_markCapsuleS.S N, laws_heldCapsuleS.SB N]
noncomputable def laws_FnExactFeedCapsules.call (N : Nat) : CallK := callBy (laws_FnExactFeedCapsules.says N)
noncomputable def laws_FnExactFeedCapsules.qt (N : Nat) : FuncId → List PV → Sig → Cl := qtBy (laws_FnExactFeedCapsules.says N)
noncomputable def laws_FnExactFeedCapsules (N : Nat) (G : (List ByteArray)) : Option ((Bool × Unit) × Unit) :=
  ofFn Try.prog laws_FnExactFeedCapsules.call laws_FnExactFeedCapsules.qt laws_FnExactFeedCapsules.H N Try.f7 [.one (.sh (.rows .str))] [] [ak_b] [] [⟨[], [], [], []⟩] (G, ()) ()
noncomputable def laws_FnExactFeedCapsules.S (N : Nat) : Say := ⟨false, 7, [.one (.sh (.rows .str))], [], [ak_b], [], fun a s => laws_FnExactFeedCapsules N a.1⟩
set_option maxRecDepth 100000 in
theorem laws_FnExactFeedCapsules.eq (N : Nat) (G : (List ByteArray)) : laws_FnExactFeedCapsules N G =
 andK (laws_szStringS N G 1048576) fun u1 =>
 sel (decide (u1.1.1 < 0))
  (
  some ((true, ()), ()))
  (
  andK (laws_toStringS N G) fun u2 =>
  andK (spec_FeedCapsules N u2.2.1) fun u3 =>
  andK (laws_toStringS N G) fun u4 =>
  andK (impl_FeedCapsules N u4.2.1) fun u5 =>
  andK (α := ((Unit × (Unit × (Unit × (Bool × Unit)))) × ((List ByteArray) × ((List (Int × ByteArray)) × ((List ByteArray) × ((List (Int × ByteArray)) × Unit)))))) (
   andK (laws_eqCapsuleS N u5.2.1 u3.2.1) fun u6 =>
   sel (!u6.1.1)
    (
    some ((((), ((), ((), (true, ())))), (u2.2.1, (u3.2.1, (u4.2.1, (u5.2.1, ())))))))
    (
    sel (!(decide (u5.1.2.1 = u3.1.2.1)))
     (
     some ((((), ((), ((), (true, ())))), (u2.2.1, (u3.2.1, (u4.2.1, (u5.2.1, ())))))))
     (
     some ((((), ((), ((), ((!(u5.1.2.2.1 == u3.1.2.2.1)), ())))), (u2.2.1, (u3.2.1, (u4.2.1, (u5.2.1, ()))))))))) fun j7 =>
  sel j7.1.2.2.2.1
   (
   some ((false, ()), ()))
   (
   andK (laws_toStringS N G) fun u8 =>
   andK (laws_eqStringS N j7.2.2.2.1 u8.2.1) fun u9 =>
   sel (!u9.1.1)
    (
    some ((false, ()), ()))
    (
    andK (laws_markStringS N 1 j7.2.2.2.1) fun u10 =>
    andK (α := ((Unit × (Unit × (Bool × Unit))) × ((List ByteArray) × ((List (Int × ByteArray)) × ((List ByteArray) × ((List (Int × ByteArray)) × ((List ByteArray) × Unit))))))) (
     sel (decide (u10.1.1 < 0))
      (
      some ((((), ((), (true, ()))), (j7.2.1, (j7.2.2.1, (u10.2.1, (j7.2.2.2.2.1, (u8.2.1, ()))))))))
      (
      andK (laws_eqCapsuleS N j7.2.2.2.2.1 j7.2.2.1) fun u11 =>
      sel (!u11.1.1)
       (
       some ((((), ((), (true, ()))), (j7.2.1, (j7.2.2.1, (u10.2.1, (j7.2.2.2.2.1, (u8.2.1, ()))))))))
       (
       sel (!(decide (u5.1.2.1 = u3.1.2.1)))
        (
        some ((((), ((), (true, ()))), (j7.2.1, (j7.2.2.1, (u10.2.1, (j7.2.2.2.2.1, (u8.2.1, ()))))))))
        (
        some ((((), ((), ((!(u5.1.2.2.1 == u3.1.2.2.1)), ()))), (j7.2.1, (j7.2.2.1, (u10.2.1, (j7.2.2.2.2.1, (u8.2.1, ()))))))))))) fun j12 =>
    sel j12.1.2.2.1
     (
     some ((false, ()), ()))
     (
     andK (laws_markCapsuleS N 1 j12.2.2.2.2.1) fun u13 =>
     andK (laws_heldCapsuleS N u13.2.1 1) fun u14 =>
     sel (decide (u14.1.1 < 0))
      (
      some ((false, ()), ()))
      (
      sel (!(decide (u14.1.1 = u13.1.1)))
       (
       some ((false, ()), ()))
       (
       andK (laws_toStringS N G) fun u15 =>
       andK (impl_FeedCapsules N u15.2.1) fun u16 =>
       andK (α := ((Unit × (Bool × Unit)) × ((List ByteArray) × ((List (Int × ByteArray)) × ((List ByteArray) × ((List (Int × ByteArray)) × ((List ByteArray) × ((List ByteArray) × ((List (Int × ByteArray)) × Unit))))))))) (
        andK (laws_eqCapsuleS N u16.2.1 j12.2.2.1) fun u17 =>
        sel (!u17.1.1)
         (
         some ((((), (true, ())), (j12.2.1, (j12.2.2.1, (j12.2.2.2.1, (u13.2.1, (j12.2.2.2.2.2.1, (u15.2.1, (u16.2.1, ()))))))))))
         (
         sel (!(decide (u16.1.2.1 = u3.1.2.1)))
          (
          some ((((), (true, ())), (j12.2.1, (j12.2.2.1, (j12.2.2.2.1, (u13.2.1, (j12.2.2.2.2.2.1, (u15.2.1, (u16.2.1, ()))))))))))
          (
          some ((((), ((!(u16.1.2.2.1 == u3.1.2.2.1)), ())), (j12.2.1, (j12.2.2.1, (j12.2.2.2.1, (u13.2.1, (j12.2.2.2.2.2.1, (u15.2.1, (u16.2.1, ())))))))))))) fun j18 =>
       sel j18.1.2.1
        (
        some ((false, ()), ()))
        (
        andK (laws_heldCapsuleS N j18.2.2.2.2.1 1) fun u19 =>
        sel (decide (u19.1.1 < 0))
         (
         some ((false, ()), ()))
         (
         sel (!(decide (u19.1.1 = u13.1.1)))
          (
          some ((false, ()), ()))
          (
          some ((true, ()), ())))))))))) := by kernel_rfl
set_option maxRecDepth 100000 in
theorem laws_FnExactFeedCapsules.say (N : Nat) : SayOk Try.prog (laws_FnExactFeedCapsules.S N) := sayOk_mk (N := N) (H := laws_FnExactFeedCapsules.H) (preps := [⟨[], [], [], []⟩]) (l := laws_FnExactFeedCapsules.says) (fn := Try.f7) (c := bodyOf Try.f7)
  (by kernel_rfl) (by kernel_rfl) (by kernel_rfl) (by kernel_rfl) (by kernel_rfl) (by kernel_rfl) (by kernel_rfl)
  (fun N => SayAll.cons (laws_szStringS.say N) (SayAll.cons (laws_toStringS.say N) (SayAll.cons (spec_FeedCapsules.sayB N) (SayAll.cons (impl_FeedCapsules.sayB N) (SayAll.cons (laws_eqCapsuleS.sayB N) (SayAll.cons (laws_eqStringS.sayB N) (SayAll.cons (laws_markStringS.say N) (SayAll.cons (laws_markCapsuleS.say N) (SayAll.cons (laws_heldCapsuleS.sayB N) (SayAll.nil)))))))))) (fun a s => by kernel_rfl)

end Go.Proofs.Ytcngjidojibleaa.GFnExactFeedCapsules
