-- Written by a program of this session out of the translation; Lean checks it.
import Derived.Test.YtbfkfhadcmpndaaPmLaw
import Derived.Test.YtbfkfhadcmpndaaProg
import Derived.Test.YtbfkfhadcmpndaaGFnFramesx0
set_option linter.unusedVariables false
namespace Go.Proofs.Ytbfkfhadcmpndaa.GFnFrames
open Go Go.Proofs Go.Proofs.YtbfkfhadcmpndaaPM

/-! ### loop.example/g00206/laws.FnFrames: function 3 -/
noncomputable def laws_FnFrames.H : Hints := hintsOf [(5000006, .join [⟨.normal, [1, 6, 7], [5, 46], [.one (.ptr 1 0), ak_b], [.rows (.pair (.int .i64) (.int .i64)), .cells [ck_i, ck_i, ck_i, ck_i, ck_b, ck_s, .own 0]], [⟨[], [], [], []⟩]⟩]),
  (5000010, .join [⟨.normal, [1], [67], [ak_b], [.rows (.pair (.int .i64) (.int .i64)), .cells [ck_i, ck_i, ck_i, ck_i, ck_b, ck_s, .own 0], .cells [ck_i, ck_i, ck_i, ck_i, ck_b, ck_s, .sh (.rows (.pair (.int .i64) (.int .i64)))]], [⟨[], [], [], []⟩]⟩]),
  (12, .join [⟨.ret, [], [4], [ak_b], [.rows (.pair (.int .i64) (.int .i64)), .cells [ck_i, ck_i, ck_i, ck_i, ck_b, ck_s, .own 0]], [⟨[], [], [], []⟩]⟩, ⟨.normal, [1], [], [], [.rows (.pair (.int .i64) (.int .i64)), .cells [ck_i, ck_i, ck_i, ck_i, ck_b, ck_s, .own 0]], [⟨[], [], [], []⟩]⟩]),
  (5000015, .join [⟨.normal, [14, 15], [13, 87], [.one (.own 2), ak_b], [.rows (.pair (.int .i64) (.int .i64)), .cells [ck_i, ck_i, ck_i, ck_i, ck_b, ck_s, .own 0], .rows (.pair (.int .i64) (.pair (.int .i64) (.pair (.int .i64) (.pair (.int .i64) (.pair .bool (.pair .str (.rows (.pair (.int .i64) (.int .i64)))))))))], [⟨[], [], [], []⟩]⟩]),
  (5000020, .join [⟨.normal, [], [13, 18, 105], [.one (.own 2), .one (.own 3), ak_b], [.rows (.pair (.int .i64) (.int .i64)), .cells [ck_i, ck_i, ck_i, ck_i, ck_b, ck_s, .own 0], .rows (.pair (.int .i64) (.pair (.int .i64) (.pair (.int .i64) (.pair (.int .i64) (.pair .bool (.pair .str (.rows (.pair (.int .i64) (.int .i64))))))))), .rows (.pair (.int .i64) (.pair (.int .i64) (.pair (.int .i64) (.pair (.int .i64) (.pair .bool (.pair .str (.rows (.pair (.int .i64) (.int .i64)))))))))], [⟨[], [], [], []⟩]⟩]),
  (2000023, .loop ⟨.normal, [107], [13, 18, 108], [.one (.own 2), .one (.own 3), ak_i], [.rows (.pair (.int .i64) (.int .i64)), .cells [ck_i, ck_i, ck_i, ck_i, ck_b, ck_s, .own 0], .rows (.pair (.int .i64) (.pair (.int .i64) (.pair (.int .i64) (.pair (.int .i64) (.pair .bool (.pair .str (.rows (.pair (.int .i64) (.int .i64))))))))), .rows (.pair (.int .i64) (.pair (.int .i64) (.pair (.int .i64) (.pair (.int .i64) (.pair .bool (.pair .str (.rows (.pair (.int .i64) (.int .i64)))))))))], [⟨[], [], [], []⟩]⟩ [⟨.ret, [], [4], [ak_b], [.rows (.pair (.int .i64) (.int .i64)), .cells [ck_i, ck_i, ck_i, ck_i, ck_b, ck_s, .own 0], .rows (.pair (.int .i64) (.pair (.int .i64) (.pair (.int .i64) (.pair (.int .i64) (.pair .bool (.pair .str (.rows (.pair (.int .i64) (.int .i64))))))))), .rows (.pair (.int .i64) (.pair (.int .i64) (.pair (.int .i64) (.pair (.int .i64) (.pair .bool (.pair .str (.rows (.pair (.int .i64) (.int .i64)))))))))], [⟨[], [], [], []⟩]⟩, ⟨(.exit 0), [], [], [], [.rows (.pair (.int .i64) (.int .i64)), .cells [ck_i, ck_i, ck_i, ck_i, ck_b, ck_s, .own 0], .rows (.pair (.int .i64) (.pair (.int .i64) (.pair (.int .i64) (.pair (.int .i64) (.pair .bool (.pair .str (.rows (.pair (.int .i64) (.int .i64))))))))), .rows (.pair (.int .i64) (.pair (.int .i64) (.pair (.int .i64) (.pair (.int .i64) (.pair .bool (.pair .str (.rows (.pair (.int .i64) (.int .i64)))))))))], [⟨[], [], [], []⟩]⟩])]
noncomputable def laws_FnFrames.says (N : Nat) : List Say := [spec_DrawFrameBytes.S N, impl_FrameBytes.SB N, spec_FrameBytes.SB N, impl_ReadFrame.S N, laws_sameFrames.SB N, spec_DrawFramesBytes.S N, impl_FramesBytes.SB N, spec_FramesBytes.SB N, impl_ReadFrames.S N, laws_sameFrames.S N]
noncomputable def laws_FnFrames.call (N : Nat) : CallK := callBy (laws_FnFrames.says N)
noncomputable def laws_FnFrames.qt (N : Nat) : FuncId → List PV → Sig → Cl := qtBy (laws_FnFrames.says N)
noncomputable def laws_FnFrames.l0.hd : Alt := ⟨.normal, [107], [13, 18, 108], [.one (.own 2), .one (.own 3), ak_i], [.rows (.pair (.int .i64) (.int .i64)), .cells [ck_i, ck_i, ck_i, ck_i, ck_b, ck_s, .own 0], .rows (.pair (.int .i64) (.pair (.int .i64) (.pair (.int .i64) (.pair (.int .i64) (.pair .bool (.pair .str (.rows (.pair (.int .i64) (.int .i64))))))))), .rows (.pair (.int .i64) (.pair (.int .i64) (.pair (.int .i64) (.pair (.int .i64) (.pair .bool (.pair .str (.rows (.pair (.int .i64) (.int .i64)))))))))], [⟨[], [], [], []⟩]⟩
noncomputable def laws_FnFrames.l0.outs : List Alt := [⟨.ret, [], [4], [ak_b], [.rows (.pair (.int .i64) (.int .i64)), .cells [ck_i, ck_i, ck_i, ck_i, ck_b, ck_s, .own 0], .rows (.pair (.int .i64) (.pair (.int .i64) (.pair (.int .i64) (.pair (.int .i64) (.pair .bool (.pair .str (.rows (.pair (.int .i64) (.int .i64))))))))), .rows (.pair (.int .i64) (.pair (.int .i64) (.pair (.int .i64) (.pair (.int .i64) (.pair .bool (.pair .str (.rows (.pair (.int .i64) (.int .i64)))))))))], [⟨[], [], [], []⟩]⟩, ⟨(.exit 0), [], [], [], [.rows (.pair (.int .i64) (.int .i64)), .cells [ck_i, ck_i, ck_i, ck_i, ck_b, ck_s, .own 0], .rows (.pair (.int .i64) (.pair (.int .i64) (.pair (.int .i64) (.pair (.int .i64) (.pair .bool (.pair .str (.rows (.pair (.int .i64) (.int .i64))))))))), .rows (.pair (.int .i64) (.pair (.int .i64) (.pair (.int .i64) (.pair (.int .i64) (.pair .bool (.pair .str (.rows (.pair (.int .i64) (.int .i64)))))))))], [⟨[], [], [], []⟩]⟩]
noncomputable def laws_FnFrames.l0 (N : Nat) (t107 : Int) (t108 : Int) (p0 : (List (Int × Int))) (p1_0 : Int) (p1_1 : Int) (p1_2 : Int) (p1_3 : Int) (p1_4 : Bool) (p1_5 : ByteArray) (p2 : (List (Int × (Int × (Int × (Int × (Bool × (ByteArray × (List (Int × Int)))))))))) (p3 : (List (Int × (Int × (Int × (Int × (Bool × (ByteArray × (List (Int × Int)))))))))) : Option (((Bool × Unit) × ((List (Int × Int)) × ((Int × (Int × (Int × (Int × (Bool × (ByteArray × (Unit × Unit))))))) × ((List (Int × (Int × (Int × (Int × (Bool × (ByteArray × (List (Int × Int))))))))) × ((List (Int × (Int × (Int × (Int × (Bool × (ByteArray × (List (Int × Int))))))))) × Unit))))) ⊕ (Unit × ((List (Int × Int)) × ((Int × (Int × (Int × (Int × (Bool × (ByteArray × (Unit × Unit))))))) × ((List (Int × (Int × (Int × (Int × (Bool × (ByteArray × (List (Int × Int))))))))) × ((List (Int × (Int × (Int × (Int × (Bool × (ByteArray × (List (Int × Int))))))))) × Unit)))))) :=
  loopK Try.prog laws_FnFrames.call laws_FnFrames.qt laws_FnFrames.H (codeAt (bodyOf Try.f3) [1, 1, 1, 1, 1, 1, 1, 1, 1, 1, 1, 1, 1, 1, 0, 1, 0, 0]) 4 laws_FnFrames.l0.hd laws_FnFrames.l0.outs [(107, .v (.int .i64 t107))] N (((), ((), (t108, ()))), (p0, ((p1_0, (p1_1, (p1_2, (p1_3, (p1_4, (p1_5, ((), ()))))))), (p2, (p3, ())))))
noncomputable def laws_FnFrames (N : Nat) (G : (List Int)) (o : (List Int)) : Option ((Bool × Unit) × Unit) :=
  ofFn Try.prog laws_FnFrames.call laws_FnFrames.qt laws_FnFrames.H N Try.f3 [.one (.sh (.rows (.int .u8))), .one (.sh (.rows (.int .u8)))] [] [ak_b] [] [⟨[], [], [], []⟩] (G, (o, ())) ()
noncomputable def laws_FnFrames.S (N : Nat) : Say := ⟨false, 3, [.one (.sh (.rows (.int .u8))), .one (.sh (.rows (.int .u8)))], [], [ak_b], [], fun a s => laws_FnFrames N a.1 a.2.1⟩
set_option maxRecDepth 100000 in
theorem laws_FnFrames.l0.eq (N : Nat) (t107 : Int) (t108 : Int) (p0 : (List (Int × Int))) (p1_0 : Int) (p1_1 : Int) (p1_2 : Int) (p1_3 : Int) (p1_4 : Bool) (p1_5 : ByteArray) (p2 : (List (Int × (Int × (Int × (Int × (Bool × (ByteArray × (List (Int × Int)))))))))) (p3 : (List (Int × (Int × (Int × (Int × (Bool × (ByteArray × (List (Int × Int)))))))))) : laws_FnFrames.l0 (N + 1) t107 t108 p0 p1_0 p1_1 p1_2 p1_3 p1_4 p1_5 p2 p3 =
 sel (decide (t108 < t107))
  (
  chk ((decide (0 ≤ t108)) && (decide (t108 < (p2.length : Int)))) (
  chk ((decide (0 ≤ t108)) && (decide (t108 < (p3.length : Int)))) (
  andK (laws_sameFrames N (rdS (.pair (.int .i64) (.pair (.int .i64) (.pair (.int .i64) (.pair (.int .i64) (.pair .bool (.pair .str (.rows (.pair (.int .i64) (.int .i64))))))))) p2 (Int.toNat t108)).1 (rdS (.pair (.int .i64) (.pair (.int .i64) (.pair (.int .i64) (.pair (.int .i64) (.pair .bool (.pair .str (.rows (.pair (.int .i64) (.int .i64))))))))) p2 (Int.toNat t108)).2.1 (rdS (.pair (.int .i64) (.pair (.int .i64) (.pair (.int .i64) (.pair (.int .i64) (.pair .bool (.pair .str (.rows (.pair (.int .i64) (.int .i64))))))))) p2 (Int.toNat t108)).2.2.1 (rdS (.pair (.int .i64) (.pair (.int .i64) (.pair (.int .i64) (.pair (.int .i64) (.pair .bool (.pair .str (.rows (.pair (.int .i64) (.int .i64))))))))) p2 (Int.toNat t108)).2.2.2.1 (rdS (.pair (.int .i64) (.pair (.int .i64) (.pair (.int .i64) (.pair (.int .i64) (.pair .bool (.pair .str (.rows (.pair (.int .i64) (.int .i64))))))))) p2 (Int.toNat t108)).2.2.2.2.1 (rdS (.pair (.int .i64) (.pair (.int .i64) (.pair (.int .i64) (.pair (.int .i64) (.pair .bool (.pair .str (.rows (.pair (.int .i64) (.int .i64))))))))) p2 (Int.toNat t108)).2.2.2.2.2.1 (rdS (.pair (.int .i64) (.pair (.int .i64) (.pair (.int .i64) (.pair (.int .i64) (.pair .bool (.pair .str (.rows (.pair (.int .i64) (.int .i64))))))))) p2 (Int.toNat t108)).2.2.2.2.2.2 (rdS (.pair (.int .i64) (.pair (.int .i64) (.pair (.int .i64) (.pair (.int .i64) (.pair .bool (.pair .str (.rows (.pair (.int .i64) (.int .i64))))))))) p3 (Int.toNat t108)).1 (rdS (.pair (.int .i64) (.pair (.int .i64) (.pair (.int .i64) (.pair (.int .i64) (.pair .bool (.pair .str (.rows (.pair (.int .i64) (.int .i64))))))))) p3 (Int.toNat t108)).2.1 (rdS (.pair (.int .i64) (.pair (.int .i64) (.pair (.int .i64) (.pair (.int .i64) (.pair .bool (.pair .str (.rows (.pair (.int .i64) (.int .i64))))))))) p3 (Int.toNat t108)).2.2.1 (rdS (.pair (.int .i64) (.pair (.int .i64) (.pair (.int .i64) (.pair (.int .i64) (.pair .bool (.pair .str (.rows (.pair (.int .i64) (.int .i64))))))))) p3 (Int.toNat t108)).2.2.2.1 (rdS (.pair (.int .i64) (.pair (.int .i64) (.pair (.int .i64) (.pair (.int .i64) (.pair .bool (.pair .str (.rows (.pair (.int .i64) (.int .i64))))))))) p3 (Int.toNat t108)).2.2.2.2.1 (rdS (.pair (.int .i64) (.pair (.int .i64) (.pair (.int .i64) (.pair (.int .i64) (.pair .bool (.pair .str (.rows (.pair (.int .i64) (.int .i64))))))))) p3 (Int.toNat t108)).2.2.2.2.2.1 (rdS (.pair (.int .i64) (.pair (.int .i64) (.pair (.int .i64) (.pair (.int .i64) (.pair .bool (.pair .str (.rows (.pair (.int .i64) (.int .i64))))))))) p3 (Int.toNat t108)).2.2.2.2.2.2) fun u17 =>
  sel (!u17.1.1)
   (
   some (.inl ((false, ()), (p0, ((p1_0, (p1_1, (p1_2, (p1_3, (p1_4, (p1_5, ((), ()))))))), (p2, (p3, ())))))))
   (
   laws_FnFrames.l0 N t107 (IntKind.i64.wrap (t108 + 1)) p0 p1_0 p1_1 p1_2 p1_3 p1_4 p1_5 p2 p3))))
  (
  some (.inr (((), (p0, ((p1_0, (p1_1, (p1_2, (p1_3, (p1_4, (p1_5, ((), ()))))))), (p2, (p3, ())))))))) := by kernel_rfl
set_option maxRecDepth 100000 in
theorem laws_FnFrames.eq (N : Nat) (G : (List Int)) (o : (List Int)) : laws_FnFrames N G o =
 sel (decide (1048576 < (IntKind.i64.wrap ((G.length : Int) + (o.length : Int)))))
  (
  some ((true, ()), ()))
  (
  andK (spec_DrawFrameBytes N G) fun u1 =>
  andK (impl_FrameBytes N u1.1.1.1 u1.1.1.2.1 u1.1.1.2.2.1 u1.1.1.2.2.2.1 u1.1.1.2.2.2.2.1 u1.1.1.2.2.2.2.2.1 u1.2.1) fun u2 =>
  andK (spec_FrameBytes N u1.1.1.1 u1.1.1.2.1 u1.1.1.2.2.1 u1.1.1.2.2.2.1 u1.1.1.2.2.2.2.1 u1.1.1.2.2.2.2.2.1 u1.2.1) fun u3 =>
  andK (α := ((Unit × (Bool × Unit)) × ((List (Int × Int)) × ((Int × (Int × (Int × (Int × (Bool × (ByteArray × (Unit × Unit))))))) × Unit)))) (
   sel (!(u2.1.2.1 == u3.1.2.1))
    (
    some ((((), (true, ())), (u1.2.1, (u1.1.1, ())))))
    (
    some ((((), ((!(decide (u2.1.1 = u3.1.1))), ())), (u1.2.1, (u1.1.1, ())))))) fun j4 =>
  sel j4.1.2.1
   (
   some ((false, ()), ()))
   (
   andK (α := (((Bool × Unit) × ((List (Int × Int)) × ((Int × (Int × (Int × (Int × (Bool × (ByteArray × (Unit × Unit))))))) × Unit))) ⊕ (Unit × ((List (Int × Int)) × ((Int × (Int × (Int × (Int × (Bool × (ByteArray × (Unit × Unit))))))) × Unit))))) (
    sel u2.1.2.1
     (
     andK (impl_ReadFrame N u2.1.1) fun u5 =>
     andK (α := ((Bool × Unit) × ((List (Int × Int)) × ((Int × (Int × (Int × (Int × (Bool × (ByteArray × (Unit × Unit))))))) × ((Int × (Int × (Int × (Int × (Bool × (ByteArray × ((List (Int × Int)) × Unit))))))) × Unit))))) (
      sel (!(decide (u5.1.2.2.1 = 0)))
       (
       some (((true, ()), (j4.2.1, (j4.2.2.1, (u5.1.1, ()))))))
       (
       sel (!(decide (u5.1.2.1 = (u2.1.1.size : Int))))
        (
        some (((true, ()), (j4.2.1, (j4.2.2.1, (u5.1.1, ()))))))
        (
        andK (laws_sameFrames N j4.2.2.1.1 j4.2.2.1.2.1 j4.2.2.1.2.2.1 j4.2.2.1.2.2.2.1 j4.2.2.1.2.2.2.2.1 j4.2.2.1.2.2.2.2.2.1 j4.2.1 u5.1.1.1 u5.1.1.2.1 u5.1.1.2.2.1 u5.1.1.2.2.2.1 u5.1.1.2.2.2.2.1 u5.1.1.2.2.2.2.2.1 u5.1.1.2.2.2.2.2.2.1) fun u6 =>
        some ((((!u6.1.1), ()), (j4.2.1, (j4.2.2.1, (u5.1.1, ())))))))) fun j7 =>
     sel j7.1.1
      (
      some (.inl ((false, ()), (j7.2.1, (j7.2.2.1, ())))))
      (
      some (.inr (((), (j7.2.1, (j7.2.2.1, ())))))))
     (
     some (.inr (((), j4.2))))) fun j8 =>
   orK j8 (fun x9 =>
    some (x9.1, ()))
    (fun x10 =>
    andK (spec_DrawFramesBytes N o) fun u11 =>
    andK (impl_FramesBytes N u11.2.1) fun u12 =>
    andK (spec_FramesBytes N u11.2.1) fun u13 =>
    andK (α := ((Unit × (Bool × Unit)) × ((List (Int × Int)) × ((Int × (Int × (Int × (Int × (Bool × (ByteArray × (Unit × Unit))))))) × ((List (Int × (Int × (Int × (Int × (Bool × (ByteArray × (List (Int × Int))))))))) × Unit))))) (
     sel (!(u12.1.2.1 == u13.1.2.1))
      (
      some ((((), (true, ())), (x10.2.1, (x10.2.2.1, (u11.2.1, ()))))))
      (
      some ((((), ((!(decide (u12.1.1 = u13.1.1))), ())), (x10.2.1, (x10.2.2.1, (u11.2.1, ()))))))) fun j14 =>
    sel j14.1.2.1
     (
     some ((false, ()), ()))
     (
     sel (!u12.1.2.1)
      (
      some (((decide (u12.1.1 = (⟨#[]⟩ : ByteArray))), ()), ()))
      (
      andK (impl_ReadFrames N u12.1.1) fun u15 =>
      andK (α := ((Unit × (Unit × (Bool × Unit))) × ((List (Int × Int)) × ((Int × (Int × (Int × (Int × (Bool × (ByteArray × (Unit × Unit))))))) × ((List (Int × (Int × (Int × (Int × (Bool × (ByteArray × (List (Int × Int))))))))) × ((List (Int × (Int × (Int × (Int × (Bool × (ByteArray × (List (Int × Int))))))))) × Unit)))))) (
       sel (!(decide (u15.1.2.1 = 0)))
        (
        some ((((), ((), (true, ()))), (j14.2.1, (j14.2.2.1, (j14.2.2.2.1, (u15.2.1, ())))))))
        (
        some ((((), ((), ((!(decide ((u15.2.1.length : Int) = (j14.2.2.2.1.length : Int)))), ()))), (j14.2.1, (j14.2.2.1, (j14.2.2.2.1, (u15.2.1, ())))))))) fun j16 =>
      sel j16.1.2.2.1
       (
       some ((false, ()), ()))
       (
       andK (laws_FnFrames.l0 N (j16.2.2.2.1.length : Int) 0 j16.2.1 j16.2.2.1.1 j16.2.2.1.2.1 j16.2.2.1.2.2.1 j16.2.2.1.2.2.2.1 j16.2.2.1.2.2.2.2.1 j16.2.2.1.2.2.2.2.2.1 j16.2.2.2.1 j16.2.2.2.2.1) fun l18 =>
       orK l18 (fun x19 =>
        some (x19.1, ()))
        (fun x20 =>
        some ((true, ()), ())))))))) := by kernel_rfl
set_option maxRecDepth 100000 in
theorem laws_FnFrames.say (N : Nat) : SayOk Try.prog (laws_FnFrames.S N) := sayOk_mk (N := N) (H := laws_FnFrames.H) (preps := [⟨[], [], [], []⟩]) (l := laws_FnFrames.says) (fn := Try.f3) (c := bodyOf Try.f3)
  (by kernel_rfl) (by kernel_rfl) (by kernel_rfl) (by kernel_rfl) (by kernel_rfl) (by kernel_rfl) (by kernel_rfl)
  (fun N => SayAll.cons (spec_DrawFrameBytes.say N) (SayAll.cons (impl_FrameBytes.sayB N) (SayAll.cons (spec_FrameBytes.sayB N) (SayAll.cons (impl_ReadFrame.say N) (SayAll.cons (laws_sameFrames.sayB N) (SayAll.cons (spec_DrawFramesBytes.say N) (SayAll.cons (impl_FramesBytes.sayB N) (SayAll.cons (spec_FramesBytes.sayB N) (SayAll.cons (impl_ReadFrames.say N) (SayAll.cons (laws_sameFrames.say N) (SayAll.nil))))))))))) (fun a s => by kernel_rfl)

end Go.Proofs.Ytbfkfhadcmpndaa.GFnFrames
