-- Written by a program of this session out of the translation; Lean checks it.
import Derived.Test.YtakemokmdlogoaaPmLaw
import Derived.Test.YtakemokmdlogoaaProg
import Derived.Test.YtakemokmdlogoaaShelf
import Derived.Test.YtakemokmdlogoaaGFnTokensx0
set_option linter.unusedVariables false
namespace Go.Proofs.Ytakemokmdlogoaa.GFnTokens
open Go Go.Proofs Go.Proofs.YtakemokmdlogoaaPM

/-! ### loop.example/g00206/laws.FnTokens: function 3 -/
noncomputable def laws_FnTokens.H : Hints := hintsOf [(5000006, .join [⟨.normal, [1, 5, 7, 9, 10], [8, 64], [.one (.ptr 0 0), ak_b], [.cells [ck_s, ck_i, ck_b]], [⟨[], [], [], []⟩]⟩]),
  (5000016, .join [⟨.normal, [1, 5, 7, 9, 13, 14], [8, 110], [.one (.ptr 0 0), ak_b], [.cells [ck_s, ck_i, ck_b], .cells [ck_s, ck_i, ck_b]], [⟨[], [], [], []⟩]⟩]),
  (25, .join [⟨.ret, [], [4], [ak_b], [.cells [ck_s, ck_i, ck_b], .cells [ck_s, ck_i, ck_b], .cells [ck_s, ck_i, ck_b]], [⟨[], [], [], []⟩]⟩, ⟨.normal, [1, 5, 7, 9, 13, 14], [8], [.one (.ptr 0 0)], [.cells [ck_s, ck_i, ck_b], .cells [ck_s, ck_i, ck_b], .cells [ck_s, ck_i, ck_b]], [⟨[], [], [], []⟩]⟩])]
noncomputable def laws_FnTokens.says (N : Nat) : List Say := [spec_DrawMintToken.S N, impl_MintToken.S N, spec_MintToken.S N, laws_numberOf.S N, impl_CheckToken.S N, impl_AgeOf.S N, laws_turned.S N, spec_CheckToken.S N]
noncomputable def laws_FnTokens.call (N : Nat) : CallK := callBy (laws_FnTokens.says N)
noncomputable def laws_FnTokens.qt (N : Nat) : FuncId → List PV → Sig → Cl := qtBy (laws_FnTokens.says N)
noncomputable def laws_FnTokens (N : Nat) (G : (List Int)) (o : (List Int)) : Option ((Bool × Unit) × Unit) :=
  ofFn Try.prog laws_FnTokens.call laws_FnTokens.qt laws_FnTokens.H N Try.f3 [.one (.sh (.rows (.int .u8))), .one (.sh (.rows (.int .u8)))] [] [ak_b] [] [⟨[], [], [], []⟩] (G, (o, ())) ()
noncomputable def laws_FnTokens.S (N : Nat) : Say := ⟨false, 3, [.one (.sh (.rows (.int .u8))), .one (.sh (.rows (.int .u8)))], [], [ak_b], [], fun a s => laws_FnTokens N a.1 a.2.1⟩
set_option maxRecDepth 100000 in
theorem laws_FnTokens.eq (N : Nat) (G : (List Int)) (o : (List Int)) : laws_FnTokens N G o =
 sel (decide (1048576 < (IntKind.i64.wrap ((G.length : Int) + (o.length : Int)))))
  (
  some ((true, ()), ()))
  (
  andK (spec_DrawMintToken N G) fun u1 =>
  andK (impl_MintToken N u1.1.1 u1.1.2.1 u1.1.2.2.1 u1.1.2.2.2.1.1 u1.1.2.2.2.1.2.1 u1.1.2.2.2.1.2.2.1) fun u2 =>
  andK (spec_MintToken N u1.1.1 u1.1.2.1 u1.1.2.2.1 u1.1.2.2.2.1.1 u1.1.2.2.2.1.2.1 u1.1.2.2.2.1.2.2.1) fun u3 =>
  andK (α := ((Unit × (Bool × Unit)) × ((ByteArray × (Int × (Bool × Unit))) × Unit))) (
   sel (!(u2.1.2.1 == u3.1.2.1))
    (
    some ((((), (true, ())), ((u1.1.2.2.2.1.1, (u1.1.2.2.2.1.2.1, (u1.1.2.2.2.1.2.2.1, ()))), ()))))
    (
    some ((((), ((!(decide (u2.1.1 = u3.1.1))), ())), ((u1.1.2.2.2.1.1, (u1.1.2.2.2.1.2.1, (u1.1.2.2.2.1.2.2.1, ()))), ()))))) fun j4 =>
  sel j4.1.2.1
   (
   some ((false, ()), ()))
   (
   sel (!u2.1.2.1)
    (
    some (((decide (u2.1.1 = (⟨#[]⟩ : ByteArray))), ()), ()))
    (
    andK (laws_numberOf N o) fun u5 =>
    sel (decide (1000000000 < (IntKind.i64.wrap ((IntKind.i64.wrap (j4.2.1.2.1 + (Int.tmod u5.1.1 1000))) + 1))))
     (
     some ((true, ()), ()))
     (
     andK (impl_CheckToken N [u1.1.1] u1.1.2.2.1 u2.1.1 (IntKind.i64.wrap (j4.2.1.2.1 + (Int.tmod u5.1.1 1000))) (Int.tmod u5.1.1 1000)) fun u6 =>
     andK (impl_AgeOf N j4.2.1.1 j4.2.1.2.1 j4.2.1.2.2.1 (IntKind.i64.wrap (j4.2.1.2.1 + (Int.tmod u5.1.1 1000)))) fun u7 =>
     andK (α := ((Unit × (Bool × Unit)) × ((ByteArray × (Int × (Bool × Unit))) × ((ByteArray × (Int × (Bool × Unit))) × Unit)))) (
      sel (!(decide (u6.1.2.1 = 0)))
       (
       some ((((), (true, ())), ((j4.2.1.1, (j4.2.1.2.1, (j4.2.1.2.2.1, ()))), ((u6.1.1.1, (u6.1.1.2.1, (u6.1.1.2.2.1, ()))), ())))))
       (
       sel (!((decide (u6.1.1.1 = j4.2.1.1)) && ((decide (u6.1.1.2.1 = j4.2.1.2.1)) && (u6.1.1.2.2.1 == j4.2.1.2.2.1))))
        (
        some ((((), (true, ())), ((j4.2.1.1, (j4.2.1.2.1, (j4.2.1.2.2.1, ()))), ((u6.1.1.1, (u6.1.1.2.1, (u6.1.1.2.2.1, ()))), ())))))
        (
        sel (!u7.1.2.1)
         (
         some ((((), (true, ())), ((j4.2.1.1, (j4.2.1.2.1, (j4.2.1.2.2.1, ()))), ((u6.1.1.1, (u6.1.1.2.1, (u6.1.1.2.2.1, ()))), ())))))
         (
         some ((((), ((!(decide (u7.1.1 = (Int.tmod u5.1.1 1000)))), ())), ((j4.2.1.1, (j4.2.1.2.1, (j4.2.1.2.2.1, ()))), ((u6.1.1.1, (u6.1.1.2.1, (u6.1.1.2.2.1, ()))), ())))))))) fun j8 =>
     sel j8.1.2.1
      (
      some ((false, ()), ()))
      (
      andK (impl_CheckToken N [u1.1.1] u1.1.2.2.1 u2.1.1 (IntKind.i64.wrap ((IntKind.i64.wrap (j4.2.1.2.1 + (Int.tmod u5.1.1 1000))) + 1)) (Int.tmod u5.1.1 1000)) fun u9 =>
      sel (!(decide (u9.1.2.1 = 4)))
       (
       some ((false, ()), ()))
       (
       andK (α := (((Bool × Unit) × ((ByteArray × (Int × (Bool × Unit))) × ((ByteArray × (Int × (Bool × Unit))) × ((ByteArray × (Int × (Bool × Unit))) × Unit)))) ⊕ ((Unit × Unit) × ((ByteArray × (Int × (Bool × Unit))) × ((ByteArray × (Int × (Bool × Unit))) × ((ByteArray × (Int × (Bool × Unit))) × Unit)))))) (
        sel (decide (0 < j8.2.1.2.1))
         (
         andK (impl_CheckToken N [u1.1.1] u1.1.2.2.1 u2.1.1 (IntKind.i64.wrap (j8.2.1.2.1 - 1)) (Int.tmod u5.1.1 1000)) fun u10 =>
         sel (!(decide (u10.1.2.1 = 4)))
          (
          some (.inl ((false, ()), ((j8.2.1.1, (j8.2.1.2.1, (j8.2.1.2.2.1, ()))), ((j8.2.2.1.1, (j8.2.2.1.2.1, (j8.2.2.1.2.2.1, ()))), ((u9.1.1.1, (u9.1.1.2.1, (u9.1.1.2.2.1, ()))), ()))))))
          (
          some (.inr ((((), ()), ((j8.2.1.1, (j8.2.1.2.1, (j8.2.1.2.2.1, ()))), ((j8.2.2.1.1, (j8.2.2.1.2.1, (j8.2.2.1.2.2.1, ()))), ((u9.1.1.1, (u9.1.1.2.1, (u9.1.1.2.2.1, ()))), ()))))))))
         (
         some (.inr ((((), ()), ((j8.2.1.1, (j8.2.1.2.1, (j8.2.1.2.2.1, ()))), ((j8.2.2.1.1, (j8.2.2.1.2.1, (j8.2.2.1.2.2.1, ()))), ((u9.1.1.1, (u9.1.1.2.1, (u9.1.1.2.2.1, ()))), ())))))))) fun j11 =>
       orK j11 (fun x12 =>
        some ((x12.1.1, ()), ()))
        (fun x13 =>
        andK (laws_numberOf N o) fun u14 =>
        andK (laws_turned N u1.1.1 u14.1.1) fun u15 =>
        andK (spec_CheckToken N [u15.1.1] u1.1.2.2.1 u2.1.1 (IntKind.i64.wrap (j4.2.1.2.1 + (Int.tmod u5.1.1 1000))) (Int.tmod u5.1.1 1000)) fun u16 =>
        andK (impl_CheckToken N [u15.1.1, u1.1.1] u1.1.2.2.1 u2.1.1 (IntKind.i64.wrap (j4.2.1.2.1 + (Int.tmod u5.1.1 1000))) (Int.tmod u5.1.1 1000)) fun u17 =>
        sel (!(decide (u16.1.2.1 = 3)))
         (
         some ((true, ()), ()))
         (
         sel (decide (u17.1.2.1 = 0))
          (
          some ((((decide (u17.1.1.1 = x13.2.1.1)) && ((decide (u17.1.1.2.1 = x13.2.1.2.1)) && (u17.1.1.2.2.1 == x13.2.1.2.2.1))), ()), ()))
          (
          some ((false, ()), ())))))))))) := by kernel_rfl
set_option maxRecDepth 100000 in
theorem laws_FnTokens.say (N : Nat) : SayOk Try.prog (laws_FnTokens.S N) := sayOk_mk (N := N) (H := laws_FnTokens.H) (preps := [⟨[], [], [], []⟩]) (l := laws_FnTokens.says) (fn := Try.f3) (c := bodyOf Try.f3)
  (by kernel_rfl) (by kernel_rfl) (by kernel_rfl) (by kernel_rfl) (by kernel_rfl) (by kernel_rfl) (by kernel_rfl)
  (fun N => SayAll.cons (spec_DrawMintToken.say N) (SayAll.cons (impl_MintToken.say N) (SayAll.cons (spec_MintToken.say N) (SayAll.cons (laws_numberOf.say N) (SayAll.cons (impl_CheckToken.say N) (SayAll.cons (impl_AgeOf.say N) (SayAll.cons (laws_turned.say N) (SayAll.cons (spec_CheckToken.say N) (SayAll.nil))))))))) (fun a s => by kernel_rfl)

end Go.Proofs.Ytakemokmdlogoaa.GFnTokens
