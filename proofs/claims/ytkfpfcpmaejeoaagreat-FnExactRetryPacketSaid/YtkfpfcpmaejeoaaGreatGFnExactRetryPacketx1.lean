-- Written by a program of this session out of the translation; Lean checks it.
import Derived.Test.YtkfpfcpmaejeoaaGreatPmLaw
import Derived.Test.YtkfpfcpmaejeoaaGreatProg
import Derived.Test.YtkfpfcpmaejeoaaGreatShelf
import Derived.Test.YtkfpfcpmaejeoaaGreatGFnExactRetryPacketx0
set_option linter.unusedVariables false
namespace Go.Proofs.YtkfpfcpmaejeoaaGreat.GFnExactRetryPacket
open Go Go.Proofs Go.Proofs.YtkfpfcpmaejeoaaGreatPM

/-! ### loop.example/g00206/impl.SealText: function 39 -/
noncomputable def impl_SealText.H : Hints := hintsOf [(5000001, .join [⟨.normal, [0, 1, 2, 3], [21], [ak_b], [], [⟨[], [], [], []⟩]⟩])]
noncomputable def impl_SealText.says (N : Nat) : List Say := [impl_sealOk.S N, impl_cipherOf.S N, impl_cipher_turned.S N, impl_cipher_tag.S N]
noncomputable def impl_SealText.call (N : Nat) : CallK := callBy (impl_SealText.says N)
noncomputable def impl_SealText.qt (N : Nat) : FuncId → List PV → Sig → Cl := qtBy (impl_SealText.says N)
noncomputable def impl_SealText (N : Nat) (key : ByteArray) (nonce : ByteArray) (beside : ByteArray) (text : ByteArray) : Option ((ByteArray × (Bool × Unit)) × Unit) :=
  ofFn Tryz.prog impl_SealText.call impl_SealText.qt impl_SealText.H N Tryz.f39 [ak_s, ak_s, ak_s, ak_s] [] [ak_s, ak_b] [] [⟨[], [], [], []⟩] (key, (nonce, (beside, (text, ())))) ()
noncomputable def impl_SealText.S (N : Nat) : Say := ⟨false, 39, [ak_s, ak_s, ak_s, ak_s], [], [ak_s, ak_b], [], fun a s => impl_SealText N a.1 a.2.1 a.2.2.1 a.2.2.2.1⟩
set_option maxRecDepth 100000 in
theorem impl_SealText.eq (N : Nat) (key : ByteArray) (nonce : ByteArray) (beside : ByteArray) (text : ByteArray) : impl_SealText N key nonce beside text =
 andK (α := ((Bool × Unit) × Unit)) (
  andK (impl_sealOk N key nonce beside) fun u1 =>
  sel (!u1.1.1)
   (
   some (((true, ()), ())))
   (
   some ((((decide (1500 < (text.size : Int))), ()), ())))) fun j2 =>
 sel j2.1.1
  (
  some (((⟨#[]⟩ : ByteArray), (false, ())), ()))
  (
  andK (impl_cipherOf N key) fun u3 =>
  andK (impl_cipher_turned N nonce text u3.2.2.1 u3.2.2.2.1) fun u4 =>
  andK (impl_cipher_tag N nonce beside u4.1.1 u4.2.2.1 u4.2.2.2.1) fun u5 =>
  chk (decide (u4.1.1.size + u5.1.1.size ≤ 9223372036854775807)) (
  some (((u4.1.1 ++ u5.1.1), (true, ())), ()))) := by kernel_rfl
set_option maxRecDepth 100000 in
theorem impl_SealText.say (N : Nat) : SayOk Tryz.prog (impl_SealText.S N) := sayOk_mk (N := N) (H := impl_SealText.H) (preps := [⟨[], [], [], []⟩]) (l := impl_SealText.says) (fn := Tryz.f39) (c := bodyOf Tryz.f39)
  (by kernel_rfl) (by kernel_rfl) (by kernel_rfl) (by kernel_rfl) (by kernel_rfl) (by kernel_rfl) (by kernel_rfl)
  (fun N => SayAll.cons (impl_sealOk.say N) (SayAll.cons (impl_cipherOf.say N) (SayAll.cons (impl_cipher_turned.say N) (SayAll.cons (impl_cipher_tag.say N) (SayAll.nil))))) (fun a s => by kernel_rfl)

/-! ### loop.example/g00206/impl.RetryTag: function 16 -/
noncomputable def impl_RetryTag.H : Hints := hintsOf [(5000001, .join [⟨.normal, [0, 1], [17], [ak_b], [], [⟨[], [], [], []⟩]⟩])]
noncomputable def impl_RetryTag.says (N : Nat) : List Say := [impl_ReadHex.S N, impl_byteCounted.S N, impl_SealText.S N]
noncomputable def impl_RetryTag.call (N : Nat) : CallK := callBy (impl_RetryTag.says N)
noncomputable def impl_RetryTag.qt (N : Nat) : FuncId → List PV → Sig → Cl := qtBy (impl_RetryTag.says N)
noncomputable def impl_RetryTag (N : Nat) (original : ByteArray) (packet : ByteArray) : Option ((ByteArray × (Bool × Unit)) × Unit) :=
  ofFn Tryz.prog impl_RetryTag.call impl_RetryTag.qt impl_RetryTag.H N Tryz.f16 [ak_s, ak_s] [] [ak_s, ak_b] [] [⟨[], [], [], []⟩] (original, (packet, ())) ()
noncomputable def impl_RetryTag.S (N : Nat) : Say := ⟨false, 16, [ak_s, ak_s], [], [ak_s, ak_b], [], fun a s => impl_RetryTag N a.1 a.2.1⟩
set_option maxRecDepth 100000 in
theorem impl_RetryTag.eq (N : Nat) (original : ByteArray) (packet : ByteArray) : impl_RetryTag N original packet =
 andK (α := ((Bool × Unit) × Unit)) (
  sel (decide (20 < (original.size : Int)))
   (
   some (((true, ()), ())))
   (
   some ((((decide (1000 < (packet.size : Int))), ()), ())))) fun j1 =>
 sel j1.1.1
  (
  some (((⟨#[]⟩ : ByteArray), (false, ())), ()))
  (
  andK (impl_ReadHex N (⟨#[98, 101, 48, 99, 54, 57, 48, 98, 57, 102, 54, 54, 53, 55, 53, 97, 49, 100, 55, 54, 54, 98, 53, 52, 101, 51, 54, 56, 99, 56, 52, 101]⟩ : ByteArray)) fun u2 =>
  andK (impl_ReadHex N (⟨#[52, 54, 49, 53, 57, 57, 100, 51, 53, 100, 54, 51, 50, 98, 102, 50, 50, 51, 57, 56, 50, 53, 98, 98]⟩ : ByteArray)) fun u3 =>
  andK (impl_byteCounted N original) fun u4 =>
  chk (decide (u4.1.1.size + packet.size ≤ 9223372036854775807)) (
  andK (impl_SealText N u2.1.1 u3.1.1 (u4.1.1 ++ packet) (⟨#[]⟩ : ByteArray)) fun u5 =>
  some ((u5.1.1, (u5.1.2.1, ())), ()))) := by kernel_rfl
set_option maxRecDepth 100000 in
theorem impl_RetryTag.say (N : Nat) : SayOk Tryz.prog (impl_RetryTag.S N) := sayOk_mk (N := N) (H := impl_RetryTag.H) (preps := [⟨[], [], [], []⟩]) (l := impl_RetryTag.says) (fn := Tryz.f16) (c := bodyOf Tryz.f16)
  (by kernel_rfl) (by kernel_rfl) (by kernel_rfl) (by kernel_rfl) (by kernel_rfl) (by kernel_rfl) (by kernel_rfl)
  (fun N => SayAll.cons (impl_ReadHex.say N) (SayAll.cons (impl_byteCounted.say N) (SayAll.cons (impl_SealText.say N) (SayAll.nil)))) (fun a s => by kernel_rfl)

/-! ### loop.example/g00206/impl.RetryPacket: function 9 -/
noncomputable def impl_RetryPacket.H : Hints := hintsOf [(5000001, .join [⟨.normal, [1, 2], [3, 6, 29], [.one (.ptr 0 0), .one (.ptr 1 0), ak_b], [.cells [ck_i, ck_i, ck_i, ck_s, ck_s, ck_s, ck_s, .sh (.rows (.int .i64))], .cells [ck_i, ck_i, ck_i, ck_s, ck_s, ck_s, ck_s, .nil]], [⟨[], [], [], []⟩]⟩])]
noncomputable def impl_RetryPacket.says (N : Nat) : List Say := [impl_GoodHeader.S N, impl_in.S N, impl_Header_bytes.S N, impl_RetryTag.S N]
noncomputable def impl_RetryPacket.call (N : Nat) : CallK := callBy (impl_RetryPacket.says N)
noncomputable def impl_RetryPacket.qt (N : Nat) : FuncId → List PV → Sig → Cl := qtBy (impl_RetryPacket.says N)
noncomputable def impl_RetryPacket (N : Nat) (h_0 : Int) (h_1 : Int) (h_2 : Int) (h_3 : ByteArray) (h_4 : ByteArray) (h_5 : ByteArray) (h_6 : ByteArray) (h_7 : (List Int)) (token : ByteArray) (scid : ByteArray) : Option (((Int × (Int × (Int × (ByteArray × (ByteArray × (ByteArray × (ByteArray × (Unit × Unit)))))))) × (Bool × Unit)) × Unit) :=
  ofFn Tryz.prog impl_RetryPacket.call impl_RetryPacket.qt impl_RetryPacket.H N Tryz.f9 [.agg [ck_i, ck_i, ck_i, ck_s, ck_s, ck_s, ck_s, .sh (.rows (.int .i64))], ak_s, ak_s] [] [.agg [ck_i, ck_i, ck_i, ck_s, ck_s, ck_s, ck_s, .nil], ak_b] [] [⟨[], [], [], []⟩] ((h_0, (h_1, (h_2, (h_3, (h_4, (h_5, (h_6, (h_7, ())))))))), (token, (scid, ()))) ()
noncomputable def impl_RetryPacket.S (N : Nat) : Say := ⟨false, 9, [.agg [ck_i, ck_i, ck_i, ck_s, ck_s, ck_s, ck_s, .sh (.rows (.int .i64))], ak_s, ak_s], [], [.agg [ck_i, ck_i, ck_i, ck_s, ck_s, ck_s, ck_s, .nil], ak_b], [], fun a s => impl_RetryPacket N a.1.1 a.1.2.1 a.1.2.2.1 a.1.2.2.2.1 a.1.2.2.2.2.1 a.1.2.2.2.2.2.1 a.1.2.2.2.2.2.2.1 a.1.2.2.2.2.2.2.2.1 a.2.1 a.2.2.1⟩
set_option maxRecDepth 100000 in
theorem impl_RetryPacket.eq (N : Nat) (h_0 : Int) (h_1 : Int) (h_2 : Int) (h_3 : ByteArray) (h_4 : ByteArray) (h_5 : ByteArray) (h_6 : ByteArray) (h_7 : (List Int)) (token : ByteArray) (scid : ByteArray) : impl_RetryPacket N h_0 h_1 h_2 h_3 h_4 h_5 h_6 h_7 token scid =
 andK (α := ((Unit × (Unit × (Bool × Unit))) × ((Int × (Int × (Int × (ByteArray × (ByteArray × (ByteArray × (ByteArray × ((List Int) × Unit)))))))) × ((Int × (Int × (Int × (ByteArray × (ByteArray × (ByteArray × (ByteArray × (Unit × Unit)))))))) × Unit)))) (
  andK (impl_GoodHeader N h_0 h_1 h_2 h_3 h_4 h_5 h_6 h_7) fun u1 =>
  sel (!u1.1.1)
   (
   some ((((), ((), (true, ()))), ((h_0, (h_1, (h_2, (h_3, (h_4, (h_5, (h_6, (h_7, ())))))))), ((0, (0, (0, ((⟨#[]⟩ : ByteArray), ((⟨#[]⟩ : ByteArray), ((⟨#[]⟩ : ByteArray), ((⟨#[]⟩ : ByteArray), ((), ())))))))), ())))))
   (
   sel (!(decide (h_0 = 0)))
    (
    some ((((), ((), (true, ()))), ((h_0, (h_1, (h_2, (h_3, (h_4, (h_5, (h_6, (h_7, ())))))))), ((0, (0, (0, ((⟨#[]⟩ : ByteArray), ((⟨#[]⟩ : ByteArray), ((⟨#[]⟩ : ByteArray), ((⟨#[]⟩ : ByteArray), ((), ())))))))), ())))))
    (
    andK (impl_in N (token.size : Int) 1 200) fun u2 =>
    sel (!u2.1.1)
     (
     some ((((), ((), (true, ()))), ((h_0, (h_1, (h_2, (h_3, (h_4, (h_5, (h_6, (h_7, ())))))))), ((0, (0, (0, ((⟨#[]⟩ : ByteArray), ((⟨#[]⟩ : ByteArray), ((⟨#[]⟩ : ByteArray), ((⟨#[]⟩ : ByteArray), ((), ())))))))), ())))))
     (
     some ((((), ((), ((decide (20 < (scid.size : Int))), ()))), ((h_0, (h_1, (h_2, (h_3, (h_4, (h_5, (h_6, (h_7, ())))))))), ((0, (0, (0, ((⟨#[]⟩ : ByteArray), ((⟨#[]⟩ : ByteArray), ((⟨#[]⟩ : ByteArray), ((⟨#[]⟩ : ByteArray), ((), ())))))))), ())))))))) fun j3 =>
 sel j3.1.2.2.1
  (
  some (((0, (0, (0, ((⟨#[]⟩ : ByteArray), ((⟨#[]⟩ : ByteArray), ((⟨#[]⟩ : ByteArray), ((⟨#[]⟩ : ByteArray), ((), ())))))))), (false, ())), ()))
  (
  andK (impl_Header_bytes N 3 0 j3.2.1.2.2.1 j3.2.1.2.2.2.2.1 scid (⟨#[]⟩ : ByteArray) token) fun u4 =>
  andK (impl_RetryTag N j3.2.1.2.2.2.1 u4.1.1) fun u5 =>
  chk (decide (u4.2.1.2.2.2.2.2.2.1.size + u5.1.1.size ≤ 9223372036854775807)) (
  some (((u4.2.1.1, (u4.2.1.2.1, (u4.2.1.2.2.1, (u4.2.1.2.2.2.1, (u4.2.1.2.2.2.2.1, (u4.2.1.2.2.2.2.2.1, ((u4.2.1.2.2.2.2.2.2.1 ++ u5.1.1), ((), ())))))))), (true, ())), ()))) := by kernel_rfl
set_option maxRecDepth 100000 in
theorem impl_RetryPacket.say (N : Nat) : SayOk Tryz.prog (impl_RetryPacket.S N) := sayOk_mk (N := N) (H := impl_RetryPacket.H) (preps := [⟨[], [], [], []⟩]) (l := impl_RetryPacket.says) (fn := Tryz.f9) (c := bodyOf Tryz.f9)
  (by kernel_rfl) (by kernel_rfl) (by kernel_rfl) (by kernel_rfl) (by kernel_rfl) (by kernel_rfl) (by kernel_rfl)
  (fun N => SayAll.cons (impl_GoodHeader.say N) (SayAll.cons (impl_in.say N) (SayAll.cons (impl_Header_bytes.say N) (SayAll.cons (impl_RetryTag.say N) (SayAll.nil))))) (fun a s => by kernel_rfl)
noncomputable def impl_RetryPacket.SB (N : Nat) : Say := impl_RetryPacket.S N |>.lent
theorem impl_RetryPacket.sayB (N : Nat) : SayOk Tryz.prog (impl_RetryPacket.SB N) := (impl_RetryPacket.say N).lent

/-! ### loop.example/g00206/laws.eqIntS: function 30 -/
noncomputable def laws_eqIntS.H : Hints := hintsOf [(2000004, .loop ⟨.normal, [0, 1], [5], [ak_i], [], [⟨[], [], [], []⟩]⟩ [⟨.ret, [], [4], [ak_b], [], [⟨[], [], [], []⟩]⟩, ⟨(.exit 0), [], [], [], [], [⟨[], [], [], []⟩]⟩])]
noncomputable def laws_eqIntS.says (N : Nat) : List Say := []
noncomputable def laws_eqIntS.call (N : Nat) : CallK := callBy (laws_eqIntS.says N)
noncomputable def laws_eqIntS.qt (N : Nat) : FuncId → List PV → Sig → Cl := qtBy (laws_eqIntS.says N)
noncomputable def laws_eqIntS.l0.hd : Alt := ⟨.normal, [0, 1], [5], [ak_i], [], [⟨[], [], [], []⟩]⟩
noncomputable def laws_eqIntS.l0.outs : List Alt := [⟨.ret, [], [4], [ak_b], [], [⟨[], [], [], []⟩]⟩, ⟨(.exit 0), [], [], [], [], [⟨[], [], [], []⟩]⟩]
noncomputable def laws_eqIntS.l0 (N : Nat) (a1 : (List Int)) (b1 : (List Int)) (i : Int) : Option (((Bool × Unit) × Unit) ⊕ (Unit × Unit)) :=
  loopK Tryz.prog laws_eqIntS.call laws_eqIntS.qt laws_eqIntS.H (codeAt (bodyOf Tryz.f30) [1, 1, 0, 1, 0, 0]) 0 laws_eqIntS.l0.hd laws_eqIntS.l0.outs [(0, .rows false (.int .i64) a1), (1, .rows false (.int .i64) b1)] N ((i, ()), ())
noncomputable def laws_eqIntS (N : Nat) (a : (List Int)) (b : (List Int)) : Option ((Bool × Unit) × Unit) :=
  ofFn Tryz.prog laws_eqIntS.call laws_eqIntS.qt laws_eqIntS.H N Tryz.f30 [.one (.sh (.rows (.int .i64))), .one (.sh (.rows (.int .i64)))] [] [ak_b] [] [⟨[], [], [], []⟩] (a, (b, ())) ()
noncomputable def laws_eqIntS.S (N : Nat) : Say := ⟨false, 30, [.one (.sh (.rows (.int .i64))), .one (.sh (.rows (.int .i64)))], [], [ak_b], [], fun a s => laws_eqIntS N a.1 a.2.1⟩
set_option maxRecDepth 100000 in
theorem laws_eqIntS.l0.eq (N : Nat) (a1 : (List Int)) (b1 : (List Int)) (i : Int) : laws_eqIntS.l0 (N + 1) a1 b1 i =
 sel (decide (i < (a1.length : Int)))
  (
  chk ((decide (0 ≤ i)) && (decide (i < (a1.length : Int)))) (
  chk ((decide (0 ≤ i)) && (decide (i < (b1.length : Int)))) (
  sel (!(decide ((a1.getD (Int.toNat i) 0) = (b1.getD (Int.toNat i) 0))))
   (
   some (.inl ((false, ()), ())))
   (
   laws_eqIntS.l0 N a1 b1 (IntKind.i64.wrap (i + 1))))))
  (
  some (.inr (((), ())))) := by kernel_rfl
set_option maxRecDepth 100000 in
theorem laws_eqIntS.eq (N : Nat) (a : (List Int)) (b : (List Int)) : laws_eqIntS N a b =
 sel (!(decide ((a.length : Int) = (b.length : Int))))
  (
  some ((false, ()), ()))
  (
  andK (laws_eqIntS.l0 N a b 0) fun l1 =>
  orK l1 (fun x2 =>
   some ((x2.1.1, ()), ()))
   (fun x3 =>
   some ((true, ()), ()))) := by kernel_rfl
set_option maxRecDepth 100000 in
theorem laws_eqIntS.say (N : Nat) : SayOk Tryz.prog (laws_eqIntS.S N) := sayOk_mk (N := N) (H := laws_eqIntS.H) (preps := [⟨[], [], [], []⟩]) (l := laws_eqIntS.says) (fn := Tryz.f30) (c := bodyOf Tryz.f30)
  (by kernel_rfl) (by kernel_rfl) (by kernel_rfl) (by kernel_rfl) (by kernel_rfl) (by kernel_rfl) (by kernel_rfl)
  (fun N => SayAll.nil) (fun a s => by kernel_rfl)

/-! ### loop.example/g00206/laws.eqHeader: function 10 -/
noncomputable def laws_eqHeader.H : Hints := hintsOf []
noncomputable def laws_eqHeader.says (N : Nat) : List Say := [laws_eqIntS.S N]
noncomputable def laws_eqHeader.call (N : Nat) : CallK := callBy (laws_eqHeader.says N)
noncomputable def laws_eqHeader.qt (N : Nat) : FuncId → List PV → Sig → Cl := qtBy (laws_eqHeader.says N)
noncomputable def laws_eqHeader (N : Nat) (a_0 : Int) (a_1 : Int) (a_2 : Int) (a_3 : ByteArray) (a_4 : ByteArray) (a_5 : ByteArray) (a_6 : ByteArray) (a_7 : (List Int)) (b_0 : Int) (b_1 : Int) (b_2 : Int) (b_3 : ByteArray) (b_4 : ByteArray) (b_5 : ByteArray) (b_6 : ByteArray) (b_7 : (List Int)) : Option ((Bool × Unit) × Unit) :=
  ofFn Tryz.prog laws_eqHeader.call laws_eqHeader.qt laws_eqHeader.H N Tryz.f10 [.agg [ck_i, ck_i, ck_i, ck_s, ck_s, ck_s, ck_s, .sh (.rows (.int .i64))], .agg [ck_i, ck_i, ck_i, ck_s, ck_s, ck_s, ck_s, .sh (.rows (.int .i64))]] [] [ak_b] [] [⟨[], [], [], []⟩] ((a_0, (a_1, (a_2, (a_3, (a_4, (a_5, (a_6, (a_7, ())))))))), ((b_0, (b_1, (b_2, (b_3, (b_4, (b_5, (b_6, (b_7, ())))))))), ())) ()
noncomputable def laws_eqHeader.S (N : Nat) : Say := ⟨false, 10, [.agg [ck_i, ck_i, ck_i, ck_s, ck_s, ck_s, ck_s, .sh (.rows (.int .i64))], .agg [ck_i, ck_i, ck_i, ck_s, ck_s, ck_s, ck_s, .sh (.rows (.int .i64))]], [], [ak_b], [], fun a s => laws_eqHeader N a.1.1 a.1.2.1 a.1.2.2.1 a.1.2.2.2.1 a.1.2.2.2.2.1 a.1.2.2.2.2.2.1 a.1.2.2.2.2.2.2.1 a.1.2.2.2.2.2.2.2.1 a.2.1.1 a.2.1.2.1 a.2.1.2.2.1 a.2.1.2.2.2.1 a.2.1.2.2.2.2.1 a.2.1.2.2.2.2.2.1 a.2.1.2.2.2.2.2.2.1 a.2.1.2.2.2.2.2.2.2.1⟩
set_option maxRecDepth 100000 in
theorem laws_eqHeader.eq (N : Nat) (a_0 : Int) (a_1 : Int) (a_2 : Int) (a_3 : ByteArray) (a_4 : ByteArray) (a_5 : ByteArray) (a_6 : ByteArray) (a_7 : (List Int)) (b_0 : Int) (b_1 : Int) (b_2 : Int) (b_3 : ByteArray) (b_4 : ByteArray) (b_5 : ByteArray) (b_6 : ByteArray) (b_7 : (List Int)) : laws_eqHeader N a_0 a_1 a_2 a_3 a_4 a_5 a_6 a_7 b_0 b_1 b_2 b_3 b_4 b_5 b_6 b_7 =
 sel (!(decide (a_0 = b_0)))
  (
  some ((false, ()), ()))
  (
  sel (!(decide (a_1 = b_1)))
   (
   some ((false, ()), ()))
   (
   sel (!(decide (a_2 = b_2)))
    (
    some ((false, ()), ()))
    (
    sel (!(decide (a_3 = b_3)))
     (
     some ((false, ()), ()))
     (
     sel (!(decide (a_4 = b_4)))
      (
      some ((false, ()), ()))
      (
      sel (!(decide (a_5 = b_5)))
       (
       some ((false, ()), ()))
       (
       sel (!(decide (a_6 = b_6)))
        (
        some ((false, ()), ()))
        (
        andK (laws_eqIntS N a_7 b_7) fun u1 =>
        sel (!u1.1.1)
         (
         some ((false, ()), ()))
         (
         some ((true, ()), ()))))))))) := by kernel_rfl
set_option maxRecDepth 100000 in
theorem laws_eqHeader.say (N : Nat) : SayOk Tryz.prog (laws_eqHeader.S N) := sayOk_mk (N := N) (H := laws_eqHeader.H) (preps := [⟨[], [], [], []⟩]) (l := laws_eqHeader.says) (fn := Tryz.f10) (c := bodyOf Tryz.f10)
  (by kernel_rfl) (by kernel_rfl) (by kernel_rfl) (by kernel_rfl) (by kernel_rfl) (by kernel_rfl) (by kernel_rfl)
  (fun N => SayAll.cons (laws_eqIntS.say N) (SayAll.nil)) (fun a s => by kernel_rfl)
noncomputable def laws_eqHeader.SB (N : Nat) : Say := laws_eqHeader.S N |>.lent
theorem laws_eqHeader.sayB (N : Nat) : SayOk Tryz.prog (laws_eqHeader.SB N) := (laws_eqHeader.say N).lent

/-! ### loop.example/g00206/laws.markIntS: function 31 -/
noncomputable def laws_markIntS.H : Hints := hintsOf [(2000002, .loop ⟨.normal, [], [0, 1, 5], [.one (.own 0), ak_i, ak_i], [.rows (.int .i64) true], [⟨[], [], [], []⟩]⟩ [⟨(.exit 0), [], [1], [ak_i], [.rows (.int .i64) true], [⟨[], [], [], []⟩]⟩])]
noncomputable def laws_markIntS.says (N : Nat) : List Say := []
noncomputable def laws_markIntS.call (N : Nat) : CallK := callBy (laws_markIntS.says N)
noncomputable def laws_markIntS.qt (N : Nat) : FuncId → List PV → Sig → Cl := qtBy (laws_markIntS.says N)
noncomputable def laws_markIntS.l0.hd : Alt := ⟨.normal, [], [0, 1, 5], [.one (.own 0), ak_i, ak_i], [.rows (.int .i64) true], [⟨[], [], [], []⟩]⟩
noncomputable def laws_markIntS.l0.outs : List Alt := [⟨(.exit 0), [], [1], [ak_i], [.rows (.int .i64) true], [⟨[], [], [], []⟩]⟩]
noncomputable def laws_markIntS.l0 (N : Nat) (k1 : Int) (i : Int) (p01 : (List Int)) : Option ((Int × Unit) × ((List Int) × Unit)) :=
  loopK Tryz.prog laws_markIntS.call laws_markIntS.qt laws_markIntS.H (codeAt (bodyOf Tryz.f31) [1, 0, 1, 0, 0]) 1 laws_markIntS.l0.hd laws_markIntS.l0.outs [] N (((), (k1, (i, ()))), (p01, ()))
noncomputable def laws_markIntS (N : Nat) (k : Int) (p0 : (List Int)) : Option ((Int × Unit) × ((List Int) × Unit)) :=
  ofFn Tryz.prog laws_markIntS.call laws_markIntS.qt laws_markIntS.H N Tryz.f31 [.one (.own 0), ak_i] [.rows (.int .i64)] [ak_i] [.rows (.int .i64) true] [⟨[], [], [], []⟩] ((), (k, ())) (p0, ())
noncomputable def laws_markIntS.S (N : Nat) : Say := ⟨false, 31, [.one (.own 0), ak_i], [.rows (.int .i64)], [ak_i], [.rows (.int .i64) true], fun a s => laws_markIntS N a.2.1 s.1⟩
set_option maxRecDepth 100000 in
theorem laws_markIntS.l0.eq (N : Nat) (k1 : Int) (i : Int) (p01 : (List Int)) : laws_markIntS.l0 (N + 1) k1 i p01 =
 sel (decide (i < (p01.length : Int)))
  (
  chk ((decide (0 ≤ i)) && (decide (i < (p01.length : Int)))) (
  laws_markIntS.l0 N (IntKind.i64.wrap (k1 + 1)) (IntKind.i64.wrap (i + 1)) (p01.set (Int.toNat i) k1)))
  (
  some (((k1, ()), (p01, ())))) := by kernel_rfl
set_option maxRecDepth 100000 in
theorem laws_markIntS.eq (N : Nat) (k : Int) (p0 : (List Int)) : laws_markIntS N k p0 =
 andK (laws_markIntS.l0 N k 0 p0) fun l1 =>
 some ((l1.1.1, ()), (l1.2.1, ())) := by kernel_rfl
set_option maxRecDepth 100000 in
theorem laws_markIntS.say (N : Nat) : SayOk Tryz.prog (laws_markIntS.S N) := sayOk_mk (N := N) (H := laws_markIntS.H) (preps := [⟨[], [], [], []⟩]) (l := laws_markIntS.says) (fn := Tryz.f31) (c := bodyOf Tryz.f31)
  (by kernel_rfl) (by kernel_rfl) (by kernel_rfl) (by kernel_rfl) (by kernel_rfl) (by kernel_rfl) (by kernel_rfl)
  (fun N => SayAll.nil) (fun a s => by kernel_rfl)

/-! ### loop.example/g00206/laws.markHeader: function 11 -/
noncomputable def laws_markHeader.H : Hints := hintsOf []
noncomputable def laws_markHeader.says (N : Nat) : List Say := [laws_markIntS.S N]
noncomputable def laws_markHeader.call (N : Nat) : CallK := callBy (laws_markHeader.says N)
noncomputable def laws_markHeader.qt (N : Nat) : FuncId → List PV → Sig → Cl := qtBy (laws_markHeader.says N)
noncomputable def laws_markHeader (N : Nat) (a_0 : Int) (a_1 : Int) (a_2 : Int) (a_3 : ByteArray) (a_4 : ByteArray) (a_5 : ByteArray) (a_6 : ByteArray) (k : Int) (p0 : (List Int)) : Option ((Int × Unit) × ((List Int) × Unit)) :=
  ofFn Tryz.prog laws_markHeader.call laws_markHeader.qt laws_markHeader.H N Tryz.f11 [.agg [ck_i, ck_i, ck_i, ck_s, ck_s, ck_s, ck_s, .own 0], ak_i] [.rows (.int .i64)] [ak_i] [.rows (.int .i64) true] [⟨[], [], [], []⟩] ((a_0, (a_1, (a_2, (a_3, (a_4, (a_5, (a_6, ((), ())))))))), (k, ())) (p0, ())
noncomputable def laws_markHeader.S (N : Nat) : Say := ⟨false, 11, [.agg [ck_i, ck_i, ck_i, ck_s, ck_s, ck_s, ck_s, .own 0], ak_i], [.rows (.int .i64)], [ak_i], [.rows (.int .i64) true], fun a s => laws_markHeader N a.1.1 a.1.2.1 a.1.2.2.1 a.1.2.2.2.1 a.1.2.2.2.2.1 a.1.2.2.2.2.2.1 a.1.2.2.2.2.2.2.1 a.2.1 s.1⟩
set_option maxRecDepth 100000 in
theorem laws_markHeader.eq (N : Nat) (a_0 : Int) (a_1 : Int) (a_2 : Int) (a_3 : ByteArray) (a_4 : ByteArray) (a_5 : ByteArray) (a_6 : ByteArray) (k : Int) (p0 : (List Int)) : laws_markHeader N a_0 a_1 a_2 a_3 a_4 a_5 a_6 k p0 =
 andK (laws_markIntS N k p0) fun u1 =>
 some ((u1.1.1, ()), (u1.2.1, ())) := by kernel_rfl
set_option maxRecDepth 100000 in
theorem laws_markHeader.say (N : Nat) : SayOk Tryz.prog (laws_markHeader.S N) := sayOk_mk (N := N) (H := laws_markHeader.H) (preps := [⟨[], [], [], []⟩]) (l := laws_markHeader.says) (fn := Tryz.f11) (c := bodyOf Tryz.f11)
  (by kernel_rfl) (by kernel_rfl) (by kernel_rfl) (by kernel_rfl) (by kernel_rfl) (by kernel_rfl) (by kernel_rfl)
  (fun N => SayAll.cons (laws_markIntS.say N) (SayAll.nil)) (fun a s => by kernel_rfl)

/-! ### loop.example/g00206/laws.markIntS: function 31 -/
noncomputable def laws_markIntS_2.H : Hints := hintsOf [(2000002, .loop ⟨.normal, [0], [1, 5], [ak_i, ak_i], [], [⟨[], [], [], []⟩]⟩ [⟨(.exit 0), [], [1], [ak_i], [], [⟨[], [], [], []⟩]⟩])]
noncomputable def laws_markIntS_2.says (N : Nat) : List Say := []
noncomputable def laws_markIntS_2.call (N : Nat) : CallK := callBy (laws_markIntS_2.says N)
noncomputable def laws_markIntS_2.qt (N : Nat) : FuncId → List PV → Sig → Cl := qtBy (laws_markIntS_2.says N)
noncomputable def laws_markIntS_2.l0.hd : Alt := ⟨.normal, [0], [1, 5], [ak_i, ak_i], [], [⟨[], [], [], []⟩]⟩
noncomputable def laws_markIntS_2.l0.outs : List Alt := [⟨(.exit 0), [], [1], [ak_i], [], [⟨[], [], [], []⟩]⟩]
noncomputable def laws_markIntS_2.l0 (N : Nat) (k1 : Int) (i : Int) : Option ((Int × Unit) × Unit) :=
  loopK Tryz.prog laws_markIntS_2.call laws_markIntS_2.qt laws_markIntS_2.H (codeAt (bodyOf Tryz.f31) [1, 0, 1, 0, 0]) 0 laws_markIntS_2.l0.hd laws_markIntS_2.l0.outs [(0, .v (.slice none 0 0))] N ((k1, (i, ())), ())
noncomputable def laws_markIntS_2 (N : Nat) (k : Int) : Option ((Int × Unit) × Unit) :=
  ofFn Tryz.prog laws_markIntS_2.call laws_markIntS_2.qt laws_markIntS_2.H N Tryz.f31 [.one .nil, ak_i] [] [ak_i] [] [⟨[], [], [], []⟩] ((), (k, ())) ()
noncomputable def laws_markIntS_2.S (N : Nat) : Say := ⟨false, 31, [.one .nil, ak_i], [], [ak_i], [], fun a s => laws_markIntS_2 N a.2.1⟩
set_option maxRecDepth 100000 in
theorem laws_markIntS_2.l0.eq (N : Nat) (k1 : Int) (i : Int) : laws_markIntS_2.l0 (N + 1) k1 i =
 sel (decide (i < 0))
  (
  none)
  (
  some (((k1, ()), ()))) := by kernel_rfl
set_option maxRecDepth 100000 in
theorem laws_markIntS_2.eq (N : Nat) (k : Int) : laws_markIntS_2 N k =
 andK (laws_markIntS_2.l0 N k 0) fun l1 =>
 some ((l1.1.1, ()), ()) := by kernel_rfl
set_option maxRecDepth 100000 in
theorem laws_markIntS_2.say (N : Nat) : SayOk Tryz.prog (laws_markIntS_2.S N) := sayOk_mk (N := N) (H := laws_markIntS_2.H) (preps := [⟨[], [], [], []⟩]) (l := laws_markIntS_2.says) (fn := Tryz.f31) (c := bodyOf Tryz.f31)
  (by kernel_rfl) (by kernel_rfl) (by kernel_rfl) (by kernel_rfl) (by kernel_rfl) (by kernel_rfl) (by kernel_rfl)
  (fun N => SayAll.nil) (fun a s => by kernel_rfl)

/-! ### loop.example/g00206/laws.markHeader: function 11 -/
noncomputable def laws_markHeader_2.H : Hints := hintsOf []
noncomputable def laws_markHeader_2.says (N : Nat) : List Say := [laws_markIntS_2.S N]
noncomputable def laws_markHeader_2.call (N : Nat) : CallK := callBy (laws_markHeader_2.says N)
noncomputable def laws_markHeader_2.qt (N : Nat) : FuncId → List PV → Sig → Cl := qtBy (laws_markHeader_2.says N)
noncomputable def laws_markHeader_2 (N : Nat) (a_0 : Int) (a_1 : Int) (a_2 : Int) (a_3 : ByteArray) (a_4 : ByteArray) (a_5 : ByteArray) (a_6 : ByteArray) (k : Int) : Option ((Int × Unit) × Unit) :=
  ofFn Tryz.prog laws_markHeader_2.call laws_markHeader_2.qt laws_markHeader_2.H N Tryz.f11 [.agg [ck_i, ck_i, ck_i, ck_s, ck_s, ck_s, ck_s, .nil], ak_i] [] [ak_i] [] [⟨[], [], [], []⟩] ((a_0, (a_1, (a_2, (a_3, (a_4, (a_5, (a_6, ((), ())))))))), (k, ())) ()
noncomputable def laws_markHeader_2.S (N : Nat) : Say := ⟨false, 11, [.agg [ck_i, ck_i, ck_i, ck_s, ck_s, ck_s, ck_s, .nil], ak_i], [], [ak_i], [], fun a s => laws_markHeader_2 N a.1.1 a.1.2.1 a.1.2.2.1 a.1.2.2.2.1 a.1.2.2.2.2.1 a.1.2.2.2.2.2.1 a.1.2.2.2.2.2.2.1 a.2.1⟩
set_option maxRecDepth 100000 in
theorem laws_markHeader_2.eq (N : Nat) (a_0 : Int) (a_1 : Int) (a_2 : Int) (a_3 : ByteArray) (a_4 : ByteArray) (a_5 : ByteArray) (a_6 : ByteArray) (k : Int) : laws_markHeader_2 N a_0 a_1 a_2 a_3 a_4 a_5 a_6 k =
 andK (laws_markIntS_2 N k) fun u1 =>
 some ((u1.1.1, ()), ()) := by kernel_rfl
set_option maxRecDepth 100000 in
theorem laws_markHeader_2.say (N : Nat) : SayOk Tryz.prog (laws_markHeader_2.S N) := sayOk_mk (N := N) (H := laws_markHeader_2.H) (preps := [⟨[], [], [], []⟩]) (l := laws_markHeader_2.says) (fn := Tryz.f11) (c := bodyOf Tryz.f11)
  (by kernel_rfl) (by kernel_rfl) (by kernel_rfl) (by kernel_rfl) (by kernel_rfl) (by kernel_rfl) (by kernel_rfl)
  (fun N => SayAll.cons (laws_markIntS_2.say N) (SayAll.nil)) (fun a s => by kernel_rfl)

/-! ### loop.example/g00206/laws.heldIntS: function 32 -/
noncomputable def laws_heldIntS.H : Hints := hintsOf [(2000002, .loop ⟨.normal, [0], [1, 5], [ak_i, ak_i], [], [⟨[], [], [], []⟩]⟩ [⟨.ret, [], [4], [ak_i], [], [⟨[], [], [], []⟩]⟩, ⟨(.exit 0), [], [1], [ak_i], [], [⟨[], [], [], []⟩]⟩])]
noncomputable def laws_heldIntS.says (N : Nat) : List Say := []
noncomputable def laws_heldIntS.call (N : Nat) : CallK := callBy (laws_heldIntS.says N)
noncomputable def laws_heldIntS.qt (N : Nat) : FuncId → List PV → Sig → Cl := qtBy (laws_heldIntS.says N)
noncomputable def laws_heldIntS.l0.hd : Alt := ⟨.normal, [0], [1, 5], [ak_i, ak_i], [], [⟨[], [], [], []⟩]⟩
noncomputable def laws_heldIntS.l0.outs : List Alt := [⟨.ret, [], [4], [ak_i], [], [⟨[], [], [], []⟩]⟩, ⟨(.exit 0), [], [1], [ak_i], [], [⟨[], [], [], []⟩]⟩]
noncomputable def laws_heldIntS.l0 (N : Nat) (a1 : (List Int)) (k1 : Int) (i : Int) : Option (((Int × Unit) × Unit) ⊕ ((Int × Unit) × Unit)) :=
  loopK Tryz.prog laws_heldIntS.call laws_heldIntS.qt laws_heldIntS.H (codeAt (bodyOf Tryz.f32) [1, 0, 1, 0, 0]) 0 laws_heldIntS.l0.hd laws_heldIntS.l0.outs [(0, .rows false (.int .i64) a1)] N ((k1, (i, ())), ())
noncomputable def laws_heldIntS (N : Nat) (a : (List Int)) (k : Int) : Option ((Int × Unit) × Unit) :=
  ofFn Tryz.prog laws_heldIntS.call laws_heldIntS.qt laws_heldIntS.H N Tryz.f32 [.one (.sh (.rows (.int .i64))), ak_i] [] [ak_i] [] [⟨[], [], [], []⟩] (a, (k, ())) ()
noncomputable def laws_heldIntS.S (N : Nat) : Say := ⟨false, 32, [.one (.sh (.rows (.int .i64))), ak_i], [], [ak_i], [], fun a s => laws_heldIntS N a.1 a.2.1⟩
set_option maxRecDepth 100000 in
theorem laws_heldIntS.l0.eq (N : Nat) (a1 : (List Int)) (k1 : Int) (i : Int) : laws_heldIntS.l0 (N + 1) a1 k1 i =
 sel (decide (i < (a1.length : Int)))
  (
  chk ((decide (0 ≤ i)) && (decide (i < (a1.length : Int)))) (
  sel (!(decide ((a1.getD (Int.toNat i) 0) = k1)))
   (
   some (.inl (((-1), ()), ())))
   (
   laws_heldIntS.l0 N a1 (IntKind.i64.wrap (k1 + 1)) (IntKind.i64.wrap (i + 1)))))
  (
  some (.inr (((k1, ()), ())))) := by kernel_rfl
set_option maxRecDepth 100000 in
theorem laws_heldIntS.eq (N : Nat) (a : (List Int)) (k : Int) : laws_heldIntS N a k =
 andK (laws_heldIntS.l0 N a k 0) fun l1 =>
 orK l1 (fun x2 =>
  some ((x2.1.1, ()), ()))
  (fun x3 =>
  some ((x3.1.1, ()), ())) := by kernel_rfl
set_option maxRecDepth 100000 in
theorem laws_heldIntS.say (N : Nat) : SayOk Tryz.prog (laws_heldIntS.S N) := sayOk_mk (N := N) (H := laws_heldIntS.H) (preps := [⟨[], [], [], []⟩]) (l := laws_heldIntS.says) (fn := Tryz.f32) (c := bodyOf Tryz.f32)
  (by kernel_rfl) (by kernel_rfl) (by kernel_rfl) (by kernel_rfl) (by kernel_rfl) (by kernel_rfl) (by kernel_rfl)
  (fun N => SayAll.nil) (fun a s => by kernel_rfl)

/-! ### loop.example/g00206/laws.heldHeader: function 12 -/
noncomputable def laws_heldHeader.H : Hints := hintsOf []
noncomputable def laws_heldHeader.says (N : Nat) : List Say := [laws_heldIntS.S N]
noncomputable def laws_heldHeader.call (N : Nat) : CallK := callBy (laws_heldHeader.says N)
noncomputable def laws_heldHeader.qt (N : Nat) : FuncId → List PV → Sig → Cl := qtBy (laws_heldHeader.says N)
noncomputable def laws_heldHeader (N : Nat) (a_0 : Int) (a_1 : Int) (a_2 : Int) (a_3 : ByteArray) (a_4 : ByteArray) (a_5 : ByteArray) (a_6 : ByteArray) (a_7 : (List Int)) (k : Int) : Option ((Int × Unit) × Unit) :=
  ofFn Tryz.prog laws_heldHeader.call laws_heldHeader.qt laws_heldHeader.H N Tryz.f12 [.agg [ck_i, ck_i, ck_i, ck_s, ck_s, ck_s, ck_s, .sh (.rows (.int .i64))], ak_i] [] [ak_i] [] [⟨[], [], [], []⟩] ((a_0, (a_1, (a_2, (a_3, (a_4, (a_5, (a_6, (a_7, ())))))))), (k, ())) ()
noncomputable def laws_heldHeader.S (N : Nat) : Say := ⟨false, 12, [.agg [ck_i, ck_i, ck_i, ck_s, ck_s, ck_s, ck_s, .sh (.rows (.int .i64))], ak_i], [], [ak_i], [], fun a s => laws_heldHeader N a.1.1 a.1.2.1 a.1.2.2.1 a.1.2.2.2.1 a.1.2.2.2.2.1 a.1.2.2.2.2.2.1 a.1.2.2.2.2.2.2.1 a.1.2.2.2.2.2.2.2.1 a.2.1⟩
set_option maxRecDepth 100000 in
theorem laws_heldHeader.eq (N : Nat) (a_0 : Int) (a_1 : Int) (a_2 : Int) (a_3 : ByteArray) (a_4 : ByteArray) (a_5 : ByteArray) (a_6 : ByteArray) (a_7 : (List Int)) (k : Int) : laws_heldHeader N a_0 a_1 a_2 a_3 a_4 a_5 a_6 a_7 k =
 andK (laws_heldIntS N a_7 k) fun u1 =>
 sel (decide (u1.1.1 < 0))
  (
  some (((-1), ()), ()))
  (
  some ((u1.1.1, ()), ())) := by kernel_rfl
set_option maxRecDepth 100000 in
theorem laws_heldHeader.say (N : Nat) : SayOk Tryz.prog (laws_heldHeader.S N) := sayOk_mk (N := N) (H := laws_heldHeader.H) (preps := [⟨[], [], [], []⟩]) (l := laws_heldHeader.says) (fn := Tryz.f12) (c := bodyOf Tryz.f12)
  (by kernel_rfl) (by kernel_rfl) (by kernel_rfl) (by kernel_rfl) (by kernel_rfl) (by kernel_rfl) (by kernel_rfl)
  (fun N => SayAll.cons (laws_heldIntS.say N) (SayAll.nil)) (fun a s => by kernel_rfl)

/-! ### loop.example/g00206/laws.FnExactRetryPacket: function 3 -/
noncomputable def laws_FnExactRetryPacket.H : Hints := hintsOf [(5000012, .join [⟨.normal, [1, 2, 9, 12], [3, 8, 10, 11, 54], [.one (.ptr 0 0), .one (.ptr 2 0), .one (.ptr 4 0), .one (.ptr 5 0), ak_b], [.cells [ck_i, ck_i, ck_i, ck_s, ck_s, ck_s, ck_s, .sh (.rows (.int .i64))], .rows (.int .i64), .cells [ck_i, ck_i, ck_i, ck_s, ck_s, ck_s, ck_s, .nil], .rows (.int .i64), .cells [ck_i, ck_i, ck_i, ck_s, ck_s, ck_s, ck_s, .own 3], .cells [ck_i, ck_i, ck_i, ck_s, ck_s, ck_s, ck_s, .nil]], [⟨[], [], [], []⟩]⟩]),
  (5000018, .join [⟨.normal, [1, 2, 9], [3, 8, 11, 75], [.one (.ptr 0 0), .one (.ptr 2 0), .one (.ptr 5 0), ak_b], [.cells [ck_i, ck_i, ck_i, ck_s, ck_s, ck_s, ck_s, .sh (.rows (.int .i64))], .rows (.int .i64), .cells [ck_i, ck_i, ck_i, ck_s, ck_s, ck_s, ck_s, .nil], .rows (.int .i64), .cells [ck_i, ck_i, ck_i, ck_s, ck_s, ck_s, ck_s, .own 3], .cells [ck_i, ck_i, ck_i, ck_s, ck_s, ck_s, ck_s, .nil], .rows (.int .i64)], [⟨[], [], [], []⟩]⟩]),
  (5000029, .join [⟨.normal, [14], [11, 103], [.one (.ptr 5 0), ak_b], [.cells [ck_i, ck_i, ck_i, ck_s, ck_s, ck_s, ck_s, .sh (.rows (.int .i64))], .rows (.int .i64), .cells [ck_i, ck_i, ck_i, ck_s, ck_s, ck_s, ck_s, .nil], .rows (.int .i64), .cells [ck_i, ck_i, ck_i, ck_s, ck_s, ck_s, ck_s, .own 3], .cells [ck_i, ck_i, ck_i, ck_s, ck_s, ck_s, ck_s, .nil], .rows (.int .i64), .rows (.int .i64), .cells [ck_i, ck_i, ck_i, ck_s, ck_s, ck_s, ck_s, .nil]], [⟨[], [], [], []⟩]⟩])]
noncomputable def laws_FnExactRetryPacket.says (N : Nat) : List Say := [laws_szHeader.S N, laws_toHeader.S N, spec_RetryPacket.SB N, impl_RetryPacket.SB N, laws_eqHeader.S N, laws_eqHeader.SB N, laws_markHeader.S N, laws_markHeader_2.S N, laws_heldHeader.S N]
noncomputable def laws_FnExactRetryPacket.call (N : Nat) : CallK := callBy (laws_FnExactRetryPacket.says N)
noncomputable def laws_FnExactRetryPacket.qt (N : Nat) : FuncId → List PV → Sig → Cl := qtBy (laws_FnExactRetryPacket.says N)
noncomputable def laws_FnExactRetryPacket (N : Nat) (G_0 : Int) (G_1 : Int) (G_2 : Int) (G_3 : ByteArray) (G_4 : ByteArray) (G_5 : ByteArray) (G_6 : ByteArray) (G_7 : (List Int)) (o : ByteArray) (t : ByteArray) : Option ((Bool × Unit) × Unit) :=
  ofFn Tryz.prog laws_FnExactRetryPacket.call laws_FnExactRetryPacket.qt laws_FnExactRetryPacket.H N Tryz.f3 [.agg [ck_i, ck_i, ck_i, ck_s, ck_s, ck_s, ck_s, .sh (.rows (.int .i64))], ak_s, ak_s] [] [ak_b] [] [⟨[], [], [], []⟩] ((G_0, (G_1, (G_2, (G_3, (G_4, (G_5, (G_6, (G_7, ())))))))), (o, (t, ()))) ()
noncomputable def laws_FnExactRetryPacket.S (N : Nat) : Say := ⟨false, 3, [.agg [ck_i, ck_i, ck_i, ck_s, ck_s, ck_s, ck_s, .sh (.rows (.int .i64))], ak_s, ak_s], [], [ak_b], [], fun a s => laws_FnExactRetryPacket N a.1.1 a.1.2.1 a.1.2.2.1 a.1.2.2.2.1 a.1.2.2.2.2.1 a.1.2.2.2.2.2.1 a.1.2.2.2.2.2.2.1 a.1.2.2.2.2.2.2.2.1 a.2.1 a.2.2.1⟩
set_option maxRecDepth 100000 in
theorem laws_FnExactRetryPacket.eq (N : Nat) (G_0 : Int) (G_1 : Int) (G_2 : Int) (G_3 : ByteArray) (G_4 : ByteArray) (G_5 : ByteArray) (G_6 : ByteArray) (G_7 : (List Int)) (o : ByteArray) (t : ByteArray) : laws_FnExactRetryPacket N G_0 G_1 G_2 G_3 G_4 G_5 G_6 G_7 o t =
 sel (decide (1048576 < (o.size : Int)))
  (
  some ((true, ()), ()))
  (
  sel (decide (1048576 < (t.size : Int)))
   (
   some ((true, ()), ()))
   (
   andK (laws_szHeader N G_0 G_1 G_2 G_3 G_4 G_5 G_6 G_7 1048576) fun u1 =>
   sel (decide (u1.1.1 < 0))
    (
    some ((true, ()), ()))
    (
    andK (laws_toHeader N G_0 G_1 G_2 G_3 G_4 G_5 G_6 G_7) fun u2 =>
    andK (spec_RetryPacket N u2.1.1.1 u2.1.1.2.1 u2.1.1.2.2.1 u2.1.1.2.2.2.1 u2.1.1.2.2.2.2.1 u2.1.1.2.2.2.2.2.1 u2.1.1.2.2.2.2.2.2.1 u2.2.1 o t) fun u3 =>
    andK (laws_toHeader N G_0 G_1 G_2 G_3 G_4 G_5 G_6 G_7) fun u4 =>
    andK (impl_RetryPacket N u4.1.1.1 u4.1.1.2.1 u4.1.1.2.2.1 u4.1.1.2.2.2.1 u4.1.1.2.2.2.2.1 u4.1.1.2.2.2.2.2.1 u4.1.1.2.2.2.2.2.2.1 u4.2.1 o t) fun u5 =>
    andK (α := ((Unit × (Unit × (Unit × (Unit × (Bool × Unit))))) × ((Int × (Int × (Int × (ByteArray × (ByteArray × (ByteArray × (ByteArray × ((List Int) × Unit)))))))) × ((List Int) × ((Int × (Int × (Int × (ByteArray × (ByteArray × (ByteArray × (ByteArray × (Unit × Unit)))))))) × ((List Int) × ((Int × (Int × (Int × (ByteArray × (ByteArray × (ByteArray × (ByteArray × (Unit × Unit)))))))) × ((Int × (Int × (Int × (ByteArray × (ByteArray × (ByteArray × (ByteArray × (Unit × Unit)))))))) × Unit)))))))) (
     andK (laws_eqHeader N u5.1.1.1 u5.1.1.2.1 u5.1.1.2.2.1 u5.1.1.2.2.2.1 u5.1.1.2.2.2.2.1 u5.1.1.2.2.2.2.2.1 u5.1.1.2.2.2.2.2.2.1 [] u3.1.1.1 u3.1.1.2.1 u3.1.1.2.2.1 u3.1.1.2.2.2.1 u3.1.1.2.2.2.2.1 u3.1.1.2.2.2.2.2.1 u3.1.1.2.2.2.2.2.2.1 []) fun u6 =>
     sel (!u6.1.1)
      (
      some ((((), ((), ((), ((), (true, ()))))), ((G_0, (G_1, (G_2, (G_3, (G_4, (G_5, (G_6, (G_7, ())))))))), (u2.2.1, ((u3.1.1.1, (u3.1.1.2.1, (u3.1.1.2.2.1, (u3.1.1.2.2.2.1, (u3.1.1.2.2.2.2.1, (u3.1.1.2.2.2.2.2.1, (u3.1.1.2.2.2.2.2.2.1, ((), ())))))))), (u4.2.1, ((u4.1.1.1, (u4.1.1.2.1, (u4.1.1.2.2.1, (u4.1.1.2.2.2.1, (u4.1.1.2.2.2.2.1, (u4.1.1.2.2.2.2.2.1, (u4.1.1.2.2.2.2.2.2.1, ((), ())))))))), ((u5.1.1.1, (u5.1.1.2.1, (u5.1.1.2.2.1, (u5.1.1.2.2.2.1, (u5.1.1.2.2.2.2.1, (u5.1.1.2.2.2.2.2.1, (u5.1.1.2.2.2.2.2.2.1, ((), ())))))))), ())))))))))
      (
      some ((((), ((), ((), ((), ((!(u5.1.2.1 == u3.1.2.1)), ()))))), ((G_0, (G_1, (G_2, (G_3, (G_4, (G_5, (G_6, (G_7, ())))))))), (u2.2.1, ((u3.1.1.1, (u3.1.1.2.1, (u3.1.1.2.2.1, (u3.1.1.2.2.2.1, (u3.1.1.2.2.2.2.1, (u3.1.1.2.2.2.2.2.1, (u3.1.1.2.2.2.2.2.2.1, ((), ())))))))), (u4.2.1, ((u4.1.1.1, (u4.1.1.2.1, (u4.1.1.2.2.1, (u4.1.1.2.2.2.1, (u4.1.1.2.2.2.2.1, (u4.1.1.2.2.2.2.2.1, (u4.1.1.2.2.2.2.2.2.1, ((), ())))))))), ((u5.1.1.1, (u5.1.1.2.1, (u5.1.1.2.2.1, (u5.1.1.2.2.2.1, (u5.1.1.2.2.2.2.1, (u5.1.1.2.2.2.2.2.1, (u5.1.1.2.2.2.2.2.2.1, ((), ())))))))), ())))))))))) fun j7 =>
    sel j7.1.2.2.2.2.1
     (
     some ((false, ()), ()))
     (
     andK (laws_toHeader N j7.2.1.1 j7.2.1.2.1 j7.2.1.2.2.1 j7.2.1.2.2.2.1 j7.2.1.2.2.2.2.1 j7.2.1.2.2.2.2.2.1 j7.2.1.2.2.2.2.2.2.1 j7.2.1.2.2.2.2.2.2.2.1) fun u8 =>
     andK (laws_eqHeader N j7.2.2.2.2.2.1.1 j7.2.2.2.2.2.1.2.1 j7.2.2.2.2.2.1.2.2.1 j7.2.2.2.2.2.1.2.2.2.1 j7.2.2.2.2.2.1.2.2.2.2.1 j7.2.2.2.2.2.1.2.2.2.2.2.1 j7.2.2.2.2.2.1.2.2.2.2.2.2.1 j7.2.2.2.2.1 u8.1.1.1 u8.1.1.2.1 u8.1.1.2.2.1 u8.1.1.2.2.2.1 u8.1.1.2.2.2.2.1 u8.1.1.2.2.2.2.2.1 u8.1.1.2.2.2.2.2.2.1 u8.2.1) fun u9 =>
     sel (!u9.1.1)
      (
      some ((false, ()), ()))
      (
      andK (laws_markHeader N j7.2.2.2.2.2.1.1 j7.2.2.2.2.2.1.2.1 j7.2.2.2.2.2.1.2.2.1 j7.2.2.2.2.2.1.2.2.2.1 j7.2.2.2.2.2.1.2.2.2.2.1 j7.2.2.2.2.2.1.2.2.2.2.2.1 j7.2.2.2.2.2.1.2.2.2.2.2.2.1 1 j7.2.2.2.2.1) fun u10 =>
      andK (α := ((Unit × (Unit × (Unit × (Bool × Unit)))) × ((Int × (Int × (Int × (ByteArray × (ByteArray × (ByteArray × (ByteArray × ((List Int) × Unit)))))))) × ((List Int) × ((Int × (Int × (Int × (ByteArray × (ByteArray × (ByteArray × (ByteArray × (Unit × Unit)))))))) × ((List Int) × ((Int × (Int × (Int × (ByteArray × (ByteArray × (ByteArray × (ByteArray × (Unit × Unit)))))))) × ((Int × (Int × (Int × (ByteArray × (ByteArray × (ByteArray × (ByteArray × (Unit × Unit)))))))) × ((List Int) × Unit))))))))) (
       sel (decide (u10.1.1 < 0))
        (
        some ((((), ((), ((), (true, ())))), ((j7.2.1.1, (j7.2.1.2.1, (j7.2.1.2.2.1, (j7.2.1.2.2.2.1, (j7.2.1.2.2.2.2.1, (j7.2.1.2.2.2.2.2.1, (j7.2.1.2.2.2.2.2.2.1, (j7.2.1.2.2.2.2.2.2.2.1, ())))))))), (j7.2.2.1, ((j7.2.2.2.1.1, (j7.2.2.2.1.2.1, (j7.2.2.2.1.2.2.1, (j7.2.2.2.1.2.2.2.1, (j7.2.2.2.1.2.2.2.2.1, (j7.2.2.2.1.2.2.2.2.2.1, (j7.2.2.2.1.2.2.2.2.2.2.1, ((), ())))))))), (u10.2.1, ((j7.2.2.2.2.2.1.1, (j7.2.2.2.2.2.1.2.1, (j7.2.2.2.2.2.1.2.2.1, (j7.2.2.2.2.2.1.2.2.2.1, (j7.2.2.2.2.2.1.2.2.2.2.1, (j7.2.2.2.2.2.1.2.2.2.2.2.1, (j7.2.2.2.2.2.1.2.2.2.2.2.2.1, ((), ())))))))), ((j7.2.2.2.2.2.2.1.1, (j7.2.2.2.2.2.2.1.2.1, (j7.2.2.2.2.2.2.1.2.2.1, (j7.2.2.2.2.2.2.1.2.2.2.1, (j7.2.2.2.2.2.2.1.2.2.2.2.1, (j7.2.2.2.2.2.2.1.2.2.2.2.2.1, (j7.2.2.2.2.2.2.1.2.2.2.2.2.2.1, ((), ())))))))), (u8.2.1, ()))))))))))
        (
        andK (laws_eqHeader N j7.2.2.2.2.2.2.1.1 j7.2.2.2.2.2.2.1.2.1 j7.2.2.2.2.2.2.1.2.2.1 j7.2.2.2.2.2.2.1.2.2.2.1 j7.2.2.2.2.2.2.1.2.2.2.2.1 j7.2.2.2.2.2.2.1.2.2.2.2.2.1 j7.2.2.2.2.2.2.1.2.2.2.2.2.2.1 [] j7.2.2.2.1.1 j7.2.2.2.1.2.1 j7.2.2.2.1.2.2.1 j7.2.2.2.1.2.2.2.1 j7.2.2.2.1.2.2.2.2.1 j7.2.2.2.1.2.2.2.2.2.1 j7.2.2.2.1.2.2.2.2.2.2.1 []) fun u11 =>
        sel (!u11.1.1)
         (
         some ((((), ((), ((), (true, ())))), ((j7.2.1.1, (j7.2.1.2.1, (j7.2.1.2.2.1, (j7.2.1.2.2.2.1, (j7.2.1.2.2.2.2.1, (j7.2.1.2.2.2.2.2.1, (j7.2.1.2.2.2.2.2.2.1, (j7.2.1.2.2.2.2.2.2.2.1, ())))))))), (j7.2.2.1, ((j7.2.2.2.1.1, (j7.2.2.2.1.2.1, (j7.2.2.2.1.2.2.1, (j7.2.2.2.1.2.2.2.1, (j7.2.2.2.1.2.2.2.2.1, (j7.2.2.2.1.2.2.2.2.2.1, (j7.2.2.2.1.2.2.2.2.2.2.1, ((), ())))))))), (u10.2.1, ((j7.2.2.2.2.2.1.1, (j7.2.2.2.2.2.1.2.1, (j7.2.2.2.2.2.1.2.2.1, (j7.2.2.2.2.2.1.2.2.2.1, (j7.2.2.2.2.2.1.2.2.2.2.1, (j7.2.2.2.2.2.1.2.2.2.2.2.1, (j7.2.2.2.2.2.1.2.2.2.2.2.2.1, ((), ())))))))), ((j7.2.2.2.2.2.2.1.1, (j7.2.2.2.2.2.2.1.2.1, (j7.2.2.2.2.2.2.1.2.2.1, (j7.2.2.2.2.2.2.1.2.2.2.1, (j7.2.2.2.2.2.2.1.2.2.2.2.1, (j7.2.2.2.2.2.2.1.2.2.2.2.2.1, (j7.2.2.2.2.2.2.1.2.2.2.2.2.2.1, ((), ())))))))), (u8.2.1, ()))))))))))
         (
         some ((((), ((), ((), ((!(u5.1.2.1 == u3.1.2.1)), ())))), ((j7.2.1.1, (j7.2.1.2.1, (j7.2.1.2.2.1, (j7.2.1.2.2.2.1, (j7.2.1.2.2.2.2.1, (j7.2.1.2.2.2.2.2.1, (j7.2.1.2.2.2.2.2.2.1, (j7.2.1.2.2.2.2.2.2.2.1, ())))))))), (j7.2.2.1, ((j7.2.2.2.1.1, (j7.2.2.2.1.2.1, (j7.2.2.2.1.2.2.1, (j7.2.2.2.1.2.2.2.1, (j7.2.2.2.1.2.2.2.2.1, (j7.2.2.2.1.2.2.2.2.2.1, (j7.2.2.2.1.2.2.2.2.2.2.1, ((), ())))))))), (u10.2.1, ((j7.2.2.2.2.2.1.1, (j7.2.2.2.2.2.1.2.1, (j7.2.2.2.2.2.1.2.2.1, (j7.2.2.2.2.2.1.2.2.2.1, (j7.2.2.2.2.2.1.2.2.2.2.1, (j7.2.2.2.2.2.1.2.2.2.2.2.1, (j7.2.2.2.2.2.1.2.2.2.2.2.2.1, ((), ())))))))), ((j7.2.2.2.2.2.2.1.1, (j7.2.2.2.2.2.2.1.2.1, (j7.2.2.2.2.2.2.1.2.2.1, (j7.2.2.2.2.2.2.1.2.2.2.1, (j7.2.2.2.2.2.2.1.2.2.2.2.1, (j7.2.2.2.2.2.2.1.2.2.2.2.2.1, (j7.2.2.2.2.2.2.1.2.2.2.2.2.2.1, ((), ())))))))), (u8.2.1, ())))))))))))) fun j12 =>
      sel j12.1.2.2.2.1
       (
       some ((false, ()), ()))
       (
       andK (laws_markHeader_2 N j12.2.2.2.2.2.2.1.1 j12.2.2.2.2.2.2.1.2.1 j12.2.2.2.2.2.2.1.2.2.1 j12.2.2.2.2.2.2.1.2.2.2.1 j12.2.2.2.2.2.2.1.2.2.2.2.1 j12.2.2.2.2.2.2.1.2.2.2.2.2.1 j12.2.2.2.2.2.2.1.2.2.2.2.2.2.1 1) fun u13 =>
       andK (laws_heldHeader N j12.2.2.2.2.2.2.1.1 j12.2.2.2.2.2.2.1.2.1 j12.2.2.2.2.2.2.1.2.2.1 j12.2.2.2.2.2.2.1.2.2.2.1 j12.2.2.2.2.2.2.1.2.2.2.2.1 j12.2.2.2.2.2.2.1.2.2.2.2.2.1 j12.2.2.2.2.2.2.1.2.2.2.2.2.2.1 [] 1) fun u14 =>
       sel (decide (u14.1.1 < 0))
        (
        some ((false, ()), ()))
        (
        sel (!(decide (u14.1.1 = u13.1.1)))
         (
         some ((false, ()), ()))
         (
         andK (laws_toHeader N j12.2.1.1 j12.2.1.2.1 j12.2.1.2.2.1 j12.2.1.2.2.2.1 j12.2.1.2.2.2.2.1 j12.2.1.2.2.2.2.2.1 j12.2.1.2.2.2.2.2.2.1 j12.2.1.2.2.2.2.2.2.2.1) fun u15 =>
         andK (impl_RetryPacket N u15.1.1.1 u15.1.1.2.1 u15.1.1.2.2.1 u15.1.1.2.2.2.1 u15.1.1.2.2.2.2.1 u15.1.1.2.2.2.2.2.1 u15.1.1.2.2.2.2.2.2.1 u15.2.1 o t) fun u16 =>
         andK (α := ((Unit × (Bool × Unit)) × ((Int × (Int × (Int × (ByteArray × (ByteArray × (ByteArray × (ByteArray × ((List Int) × Unit)))))))) × ((List Int) × ((Int × (Int × (Int × (ByteArray × (ByteArray × (ByteArray × (ByteArray × (Unit × Unit)))))))) × ((List Int) × ((Int × (Int × (Int × (ByteArray × (ByteArray × (ByteArray × (ByteArray × (Unit × Unit)))))))) × ((Int × (Int × (Int × (ByteArray × (ByteArray × (ByteArray × (ByteArray × (Unit × Unit)))))))) × ((List Int) × ((List Int) × ((Int × (Int × (Int × (ByteArray × (ByteArray × (ByteArray × (ByteArray × (Unit × Unit)))))))) × Unit))))))))))) (
          andK (laws_eqHeader N u16.1.1.1 u16.1.1.2.1 u16.1.1.2.2.1 u16.1.1.2.2.2.1 u16.1.1.2.2.2.2.1 u16.1.1.2.2.2.2.2.1 u16.1.1.2.2.2.2.2.2.1 [] j12.2.2.2.1.1 j12.2.2.2.1.2.1 j12.2.2.2.1.2.2.1 j12.2.2.2.1.2.2.2.1 j12.2.2.2.1.2.2.2.2.1 j12.2.2.2.1.2.2.2.2.2.1 j12.2.2.2.1.2.2.2.2.2.2.1 []) fun u17 =>
          sel (!u17.1.1)
           (
           some ((((), (true, ())), ((j12.2.1.1, (j12.2.1.2.1, (j12.2.1.2.2.1, (j12.2.1.2.2.2.1, (j12.2.1.2.2.2.2.1, (j12.2.1.2.2.2.2.2.1, (j12.2.1.2.2.2.2.2.2.1, (j12.2.1.2.2.2.2.2.2.2.1, ())))))))), (j12.2.2.1, ((j12.2.2.2.1.1, (j12.2.2.2.1.2.1, (j12.2.2.2.1.2.2.1, (j12.2.2.2.1.2.2.2.1, (j12.2.2.2.1.2.2.2.2.1, (j12.2.2.2.1.2.2.2.2.2.1, (j12.2.2.2.1.2.2.2.2.2.2.1, ((), ())))))))), (j12.2.2.2.2.1, ((j12.2.2.2.2.2.1.1, (j12.2.2.2.2.2.1.2.1, (j12.2.2.2.2.2.1.2.2.1, (j12.2.2.2.2.2.1.2.2.2.1, (j12.2.2.2.2.2.1.2.2.2.2.1, (j12.2.2.2.2.2.1.2.2.2.2.2.1, (j12.2.2.2.2.2.1.2.2.2.2.2.2.1, ((), ())))))))), ((j12.2.2.2.2.2.2.1.1, (j12.2.2.2.2.2.2.1.2.1, (j12.2.2.2.2.2.2.1.2.2.1, (j12.2.2.2.2.2.2.1.2.2.2.1, (j12.2.2.2.2.2.2.1.2.2.2.2.1, (j12.2.2.2.2.2.2.1.2.2.2.2.2.1, (j12.2.2.2.2.2.2.1.2.2.2.2.2.2.1, ((), ())))))))), (j12.2.2.2.2.2.2.2.1, (u15.2.1, ((u16.1.1.1, (u16.1.1.2.1, (u16.1.1.2.2.1, (u16.1.1.2.2.2.1, (u16.1.1.2.2.2.2.1, (u16.1.1.2.2.2.2.2.1, (u16.1.1.2.2.2.2.2.2.1, ((), ())))))))), ()))))))))))))
           (
           some ((((), ((!(u16.1.2.1 == u3.1.2.1)), ())), ((j12.2.1.1, (j12.2.1.2.1, (j12.2.1.2.2.1, (j12.2.1.2.2.2.1, (j12.2.1.2.2.2.2.1, (j12.2.1.2.2.2.2.2.1, (j12.2.1.2.2.2.2.2.2.1, (j12.2.1.2.2.2.2.2.2.2.1, ())))))))), (j12.2.2.1, ((j12.2.2.2.1.1, (j12.2.2.2.1.2.1, (j12.2.2.2.1.2.2.1, (j12.2.2.2.1.2.2.2.1, (j12.2.2.2.1.2.2.2.2.1, (j12.2.2.2.1.2.2.2.2.2.1, (j12.2.2.2.1.2.2.2.2.2.2.1, ((), ())))))))), (j12.2.2.2.2.1, ((j12.2.2.2.2.2.1.1, (j12.2.2.2.2.2.1.2.1, (j12.2.2.2.2.2.1.2.2.1, (j12.2.2.2.2.2.1.2.2.2.1, (j12.2.2.2.2.2.1.2.2.2.2.1, (j12.2.2.2.2.2.1.2.2.2.2.2.1, (j12.2.2.2.2.2.1.2.2.2.2.2.2.1, ((), ())))))))), ((j12.2.2.2.2.2.2.1.1, (j12.2.2.2.2.2.2.1.2.1, (j12.2.2.2.2.2.2.1.2.2.1, (j12.2.2.2.2.2.2.1.2.2.2.1, (j12.2.2.2.2.2.2.1.2.2.2.2.1, (j12.2.2.2.2.2.2.1.2.2.2.2.2.1, (j12.2.2.2.2.2.2.1.2.2.2.2.2.2.1, ((), ())))))))), (j12.2.2.2.2.2.2.2.1, (u15.2.1, ((u16.1.1.1, (u16.1.1.2.1, (u16.1.1.2.2.1, (u16.1.1.2.2.2.1, (u16.1.1.2.2.2.2.1, (u16.1.1.2.2.2.2.2.1, (u16.1.1.2.2.2.2.2.2.1, ((), ())))))))), ()))))))))))))) fun j18 =>
         sel j18.1.2.1
          (
          some ((false, ()), ()))
          (
          andK (laws_heldHeader N j18.2.2.2.2.2.2.1.1 j18.2.2.2.2.2.2.1.2.1 j18.2.2.2.2.2.2.1.2.2.1 j18.2.2.2.2.2.2.1.2.2.2.1 j18.2.2.2.2.2.2.1.2.2.2.2.1 j18.2.2.2.2.2.2.1.2.2.2.2.2.1 j18.2.2.2.2.2.2.1.2.2.2.2.2.2.1 [] 1) fun u19 =>
          sel (decide (u19.1.1 < 0))
           (
           some ((false, ()), ()))
           (
           sel (!(decide (u19.1.1 = u13.1.1)))
            (
            some ((false, ()), ()))
            (
            some ((true, ()), ())))))))))))) := by kernel_rfl
set_option maxRecDepth 100000 in
theorem laws_FnExactRetryPacket.say (N : Nat) : SayOk Tryz.prog (laws_FnExactRetryPacket.S N) := sayOk_mk (N := N) (H := laws_FnExactRetryPacket.H) (preps := [⟨[], [], [], []⟩]) (l := laws_FnExactRetryPacket.says) (fn := Tryz.f3) (c := bodyOf Tryz.f3)
  (by kernel_rfl) (by kernel_rfl) (by kernel_rfl) (by kernel_rfl) (by kernel_rfl) (by kernel_rfl) (by kernel_rfl)
  (fun N => SayAll.cons (laws_szHeader.say N) (SayAll.cons (laws_toHeader.say N) (SayAll.cons (spec_RetryPacket.sayB N) (SayAll.cons (impl_RetryPacket.sayB N) (SayAll.cons (laws_eqHeader.say N) (SayAll.cons (laws_eqHeader.sayB N) (SayAll.cons (laws_markHeader.say N) (SayAll.cons (laws_markHeader_2.say N) (SayAll.cons (laws_heldHeader.say N) (SayAll.nil)))))))))) (fun a s => by kernel_rfl)

end Go.Proofs.YtkfpfcpmaejeoaaGreat.GFnExactRetryPacket
