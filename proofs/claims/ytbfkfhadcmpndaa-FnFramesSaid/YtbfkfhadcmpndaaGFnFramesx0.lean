-- Written by a program of this session out of the translation; Lean checks it.
import Derived.Test.YtbfkfhadcmpndaaPmLaw
import Derived.Test.YtbfkfhadcmpndaaProg
set_option linter.unusedVariables false
namespace Go.Proofs.Ytbfkfhadcmpndaa.GFnFrames
open Go Go.Proofs Go.Proofs.YtbfkfhadcmpndaaPM

/-! ### (*loop.example/g00206/spec.l1Cur).next: function 117 -/
noncomputable def spec_l1Cur_next.H : Hints := hintsOf [(4, .join [⟨.normal, [], [0, 3], [.one (.ptr 0 0), ak_i], [.cells [.sh (.rows (.int .u8)), ck_i, .sh (.int .u64)]], [⟨[], [], [], []⟩]⟩])]
noncomputable def spec_l1Cur_next.says (N : Nat) : List Say := []
noncomputable def spec_l1Cur_next.call (N : Nat) : CallK := callBy (spec_l1Cur_next.says N)
noncomputable def spec_l1Cur_next.qt (N : Nat) : FuncId → List PV → Sig → Cl := qtBy (spec_l1Cur_next.says N)
noncomputable def spec_l1Cur_next (N : Nat) (p0_0 : (List Int)) (p0_1 : Int) (p0_2 : Int) : Option ((Int × Unit) × (((List Int) × (Int × (Int × Unit))) × Unit)) :=
  ofFn Try.prog spec_l1Cur_next.call spec_l1Cur_next.qt spec_l1Cur_next.H N Try.f117 [.one (.ptr 0 0)] [.cells [.sh (.rows (.int .u8)), ck_i, .sh (.int .u64)]] [ak_i] [.cells [.sh (.rows (.int .u8)), ck_i, .sh (.int .u64)]] [⟨[], [], [], []⟩] ((), ()) ((p0_0, (p0_1, (p0_2, ()))), ())
noncomputable def spec_l1Cur_next.S (N : Nat) : Say := ⟨false, 117, [.one (.ptr 0 0)], [.cells [.sh (.rows (.int .u8)), ck_i, .sh (.int .u64)]], [ak_i], [.cells [.sh (.rows (.int .u8)), ck_i, .sh (.int .u64)]], fun a s => spec_l1Cur_next N s.1.1 s.1.2.1 s.1.2.2.1⟩
set_option maxRecDepth 100000 in
theorem spec_l1Cur_next.eq (N : Nat) (p0_0 : (List Int)) (p0_1 : Int) (p0_2 : Int) : spec_l1Cur_next N p0_0 p0_1 p0_2 =
 andK (α := ((Unit × (Int × Unit)) × (((List Int) × (Int × (Int × Unit))) × Unit))) (
  sel (decide (p0_1 < (p0_0.length : Int)))
   (
   chk ((decide (0 ≤ p0_1)) && (decide (p0_1 < (p0_0.length : Int)))) (
   some ((((), ((IntKind.i64.wrap (p0_0.getD (Int.toNat p0_1) 0)), ())), ((p0_0, (p0_1, (p0_2, ()))), ())))))
   (
   some ((((), (0, ())), ((p0_0, (p0_1, (p0_2, ()))), ()))))) fun j1 =>
 sel (decide ((IntKind.i64.wrap (j1.2.1.2.1 + 1)) ≤ (j1.2.1.1.length : Int)))
  (
  some ((j1.1.2.1, ()), ((j1.2.1.1, ((IntKind.i64.wrap (j1.2.1.2.1 + 1)), ((IntKind.u64.wrap ((IntKind.u64.wrap ((IntKind.u64.wrap (j1.2.1.2.2.1 * 6364136223846793005)) + (IntKind.u64.wrap j1.1.2.1))) + 1442695040888963407)), ()))), ())))
  (
  some (((IntKind.i64.wrap (Go.bits .and .u64 (shrI .u64 (IntKind.u64.wrap ((IntKind.u64.wrap ((IntKind.u64.wrap (j1.2.1.2.2.1 * 6364136223846793005)) + (IntKind.u64.wrap j1.1.2.1))) + 1442695040888963407)) 40) 255)), ()), ((j1.2.1.1, ((IntKind.i64.wrap (j1.2.1.2.1 + 1)), ((IntKind.u64.wrap ((IntKind.u64.wrap ((IntKind.u64.wrap (j1.2.1.2.2.1 * 6364136223846793005)) + (IntKind.u64.wrap j1.1.2.1))) + 1442695040888963407)), ()))), ()))) := by kernel_rfl
set_option maxRecDepth 100000 in
theorem spec_l1Cur_next.say (N : Nat) : SayOk Try.prog (spec_l1Cur_next.S N) := sayOk_mk (N := N) (H := spec_l1Cur_next.H) (preps := [⟨[], [], [], []⟩]) (l := spec_l1Cur_next.says) (fn := Try.f117) (c := bodyOf Try.f117)
  (by kernel_rfl) (by kernel_rfl) (by kernel_rfl) (by kernel_rfl) (by kernel_rfl) (by kernel_rfl) (by kernel_rfl)
  (fun N => SayAll.nil) (fun a s => by kernel_rfl)

/-! ### (*loop.example/g00206/spec.l1Cur).pick: function 54 -/
noncomputable def spec_l1Cur_pick.H : Hints := hintsOf []
noncomputable def spec_l1Cur_pick.says (N : Nat) : List Say := [spec_l1Cur_next.S N]
noncomputable def spec_l1Cur_pick.call (N : Nat) : CallK := callBy (spec_l1Cur_pick.says N)
noncomputable def spec_l1Cur_pick.qt (N : Nat) : FuncId → List PV → Sig → Cl := qtBy (spec_l1Cur_pick.says N)
noncomputable def spec_l1Cur_pick (N : Nat) (n : Int) (p0_0 : (List Int)) (p0_1 : Int) (p0_2 : Int) : Option ((Int × Unit) × (((List Int) × (Int × (Int × Unit))) × Unit)) :=
  ofFn Try.prog spec_l1Cur_pick.call spec_l1Cur_pick.qt spec_l1Cur_pick.H N Try.f54 [.one (.ptr 0 0), ak_i] [.cells [.sh (.rows (.int .u8)), ck_i, .sh (.int .u64)]] [ak_i] [.cells [.sh (.rows (.int .u8)), ck_i, .sh (.int .u64)]] [⟨[], [], [], []⟩] ((), (n, ())) ((p0_0, (p0_1, (p0_2, ()))), ())
noncomputable def spec_l1Cur_pick.S (N : Nat) : Say := ⟨false, 54, [.one (.ptr 0 0), ak_i], [.cells [.sh (.rows (.int .u8)), ck_i, .sh (.int .u64)]], [ak_i], [.cells [.sh (.rows (.int .u8)), ck_i, .sh (.int .u64)]], fun a s => spec_l1Cur_pick N a.2.1 s.1.1 s.1.2.1 s.1.2.2.1⟩
set_option maxRecDepth 100000 in
theorem spec_l1Cur_pick.eq (N : Nat) (n : Int) (p0_0 : (List Int)) (p0_1 : Int) (p0_2 : Int) : spec_l1Cur_pick N n p0_0 p0_1 p0_2 =
 sel (decide (n ≤ 1))
  (
  some ((0, ()), ((p0_0, (p0_1, (p0_2, ()))), ())))
  (
  andK (spec_l1Cur_next N p0_0 p0_1 p0_2) fun u1 =>
  sel (decide (200 < n))
   (
   andK (spec_l1Cur_next N u1.2.1.1 u1.2.1.2.1 u1.2.1.2.2.1) fun u2 =>
   chk (n != 0) (
   some (((Int.tmod (IntKind.i64.wrap ((IntKind.i64.wrap (u1.1.1 * 256)) + u2.1.1)) n), ()), u2.2)))
   (
   chk (n != 0) (
   some (((Int.tmod u1.1.1 n), ()), u1.2)))) := by kernel_rfl
set_option maxRecDepth 100000 in
theorem spec_l1Cur_pick.say (N : Nat) : SayOk Try.prog (spec_l1Cur_pick.S N) := sayOk_mk (N := N) (H := spec_l1Cur_pick.H) (preps := [⟨[], [], [], []⟩]) (l := spec_l1Cur_pick.says) (fn := Try.f54) (c := bodyOf Try.f54)
  (by kernel_rfl) (by kernel_rfl) (by kernel_rfl) (by kernel_rfl) (by kernel_rfl) (by kernel_rfl) (by kernel_rfl)
  (fun N => SayAll.cons (spec_l1Cur_next.say N) (SayAll.nil)) (fun a s => by kernel_rfl)

/-! ### (*loop.example/g00206/spec.l1Cur).among: function 81 -/
noncomputable def spec_l1Cur_among.H : Hints := hintsOf []
noncomputable def spec_l1Cur_among.says (N : Nat) : List Say := [spec_l1Cur_pick.S N]
noncomputable def spec_l1Cur_among.call (N : Nat) : CallK := callBy (spec_l1Cur_among.says N)
noncomputable def spec_l1Cur_among.qt (N : Nat) : FuncId → List PV → Sig → Cl := qtBy (spec_l1Cur_among.says N)
noncomputable def spec_l1Cur_among (N : Nat) (list : (List Int)) (p0_0 : (List Int)) (p0_1 : Int) (p0_2 : Int) : Option ((Int × Unit) × (((List Int) × (Int × (Int × Unit))) × Unit)) :=
  ofFn Try.prog spec_l1Cur_among.call spec_l1Cur_among.qt spec_l1Cur_among.H N Try.f81 [.one (.ptr 0 0), .one (.sh (.rows (.int .i64)))] [.cells [.sh (.rows (.int .u8)), ck_i, .sh (.int .u64)]] [ak_i] [.cells [.sh (.rows (.int .u8)), ck_i, .sh (.int .u64)]] [⟨[], [], [], []⟩] ((), (list, ())) ((p0_0, (p0_1, (p0_2, ()))), ())
noncomputable def spec_l1Cur_among.S (N : Nat) : Say := ⟨false, 81, [.one (.ptr 0 0), .one (.sh (.rows (.int .i64)))], [.cells [.sh (.rows (.int .u8)), ck_i, .sh (.int .u64)]], [ak_i], [.cells [.sh (.rows (.int .u8)), ck_i, .sh (.int .u64)]], fun a s => spec_l1Cur_among N a.2.1 s.1.1 s.1.2.1 s.1.2.2.1⟩
set_option maxRecDepth 100000 in
theorem spec_l1Cur_among.eq (N : Nat) (list : (List Int)) (p0_0 : (List Int)) (p0_1 : Int) (p0_2 : Int) : spec_l1Cur_among N list p0_0 p0_1 p0_2 =
 andK (spec_l1Cur_pick N (list.length : Int) p0_0 p0_1 p0_2) fun u1 =>
 chk ((decide (0 ≤ u1.1.1)) && (decide (u1.1.1 < (list.length : Int)))) (
 some (((list.getD (Int.toNat u1.1.1) 0), ()), u1.2)) := by kernel_rfl
set_option maxRecDepth 100000 in
theorem spec_l1Cur_among.say (N : Nat) : SayOk Try.prog (spec_l1Cur_among.S N) := sayOk_mk (N := N) (H := spec_l1Cur_among.H) (preps := [⟨[], [], [], []⟩]) (l := spec_l1Cur_among.says) (fn := Try.f81) (c := bodyOf Try.f81)
  (by kernel_rfl) (by kernel_rfl) (by kernel_rfl) (by kernel_rfl) (by kernel_rfl) (by kernel_rfl) (by kernel_rfl)
  (fun N => SayAll.cons (spec_l1Cur_pick.say N) (SayAll.nil)) (fun a s => by kernel_rfl)

/-! ### loop.example/g00206/spec.l1Shape: function 106 -/
noncomputable def spec_l1Shape.H : Hints := hintsOf []
noncomputable def spec_l1Shape.says (N : Nat) : List Say := []
noncomputable def spec_l1Shape.call (N : Nat) : CallK := callBy (spec_l1Shape.says N)
noncomputable def spec_l1Shape.qt (N : Nat) : FuncId → List PV → Sig → Cl := qtBy (spec_l1Shape.says N)
noncomputable def spec_l1Shape (N : Nat) (kind : Int) : Option ((Int × (Int × (Int × Unit))) × Unit) :=
  ofFn Try.prog spec_l1Shape.call spec_l1Shape.qt spec_l1Shape.H N Try.f106 [ak_i] [] [ak_i, ak_i, ak_i] [] [⟨[], [], [], []⟩] (kind, ()) ()
noncomputable def spec_l1Shape.S (N : Nat) : Say := ⟨false, 106, [ak_i], [], [ak_i, ak_i, ak_i], [], fun a s => spec_l1Shape N a.1⟩
set_option maxRecDepth 100000 in
theorem spec_l1Shape.eq (N : Nat) (kind : Int) : spec_l1Shape N kind =
 sel (decide (kind = 0))
  (
  sel (decide (kind = 0))
   (
   some ((0, (0, (0, ()))), ()))
   (
   sel (decide (kind = 16))
    (
    sel (decide (kind = 16))
     (
     some ((1, (0, (0, ()))), ()))
     (
     sel (decide (kind = 17))
      (
      sel (decide (kind = 17))
       (
       some ((2, (0, (0, ()))), ()))
       (
       sel (decide (kind = 4))
        (
        some ((3, (0, (0, ()))), ()))
        (
        sel (decide (kind = 28))
         (
         sel (decide (kind = 28))
          (
          some ((2, (0, (200, ()))), ()))
          (
          sel (decide (kind = 6))
           (
           some ((1, (0, (200, ()))), ()))
           (
           sel (decide (kind = 7))
            (
            some ((0, (1, (200, ()))), ()))
            (
            sel (decide (kind = 24))
             (
             some ((3, (1, (20, ()))), ()))
             (
             sel (decide (kind = 26))
              (
              sel (decide (kind = 26))
               (
               some ((0, (8, (8, ()))), ()))
               (
               sel (decide (kind = 48))
                (
                some ((0, (0, (200, ()))), ()))
                (
                some (((-1), (0, (0, ()))), ()))))
              (
              sel (decide (kind = 27))
               (
               some ((0, (8, (8, ()))), ()))
               (
               sel (decide (kind = 48))
                (
                some ((0, (0, (200, ()))), ()))
                (
                some (((-1), (0, (0, ()))), ())))))))))
         (
         sel (decide (kind = 8))
          (
          some ((2, (0, (200, ()))), ()))
          (
          sel (decide (kind = 6))
           (
           some ((1, (0, (200, ()))), ()))
           (
           sel (decide (kind = 7))
            (
            some ((0, (1, (200, ()))), ()))
            (
            sel (decide (kind = 24))
             (
             some ((3, (1, (20, ()))), ()))
             (
             sel (decide (kind = 26))
              (
              sel (decide (kind = 26))
               (
               some ((0, (8, (8, ()))), ()))
               (
               sel (decide (kind = 48))
                (
                some ((0, (0, (200, ()))), ()))
                (
                some (((-1), (0, (0, ()))), ()))))
              (
              sel (decide (kind = 27))
               (
               some ((0, (8, (8, ()))), ()))
               (
               sel (decide (kind = 48))
                (
                some ((0, (0, (200, ()))), ()))
                (
                some (((-1), (0, (0, ()))), ()))))))))))))
      (
      sel (decide (kind = 5))
       (
       some ((2, (0, (0, ()))), ()))
       (
       sel (decide (kind = 4))
        (
        some ((3, (0, (0, ()))), ()))
        (
        sel (decide (kind = 28))
         (
         sel (decide (kind = 28))
          (
          some ((2, (0, (200, ()))), ()))
          (
          sel (decide (kind = 6))
           (
           some ((1, (0, (200, ()))), ()))
           (
           sel (decide (kind = 7))
            (
            some ((0, (1, (200, ()))), ()))
            (
            sel (decide (kind = 24))
             (
             some ((3, (1, (20, ()))), ()))
             (
             sel (decide (kind = 26))
              (
              sel (decide (kind = 26))
               (
               some ((0, (8, (8, ()))), ()))
               (
               sel (decide (kind = 48))
                (
                some ((0, (0, (200, ()))), ()))
                (
                some (((-1), (0, (0, ()))), ()))))
              (
              sel (decide (kind = 27))
               (
               some ((0, (8, (8, ()))), ()))
               (
               sel (decide (kind = 48))
                (
                some ((0, (0, (200, ()))), ()))
                (
                some (((-1), (0, (0, ()))), ())))))))))
         (
         sel (decide (kind = 8))
          (
          some ((2, (0, (200, ()))), ()))
          (
          sel (decide (kind = 6))
           (
           some ((1, (0, (200, ()))), ()))
           (
           sel (decide (kind = 7))
            (
            some ((0, (1, (200, ()))), ()))
            (
            sel (decide (kind = 24))
             (
             some ((3, (1, (20, ()))), ()))
             (
             sel (decide (kind = 26))
              (
              sel (decide (kind = 26))
               (
               some ((0, (8, (8, ()))), ()))
               (
               sel (decide (kind = 48))
                (
                some ((0, (0, (200, ()))), ()))
                (
                some (((-1), (0, (0, ()))), ()))))
              (
              sel (decide (kind = 27))
               (
               some ((0, (8, (8, ()))), ()))
               (
               sel (decide (kind = 48))
                (
                some ((0, (0, (200, ()))), ()))
                (
                some (((-1), (0, (0, ()))), ()))))))))))))))
    (
    sel (decide (kind = 2))
     (
     some ((1, (0, (0, ()))), ()))
     (
     sel (decide (kind = 17))
      (
      sel (decide (kind = 17))
       (
       some ((2, (0, (0, ()))), ()))
       (
       sel (decide (kind = 4))
        (
        some ((3, (0, (0, ()))), ()))
        (
        sel (decide (kind = 28))
         (
         sel (decide (kind = 28))
          (
          some ((2, (0, (200, ()))), ()))
          (
          sel (decide (kind = 6))
           (
           some ((1, (0, (200, ()))), ()))
           (
           sel (decide (kind = 7))
            (
            some ((0, (1, (200, ()))), ()))
            (
            sel (decide (kind = 24))
             (
             some ((3, (1, (20, ()))), ()))
             (
             sel (decide (kind = 26))
              (
              sel (decide (kind = 26))
               (
               some ((0, (8, (8, ()))), ()))
               (
               sel (decide (kind = 48))
                (
                some ((0, (0, (200, ()))), ()))
                (
                some (((-1), (0, (0, ()))), ()))))
              (
              sel (decide (kind = 27))
               (
               some ((0, (8, (8, ()))), ()))
               (
               sel (decide (kind = 48))
                (
                some ((0, (0, (200, ()))), ()))
                (
                some (((-1), (0, (0, ()))), ())))))))))
         (
         sel (decide (kind = 8))
          (
          some ((2, (0, (200, ()))), ()))
          (
          sel (decide (kind = 6))
           (
           some ((1, (0, (200, ()))), ()))
           (
           sel (decide (kind = 7))
            (
            some ((0, (1, (200, ()))), ()))
            (
            sel (decide (kind = 24))
             (
             some ((3, (1, (20, ()))), ()))
             (
             sel (decide (kind = 26))
              (
              sel (decide (kind = 26))
               (
               some ((0, (8, (8, ()))), ()))
               (
               sel (decide (kind = 48))
                (
                some ((0, (0, (200, ()))), ()))
                (
                some (((-1), (0, (0, ()))), ()))))
              (
              sel (decide (kind = 27))
               (
               some ((0, (8, (8, ()))), ()))
               (
               sel (decide (kind = 48))
                (
                some ((0, (0, (200, ()))), ()))
                (
                some (((-1), (0, (0, ()))), ()))))))))))))
      (
      sel (decide (kind = 5))
       (
       some ((2, (0, (0, ()))), ()))
       (
       sel (decide (kind = 4))
        (
        some ((3, (0, (0, ()))), ()))
        (
        sel (decide (kind = 28))
         (
         sel (decide (kind = 28))
          (
          some ((2, (0, (200, ()))), ()))
          (
          sel (decide (kind = 6))
           (
           some ((1, (0, (200, ()))), ()))
           (
           sel (decide (kind = 7))
            (
            some ((0, (1, (200, ()))), ()))
            (
            sel (decide (kind = 24))
             (
             some ((3, (1, (20, ()))), ()))
             (
             sel (decide (kind = 26))
              (
              sel (decide (kind = 26))
               (
               some ((0, (8, (8, ()))), ()))
               (
               sel (decide (kind = 48))
                (
                some ((0, (0, (200, ()))), ()))
                (
                some (((-1), (0, (0, ()))), ()))))
              (
              sel (decide (kind = 27))
               (
               some ((0, (8, (8, ()))), ()))
               (
               sel (decide (kind = 48))
                (
                some ((0, (0, (200, ()))), ()))
                (
                some (((-1), (0, (0, ()))), ())))))))))
         (
         sel (decide (kind = 8))
          (
          some ((2, (0, (200, ()))), ()))
          (
          sel (decide (kind = 6))
           (
           some ((1, (0, (200, ()))), ()))
           (
           sel (decide (kind = 7))
            (
            some ((0, (1, (200, ()))), ()))
            (
            sel (decide (kind = 24))
             (
             some ((3, (1, (20, ()))), ()))
             (
             sel (decide (kind = 26))
              (
              sel (decide (kind = 26))
               (
               some ((0, (8, (8, ()))), ()))
               (
               sel (decide (kind = 48))
                (
                some ((0, (0, (200, ()))), ()))
                (
                some (((-1), (0, (0, ()))), ()))))
              (
              sel (decide (kind = 27))
               (
               some ((0, (8, (8, ()))), ()))
               (
               sel (decide (kind = 48))
                (
                some ((0, (0, (200, ()))), ()))
                (
                some (((-1), (0, (0, ()))), ()))))))))))))))))
  (
  sel (decide (kind = 1))
   (
   some ((0, (0, (0, ()))), ()))
   (
   sel (decide (kind = 16))
    (
    sel (decide (kind = 16))
     (
     some ((1, (0, (0, ()))), ()))
     (
     sel (decide (kind = 17))
      (
      sel (decide (kind = 17))
       (
       some ((2, (0, (0, ()))), ()))
       (
       sel (decide (kind = 4))
        (
        some ((3, (0, (0, ()))), ()))
        (
        sel (decide (kind = 28))
         (
         sel (decide (kind = 28))
          (
          some ((2, (0, (200, ()))), ()))
          (
          sel (decide (kind = 6))
           (
           some ((1, (0, (200, ()))), ()))
           (
           sel (decide (kind = 7))
            (
            some ((0, (1, (200, ()))), ()))
            (
            sel (decide (kind = 24))
             (
             some ((3, (1, (20, ()))), ()))
             (
             sel (decide (kind = 26))
              (
              sel (decide (kind = 26))
               (
               some ((0, (8, (8, ()))), ()))
               (
               sel (decide (kind = 48))
                (
                some ((0, (0, (200, ()))), ()))
                (
                some (((-1), (0, (0, ()))), ()))))
              (
              sel (decide (kind = 27))
               (
               some ((0, (8, (8, ()))), ()))
               (
               sel (decide (kind = 48))
                (
                some ((0, (0, (200, ()))), ()))
                (
                some (((-1), (0, (0, ()))), ())))))))))
         (
         sel (decide (kind = 8))
          (
          some ((2, (0, (200, ()))), ()))
          (
          sel (decide (kind = 6))
           (
           some ((1, (0, (200, ()))), ()))
           (
           sel (decide (kind = 7))
            (
            some ((0, (1, (200, ()))), ()))
            (
            sel (decide (kind = 24))
             (
             some ((3, (1, (20, ()))), ()))
             (
             sel (decide (kind = 26))
              (
              sel (decide (kind = 26))
               (
               some ((0, (8, (8, ()))), ()))
               (
               sel (decide (kind = 48))
                (
                some ((0, (0, (200, ()))), ()))
                (
                some (((-1), (0, (0, ()))), ()))))
              (
              sel (decide (kind = 27))
               (
               some ((0, (8, (8, ()))), ()))
               (
               sel (decide (kind = 48))
                (
                some ((0, (0, (200, ()))), ()))
                (
                some (((-1), (0, (0, ()))), ()))))))))))))
      (
      sel (decide (kind = 5))
       (
       some ((2, (0, (0, ()))), ()))
       (
       sel (decide (kind = 4))
        (
        some ((3, (0, (0, ()))), ()))
        (
        sel (decide (kind = 28))
         (
         sel (decide (kind = 28))
          (
          some ((2, (0, (200, ()))), ()))
          (
          sel (decide (kind = 6))
           (
           some ((1, (0, (200, ()))), ()))
           (
           sel (decide (kind = 7))
            (
            some ((0, (1, (200, ()))), ()))
            (
            sel (decide (kind = 24))
             (
             some ((3, (1, (20, ()))), ()))
             (
             sel (decide (kind = 26))
              (
              sel (decide (kind = 26))
               (
               some ((0, (8, (8, ()))), ()))
               (
               sel (decide (kind = 48))
                (
                some ((0, (0, (200, ()))), ()))
                (
                some (((-1), (0, (0, ()))), ()))))
              (
              sel (decide (kind = 27))
               (
               some ((0, (8, (8, ()))), ()))
               (
               sel (decide (kind = 48))
                (
                some ((0, (0, (200, ()))), ()))
                (
                some (((-1), (0, (0, ()))), ())))))))))
         (
         sel (decide (kind = 8))
          (
          some ((2, (0, (200, ()))), ()))
          (
          sel (decide (kind = 6))
           (
           some ((1, (0, (200, ()))), ()))
           (
           sel (decide (kind = 7))
            (
            some ((0, (1, (200, ()))), ()))
            (
            sel (decide (kind = 24))
             (
             some ((3, (1, (20, ()))), ()))
             (
             sel (decide (kind = 26))
              (
              sel (decide (kind = 26))
               (
               some ((0, (8, (8, ()))), ()))
               (
               sel (decide (kind = 48))
                (
                some ((0, (0, (200, ()))), ()))
                (
                some (((-1), (0, (0, ()))), ()))))
              (
              sel (decide (kind = 27))
               (
               some ((0, (8, (8, ()))), ()))
               (
               sel (decide (kind = 48))
                (
                some ((0, (0, (200, ()))), ()))
                (
                some (((-1), (0, (0, ()))), ()))))))))))))))
    (
    sel (decide (kind = 2))
     (
     some ((1, (0, (0, ()))), ()))
     (
     sel (decide (kind = 17))
      (
      sel (decide (kind = 17))
       (
       some ((2, (0, (0, ()))), ()))
       (
       sel (decide (kind = 4))
        (
        some ((3, (0, (0, ()))), ()))
        (
        sel (decide (kind = 28))
         (
         sel (decide (kind = 28))
          (
          some ((2, (0, (200, ()))), ()))
          (
          sel (decide (kind = 6))
           (
           some ((1, (0, (200, ()))), ()))
           (
           sel (decide (kind = 7))
            (
            some ((0, (1, (200, ()))), ()))
            (
            sel (decide (kind = 24))
             (
             some ((3, (1, (20, ()))), ()))
             (
             sel (decide (kind = 26))
              (
              sel (decide (kind = 26))
               (
               some ((0, (8, (8, ()))), ()))
               (
               sel (decide (kind = 48))
                (
                some ((0, (0, (200, ()))), ()))
                (
                some (((-1), (0, (0, ()))), ()))))
              (
              sel (decide (kind = 27))
               (
               some ((0, (8, (8, ()))), ()))
               (
               sel (decide (kind = 48))
                (
                some ((0, (0, (200, ()))), ()))
                (
                some (((-1), (0, (0, ()))), ())))))))))
         (
         sel (decide (kind = 8))
          (
          some ((2, (0, (200, ()))), ()))
          (
          sel (decide (kind = 6))
           (
           some ((1, (0, (200, ()))), ()))
           (
           sel (decide (kind = 7))
            (
            some ((0, (1, (200, ()))), ()))
            (
            sel (decide (kind = 24))
             (
             some ((3, (1, (20, ()))), ()))
             (
             sel (decide (kind = 26))
              (
              sel (decide (kind = 26))
               (
               some ((0, (8, (8, ()))), ()))
               (
               sel (decide (kind = 48))
                (
                some ((0, (0, (200, ()))), ()))
                (
                some (((-1), (0, (0, ()))), ()))))
              (
              sel (decide (kind = 27))
               (
               some ((0, (8, (8, ()))), ()))
               (
               sel (decide (kind = 48))
                (
                some ((0, (0, (200, ()))), ()))
                (
                some (((-1), (0, (0, ()))), ()))))))))))))
      (
      sel (decide (kind = 5))
       (
       some ((2, (0, (0, ()))), ()))
       (
       sel (decide (kind = 4))
        (
        some ((3, (0, (0, ()))), ()))
        (
        sel (decide (kind = 28))
         (
         sel (decide (kind = 28))
          (
          some ((2, (0, (200, ()))), ()))
          (
          sel (decide (kind = 6))
           (
           some ((1, (0, (200, ()))), ()))
           (
           sel (decide (kind = 7))
            (
            some ((0, (1, (200, ()))), ()))
            (
            sel (decide (kind = 24))
             (
             some ((3, (1, (20, ()))), ()))
             (
             sel (decide (kind = 26))
              (
              sel (decide (kind = 26))
               (
               some ((0, (8, (8, ()))), ()))
               (
               sel (decide (kind = 48))
                (
                some ((0, (0, (200, ()))), ()))
                (
                some (((-1), (0, (0, ()))), ()))))
              (
              sel (decide (kind = 27))
               (
               some ((0, (8, (8, ()))), ()))
               (
               sel (decide (kind = 48))
                (
                some ((0, (0, (200, ()))), ()))
                (
                some (((-1), (0, (0, ()))), ())))))))))
         (
         sel (decide (kind = 8))
          (
          some ((2, (0, (200, ()))), ()))
          (
          sel (decide (kind = 6))
           (
           some ((1, (0, (200, ()))), ()))
           (
           sel (decide (kind = 7))
            (
            some ((0, (1, (200, ()))), ()))
            (
            sel (decide (kind = 24))
             (
             some ((3, (1, (20, ()))), ()))
             (
             sel (decide (kind = 26))
              (
              sel (decide (kind = 26))
               (
               some ((0, (8, (8, ()))), ()))
               (
               sel (decide (kind = 48))
                (
                some ((0, (0, (200, ()))), ()))
                (
                some (((-1), (0, (0, ()))), ()))))
              (
              sel (decide (kind = 27))
               (
               some ((0, (8, (8, ()))), ()))
               (
               sel (decide (kind = 48))
                (
                some ((0, (0, (200, ()))), ()))
                (
                some (((-1), (0, (0, ()))), ())))))))))))))))) := by kernel_rfl
set_option maxRecDepth 100000 in
theorem spec_l1Shape.say (N : Nat) : SayOk Try.prog (spec_l1Shape.S N) := sayOk_mk (N := N) (H := spec_l1Shape.H) (preps := [⟨[], [], [], []⟩]) (l := spec_l1Shape.says) (fn := Try.f106) (c := bodyOf Try.f106)
  (by kernel_rfl) (by kernel_rfl) (by kernel_rfl) (by kernel_rfl) (by kernel_rfl) (by kernel_rfl) (by kernel_rfl)
  (fun N => SayAll.nil) (fun a s => by kernel_rfl)

/-! ### (*loop.example/g00206/spec.l1Cur).wide: function 141 -/
noncomputable def spec_l1Cur_wide.H : Hints := hintsOf [(2000003, .loop ⟨.normal, [], [0, 3, 4], [.one (.ptr 0 0), ak_i, ak_i], [.cells [.sh (.rows (.int .u8)), ck_i, .sh (.int .u64)]], [⟨[], [], [], []⟩]⟩ [⟨(.exit 0), [], [3], [ak_i], [.cells [.sh (.rows (.int .u8)), ck_i, .sh (.int .u64)]], [⟨[], [], [], []⟩]⟩])]
noncomputable def spec_l1Cur_wide.says (N : Nat) : List Say := [spec_l1Cur_next.S N]
noncomputable def spec_l1Cur_wide.call (N : Nat) : CallK := callBy (spec_l1Cur_wide.says N)
noncomputable def spec_l1Cur_wide.qt (N : Nat) : FuncId → List PV → Sig → Cl := qtBy (spec_l1Cur_wide.says N)
noncomputable def spec_l1Cur_wide.l0.hd : Alt := ⟨.normal, [], [0, 3, 4], [.one (.ptr 0 0), ak_i, ak_i], [.cells [.sh (.rows (.int .u8)), ck_i, .sh (.int .u64)]], [⟨[], [], [], []⟩]⟩
noncomputable def spec_l1Cur_wide.l0.outs : List Alt := [⟨(.exit 0), [], [3], [ak_i], [.cells [.sh (.rows (.int .u8)), ck_i, .sh (.int .u64)]], [⟨[], [], [], []⟩]⟩]
noncomputable def spec_l1Cur_wide.l0 (N : Nat) (n : Int) (i : Int) (p0_01 : (List Int)) (p0_11 : Int) (p0_21 : Int) : Option ((Int × Unit) × (((List Int) × (Int × (Int × Unit))) × Unit)) :=
  loopK Try.prog spec_l1Cur_wide.call spec_l1Cur_wide.qt spec_l1Cur_wide.H (codeAt (bodyOf Try.f141) [1, 1, 0, 1, 0, 0]) 1 spec_l1Cur_wide.l0.hd spec_l1Cur_wide.l0.outs [] N (((), (n, (i, ()))), ((p0_01, (p0_11, (p0_21, ()))), ()))
noncomputable def spec_l1Cur_wide (N : Nat) (p0_0 : (List Int)) (p0_1 : Int) (p0_2 : Int) : Option ((Int × Unit) × (((List Int) × (Int × (Int × Unit))) × Unit)) :=
  ofFn Try.prog spec_l1Cur_wide.call spec_l1Cur_wide.qt spec_l1Cur_wide.H N Try.f141 [.one (.ptr 0 0)] [.cells [.sh (.rows (.int .u8)), ck_i, .sh (.int .u64)]] [ak_i] [.cells [.sh (.rows (.int .u8)), ck_i, .sh (.int .u64)]] [⟨[], [], [], []⟩] ((), ()) ((p0_0, (p0_1, (p0_2, ()))), ())
noncomputable def spec_l1Cur_wide.S (N : Nat) : Say := ⟨false, 141, [.one (.ptr 0 0)], [.cells [.sh (.rows (.int .u8)), ck_i, .sh (.int .u64)]], [ak_i], [.cells [.sh (.rows (.int .u8)), ck_i, .sh (.int .u64)]], fun a s => spec_l1Cur_wide N s.1.1 s.1.2.1 s.1.2.2.1⟩
set_option maxRecDepth 100000 in
theorem spec_l1Cur_wide.l0.eq (N : Nat) (n : Int) (i : Int) (p0_01 : (List Int)) (p0_11 : Int) (p0_21 : Int) : spec_l1Cur_wide.l0 (N + 1) n i p0_01 p0_11 p0_21 =
 sel (decide (i < 8))
  (
  andK (spec_l1Cur_next N p0_01 p0_11 p0_21) fun u1 =>
  spec_l1Cur_wide.l0 N (Go.bits .or .i64 (shlI .i64 n 8) u1.1.1) (IntKind.i64.wrap (i + 1)) u1.2.1.1 u1.2.1.2.1 u1.2.1.2.2.1)
  (
  some (((n, ()), ((p0_01, (p0_11, (p0_21, ()))), ())))) := by kernel_rfl
set_option maxRecDepth 100000 in
theorem spec_l1Cur_wide.eq (N : Nat) (p0_0 : (List Int)) (p0_1 : Int) (p0_2 : Int) : spec_l1Cur_wide N p0_0 p0_1 p0_2 =
 andK (spec_l1Cur_wide.l0 N 0 0 p0_0 p0_1 p0_2) fun l2 =>
 some (l2.1, l2.2) := by kernel_rfl
set_option maxRecDepth 100000 in
theorem spec_l1Cur_wide.say (N : Nat) : SayOk Try.prog (spec_l1Cur_wide.S N) := sayOk_mk (N := N) (H := spec_l1Cur_wide.H) (preps := [⟨[], [], [], []⟩]) (l := spec_l1Cur_wide.says) (fn := Try.f141) (c := bodyOf Try.f141)
  (by kernel_rfl) (by kernel_rfl) (by kernel_rfl) (by kernel_rfl) (by kernel_rfl) (by kernel_rfl) (by kernel_rfl)
  (fun N => SayAll.cons (spec_l1Cur_next.say N) (SayAll.nil)) (fun a s => by kernel_rfl)

/-! ### (*loop.example/g00206/spec.l1Cur).num: function 118 -/
noncomputable def spec_l1Cur_num.H : Hints := hintsOf []
noncomputable def spec_l1Cur_num.says (N : Nat) : List Say := [spec_l1Cur_pick.S N, spec_l1Cur_among.S N, spec_l1Cur_wide.S N]
noncomputable def spec_l1Cur_num.call (N : Nat) : CallK := callBy (spec_l1Cur_num.says N)
noncomputable def spec_l1Cur_num.qt (N : Nat) : FuncId → List PV → Sig → Cl := qtBy (spec_l1Cur_num.says N)
noncomputable def spec_l1Cur_num (N : Nat) (p0_0 : (List Int)) (p0_1 : Int) (p0_2 : Int) : Option ((Int × Unit) × (((List Int) × (Int × (Int × Unit))) × Unit)) :=
  ofFn Try.prog spec_l1Cur_num.call spec_l1Cur_num.qt spec_l1Cur_num.H N Try.f118 [.one (.ptr 0 0)] [.cells [.sh (.rows (.int .u8)), ck_i, .sh (.int .u64)]] [ak_i] [.cells [.sh (.rows (.int .u8)), ck_i, .sh (.int .u64)]] [⟨[], [], [], []⟩] ((), ()) ((p0_0, (p0_1, (p0_2, ()))), ())
noncomputable def spec_l1Cur_num.S (N : Nat) : Say := ⟨false, 118, [.one (.ptr 0 0)], [.cells [.sh (.rows (.int .u8)), ck_i, .sh (.int .u64)]], [ak_i], [.cells [.sh (.rows (.int .u8)), ck_i, .sh (.int .u64)]], fun a s => spec_l1Cur_num N s.1.1 s.1.2.1 s.1.2.2.1⟩
set_option maxRecDepth 100000 in
theorem spec_l1Cur_num.eq (N : Nat) (p0_0 : (List Int)) (p0_1 : Int) (p0_2 : Int) : spec_l1Cur_num N p0_0 p0_1 p0_2 =
 andK (spec_l1Cur_pick N 8 p0_0 p0_1 p0_2) fun u1 =>
 sel (decide (u1.1.1 = 0))
  (
  andK (spec_l1Cur_among N [0, 63, 64, 16383, 16384, 1073741823, 1073741824, 4611686018427387903, 4611686018427387902] u1.2.1.1 u1.2.1.2.1 u1.2.1.2.2.1) fun u2 =>
  some (u2.1, u2.2))
  (
  sel (decide (u1.1.1 = 1))
   (
   andK (spec_l1Cur_wide N u1.2.1.1 u1.2.1.2.1 u1.2.1.2.2.1) fun u3 =>
   some (((Go.bits .and .i64 u3.1.1 4611686018427387903), ()), u3.2))
   (
   andK (spec_l1Cur_pick N 300 u1.2.1.1 u1.2.1.2.1 u1.2.1.2.2.1) fun u4 =>
   some (u4.1, u4.2))) := by kernel_rfl
set_option maxRecDepth 100000 in
theorem spec_l1Cur_num.say (N : Nat) : SayOk Try.prog (spec_l1Cur_num.S N) := sayOk_mk (N := N) (H := spec_l1Cur_num.H) (preps := [⟨[], [], [], []⟩]) (l := spec_l1Cur_num.says) (fn := Try.f118) (c := bodyOf Try.f118)
  (by kernel_rfl) (by kernel_rfl) (by kernel_rfl) (by kernel_rfl) (by kernel_rfl) (by kernel_rfl) (by kernel_rfl)
  (fun N => SayAll.cons (spec_l1Cur_pick.say N) (SayAll.cons (spec_l1Cur_among.say N) (SayAll.cons (spec_l1Cur_wide.say N) (SayAll.nil)))) (fun a s => by kernel_rfl)

/-! ### (*loop.example/g00206/spec.l1Cur).one: function 55 -/
noncomputable def spec_l1Cur_one.H : Hints := hintsOf []
noncomputable def spec_l1Cur_one.says (N : Nat) : List Say := [spec_l1Cur_pick.S N]
noncomputable def spec_l1Cur_one.call (N : Nat) : CallK := callBy (spec_l1Cur_one.says N)
noncomputable def spec_l1Cur_one.qt (N : Nat) : FuncId → List PV → Sig → Cl := qtBy (spec_l1Cur_one.says N)
noncomputable def spec_l1Cur_one (N : Nat) (n : Int) (p0_0 : (List Int)) (p0_1 : Int) (p0_2 : Int) : Option ((Bool × Unit) × (((List Int) × (Int × (Int × Unit))) × Unit)) :=
  ofFn Try.prog spec_l1Cur_one.call spec_l1Cur_one.qt spec_l1Cur_one.H N Try.f55 [.one (.ptr 0 0), ak_i] [.cells [.sh (.rows (.int .u8)), ck_i, .sh (.int .u64)]] [ak_b] [.cells [.sh (.rows (.int .u8)), ck_i, .sh (.int .u64)]] [⟨[], [], [], []⟩] ((), (n, ())) ((p0_0, (p0_1, (p0_2, ()))), ())
noncomputable def spec_l1Cur_one.S (N : Nat) : Say := ⟨false, 55, [.one (.ptr 0 0), ak_i], [.cells [.sh (.rows (.int .u8)), ck_i, .sh (.int .u64)]], [ak_b], [.cells [.sh (.rows (.int .u8)), ck_i, .sh (.int .u64)]], fun a s => spec_l1Cur_one N a.2.1 s.1.1 s.1.2.1 s.1.2.2.1⟩
set_option maxRecDepth 100000 in
theorem spec_l1Cur_one.eq (N : Nat) (n : Int) (p0_0 : (List Int)) (p0_1 : Int) (p0_2 : Int) : spec_l1Cur_one N n p0_0 p0_1 p0_2 =
 andK (spec_l1Cur_pick N n p0_0 p0_1 p0_2) fun u1 =>
 some (((decide (u1.1.1 = 0)), ()), u1.2) := by kernel_rfl
set_option maxRecDepth 100000 in
theorem spec_l1Cur_one.say (N : Nat) : SayOk Try.prog (spec_l1Cur_one.S N) := sayOk_mk (N := N) (H := spec_l1Cur_one.H) (preps := [⟨[], [], [], []⟩]) (l := spec_l1Cur_one.says) (fn := Try.f55) (c := bodyOf Try.f55)
  (by kernel_rfl) (by kernel_rfl) (by kernel_rfl) (by kernel_rfl) (by kernel_rfl) (by kernel_rfl) (by kernel_rfl)
  (fun N => SayAll.cons (spec_l1Cur_pick.say N) (SayAll.nil)) (fun a s => by kernel_rfl)

/-! ### (*loop.example/g00206/spec.l1Cur).sizedBytes: function 119 -/
noncomputable def spec_l1Cur_sizedBytes.H : Hints := hintsOf [(2000003, .loop ⟨.normal, [10], [0, 5, 11], [.one (.ptr 0 0), .one (.own 1), ak_i], [.cells [.sh (.rows (.int .u8)), ck_i, .sh (.int .u64)], .rows (.int .u8)], [⟨[], [], [], []⟩]⟩ [⟨(.exit 0), [], [5], [.one (.own 1)], [.cells [.sh (.rows (.int .u8)), ck_i, .sh (.int .u64)], .rows (.int .u8)], [⟨[], [], [], []⟩]⟩])]
noncomputable def spec_l1Cur_sizedBytes.says (N : Nat) : List Say := [spec_l1Cur_pick.S N]
noncomputable def spec_l1Cur_sizedBytes.call (N : Nat) : CallK := callBy (spec_l1Cur_sizedBytes.says N)
noncomputable def spec_l1Cur_sizedBytes.qt (N : Nat) : FuncId → List PV → Sig → Cl := qtBy (spec_l1Cur_sizedBytes.says N)
noncomputable def spec_l1Cur_sizedBytes.l0.hd : Alt := ⟨.normal, [10], [0, 5, 11], [.one (.ptr 0 0), .one (.own 1), ak_i], [.cells [.sh (.rows (.int .u8)), ck_i, .sh (.int .u64)], .rows (.int .u8)], [⟨[], [], [], []⟩]⟩
noncomputable def spec_l1Cur_sizedBytes.l0.outs : List Alt := [⟨(.exit 0), [], [5], [.one (.own 1)], [.cells [.sh (.rows (.int .u8)), ck_i, .sh (.int .u64)], .rows (.int .u8)], [⟨[], [], [], []⟩]⟩]
noncomputable def spec_l1Cur_sizedBytes.l0 (N : Nat) (t10 : Int) (t11 : Int) (p0_01 : (List Int)) (p0_11 : Int) (p0_21 : Int) (p1 : (List Int)) : Option ((Unit × Unit) × (((List Int) × (Int × (Int × Unit))) × ((List Int) × Unit))) :=
  loopK Try.prog spec_l1Cur_sizedBytes.call spec_l1Cur_sizedBytes.qt spec_l1Cur_sizedBytes.H (codeAt (bodyOf Try.f119) [1, 1, 0, 1, 0, 0]) 2 spec_l1Cur_sizedBytes.l0.hd spec_l1Cur_sizedBytes.l0.outs [(10, .v (.int .i64 t10))] N (((), ((), (t11, ()))), ((p0_01, (p0_11, (p0_21, ()))), (p1, ())))
noncomputable def spec_l1Cur_sizedBytes (N : Nat) (n : Int) (p0_0 : (List Int)) (p0_1 : Int) (p0_2 : Int) : Option ((Unit × Unit) × (((List Int) × (Int × (Int × Unit))) × ((List Int) × Unit))) :=
  ofFn Try.prog spec_l1Cur_sizedBytes.call spec_l1Cur_sizedBytes.qt spec_l1Cur_sizedBytes.H N Try.f119 [.one (.ptr 0 0), ak_i] [.cells [.sh (.rows (.int .u8)), ck_i, .sh (.int .u64)]] [.one (.own 1)] [.cells [.sh (.rows (.int .u8)), ck_i, .sh (.int .u64)], .rows (.int .u8)] [⟨[], [], [], [1]⟩] ((), (n, ())) ((p0_0, (p0_1, (p0_2, ()))), ())
noncomputable def spec_l1Cur_sizedBytes.S (N : Nat) : Say := ⟨false, 119, [.one (.ptr 0 0), ak_i], [.cells [.sh (.rows (.int .u8)), ck_i, .sh (.int .u64)]], [.one (.own 1)], [.cells [.sh (.rows (.int .u8)), ck_i, .sh (.int .u64)], .rows (.int .u8)], fun a s => spec_l1Cur_sizedBytes N a.2.1 s.1.1 s.1.2.1 s.1.2.2.1⟩
set_option maxRecDepth 100000 in
theorem spec_l1Cur_sizedBytes.l0.eq (N : Nat) (t10 : Int) (t11 : Int) (p0_01 : (List Int)) (p0_11 : Int) (p0_21 : Int) (p1 : (List Int)) : spec_l1Cur_sizedBytes.l0 (N + 1) t10 t11 p0_01 p0_11 p0_21 p1 =
 sel (decide (t11 < t10))
  (
  andK (spec_l1Cur_pick N 256 p0_01 p0_11 p0_21) fun u1 =>
  chk ((decide (0 ≤ t11)) && (decide (t11 < (p1.length : Int)))) (
  spec_l1Cur_sizedBytes.l0 N t10 (IntKind.i64.wrap (t11 + 1)) u1.2.1.1 u1.2.1.2.1 u1.2.1.2.2.1 (p1.set (Int.toNat t11) (IntKind.u8.wrap u1.1.1))))
  (
  some ((((), ()), ((p0_01, (p0_11, (p0_21, ()))), (p1, ()))))) := by kernel_rfl
set_option maxRecDepth 100000 in
theorem spec_l1Cur_sizedBytes.eq (N : Nat) (n : Int) (p0_0 : (List Int)) (p0_1 : Int) (p0_2 : Int) : spec_l1Cur_sizedBytes N n p0_0 p0_1 p0_2 =
 chk ((decide (0 ≤ n)) && ((smallI n) && (decide (n = n)))) (
 andK (spec_l1Cur_sizedBytes.l0 N ((List.replicate (Int.toNat n) (0 : Int)).length : Int) 0 p0_0 p0_1 p0_2 (List.replicate (Int.toNat n) (0 : Int))) fun l2 =>
 some (((), ()), l2.2)) := by kernel_rfl
set_option maxRecDepth 100000 in
theorem spec_l1Cur_sizedBytes.say (N : Nat) : SayOk Try.prog (spec_l1Cur_sizedBytes.S N) := sayOk_mk (N := N) (H := spec_l1Cur_sizedBytes.H) (preps := [⟨[], [], [], [1]⟩]) (l := spec_l1Cur_sizedBytes.says) (fn := Try.f119) (c := bodyOf Try.f119)
  (by kernel_rfl) (by kernel_rfl) (by kernel_rfl) (by kernel_rfl) (by kernel_rfl) (by kernel_rfl) (by kernel_rfl)
  (fun N => SayAll.cons (spec_l1Cur_pick.say N) (SayAll.nil)) (fun a s => by kernel_rfl)

/-! ### (*loop.example/g00206/spec.l1Cur).ranges: function 120 -/
noncomputable def spec_l1Cur_ranges.H : Hints := hintsOf [(4, .join [⟨.normal, [], [0, 3], [.one (.ptr 0 0), ak_i], [.cells [.sh (.rows (.int .u8)), ck_i, .sh (.int .u64)]], [⟨[], [], [], []⟩]⟩]),
  (2000006, .loop ⟨.normal, [], [0, 3, 4, 5], [.one (.ptr 0 0), ak_i, .one (.own 1), ak_i], [.cells [.sh (.rows (.int .u8)), ck_i, .sh (.int .u64)], .rows (.pair (.int .i64) (.int .i64))], [⟨[(4, (.pair (.int .i64) (.int .i64)))], [], [], [1]⟩, ⟨[], [], [], [1]⟩]⟩ [⟨(.exit 0), [], [4], [.one (.own 1)], [.cells [.sh (.rows (.int .u8)), ck_i, .sh (.int .u64)], .rows (.pair (.int .i64) (.int .i64))], [⟨[], [], [], [1]⟩]⟩])]
noncomputable def spec_l1Cur_ranges.says (N : Nat) : List Say := [spec_l1Cur_pick.S N, spec_l1Cur_one.S N, spec_l1Cur_num.S N]
noncomputable def spec_l1Cur_ranges.call (N : Nat) : CallK := callBy (spec_l1Cur_ranges.says N)
noncomputable def spec_l1Cur_ranges.qt (N : Nat) : FuncId → List PV → Sig → Cl := qtBy (spec_l1Cur_ranges.says N)
noncomputable def spec_l1Cur_ranges.l0.hd : Alt := ⟨.normal, [], [0, 3, 4, 5], [.one (.ptr 0 0), ak_i, .one (.own 1), ak_i], [.cells [.sh (.rows (.int .u8)), ck_i, .sh (.int .u64)], .rows (.pair (.int .i64) (.int .i64))], [⟨[(4, (.pair (.int .i64) (.int .i64)))], [], [], [1]⟩, ⟨[], [], [], [1]⟩]⟩
noncomputable def spec_l1Cur_ranges.l0.outs : List Alt := [⟨(.exit 0), [], [4], [.one (.own 1)], [.cells [.sh (.rows (.int .u8)), ck_i, .sh (.int .u64)], .rows (.pair (.int .i64) (.int .i64))], [⟨[], [], [], [1]⟩]⟩]
noncomputable def spec_l1Cur_ranges.l0 (N : Nat) (to : Int) (n : Int) (p0_01 : (List Int)) (p0_11 : Int) (p0_21 : Int) (p1 : (List (Int × Int))) : Option ((Unit × Unit) × (((List Int) × (Int × (Int × Unit))) × ((List (Int × Int)) × Unit))) :=
  loopK Try.prog spec_l1Cur_ranges.call spec_l1Cur_ranges.qt spec_l1Cur_ranges.H (codeAt (bodyOf Try.f120) [1, 1, 1, 1, 0, 1, 0, 0]) 1 spec_l1Cur_ranges.l0.hd spec_l1Cur_ranges.l0.outs [] N (((), (to, ((), (n, ())))), ((p0_01, (p0_11, (p0_21, ()))), (p1, ())))
noncomputable def spec_l1Cur_ranges (N : Nat) (p0_0 : (List Int)) (p0_1 : Int) (p0_2 : Int) : Option ((Unit × Unit) × (((List Int) × (Int × (Int × Unit))) × ((List (Int × Int)) × Unit))) :=
  ofFn Try.prog spec_l1Cur_ranges.call spec_l1Cur_ranges.qt spec_l1Cur_ranges.H N Try.f120 [.one (.ptr 0 0)] [.cells [.sh (.rows (.int .u8)), ck_i, .sh (.int .u64)]] [.one (.own 1)] [.cells [.sh (.rows (.int .u8)), ck_i, .sh (.int .u64)], .rows (.pair (.int .i64) (.int .i64))] [⟨[], [], [], [1]⟩] ((), ()) ((p0_0, (p0_1, (p0_2, ()))), ())
noncomputable def spec_l1Cur_ranges.S (N : Nat) : Say := ⟨false, 120, [.one (.ptr 0 0)], [.cells [.sh (.rows (.int .u8)), ck_i, .sh (.int .u64)]], [.one (.own 1)], [.cells [.sh (.rows (.int .u8)), ck_i, .sh (.int .u64)], .rows (.pair (.int .i64) (.int .i64))], fun a s => spec_l1Cur_ranges N s.1.1 s.1.2.1 s.1.2.2.1⟩
set_option maxRecDepth 100000 in
theorem spec_l1Cur_ranges.l0.eq (N : Nat) (to : Int) (n : Int) (p0_01 : (List Int)) (p0_11 : Int) (p0_21 : Int) (p1 : (List (Int × Int))) : spec_l1Cur_ranges.l0 (N + 1) to n p0_01 p0_11 p0_21 p1 =
 sel (decide (0 < n))
  (
  andK (spec_l1Cur_pick N 9 p0_01 p0_11 p0_21) fun u6 =>
  chk (decide (p1.length + 1 < most)) (
  andK (spec_l1Cur_pick N 9 u6.2.1.1 u6.2.1.2.1 u6.2.1.2.2.1) fun u7 =>
  spec_l1Cur_ranges.l0 N (IntKind.i64.wrap ((IntKind.i64.wrap ((IntKind.i64.wrap (to - u6.1.1)) - 2)) - u7.1.1)) (IntKind.i64.wrap (n - 1)) u7.2.1.1 u7.2.1.2.1 u7.2.1.2.2.1 (p1 ++ [((IntKind.i64.wrap (to - u6.1.1)), to)])))
  (
  some ((((), ()), ((p0_01, (p0_11, (p0_21, ()))), (p1, ()))))) := by kernel_rfl
set_option maxRecDepth 100000 in
theorem spec_l1Cur_ranges.eq (N : Nat) (p0_0 : (List Int)) (p0_1 : Int) (p0_2 : Int) : spec_l1Cur_ranges N p0_0 p0_1 p0_2 =
 andK (spec_l1Cur_pick N 100 p0_0 p0_1 p0_2) fun u1 =>
 andK (α := ((Unit × (Int × Unit)) × (((List Int) × (Int × (Int × Unit))) × Unit))) (
  andK (spec_l1Cur_one N 8 u1.2.1.1 u1.2.1.2.1 u1.2.1.2.2.1) fun u2 =>
  sel u2.1.1
   (
   andK (spec_l1Cur_num N u2.2.1.1 u2.2.1.2.1 u2.2.1.2.2.1) fun u3 =>
   some ((((), (u3.1.1, ())), u3.2)))
   (
   some ((((), ((IntKind.i64.wrap (100 + u1.1.1)), ())), u2.2)))) fun j4 =>
 andK (spec_l1Cur_pick N 4 j4.2.1.1 j4.2.1.2.1 j4.2.1.2.2.1) fun u5 =>
 andK (spec_l1Cur_ranges.l0 N j4.1.2.1 (IntKind.i64.wrap (1 + u5.1.1)) u5.2.1.1 u5.2.1.2.1 u5.2.1.2.2.1 []) fun l8 =>
 some (((), ()), l8.2) := by kernel_rfl
set_option maxRecDepth 100000 in
theorem spec_l1Cur_ranges.say (N : Nat) : SayOk Try.prog (spec_l1Cur_ranges.S N) := sayOk_mk (N := N) (H := spec_l1Cur_ranges.H) (preps := [⟨[], [], [], [1]⟩]) (l := spec_l1Cur_ranges.says) (fn := Try.f120) (c := bodyOf Try.f120)
  (by kernel_rfl) (by kernel_rfl) (by kernel_rfl) (by kernel_rfl) (by kernel_rfl) (by kernel_rfl) (by kernel_rfl)
  (fun N => SayAll.cons (spec_l1Cur_pick.say N) (SayAll.cons (spec_l1Cur_one.say N) (SayAll.cons (spec_l1Cur_num.say N) (SayAll.nil)))) (fun a s => by kernel_rfl)

/-! ### (*loop.example/g00206/spec.l1Cur).frame: function 56 -/
noncomputable def spec_l1Cur_frame.H : Hints := hintsOf [(5, .join [⟨.normal, [4, 5, 6], [0, 2, 3], [.one (.ptr 0 0), .one (.ptr 1 0), .one (.ptr 2 0)], [.cells [.sh (.rows (.int .u8)), ck_i, .sh (.int .u64)], .cells [ck_i, ck_i, ck_i, ck_i, ck_b, ck_s, .nil], .cells [ck_i, ck_i, ck_i, ck_i, ck_b, ck_s, .nil]], [⟨[], [], [], []⟩]⟩]),
  (7, .join [⟨.normal, [4, 5, 6], [0, 2, 3], [.one (.ptr 0 0), .one (.ptr 1 0), .one (.ptr 2 0)], [.cells [.sh (.rows (.int .u8)), ck_i, .sh (.int .u64)], .cells [ck_i, ck_i, ck_i, ck_i, ck_b, ck_s, .nil], .cells [ck_i, ck_i, ck_i, ck_i, ck_b, ck_s, .nil]], [⟨[], [], [], []⟩]⟩]),
  (9, .join [⟨.normal, [5, 6], [0, 2, 3], [.one (.ptr 0 0), .one (.ptr 1 0), .one (.ptr 2 0)], [.cells [.sh (.rows (.int .u8)), ck_i, .sh (.int .u64)], .cells [ck_i, ck_i, ck_i, ck_i, ck_b, ck_s, .nil], .cells [ck_i, ck_i, ck_i, ck_i, ck_b, ck_s, .nil]], [⟨[], [], [], []⟩]⟩]),
  (5000011, .join [⟨.normal, [6, 7], [0, 2, 3, 46], [.one (.ptr 0 0), .one (.ptr 1 0), .one (.ptr 2 0), ak_b], [.cells [.sh (.rows (.int .u8)), ck_i, .sh (.int .u64)], .cells [ck_i, ck_i, ck_i, ck_i, ck_b, ck_s, .nil], .cells [ck_i, ck_i, ck_i, ck_i, ck_b, ck_s, .nil]], [⟨[], [], [], []⟩]⟩]),
  (13, .join [⟨.normal, [], [0, 2, 3, 7], [.one (.ptr 0 0), .one (.ptr 1 0), .one (.ptr 2 0), ak_i], [.cells [.sh (.rows (.int .u8)), ck_i, .sh (.int .u64)], .cells [ck_i, ck_i, ck_i, ck_i, ck_b, ck_s, .nil], .cells [ck_i, ck_i, ck_i, ck_i, ck_b, ck_s, .nil]], [⟨[], [], [], []⟩]⟩]),
  (14, .join [⟨.normal, [], [0, 2, 3], [.one (.ptr 0 0), .one (.ptr 1 0), .one (.ptr 2 0)], [.cells [.sh (.rows (.int .u8)), ck_i, .sh (.int .u64)], .cells [ck_i, ck_i, ck_i, ck_i, ck_b, ck_s, .nil], .cells [ck_i, ck_i, ck_i, ck_i, ck_b, ck_s, .nil]], [⟨[], [], [], []⟩]⟩]),
  (23, .join [⟨.normal, [], [0, 2, 3], [.one (.ptr 0 0), .one (.ptr 1 0), .one (.ptr 2 0)], [.cells [.sh (.rows (.int .u8)), ck_i, .sh (.int .u64)], .cells [ck_i, ck_i, ck_i, ck_i, ck_b, ck_s, .nil], .cells [ck_i, ck_i, ck_i, ck_i, ck_b, ck_s, .own 3], .rows (.pair (.int .i64) (.int .i64))], [⟨[], [], [], [3]⟩, ⟨[], [(2, (6, (.pair (.int .i64) (.int .i64))))], [], [3]⟩]⟩])]
noncomputable def spec_l1Cur_frame.says (N : Nat) : List Say := [spec_l1Cur_among.S N, spec_l1Shape.S N, spec_l1Cur_num.S N, spec_l1Cur_pick.S N, spec_l1Cur_one.S N, spec_l1Cur_sizedBytes.S N, spec_l1Cur_ranges.S N]
noncomputable def spec_l1Cur_frame.call (N : Nat) : CallK := callBy (spec_l1Cur_frame.says N)
noncomputable def spec_l1Cur_frame.qt (N : Nat) : FuncId → List PV → Sig → Cl := qtBy (spec_l1Cur_frame.says N)
noncomputable def spec_l1Cur_frame (N : Nat) (p0_0 : (List Int)) (p0_1 : Int) (p0_2 : Int) : Option (((Int × (Int × (Int × (Int × (Bool × (ByteArray × (Unit × Unit))))))) × Unit) × (((List Int) × (Int × (Int × Unit))) × ((List (Int × Int)) × Unit))) :=
  ofFn Try.prog spec_l1Cur_frame.call spec_l1Cur_frame.qt spec_l1Cur_frame.H N Try.f56 [.one (.ptr 0 0)] [.cells [.sh (.rows (.int .u8)), ck_i, .sh (.int .u64)]] [.agg [ck_i, ck_i, ck_i, ck_i, ck_b, ck_s, .own 1]] [.cells [.sh (.rows (.int .u8)), ck_i, .sh (.int .u64)], .rows (.pair (.int .i64) (.int .i64))] [⟨[], [], [], [3]⟩] ((), ()) ((p0_0, (p0_1, (p0_2, ()))), ())
noncomputable def spec_l1Cur_frame.S (N : Nat) : Say := ⟨false, 56, [.one (.ptr 0 0)], [.cells [.sh (.rows (.int .u8)), ck_i, .sh (.int .u64)]], [.agg [ck_i, ck_i, ck_i, ck_i, ck_b, ck_s, .own 1]], [.cells [.sh (.rows (.int .u8)), ck_i, .sh (.int .u64)], .rows (.pair (.int .i64) (.int .i64))], fun a s => spec_l1Cur_frame N s.1.1 s.1.2.1 s.1.2.2.1⟩
set_option maxRecDepth 100000 in
theorem spec_l1Cur_frame.eq (N : Nat) (p0_0 : (List Int)) (p0_1 : Int) (p0_2 : Int) : spec_l1Cur_frame N p0_0 p0_1 p0_2 =
 andK (spec_l1Cur_among N [0, 1, 2, 4, 5, 6, 7, 8, 8, 16, 17, 24, 26, 27, 28, 48] p0_0 p0_1 p0_2) fun u1 =>
 andK (spec_l1Shape N u1.1.1) fun u2 =>
 andK (α := ((Unit × (Unit × (Unit × Unit))) × (((List Int) × (Int × (Int × Unit))) × ((Int × (Int × (Int × (Int × (Bool × (ByteArray × (Unit × Unit))))))) × ((Int × (Int × (Int × (Int × (Bool × (ByteArray × (Unit × Unit))))))) × Unit))))) (
  sel (decide (0 < u2.1.1))
   (
   andK (spec_l1Cur_num N u1.2.1.1 u1.2.1.2.1 u1.2.1.2.2.1) fun u3 =>
   some ((((), ((), ((), ()))), (u3.2.1, ((0, (0, (0, (0, (false, ((⟨#[]⟩ : ByteArray), ((), ()))))))), ((u1.1.1, (u3.1.1, (0, (0, (false, ((⟨#[]⟩ : ByteArray), ((), ()))))))), ()))))))
   (
   some ((((), ((), ((), ()))), (u1.2.1, ((0, (0, (0, (0, (false, ((⟨#[]⟩ : ByteArray), ((), ()))))))), ((u1.1.1, (0, (0, (0, (false, ((⟨#[]⟩ : ByteArray), ((), ()))))))), ()))))))) fun j4 =>
 andK (α := ((Unit × (Unit × (Unit × Unit))) × (((List Int) × (Int × (Int × Unit))) × ((Int × (Int × (Int × (Int × (Bool × (ByteArray × (Unit × Unit))))))) × ((Int × (Int × (Int × (Int × (Bool × (ByteArray × (Unit × Unit))))))) × Unit))))) (
  sel (decide (1 < u2.1.1))
   (
   andK (spec_l1Cur_num N j4.2.1.1 j4.2.1.2.1 j4.2.1.2.2.1) fun u5 =>
   some ((((), ((), ((), ()))), (u5.2.1, (j4.2.2.1, ((j4.2.2.2.1.1, (j4.2.2.2.1.2.1, (u5.1.1, (j4.2.2.2.1.2.2.2.1, (j4.2.2.2.1.2.2.2.2.1, (j4.2.2.2.1.2.2.2.2.2.1, ((), ()))))))), ()))))))
   (
   some ((((), ((), ((), ()))), j4.2)))) fun j6 =>
 andK (α := ((Unit × (Unit × (Unit × Unit))) × (((List Int) × (Int × (Int × Unit))) × ((Int × (Int × (Int × (Int × (Bool × (ByteArray × (Unit × Unit))))))) × ((Int × (Int × (Int × (Int × (Bool × (ByteArray × (Unit × Unit))))))) × Unit))))) (
  sel (decide (2 < u2.1.1))
   (
   andK (spec_l1Cur_pick N 200 j6.2.1.1 j6.2.1.2.1 j6.2.1.2.2.1) fun u7 =>
   some ((((), ((), ((), ()))), (u7.2.1, (j6.2.2.1, ((j6.2.2.2.1.1, (j6.2.2.2.1.2.1, (j6.2.2.2.1.2.2.1, (u7.1.1, (j6.2.2.2.1.2.2.2.2.1, (j6.2.2.2.1.2.2.2.2.2.1, ((), ()))))))), ()))))))
   (
   some ((((), ((), ((), ()))), j6.2)))) fun j8 =>
 andK (α := ((Unit × (Unit × (Unit × Unit))) × (((List Int) × (Int × (Int × Unit))) × ((Int × (Int × (Int × (Int × (Bool × (ByteArray × (Unit × Unit))))))) × ((Int × (Int × (Int × (Int × (Bool × (ByteArray × (Unit × Unit))))))) × Unit))))) (
  sel (decide (0 < u2.1.2.2.1))
   (
   andK (spec_l1Cur_pick N 6 j8.2.1.1 j8.2.1.2.1 j8.2.1.2.2.1) fun u9 =>
   andK (α := ((Unit × (Unit × (Unit × (Int × Unit)))) × (((List Int) × (Int × (Int × Unit))) × ((Int × (Int × (Int × (Int × (Bool × (ByteArray × (Unit × Unit))))))) × ((Int × (Int × (Int × (Int × (Bool × (ByteArray × (Unit × Unit))))))) × Unit))))) (
    andK (α := ((Unit × (Unit × (Unit × (Bool × Unit)))) × (((List Int) × (Int × (Int × Unit))) × ((Int × (Int × (Int × (Int × (Bool × (ByteArray × (Unit × Unit))))))) × ((Int × (Int × (Int × (Int × (Bool × (ByteArray × (Unit × Unit))))))) × Unit))))) (
     sel (decide (u2.1.2.2.1 < (IntKind.i64.wrap (u2.1.2.1 + u9.1.1))))
      (
      some ((((), ((), ((), (true, ())))), (u9.2.1, (j8.2.2.1, (j8.2.2.2.1, ()))))))
      (
      andK (spec_l1Cur_one N 20 u9.2.1.1 u9.2.1.2.1 u9.2.1.2.2.1) fun u10 =>
      some ((((), ((), ((), (u10.1.1, ())))), (u10.2.1, (j8.2.2.1, (j8.2.2.2.1, ()))))))) fun j11 =>
    sel j11.1.2.2.2.1
     (
     some ((((), ((), ((), (u2.1.2.2.1, ())))), j11.2)))
     (
     some ((((), ((), ((), ((IntKind.i64.wrap (u2.1.2.1 + u9.1.1)), ())))), j11.2)))) fun j12 =>
   andK (spec_l1Cur_sizedBytes N j12.1.2.2.2.1 j12.2.1.1 j12.2.1.2.1 j12.2.1.2.2.1) fun u13 =>
   some ((((), ((), ((), ()))), (u13.2.1, (j12.2.2.1, ((j12.2.2.2.1.1, (j12.2.2.2.1.2.1, (j12.2.2.2.1.2.2.1, (j12.2.2.2.1.2.2.2.1, (j12.2.2.2.1.2.2.2.2.1, ((strL u13.2.2.1), ((), ()))))))), ()))))))
   (
   some ((((), ((), ((), ()))), j8.2)))) fun j14 =>
 andK (α := ((Unit × (Unit × (Unit × Unit))) × (((List Int) × (Int × (Int × Unit))) × ((Int × (Int × (Int × (Int × (Bool × (ByteArray × (Unit × Unit))))))) × ((Int × (Int × (Int × (Int × (Bool × (ByteArray × (Unit × Unit))))))) × ((List (Int × Int)) × Unit)))))) (
  sel (decide (j14.2.2.2.1.1 = 2))
   (
   andK (spec_l1Cur_ranges N j14.2.1.1 j14.2.1.2.1 j14.2.1.2.2.1) fun u15 =>
   some ((((), ((), ((), ()))), (u15.2.1, (j14.2.2.1, (j14.2.2.2.1, (u15.2.2.1, ())))))))
   (
   sel (decide (j14.2.2.2.1.1 = 24))
    (
    andK (spec_l1Cur_pick N 9 j14.2.1.1 j14.2.1.2.1 j14.2.1.2.2.1) fun u16 =>
    some ((((), ((), ((), ()))), (u16.2.1, (j14.2.2.1, ((j14.2.2.2.1.1, (j14.2.2.2.1.2.1, (u16.1.1, (j14.2.2.2.1.2.2.2.1, (j14.2.2.2.1.2.2.2.2.1, (j14.2.2.2.1.2.2.2.2.2.1, ((), ()))))))), ([], ())))))))
    (
    sel (decide (j14.2.2.2.1.1 = 8))
     (
     andK (spec_l1Cur_one N 3 j14.2.1.1 j14.2.1.2.1 j14.2.1.2.2.1) fun u17 =>
     andK (spec_l1Cur_one N 3 u17.2.1.1 u17.2.1.2.1 u17.2.1.2.2.1) fun u18 =>
     sel u18.1.1
      (
      some ((((), ((), ((), ()))), (u18.2.1, (j14.2.2.1, ((j14.2.2.2.1.1, (j14.2.2.2.1.2.1, (0, (j14.2.2.2.1.2.2.2.1, (u17.1.1, (j14.2.2.2.1.2.2.2.2.2.1, ((), ()))))))), ([], ())))))))
      (
      some ((((), ((), ((), ()))), (u18.2.1, (j14.2.2.1, ((j14.2.2.2.1.1, (j14.2.2.2.1.2.1, (j14.2.2.2.1.2.2.1, (j14.2.2.2.1.2.2.2.1, (u17.1.1, (j14.2.2.2.1.2.2.2.2.2.1, ((), ()))))))), ([], ()))))))))
     (
     some ((((), ((), ((), ()))), (j14.2.1, (j14.2.2.1, (j14.2.2.2.1, ([], ())))))))))) fun j19 =>
 andK (spec_l1Cur_pick N 60 j19.2.1.1 j19.2.1.2.1 j19.2.1.2.2.1) fun u20 =>
 sel (decide (u20.1.1 = 0))
  (
  andK (spec_l1Cur_among N [(-1), 4611686018427387904] u20.2.1.1 u20.2.1.2.1 u20.2.1.2.2.1) fun u21 =>
  some (((j19.2.2.2.1.1, (u21.1.1, (j19.2.2.2.1.2.2.1, (j19.2.2.2.1.2.2.2.1, (j19.2.2.2.1.2.2.2.2.1, (j19.2.2.2.1.2.2.2.2.2.1, ((), ()))))))), ()), (u21.2.1, (j19.2.2.2.2.1, ()))))
  (
  sel (decide (u20.1.1 = 1))
   (
   chk (decide (j19.2.2.2.1.2.2.2.2.2.1.size + 9 ≤ 9223372036854775807)) (
   some (((j19.2.2.2.1.1, (j19.2.2.2.1.2.1, (j19.2.2.2.1.2.2.1, (j19.2.2.2.1.2.2.2.1, (j19.2.2.2.1.2.2.2.2.1, ((j19.2.2.2.1.2.2.2.2.2.1 ++ (⟨#[120, 120, 120, 120, 120, 120, 120, 120, 120]⟩ : ByteArray)), ((), ()))))))), ()), (u20.2.1, (j19.2.2.2.2.1, ())))))
   (
   sel (decide (u20.1.1 = 2))
    (
    some (((j19.2.2.2.1.1, (j19.2.2.2.1.2.1, (j19.2.2.2.1.2.2.1, (j19.2.2.2.1.2.2.2.1, (true, (j19.2.2.2.1.2.2.2.2.2.1, ((), ()))))))), ()), (u20.2.1, (j19.2.2.2.2.1, ()))))
    (
    sel (decide (u20.1.1 = 3))
     (
     andK (spec_l1Cur_pick N 60 u20.2.1.1 u20.2.1.2.1 u20.2.1.2.2.1) fun u22 =>
     some (((u22.1.1, (j19.2.2.2.1.2.1, (j19.2.2.2.1.2.2.1, (j19.2.2.2.1.2.2.2.1, (j19.2.2.2.1.2.2.2.2.1, (j19.2.2.2.1.2.2.2.2.2.1, ((), ()))))))), ()), (u22.2.1, (j19.2.2.2.2.1, ()))))
     (
     some ((j19.2.2.2.1, ()), (u20.2.1, (j19.2.2.2.2.1, ()))))))) := by kernel_rfl
set_option maxRecDepth 100000 in
theorem spec_l1Cur_frame.say (N : Nat) : SayOk Try.prog (spec_l1Cur_frame.S N) := sayOk_mk (N := N) (H := spec_l1Cur_frame.H) (preps := [⟨[], [], [], [3]⟩]) (l := spec_l1Cur_frame.says) (fn := Try.f56) (c := bodyOf Try.f56)
  (by kernel_rfl) (by kernel_rfl) (by kernel_rfl) (by kernel_rfl) (by kernel_rfl) (by kernel_rfl) (by kernel_rfl)
  (fun N => SayAll.cons (spec_l1Cur_among.say N) (SayAll.cons (spec_l1Shape.say N) (SayAll.cons (spec_l1Cur_num.say N) (SayAll.cons (spec_l1Cur_pick.say N) (SayAll.cons (spec_l1Cur_one.say N) (SayAll.cons (spec_l1Cur_sizedBytes.say N) (SayAll.cons (spec_l1Cur_ranges.say N) (SayAll.nil)))))))) (fun a s => by kernel_rfl)

/-! ### loop.example/g00206/spec.DrawGoodFrame: function 48 -/
noncomputable def spec_DrawGoodFrame.H : Hints := hintsOf []
noncomputable def spec_DrawGoodFrame.says (N : Nat) : List Say := [spec_l1Cur_frame.S N]
noncomputable def spec_DrawGoodFrame.call (N : Nat) : CallK := callBy (spec_DrawGoodFrame.says N)
noncomputable def spec_DrawGoodFrame.qt (N : Nat) : FuncId → List PV → Sig → Cl := qtBy (spec_DrawGoodFrame.says N)
noncomputable def spec_DrawGoodFrame (N : Nat) (code : (List Int)) : Option (((Int × (Int × (Int × (Int × (Bool × (ByteArray × (Unit × Unit))))))) × Unit) × ((List (Int × Int)) × Unit)) :=
  ofFn Try.prog spec_DrawGoodFrame.call spec_DrawGoodFrame.qt spec_DrawGoodFrame.H N Try.f48 [.one (.sh (.rows (.int .u8)))] [] [.agg [ck_i, ck_i, ck_i, ck_i, ck_b, ck_s, .own 0]] [.rows (.pair (.int .i64) (.int .i64))] [⟨[], [], [], [2]⟩] (code, ()) ()
noncomputable def spec_DrawGoodFrame.S (N : Nat) : Say := ⟨false, 48, [.one (.sh (.rows (.int .u8)))], [], [.agg [ck_i, ck_i, ck_i, ck_i, ck_b, ck_s, .own 0]], [.rows (.pair (.int .i64) (.int .i64))], fun a s => spec_DrawGoodFrame N a.1⟩
set_option maxRecDepth 100000 in
theorem spec_DrawGoodFrame.eq (N : Nat) (code : (List Int)) : spec_DrawGoodFrame N code =
 andK (spec_l1Cur_frame N code 0 0) fun u1 =>
 some (u1.1, (u1.2.2.1, ())) := by kernel_rfl
set_option maxRecDepth 100000 in
theorem spec_DrawGoodFrame.say (N : Nat) : SayOk Try.prog (spec_DrawGoodFrame.S N) := sayOk_mk (N := N) (H := spec_DrawGoodFrame.H) (preps := [⟨[], [], [], [2]⟩]) (l := spec_DrawGoodFrame.says) (fn := Try.f48) (c := bodyOf Try.f48)
  (by kernel_rfl) (by kernel_rfl) (by kernel_rfl) (by kernel_rfl) (by kernel_rfl) (by kernel_rfl) (by kernel_rfl)
  (fun N => SayAll.cons (spec_l1Cur_frame.say N) (SayAll.nil)) (fun a s => by kernel_rfl)

/-! ### loop.example/g00206/spec.DrawFrameBytes: function 9 -/
noncomputable def spec_DrawFrameBytes.H : Hints := hintsOf []
noncomputable def spec_DrawFrameBytes.says (N : Nat) : List Say := [spec_DrawGoodFrame.S N]
noncomputable def spec_DrawFrameBytes.call (N : Nat) : CallK := callBy (spec_DrawFrameBytes.says N)
noncomputable def spec_DrawFrameBytes.qt (N : Nat) : FuncId → List PV → Sig → Cl := qtBy (spec_DrawFrameBytes.says N)
noncomputable def spec_DrawFrameBytes (N : Nat) (code : (List Int)) : Option (((Int × (Int × (Int × (Int × (Bool × (ByteArray × (Unit × Unit))))))) × Unit) × ((List (Int × Int)) × Unit)) :=
  ofFn Try.prog spec_DrawFrameBytes.call spec_DrawFrameBytes.qt spec_DrawFrameBytes.H N Try.f9 [.one (.sh (.rows (.int .u8)))] [] [.agg [ck_i, ck_i, ck_i, ck_i, ck_b, ck_s, .own 0]] [.rows (.pair (.int .i64) (.int .i64))] [⟨[], [], [], [1]⟩] (code, ()) ()
noncomputable def spec_DrawFrameBytes.S (N : Nat) : Say := ⟨false, 9, [.one (.sh (.rows (.int .u8)))], [], [.agg [ck_i, ck_i, ck_i, ck_i, ck_b, ck_s, .own 0]], [.rows (.pair (.int .i64) (.int .i64))], fun a s => spec_DrawFrameBytes N a.1⟩
set_option maxRecDepth 100000 in
theorem spec_DrawFrameBytes.eq (N : Nat) (code : (List Int)) : spec_DrawFrameBytes N code =
 andK (spec_DrawGoodFrame N code) fun u1 =>
 some (u1.1, u1.2) := by kernel_rfl
set_option maxRecDepth 100000 in
theorem spec_DrawFrameBytes.say (N : Nat) : SayOk Try.prog (spec_DrawFrameBytes.S N) := sayOk_mk (N := N) (H := spec_DrawFrameBytes.H) (preps := [⟨[], [], [], [1]⟩]) (l := spec_DrawFrameBytes.says) (fn := Try.f9) (c := bodyOf Try.f9)
  (by kernel_rfl) (by kernel_rfl) (by kernel_rfl) (by kernel_rfl) (by kernel_rfl) (by kernel_rfl) (by kernel_rfl)
  (fun N => SayAll.cons (spec_DrawGoodFrame.say N) (SayAll.nil)) (fun a s => by kernel_rfl)

/-! ### loop.example/g00206/impl.shapes: function 122 -/
noncomputable def impl_shapes.H : Hints := hintsOf []
noncomputable def impl_shapes.says (N : Nat) : List Say := []
noncomputable def impl_shapes.call (N : Nat) : CallK := callBy (impl_shapes.says N)
noncomputable def impl_shapes.qt (N : Nat) : FuncId → List PV → Sig → Cl := qtBy (impl_shapes.says N)
noncomputable def impl_shapes (N : Nat) : Option (((List (Int × (Int × Bool))) × Unit) × Unit) :=
  ofFn Try.prog impl_shapes.call impl_shapes.qt impl_shapes.H N Try.f122 [] [] [.one (.mapc .i64 true (.pair (.int .i64) .bool))] [] [⟨[], [], [], []⟩] () ()
noncomputable def impl_shapes.S (N : Nat) : Say := ⟨false, 122, [], [], [.one (.mapc .i64 true (.pair (.int .i64) .bool))], [], fun a s => impl_shapes N⟩
set_option maxRecDepth 100000 in
theorem impl_shapes.eq (N : Nat) : impl_shapes N =
 some (([(48, (0, true)), (28, (2, true)), (27, (0, true)), (26, (0, true)), (24, (3, true)), (17, (2, false)), (16, (1, false)), (8, (2, true)), (7, (0, true)), (6, (1, true)), (5, (2, false)), (4, (3, false)), (2, (1, false)), (1, (0, false)), (0, (0, false))], ()), ()) := by kernel_rfl
set_option maxRecDepth 100000 in
theorem impl_shapes.say (N : Nat) : SayOk Try.prog (impl_shapes.S N) := sayOk_mk (N := N) (H := impl_shapes.H) (preps := [⟨[], [], [], []⟩]) (l := impl_shapes.says) (fn := Try.f122) (c := bodyOf Try.f122)
  (by kernel_rfl) (by kernel_rfl) (by kernel_rfl) (by kernel_rfl) (by kernel_rfl) (by kernel_rfl) (by kernel_rfl)
  (fun N => SayAll.nil) (fun a s => by kernel_rfl)

/-! ### loop.example/g00206/impl.in: function 60 -/
noncomputable def impl_in.H : Hints := hintsOf []
noncomputable def impl_in.says (N : Nat) : List Say := []
noncomputable def impl_in.call (N : Nat) : CallK := callBy (impl_in.says N)
noncomputable def impl_in.qt (N : Nat) : FuncId → List PV → Sig → Cl := qtBy (impl_in.says N)
noncomputable def impl_in (N : Nat) (n : Int) (low : Int) (high : Int) : Option ((Bool × Unit) × Unit) :=
  ofFn Try.prog impl_in.call impl_in.qt impl_in.H N Try.f60 [ak_i, ak_i, ak_i] [] [ak_b] [] [⟨[], [], [], []⟩] (n, (low, (high, ()))) ()
noncomputable def impl_in.S (N : Nat) : Say := ⟨false, 60, [ak_i, ak_i, ak_i], [], [ak_b], [], fun a s => impl_in N a.1 a.2.1 a.2.2.1⟩
set_option maxRecDepth 100000 in
theorem impl_in.eq (N : Nat) (n : Int) (low : Int) (high : Int) : impl_in N n low high =
 sel (decide (low ≤ n))
  (
  some (((decide (n ≤ high)), ()), ()))
  (
  some ((false, ()), ())) := by kernel_rfl
set_option maxRecDepth 100000 in
theorem impl_in.say (N : Nat) : SayOk Try.prog (impl_in.S N) := sayOk_mk (N := N) (H := impl_in.H) (preps := [⟨[], [], [], []⟩]) (l := impl_in.says) (fn := Try.f60) (c := bodyOf Try.f60)
  (by kernel_rfl) (by kernel_rfl) (by kernel_rfl) (by kernel_rfl) (by kernel_rfl) (by kernel_rfl) (by kernel_rfl)
  (fun N => SayAll.nil) (fun a s => by kernel_rfl)

/-! ### loop.example/g00206/impl.isVarint: function 65 -/
noncomputable def impl_isVarint.H : Hints := hintsOf []
noncomputable def impl_isVarint.says (N : Nat) : List Say := [impl_in.S N]
noncomputable def impl_isVarint.call (N : Nat) : CallK := callBy (impl_isVarint.says N)
noncomputable def impl_isVarint.qt (N : Nat) : FuncId → List PV → Sig → Cl := qtBy (impl_isVarint.says N)
noncomputable def impl_isVarint (N : Nat) (n : Int) : Option ((Bool × Unit) × Unit) :=
  ofFn Try.prog impl_isVarint.call impl_isVarint.qt impl_isVarint.H N Try.f65 [ak_i] [] [ak_b] [] [⟨[], [], [], []⟩] (n, ()) ()
noncomputable def impl_isVarint.S (N : Nat) : Say := ⟨false, 65, [ak_i], [], [ak_b], [], fun a s => impl_isVarint N a.1⟩
set_option maxRecDepth 100000 in
theorem impl_isVarint.eq (N : Nat) (n : Int) : impl_isVarint N n =
 andK (impl_in N n 0 4611686018427387903) fun u1 =>
 some (u1.1, ()) := by kernel_rfl
set_option maxRecDepth 100000 in
theorem impl_isVarint.say (N : Nat) : SayOk Try.prog (impl_isVarint.S N) := sayOk_mk (N := N) (H := impl_isVarint.H) (preps := [⟨[], [], [], []⟩]) (l := impl_isVarint.says) (fn := Try.f65) (c := bodyOf Try.f65)
  (by kernel_rfl) (by kernel_rfl) (by kernel_rfl) (by kernel_rfl) (by kernel_rfl) (by kernel_rfl) (by kernel_rfl)
  (fun N => SayAll.cons (impl_in.say N) (SayAll.nil)) (fun a s => by kernel_rfl)

/-! ### (*loop.example/g00206/impl.Frame).named: function 63 -/
noncomputable def impl_Frame_named.H : Hints := hintsOf [(5000002, .join [⟨.normal, [], [0, 3, 65], [.one (.ptr 0 0), .one (.ptr 1 0), ak_b], [.cells [ck_i, ck_i, ck_i, ck_i, ck_b, ck_s, .sh (.rows (.pair (.int .i64) (.int .i64)))], .cells [ck_i, ck_b]], [⟨[], [], [], []⟩]⟩]),
  (5000007, .join [⟨.normal, [78, 79, 80], [3, 97], [.one (.ptr 1 0), ak_b], [.cells [ck_i, ck_i, ck_i, ck_i, ck_b, ck_s, .sh (.rows (.pair (.int .i64) (.int .i64)))], .cells [ck_i, ck_b]], [⟨[], [], [], []⟩]⟩]),
  (2000005, .loop ⟨.normal, [78, 79], [3, 80], [.one (.ptr 1 0), ak_i], [.cells [ck_i, ck_i, ck_i, ck_i, ck_b, ck_s, .sh (.rows (.pair (.int .i64) (.int .i64)))], .cells [ck_i, ck_b]], [⟨[], [], [], []⟩]⟩ [⟨.ret, [], [2], [ak_b], [.cells [ck_i, ck_i, ck_i, ck_i, ck_b, ck_s, .sh (.rows (.pair (.int .i64) (.int .i64)))], .cells [ck_i, ck_b]], [⟨[], [], [], []⟩]⟩, ⟨(.exit 0), [], [], [], [.cells [ck_i, ck_i, ck_i, ck_i, ck_b, ck_s, .sh (.rows (.pair (.int .i64) (.int .i64)))], .cells [ck_i, ck_b]], [⟨[], [], [], []⟩]⟩])]
noncomputable def impl_Frame_named.says (N : Nat) : List Say := [impl_shapes.S N, impl_isVarint.S N]
noncomputable def impl_Frame_named.call (N : Nat) : CallK := callBy (impl_Frame_named.says N)
noncomputable def impl_Frame_named.qt (N : Nat) : FuncId → List PV → Sig → Cl := qtBy (impl_Frame_named.says N)
noncomputable def impl_Frame_named.l0.hd : Alt := ⟨.normal, [78, 79], [3, 80], [.one (.ptr 1 0), ak_i], [.cells [ck_i, ck_i, ck_i, ck_i, ck_b, ck_s, .sh (.rows (.pair (.int .i64) (.int .i64)))], .cells [ck_i, ck_b]], [⟨[], [], [], []⟩]⟩
noncomputable def impl_Frame_named.l0.outs : List Alt := [⟨.ret, [], [2], [ak_b], [.cells [ck_i, ck_i, ck_i, ck_i, ck_b, ck_s, .sh (.rows (.pair (.int .i64) (.int .i64)))], .cells [ck_i, ck_b]], [⟨[], [], [], []⟩]⟩, ⟨(.exit 0), [], [], [], [.cells [ck_i, ck_i, ck_i, ck_i, ck_b, ck_s, .sh (.rows (.pair (.int .i64) (.int .i64)))], .cells [ck_i, ck_b]], [⟨[], [], [], []⟩]⟩]
noncomputable def impl_Frame_named.l0 (N : Nat) (t78 : (List Int)) (t80 : Int) (p0_01 : Int) (p0_11 : Int) (p0_21 : Int) (p0_31 : Int) (p0_41 : Bool) (p0_51 : ByteArray) (p0_61 : (List (Int × Int))) (p1_0 : Int) (p1_1 : Bool) : Option (((Bool × Unit) × ((Int × (Int × (Int × (Int × (Bool × (ByteArray × ((List (Int × Int)) × Unit))))))) × ((Int × (Bool × Unit)) × Unit))) ⊕ (Unit × ((Int × (Int × (Int × (Int × (Bool × (ByteArray × ((List (Int × Int)) × Unit))))))) × ((Int × (Bool × Unit)) × Unit)))) :=
  loopK Try.prog impl_Frame_named.call impl_Frame_named.qt impl_Frame_named.H (codeAt (bodyOf Try.f63) [1, 1, 1, 0, 1, 0, 0]) 2 impl_Frame_named.l0.hd impl_Frame_named.l0.outs [(78, .rows true (.int .i64) t78), (79, .v (.int .i64 3))] N (((), (t80, ())), ((p0_01, (p0_11, (p0_21, (p0_31, (p0_41, (p0_51, (p0_61, ()))))))), ((p1_0, (p1_1, ())), ())))
noncomputable def impl_Frame_named (N : Nat) (p0_0 : Int) (p0_1 : Int) (p0_2 : Int) (p0_3 : Int) (p0_4 : Bool) (p0_5 : ByteArray) (p0_6 : (List (Int × Int))) : Option ((Bool × Unit) × ((Int × (Int × (Int × (Int × (Bool × (ByteArray × ((List (Int × Int)) × Unit))))))) × Unit)) :=
  ofFn Try.prog impl_Frame_named.call impl_Frame_named.qt impl_Frame_named.H N Try.f63 [.one (.ptr 0 0)] [.cells [ck_i, ck_i, ck_i, ck_i, ck_b, ck_s, .sh (.rows (.pair (.int .i64) (.int .i64)))]] [ak_b] [.cells [ck_i, ck_i, ck_i, ck_i, ck_b, ck_s, .sh (.rows (.pair (.int .i64) (.int .i64)))]] [⟨[], [], [], []⟩] ((), ()) ((p0_0, (p0_1, (p0_2, (p0_3, (p0_4, (p0_5, (p0_6, ()))))))), ())
noncomputable def impl_Frame_named.S (N : Nat) : Say := ⟨false, 63, [.one (.ptr 0 0)], [.cells [ck_i, ck_i, ck_i, ck_i, ck_b, ck_s, .sh (.rows (.pair (.int .i64) (.int .i64)))]], [ak_b], [.cells [ck_i, ck_i, ck_i, ck_i, ck_b, ck_s, .sh (.rows (.pair (.int .i64) (.int .i64)))]], fun a s => impl_Frame_named N s.1.1 s.1.2.1 s.1.2.2.1 s.1.2.2.2.1 s.1.2.2.2.2.1 s.1.2.2.2.2.2.1 s.1.2.2.2.2.2.2.1⟩
set_option maxRecDepth 100000 in
theorem impl_Frame_named.l0.eq (N : Nat) (t78 : (List Int)) (t80 : Int) (p0_01 : Int) (p0_11 : Int) (p0_21 : Int) (p0_31 : Int) (p0_41 : Bool) (p0_51 : ByteArray) (p0_61 : (List (Int × Int))) (p1_0 : Int) (p1_1 : Bool) : impl_Frame_named.l0 (N + 1) t78 t80 p0_01 p0_11 p0_21 p0_31 p0_41 p0_51 p0_61 p1_0 p1_1 =
 sel (decide (t80 < 3))
  (
  chk ((decide (0 ≤ t80)) && (decide (t80 < (t78.length : Int)))) (
  andK (α := ((Unit × (Bool × Unit)) × ((Int × (Int × (Int × (Int × (Bool × (ByteArray × ((List (Int × Int)) × Unit))))))) × ((Int × (Bool × Unit)) × Unit)))) (
   andK (impl_isVarint N (t78.getD (Int.toNat t80) 0)) fun u3 =>
   sel (!u3.1.1)
    (
    some ((((), (true, ())), ((p0_01, (p0_11, (p0_21, (p0_31, (p0_41, (p0_51, (p0_61, ()))))))), ((p1_0, (p1_1, ())), ())))))
    (
    sel (decide (p1_0 ≤ t80))
     (
     some ((((), ((!(decide ((t78.getD (Int.toNat t80) 0) = 0))), ())), ((p0_01, (p0_11, (p0_21, (p0_31, (p0_41, (p0_51, (p0_61, ()))))))), ((p1_0, (p1_1, ())), ())))))
     (
     some ((((), (false, ())), ((p0_01, (p0_11, (p0_21, (p0_31, (p0_41, (p0_51, (p0_61, ()))))))), ((p1_0, (p1_1, ())), ()))))))) fun j4 =>
  sel j4.1.2.1
   (
   some (.inl ((false, ()), j4.2)))
   (
   impl_Frame_named.l0 N t78 (IntKind.i64.wrap (t80 + 1)) j4.2.1.1 j4.2.1.2.1 j4.2.1.2.2.1 j4.2.1.2.2.2.1 j4.2.1.2.2.2.2.1 j4.2.1.2.2.2.2.2.1 j4.2.1.2.2.2.2.2.2.1 j4.2.2.1.1 j4.2.2.1.2.1)))
  (
  some (.inr (((), ((p0_01, (p0_11, (p0_21, (p0_31, (p0_41, (p0_51, (p0_61, ()))))))), ((p1_0, (p1_1, ())), ())))))) := by kernel_rfl
set_option maxRecDepth 100000 in
theorem impl_Frame_named.eq (N : Nat) (p0_0 : Int) (p0_1 : Int) (p0_2 : Int) (p0_3 : Int) (p0_4 : Bool) (p0_5 : ByteArray) (p0_6 : (List (Int × Int))) : impl_Frame_named N p0_0 p0_1 p0_2 p0_3 p0_4 p0_5 p0_6 =
 andK (impl_shapes N) fun u1 =>
 chk ((Lit.int .i64 p0_0).wf) (
 andK (α := ((Unit × (Unit × (Bool × Unit))) × ((Int × (Int × (Int × (Int × (Bool × (ByteArray × ((List (Int × Int)) × Unit))))))) × ((Int × (Bool × Unit)) × Unit)))) (
  sel (!(hasM p0_0 u1.1.1))
   (
   some ((((), ((), (true, ()))), ((p0_0, (p0_1, (p0_2, (p0_3, (p0_4, (p0_5, (p0_6, ()))))))), (((getM (0, false) p0_0 u1.1.1).1, ((getM (0, false) p0_0 u1.1.1).2, ())), ())))))
   (
   sel (decide (200 < (p0_5.size : Int)))
    (
    some ((((), ((), (true, ()))), ((p0_0, (p0_1, (p0_2, (p0_3, (p0_4, (p0_5, (p0_6, ()))))))), (((getM (0, false) p0_0 u1.1.1).1, ((getM (0, false) p0_0 u1.1.1).2, ())), ())))))
    (
    sel (!(getM (0, false) p0_0 u1.1.1).2)
     (
     sel (!(decide (p0_5 = (⟨#[]⟩ : ByteArray))))
      (
      some ((((), ((), (true, ()))), ((p0_0, (p0_1, (p0_2, (p0_3, (p0_4, (p0_5, (p0_6, ()))))))), (((getM (0, false) p0_0 u1.1.1).1, ((getM (0, false) p0_0 u1.1.1).2, ())), ())))))
      (
      sel p0_4
       (
       sel (!(decide (p0_0 = 8)))
        (
        some ((((), ((), (true, ()))), ((p0_0, (p0_1, (p0_2, (p0_3, (p0_4, (p0_5, (p0_6, ()))))))), (((getM (0, false) p0_0 u1.1.1).1, ((getM (0, false) p0_0 u1.1.1).2, ())), ())))))
        (
        sel (decide (0 < (p0_6.length : Int)))
         (
         some ((((), ((), ((!(decide (p0_0 = 2))), ()))), ((p0_0, (p0_1, (p0_2, (p0_3, (p0_4, (p0_5, (p0_6, ()))))))), (((getM (0, false) p0_0 u1.1.1).1, ((getM (0, false) p0_0 u1.1.1).2, ())), ())))))
         (
         some ((((), ((), (false, ()))), ((p0_0, (p0_1, (p0_2, (p0_3, (p0_4, (p0_5, (p0_6, ()))))))), (((getM (0, false) p0_0 u1.1.1).1, ((getM (0, false) p0_0 u1.1.1).2, ())), ())))))))
       (
       sel (decide (0 < (p0_6.length : Int)))
        (
        some ((((), ((), ((!(decide (p0_0 = 2))), ()))), ((p0_0, (p0_1, (p0_2, (p0_3, (p0_4, (p0_5, (p0_6, ()))))))), (((getM (0, false) p0_0 u1.1.1).1, ((getM (0, false) p0_0 u1.1.1).2, ())), ())))))
        (
        some ((((), ((), (false, ()))), ((p0_0, (p0_1, (p0_2, (p0_3, (p0_4, (p0_5, (p0_6, ()))))))), (((getM (0, false) p0_0 u1.1.1).1, ((getM (0, false) p0_0 u1.1.1).2, ())), ()))))))))
     (
     sel p0_4
      (
      sel (!(decide (p0_0 = 8)))
       (
       some ((((), ((), (true, ()))), ((p0_0, (p0_1, (p0_2, (p0_3, (p0_4, (p0_5, (p0_6, ()))))))), (((getM (0, false) p0_0 u1.1.1).1, ((getM (0, false) p0_0 u1.1.1).2, ())), ())))))
       (
       sel (decide (0 < (p0_6.length : Int)))
        (
        some ((((), ((), ((!(decide (p0_0 = 2))), ()))), ((p0_0, (p0_1, (p0_2, (p0_3, (p0_4, (p0_5, (p0_6, ()))))))), (((getM (0, false) p0_0 u1.1.1).1, ((getM (0, false) p0_0 u1.1.1).2, ())), ())))))
        (
        some ((((), ((), (false, ()))), ((p0_0, (p0_1, (p0_2, (p0_3, (p0_4, (p0_5, (p0_6, ()))))))), (((getM (0, false) p0_0 u1.1.1).1, ((getM (0, false) p0_0 u1.1.1).2, ())), ())))))))
      (
      sel (decide (0 < (p0_6.length : Int)))
       (
       some ((((), ((), ((!(decide (p0_0 = 2))), ()))), ((p0_0, (p0_1, (p0_2, (p0_3, (p0_4, (p0_5, (p0_6, ()))))))), (((getM (0, false) p0_0 u1.1.1).1, ((getM (0, false) p0_0 u1.1.1).2, ())), ())))))
       (
       some ((((), ((), (false, ()))), ((p0_0, (p0_1, (p0_2, (p0_3, (p0_4, (p0_5, (p0_6, ()))))))), (((getM (0, false) p0_0 u1.1.1).1, ((getM (0, false) p0_0 u1.1.1).2, ())), ())))))))))) fun j2 =>
 sel j2.1.2.2.1
  (
  some ((false, ()), (j2.2.1, ())))
  (
  andK (impl_Frame_named.l0 N [j2.2.1.2.1, j2.2.1.2.2.1, j2.2.1.2.2.2.1] 0 j2.2.1.1 j2.2.1.2.1 j2.2.1.2.2.1 j2.2.1.2.2.2.1 j2.2.1.2.2.2.2.1 j2.2.1.2.2.2.2.2.1 j2.2.1.2.2.2.2.2.2.1 j2.2.2.1.1 j2.2.2.1.2.1) fun l5 =>
  orK l5 (fun x6 =>
   some (x6.1, (x6.2.1, ())))
   (fun x7 =>
   some ((true, ()), (x7.2.1, ()))))) := by kernel_rfl
set_option maxRecDepth 100000 in
theorem impl_Frame_named.say (N : Nat) : SayOk Try.prog (impl_Frame_named.S N) := sayOk_mk (N := N) (H := impl_Frame_named.H) (preps := [⟨[], [], [], []⟩]) (l := impl_Frame_named.says) (fn := Try.f63) (c := bodyOf Try.f63)
  (by kernel_rfl) (by kernel_rfl) (by kernel_rfl) (by kernel_rfl) (by kernel_rfl) (by kernel_rfl) (by kernel_rfl)
  (fun N => SayAll.cons (impl_shapes.say N) (SayAll.cons (impl_isVarint.say N) (SayAll.nil))) (fun a s => by kernel_rfl)

/-! ### loop.example/g00206/impl.rangesOk: function 64 -/
noncomputable def impl_rangesOk.H : Hints := hintsOf [(5000004, .join [⟨.normal, [0, 5, 6, 7], [44], [ak_b], [.cells [ck_i, ck_i]], [⟨[], [], [], []⟩]⟩]),
  (2000002, .loop ⟨.normal, [0, 5, 6], [7], [ak_i], [], [⟨[], [], [], []⟩]⟩ [⟨.ret, [], [2], [ak_b], [], [⟨[], [], [], []⟩]⟩, ⟨(.exit 0), [], [], [], [], [⟨[], [], [], []⟩]⟩])]
noncomputable def impl_rangesOk.says (N : Nat) : List Say := [impl_isVarint.S N]
noncomputable def impl_rangesOk.call (N : Nat) : CallK := callBy (impl_rangesOk.says N)
noncomputable def impl_rangesOk.qt (N : Nat) : FuncId → List PV → Sig → Cl := qtBy (impl_rangesOk.says N)
noncomputable def impl_rangesOk.l0.hd : Alt := ⟨.normal, [0, 5, 6], [7], [ak_i], [], [⟨[], [], [], []⟩]⟩
noncomputable def impl_rangesOk.l0.outs : List Alt := [⟨.ret, [], [2], [ak_b], [], [⟨[], [], [], []⟩]⟩, ⟨(.exit 0), [], [], [], [], [⟨[], [], [], []⟩]⟩]
noncomputable def impl_rangesOk.l0 (N : Nat) (l1 : (List (Int × Int))) (t5 : (List (Int × Int))) (t6 : Int) (t7 : Int) : Option (((Bool × Unit) × Unit) ⊕ (Unit × Unit)) :=
  loopK Try.prog impl_rangesOk.call impl_rangesOk.qt impl_rangesOk.H (codeAt (bodyOf Try.f64) [1, 0, 1, 0, 0]) 0 impl_rangesOk.l0.hd impl_rangesOk.l0.outs [(0, .rows false (.pair (.int .i64) (.int .i64)) l1), (5, .rows false (.pair (.int .i64) (.int .i64)) t5), (6, .v (.int .i64 t6))] N ((t7, ()), ())
noncomputable def impl_rangesOk (N : Nat) (l : (List (Int × Int))) : Option ((Bool × Unit) × Unit) :=
  ofFn Try.prog impl_rangesOk.call impl_rangesOk.qt impl_rangesOk.H N Try.f64 [.one (.sh (.rows (.pair (.int .i64) (.int .i64))))] [] [ak_b] [] [⟨[], [], [], []⟩] (l, ()) ()
noncomputable def impl_rangesOk.S (N : Nat) : Say := ⟨false, 64, [.one (.sh (.rows (.pair (.int .i64) (.int .i64))))], [], [ak_b], [], fun a s => impl_rangesOk N a.1⟩
set_option maxRecDepth 100000 in
theorem impl_rangesOk.l0.eq (N : Nat) (l1 : (List (Int × Int))) (t5 : (List (Int × Int))) (t6 : Int) (t7 : Int) : impl_rangesOk.l0 (N + 1) l1 t5 t6 t7 =
 sel (decide (t7 < t6))
  (
  chk ((decide (0 ≤ t7)) && (decide (t7 < (t5.length : Int)))) (
  andK (α := ((Bool × Unit) × ((Int × (Int × Unit)) × Unit))) (
   andK (impl_isVarint N (rdS (.pair (.int .i64) (.int .i64)) t5 (Int.toNat t7)).1) fun u1 =>
   sel (!u1.1.1)
    (
    some (((true, ()), (((rdS (.pair (.int .i64) (.int .i64)) t5 (Int.toNat t7)).1, ((rdS (.pair (.int .i64) (.int .i64)) t5 (Int.toNat t7)).2, ())), ()))))
    (
    andK (impl_isVarint N (rdS (.pair (.int .i64) (.int .i64)) t5 (Int.toNat t7)).2) fun u2 =>
    sel (!u2.1.1)
     (
     some (((true, ()), (((rdS (.pair (.int .i64) (.int .i64)) t5 (Int.toNat t7)).1, ((rdS (.pair (.int .i64) (.int .i64)) t5 (Int.toNat t7)).2, ())), ()))))
     (
     sel (decide ((rdS (.pair (.int .i64) (.int .i64)) t5 (Int.toNat t7)).2 < (rdS (.pair (.int .i64) (.int .i64)) t5 (Int.toNat t7)).1))
      (
      some (((true, ()), (((rdS (.pair (.int .i64) (.int .i64)) t5 (Int.toNat t7)).1, ((rdS (.pair (.int .i64) (.int .i64)) t5 (Int.toNat t7)).2, ())), ()))))
      (
      sel (decide (0 < t7))
       (
       chk ((decide (0 ≤ (IntKind.i64.wrap (t7 - 1)))) && (decide ((IntKind.i64.wrap (t7 - 1)) < (l1.length : Int)))) (
       some ((((decide ((rdS (.pair (.int .i64) (.int .i64)) l1 (Int.toNat (IntKind.i64.wrap (t7 - 1)))).1 < (IntKind.i64.wrap ((rdS (.pair (.int .i64) (.int .i64)) t5 (Int.toNat t7)).2 + 2)))), ()), (((rdS (.pair (.int .i64) (.int .i64)) t5 (Int.toNat t7)).1, ((rdS (.pair (.int .i64) (.int .i64)) t5 (Int.toNat t7)).2, ())), ())))))
       (
       some (((false, ()), (((rdS (.pair (.int .i64) (.int .i64)) t5 (Int.toNat t7)).1, ((rdS (.pair (.int .i64) (.int .i64)) t5 (Int.toNat t7)).2, ())), ())))))))) fun j3 =>
  sel j3.1.1
   (
   some (.inl ((false, ()), ())))
   (
   impl_rangesOk.l0 N l1 t5 t6 (IntKind.i64.wrap (t7 + 1)))))
  (
  some (.inr (((), ())))) := by kernel_rfl
set_option maxRecDepth 100000 in
theorem impl_rangesOk.eq (N : Nat) (l : (List (Int × Int))) : impl_rangesOk N l =
 andK (impl_rangesOk.l0 N l l (l.length : Int) 0) fun l4 =>
 orK l4 (fun x5 =>
  some (x5.1, ()))
  (fun x6 =>
  some ((true, ()), ())) := by kernel_rfl
set_option maxRecDepth 100000 in
theorem impl_rangesOk.say (N : Nat) : SayOk Try.prog (impl_rangesOk.S N) := sayOk_mk (N := N) (H := impl_rangesOk.H) (preps := [⟨[], [], [], []⟩]) (l := impl_rangesOk.says) (fn := Try.f64) (c := bodyOf Try.f64)
  (by kernel_rfl) (by kernel_rfl) (by kernel_rfl) (by kernel_rfl) (by kernel_rfl) (by kernel_rfl) (by kernel_rfl)
  (fun N => SayAll.cons (impl_isVarint.say N) (SayAll.nil)) (fun a s => by kernel_rfl)

/-! ### loop.example/g00206/impl.GoodFrame: function 21 -/
noncomputable def impl_GoodFrame.H : Hints := hintsOf []
noncomputable def impl_GoodFrame.says (N : Nat) : List Say := [impl_Frame_named.S N, impl_in.S N, impl_rangesOk.S N, impl_isVarint.S N]
noncomputable def impl_GoodFrame.call (N : Nat) : CallK := callBy (impl_GoodFrame.says N)
noncomputable def impl_GoodFrame.qt (N : Nat) : FuncId → List PV → Sig → Cl := qtBy (impl_GoodFrame.says N)
noncomputable def impl_GoodFrame (N : Nat) (G_0 : Int) (G_1 : Int) (G_2 : Int) (G_3 : Int) (G_4 : Bool) (G_5 : ByteArray) (G_6 : (List (Int × Int))) : Option ((Bool × Unit) × Unit) :=
  ofFn Try.prog impl_GoodFrame.call impl_GoodFrame.qt impl_GoodFrame.H N Try.f21 [.agg [ck_i, ck_i, ck_i, ck_i, ck_b, ck_s, .sh (.rows (.pair (.int .i64) (.int .i64)))]] [] [ak_b] [] [⟨[], [], [], []⟩] ((G_0, (G_1, (G_2, (G_3, (G_4, (G_5, (G_6, ()))))))), ()) ()
noncomputable def impl_GoodFrame.S (N : Nat) : Say := ⟨false, 21, [.agg [ck_i, ck_i, ck_i, ck_i, ck_b, ck_s, .sh (.rows (.pair (.int .i64) (.int .i64)))]], [], [ak_b], [], fun a s => impl_GoodFrame N a.1.1 a.1.2.1 a.1.2.2.1 a.1.2.2.2.1 a.1.2.2.2.2.1 a.1.2.2.2.2.2.1 a.1.2.2.2.2.2.2.1⟩
set_option maxRecDepth 100000 in
theorem impl_GoodFrame.eq (N : Nat) (G_0 : Int) (G_1 : Int) (G_2 : Int) (G_3 : Int) (G_4 : Bool) (G_5 : ByteArray) (G_6 : (List (Int × Int))) : impl_GoodFrame N G_0 G_1 G_2 G_3 G_4 G_5 G_6 =
 andK (impl_Frame_named N G_0 G_1 G_2 G_3 G_4 G_5 G_6) fun u1 =>
 sel (!u1.1.1)
  (
  some ((false, ()), ()))
  (
  sel (decide (u1.2.1.1 = 2))
   (
   andK (impl_in N (u1.2.1.2.2.2.2.2.2.1.length : Int) 1 20) fun u2 =>
   sel u2.1.1
    (
    andK (impl_rangesOk N u1.2.1.2.2.2.2.2.2.1) fun u3 =>
    some (u3.1, ()))
    (
    some ((false, ()), ())))
   (
   sel (decide (u1.2.1.1 = 6))
    (
    andK (impl_isVarint N (IntKind.i64.wrap (u1.2.1.2.1 + (u1.2.1.2.2.2.2.2.1.size : Int)))) fun u4 =>
    some (u4.1, ()))
    (
    sel (decide (u1.2.1.1 = 7))
     (
     some (((!(decide (u1.2.1.2.2.2.2.2.1 = (⟨#[]⟩ : ByteArray)))), ()), ()))
     (
     sel (decide (u1.2.1.1 = 8))
      (
      andK (impl_isVarint N (IntKind.i64.wrap (u1.2.1.2.2.1 + (u1.2.1.2.2.2.2.2.1.size : Int)))) fun u5 =>
      some (u5.1, ()))
      (
      sel (decide (u1.2.1.1 = 24))
       (
       sel (decide (u1.2.1.2.2.1 ≤ u1.2.1.2.1))
        (
        andK (impl_in N (u1.2.1.2.2.2.2.2.1.size : Int) 1 20) fun u6 =>
        sel u6.1.1
         (
         some (((decide (u1.2.1.2.2.2.1 ≤ 255)), ()), ()))
         (
         some ((false, ()), ())))
        (
        some ((false, ()), ())))
       (
       sel (decide (u1.2.1.1 = 26))
        (
        sel (decide (u1.2.1.1 = 26))
         (
         some (((decide ((u1.2.1.2.2.2.2.2.1.size : Int) = 8)), ()), ()))
         (
         some ((true, ()), ())))
        (
        sel (decide (u1.2.1.1 = 27))
         (
         some (((decide ((u1.2.1.2.2.2.2.2.1.size : Int) = 8)), ()), ()))
         (
         some ((true, ()), ()))))))))) := by kernel_rfl
set_option maxRecDepth 100000 in
theorem impl_GoodFrame.say (N : Nat) : SayOk Try.prog (impl_GoodFrame.S N) := sayOk_mk (N := N) (H := impl_GoodFrame.H) (preps := [⟨[], [], [], []⟩]) (l := impl_GoodFrame.says) (fn := Try.f21) (c := bodyOf Try.f21)
  (by kernel_rfl) (by kernel_rfl) (by kernel_rfl) (by kernel_rfl) (by kernel_rfl) (by kernel_rfl) (by kernel_rfl)
  (fun N => SayAll.cons (impl_Frame_named.say N) (SayAll.cons (impl_in.say N) (SayAll.cons (impl_rangesOk.say N) (SayAll.cons (impl_isVarint.say N) (SayAll.nil))))) (fun a s => by kernel_rfl)

/-! ### loop.example/g00206/impl.varintSize: function 138 -/
noncomputable def impl_varintSize.H : Hints := hintsOf []
noncomputable def impl_varintSize.says (N : Nat) : List Say := []
noncomputable def impl_varintSize.call (N : Nat) : CallK := callBy (impl_varintSize.says N)
noncomputable def impl_varintSize.qt (N : Nat) : FuncId → List PV → Sig → Cl := qtBy (impl_varintSize.says N)
noncomputable def impl_varintSize (N : Nat) (n : Int) : Option ((Int × Unit) × Unit) :=
  ofFn Try.prog impl_varintSize.call impl_varintSize.qt impl_varintSize.H N Try.f138 [ak_i] [] [ak_i] [] [⟨[], [], [], []⟩] (n, ()) ()
noncomputable def impl_varintSize.S (N : Nat) : Say := ⟨false, 138, [ak_i], [], [ak_i], [], fun a s => impl_varintSize N a.1⟩
set_option maxRecDepth 100000 in
theorem impl_varintSize.eq (N : Nat) (n : Int) : impl_varintSize N n =
 sel (decide (n < 64))
  (
  some ((1, ()), ()))
  (
  sel (decide (n < 16384))
   (
   some ((2, ()), ()))
   (
   sel (decide (n < 1073741824))
    (
    some ((4, ()), ()))
    (
    some ((8, ()), ())))) := by kernel_rfl
set_option maxRecDepth 100000 in
theorem impl_varintSize.say (N : Nat) : SayOk Try.prog (impl_varintSize.S N) := sayOk_mk (N := N) (H := impl_varintSize.H) (preps := [⟨[], [], [], []⟩]) (l := impl_varintSize.says) (fn := Try.f138) (c := bodyOf Try.f138)
  (by kernel_rfl) (by kernel_rfl) (by kernel_rfl) (by kernel_rfl) (by kernel_rfl) (by kernel_rfl) (by kernel_rfl)
  (fun N => SayAll.nil) (fun a s => by kernel_rfl)

/-! ### loop.example/g00206/impl.bigEndian: function 105 -/
noncomputable def impl_bigEndian.H : Hints := hintsOf [(2000003, .loop ⟨.normal, [], [0, 5, 6], [.one (.sh (.int .u64)), .one (.own 0), ak_i], [.rows (.int .u8)], [⟨[], [], [], []⟩]⟩ [⟨(.exit 0), [], [5], [.one (.own 0)], [.rows (.int .u8)], [⟨[], [], [], []⟩]⟩])]
noncomputable def impl_bigEndian.says (N : Nat) : List Say := []
noncomputable def impl_bigEndian.call (N : Nat) : CallK := callBy (impl_bigEndian.says N)
noncomputable def impl_bigEndian.qt (N : Nat) : FuncId → List PV → Sig → Cl := qtBy (impl_bigEndian.says N)
noncomputable def impl_bigEndian.l0.hd : Alt := ⟨.normal, [], [0, 5, 6], [.one (.sh (.int .u64)), .one (.own 0), ak_i], [.rows (.int .u8)], [⟨[], [], [], []⟩]⟩
noncomputable def impl_bigEndian.l0.outs : List Alt := [⟨(.exit 0), [], [5], [.one (.own 0)], [.rows (.int .u8)], [⟨[], [], [], []⟩]⟩]
noncomputable def impl_bigEndian.l0 (N : Nat) (n1 : Int) (i : Int) (p0 : (List Int)) : Option ((Unit × Unit) × ((List Int) × Unit)) :=
  loopK Try.prog impl_bigEndian.call impl_bigEndian.qt impl_bigEndian.H (codeAt (bodyOf Try.f105) [1, 1, 0, 1, 0, 0]) 1 impl_bigEndian.l0.hd impl_bigEndian.l0.outs [] N ((n1, ((), (i, ()))), (p0, ()))
noncomputable def impl_bigEndian (N : Nat) (n : Int) (many : Int) : Option ((ByteArray × Unit) × Unit) :=
  ofFn Try.prog impl_bigEndian.call impl_bigEndian.qt impl_bigEndian.H N Try.f105 [.one (.sh (.int .u64)), ak_i] [] [ak_s] [] [⟨[], [], [], []⟩] (n, (many, ())) ()
noncomputable def impl_bigEndian.S (N : Nat) : Say := ⟨false, 105, [.one (.sh (.int .u64)), ak_i], [], [ak_s], [], fun a s => impl_bigEndian N a.1 a.2.1⟩
set_option maxRecDepth 100000 in
theorem impl_bigEndian.l0.eq (N : Nat) (n1 : Int) (i : Int) (p0 : (List Int)) : impl_bigEndian.l0 (N + 1) n1 i p0 =
 sel (decide (0 ≤ i))
  (
  chk ((decide (0 ≤ i)) && (decide (i < (p0.length : Int)))) (
  impl_bigEndian.l0 N (shrI .u64 n1 8) (IntKind.i64.wrap (i - 1)) (p0.set (Int.toNat i) (IntKind.u8.wrap n1))))
  (
  some ((((), ()), (p0, ())))) := by kernel_rfl
set_option maxRecDepth 100000 in
theorem impl_bigEndian.eq (N : Nat) (n : Int) (many : Int) : impl_bigEndian N n many =
 chk ((decide (0 ≤ many)) && ((smallI many) && (decide (many = many)))) (
 andK (impl_bigEndian.l0 N n (IntKind.i64.wrap (many - 1)) (List.replicate (Int.toNat many) (0 : Int))) fun l1 =>
 some (((strL l1.2.1), ()), ())) := by kernel_rfl
set_option maxRecDepth 100000 in
theorem impl_bigEndian.say (N : Nat) : SayOk Try.prog (impl_bigEndian.S N) := sayOk_mk (N := N) (H := impl_bigEndian.H) (preps := [⟨[], [], [], []⟩]) (l := impl_bigEndian.says) (fn := Try.f105) (c := bodyOf Try.f105)
  (by kernel_rfl) (by kernel_rfl) (by kernel_rfl) (by kernel_rfl) (by kernel_rfl) (by kernel_rfl) (by kernel_rfl)
  (fun N => SayAll.nil) (fun a s => by kernel_rfl)

/-! ### loop.example/g00206/impl.varint: function 101 -/
noncomputable def impl_varint.H : Hints := hintsOf []
noncomputable def impl_varint.says (N : Nat) : List Say := [impl_varintSize.S N, impl_bigEndian.S N]
noncomputable def impl_varint.call (N : Nat) : CallK := callBy (impl_varint.says N)
noncomputable def impl_varint.qt (N : Nat) : FuncId → List PV → Sig → Cl := qtBy (impl_varint.says N)
noncomputable def impl_varint (N : Nat) (n : Int) : Option ((ByteArray × Unit) × Unit) :=
  ofFn Try.prog impl_varint.call impl_varint.qt impl_varint.H N Try.f101 [ak_i] [] [ak_s] [] [⟨[], [], [], []⟩] (n, ()) ()
noncomputable def impl_varint.S (N : Nat) : Say := ⟨false, 101, [ak_i], [], [ak_s], [], fun a s => impl_varint N a.1⟩
set_option maxRecDepth 100000 in
theorem impl_varint.eq (N : Nat) (n : Int) : impl_varint N n =
 andK (impl_varintSize N n) fun u1 =>
 chk (hasK u1.1.1 [(8, 3), (4, 2), (2, 1), (1, 0)]) (
 chk (decide (0 ≤ (IntKind.i64.wrap ((IntKind.i64.wrap (8 * u1.1.1)) - 2)))) (
 andK (impl_bigEndian N (Go.bits .or .u64 (IntKind.u64.wrap n) (shlI .u64 (getK u1.1.1 [(8, 3), (4, 2), (2, 1), (1, 0)]) (IntKind.i64.wrap ((IntKind.i64.wrap (8 * u1.1.1)) - 2)))) u1.1.1) fun u2 =>
 some (u2.1, ()))) := by kernel_rfl
set_option maxRecDepth 100000 in
theorem impl_varint.say (N : Nat) : SayOk Try.prog (impl_varint.S N) := sayOk_mk (N := N) (H := impl_varint.H) (preps := [⟨[], [], [], []⟩]) (l := impl_varint.says) (fn := Try.f101) (c := bodyOf Try.f101)
  (by kernel_rfl) (by kernel_rfl) (by kernel_rfl) (by kernel_rfl) (by kernel_rfl) (by kernel_rfl) (by kernel_rfl)
  (fun N => SayAll.cons (impl_varintSize.say N) (SayAll.cons (impl_bigEndian.say N) (SayAll.nil))) (fun a s => by kernel_rfl)

/-! ### (*loop.example/g00206/impl.Frame).ackBytes: function 102 -/
noncomputable def impl_Frame_ackBytes.H : Hints := hintsOf [(2000004, .loop ⟨.normal, [41, 42], [0, 4, 43], [.one (.ptr 0 0), ak_s, ak_i], [.cells [ck_i, ck_i, ck_i, ck_i, ck_b, ck_s, .sh (.rows (.pair (.int .i64) (.int .i64)))], .cells [ck_i, ck_i]], [⟨[], [], [], []⟩]⟩ [⟨(.exit 0), [], [4], [ak_s], [.cells [ck_i, ck_i, ck_i, ck_i, ck_b, ck_s, .sh (.rows (.pair (.int .i64) (.int .i64)))], .cells [ck_i, ck_i]], [⟨[], [], [], []⟩]⟩])]
noncomputable def impl_Frame_ackBytes.says (N : Nat) : List Say := [impl_varint.S N]
noncomputable def impl_Frame_ackBytes.call (N : Nat) : CallK := callBy (impl_Frame_ackBytes.says N)
noncomputable def impl_Frame_ackBytes.qt (N : Nat) : FuncId → List PV → Sig → Cl := qtBy (impl_Frame_ackBytes.says N)
noncomputable def impl_Frame_ackBytes.l0.hd : Alt := ⟨.normal, [41, 42], [0, 4, 43], [.one (.ptr 0 0), ak_s, ak_i], [.cells [ck_i, ck_i, ck_i, ck_i, ck_b, ck_s, .sh (.rows (.pair (.int .i64) (.int .i64)))], .cells [ck_i, ck_i]], [⟨[], [], [], []⟩]⟩
noncomputable def impl_Frame_ackBytes.l0.outs : List Alt := [⟨(.exit 0), [], [4], [ak_s], [.cells [ck_i, ck_i, ck_i, ck_i, ck_b, ck_s, .sh (.rows (.pair (.int .i64) (.int .i64)))], .cells [ck_i, ck_i]], [⟨[], [], [], []⟩]⟩]
noncomputable def impl_Frame_ackBytes.l0 (N : Nat) (t41 : (List (Int × Int))) (t42 : Int) (o : ByteArray) (t43 : Int) (p0_01 : Int) (p0_11 : Int) (p0_21 : Int) (p0_31 : Int) (p0_41 : Bool) (p0_51 : ByteArray) (p0_61 : (List (Int × Int))) (p1_0 : Int) (p1_1 : Int) : Option ((ByteArray × Unit) × ((Int × (Int × (Int × (Int × (Bool × (ByteArray × ((List (Int × Int)) × Unit))))))) × ((Int × (Int × Unit)) × Unit))) :=
  loopK Try.prog impl_Frame_ackBytes.call impl_Frame_ackBytes.qt impl_Frame_ackBytes.H (codeAt (bodyOf Try.f102) [1, 1, 1, 0, 1, 0, 0]) 2 impl_Frame_ackBytes.l0.hd impl_Frame_ackBytes.l0.outs [(41, .rows false (.pair (.int .i64) (.int .i64)) t41), (42, .v (.int .i64 t42))] N (((), (o, (t43, ()))), ((p0_01, (p0_11, (p0_21, (p0_31, (p0_41, (p0_51, (p0_61, ()))))))), ((p1_0, (p1_1, ())), ())))
noncomputable def impl_Frame_ackBytes (N : Nat) (p0_0 : Int) (p0_1 : Int) (p0_2 : Int) (p0_3 : Int) (p0_4 : Bool) (p0_5 : ByteArray) (p0_6 : (List (Int × Int))) : Option ((ByteArray × Unit) × ((Int × (Int × (Int × (Int × (Bool × (ByteArray × ((List (Int × Int)) × Unit))))))) × Unit)) :=
  ofFn Try.prog impl_Frame_ackBytes.call impl_Frame_ackBytes.qt impl_Frame_ackBytes.H N Try.f102 [.one (.ptr 0 0)] [.cells [ck_i, ck_i, ck_i, ck_i, ck_b, ck_s, .sh (.rows (.pair (.int .i64) (.int .i64)))]] [ak_s] [.cells [ck_i, ck_i, ck_i, ck_i, ck_b, ck_s, .sh (.rows (.pair (.int .i64) (.int .i64)))]] [⟨[], [], [], []⟩] ((), ()) ((p0_0, (p0_1, (p0_2, (p0_3, (p0_4, (p0_5, (p0_6, ()))))))), ())
noncomputable def impl_Frame_ackBytes.S (N : Nat) : Say := ⟨false, 102, [.one (.ptr 0 0)], [.cells [ck_i, ck_i, ck_i, ck_i, ck_b, ck_s, .sh (.rows (.pair (.int .i64) (.int .i64)))]], [ak_s], [.cells [ck_i, ck_i, ck_i, ck_i, ck_b, ck_s, .sh (.rows (.pair (.int .i64) (.int .i64)))]], fun a s => impl_Frame_ackBytes N s.1.1 s.1.2.1 s.1.2.2.1 s.1.2.2.2.1 s.1.2.2.2.2.1 s.1.2.2.2.2.2.1 s.1.2.2.2.2.2.2.1⟩
set_option maxRecDepth 100000 in
theorem impl_Frame_ackBytes.l0.eq (N : Nat) (t41 : (List (Int × Int))) (t42 : Int) (o : ByteArray) (t43 : Int) (p0_01 : Int) (p0_11 : Int) (p0_21 : Int) (p0_31 : Int) (p0_41 : Bool) (p0_51 : ByteArray) (p0_61 : (List (Int × Int))) (p1_0 : Int) (p1_1 : Int) : impl_Frame_ackBytes.l0 (N + 1) t41 t42 o t43 p0_01 p0_11 p0_21 p0_31 p0_41 p0_51 p0_61 p1_0 p1_1 =
 sel (decide (t43 < t42))
  (
  chk ((decide (0 ≤ t43)) && (decide (t43 < (t41.length : Int)))) (
  chk ((decide (0 ≤ t43)) && (decide (t43 < (p0_61.length : Int)))) (
  andK (impl_varint N (IntKind.i64.wrap ((IntKind.i64.wrap ((rdS (.pair (.int .i64) (.int .i64)) p0_61 (Int.toNat t43)).1 - (rdS (.pair (.int .i64) (.int .i64)) t41 (Int.toNat t43)).2)) - 2))) fun u5 =>
  andK (impl_varint N (IntKind.i64.wrap ((rdS (.pair (.int .i64) (.int .i64)) t41 (Int.toNat t43)).2 - (rdS (.pair (.int .i64) (.int .i64)) t41 (Int.toNat t43)).1))) fun u6 =>
  chk (decide (u5.1.1.size + u6.1.1.size ≤ 9223372036854775807)) (
  chk (decide (o.size + (u5.1.1 ++ u6.1.1).size ≤ 9223372036854775807)) (
  impl_Frame_ackBytes.l0 N t41 t42 (o ++ (u5.1.1 ++ u6.1.1)) (IntKind.i64.wrap (t43 + 1)) p0_01 p0_11 p0_21 p0_31 p0_41 p0_51 p0_61 p1_0 p1_1)))))
  (
  some (((o, ()), ((p0_01, (p0_11, (p0_21, (p0_31, (p0_41, (p0_51, (p0_61, ()))))))), ((p1_0, (p1_1, ())), ()))))) := by kernel_rfl
set_option maxRecDepth 100000 in
theorem impl_Frame_ackBytes.eq (N : Nat) (p0_0 : Int) (p0_1 : Int) (p0_2 : Int) (p0_3 : Int) (p0_4 : Bool) (p0_5 : ByteArray) (p0_6 : (List (Int × Int))) : impl_Frame_ackBytes N p0_0 p0_1 p0_2 p0_3 p0_4 p0_5 p0_6 =
 chk (decide (0 < (p0_6.length : Int))) (
 andK (impl_varint N (rdS (.pair (.int .i64) (.int .i64)) p0_6 0).2) fun u1 =>
 andK (impl_varint N p0_1) fun u2 =>
 chk (decide (u1.1.1.size + u2.1.1.size ≤ 9223372036854775807)) (
 andK (impl_varint N (IntKind.i64.wrap ((p0_6.length : Int) - 1))) fun u3 =>
 chk (decide ((u1.1.1 ++ u2.1.1).size + u3.1.1.size ≤ 9223372036854775807)) (
 andK (impl_varint N (IntKind.i64.wrap ((rdS (.pair (.int .i64) (.int .i64)) p0_6 0).2 - (rdS (.pair (.int .i64) (.int .i64)) p0_6 0).1))) fun u4 =>
 chk (decide (((u1.1.1 ++ u2.1.1) ++ u3.1.1).size + u4.1.1.size ≤ 9223372036854775807)) (
 chk ((decide (1 ≤ (p0_6.length : Int))) && (decide ((p0_6.length : Int) ≤ (p0_6.length : Int)))) (
 andK (impl_Frame_ackBytes.l0 N (cut p0_6 1 (p0_6.length : Int)) ((cut p0_6 1 (p0_6.length : Int)).length : Int) (((u1.1.1 ++ u2.1.1) ++ u3.1.1) ++ u4.1.1) 0 p0_0 p0_1 p0_2 p0_3 p0_4 p0_5 p0_6 (rdS (.pair (.int .i64) (.int .i64)) p0_6 0).1 (rdS (.pair (.int .i64) (.int .i64)) p0_6 0).2) fun l7 =>
 some (l7.1, (l7.2.1, ()))))))) := by kernel_rfl
set_option maxRecDepth 100000 in
theorem impl_Frame_ackBytes.say (N : Nat) : SayOk Try.prog (impl_Frame_ackBytes.S N) := sayOk_mk (N := N) (H := impl_Frame_ackBytes.H) (preps := [⟨[], [], [], []⟩]) (l := impl_Frame_ackBytes.says) (fn := Try.f102) (c := bodyOf Try.f102)
  (by kernel_rfl) (by kernel_rfl) (by kernel_rfl) (by kernel_rfl) (by kernel_rfl) (by kernel_rfl) (by kernel_rfl)
  (fun N => SayAll.cons (impl_varint.say N) (SayAll.nil)) (fun a s => by kernel_rfl)

/-! ### loop.example/g00206/impl.counted: function 103 -/
noncomputable def impl_counted.H : Hints := hintsOf []
noncomputable def impl_counted.says (N : Nat) : List Say := [impl_varint.S N]
noncomputable def impl_counted.call (N : Nat) : CallK := callBy (impl_counted.says N)
noncomputable def impl_counted.qt (N : Nat) : FuncId → List PV → Sig → Cl := qtBy (impl_counted.says N)
noncomputable def impl_counted (N : Nat) (s : ByteArray) : Option ((ByteArray × Unit) × Unit) :=
  ofFn Try.prog impl_counted.call impl_counted.qt impl_counted.H N Try.f103 [ak_s] [] [ak_s] [] [⟨[], [], [], []⟩] (s, ()) ()
noncomputable def impl_counted.S (N : Nat) : Say := ⟨false, 103, [ak_s], [], [ak_s], [], fun a s => impl_counted N a.1⟩
set_option maxRecDepth 100000 in
theorem impl_counted.eq (N : Nat) (s : ByteArray) : impl_counted N s =
 andK (impl_varint N (s.size : Int)) fun u1 =>
 chk (decide (u1.1.1.size + s.size ≤ 9223372036854775807)) (
 some (((u1.1.1 ++ s), ()), ())) := by kernel_rfl
set_option maxRecDepth 100000 in
theorem impl_counted.say (N : Nat) : SayOk Try.prog (impl_counted.S N) := sayOk_mk (N := N) (H := impl_counted.H) (preps := [⟨[], [], [], []⟩]) (l := impl_counted.says) (fn := Try.f103) (c := bodyOf Try.f103)
  (by kernel_rfl) (by kernel_rfl) (by kernel_rfl) (by kernel_rfl) (by kernel_rfl) (by kernel_rfl) (by kernel_rfl)
  (fun N => SayAll.cons (impl_varint.say N) (SayAll.nil)) (fun a s => by kernel_rfl)

/-! ### (*loop.example/g00206/impl.Frame).streamBytes: function 104 -/
noncomputable def impl_Frame_streamBytes.H : Hints := hintsOf [(4, .join [⟨.normal, [], [0, 3, 4], [.one (.ptr 0 0), ak_i, ak_s], [.cells [ck_i, ck_i, ck_i, ck_i, ck_b, ck_s, .sh (.rows (.pair (.int .i64) (.int .i64)))]], [⟨[], [], [], []⟩]⟩]),
  (6, .join [⟨.normal, [4], [0, 3], [.one (.ptr 0 0), ak_i], [.cells [ck_i, ck_i, ck_i, ck_i, ck_b, ck_s, .sh (.rows (.pair (.int .i64) (.int .i64)))]], [⟨[], [], [], []⟩]⟩])]
noncomputable def impl_Frame_streamBytes.says (N : Nat) : List Say := [impl_varint.S N, impl_counted.S N]
noncomputable def impl_Frame_streamBytes.call (N : Nat) : CallK := callBy (impl_Frame_streamBytes.says N)
noncomputable def impl_Frame_streamBytes.qt (N : Nat) : FuncId → List PV → Sig → Cl := qtBy (impl_Frame_streamBytes.says N)
noncomputable def impl_Frame_streamBytes (N : Nat) (p0_0 : Int) (p0_1 : Int) (p0_2 : Int) (p0_3 : Int) (p0_4 : Bool) (p0_5 : ByteArray) (p0_6 : (List (Int × Int))) : Option ((ByteArray × Unit) × ((Int × (Int × (Int × (Int × (Bool × (ByteArray × ((List (Int × Int)) × Unit))))))) × Unit)) :=
  ofFn Try.prog impl_Frame_streamBytes.call impl_Frame_streamBytes.qt impl_Frame_streamBytes.H N Try.f104 [.one (.ptr 0 0)] [.cells [ck_i, ck_i, ck_i, ck_i, ck_b, ck_s, .sh (.rows (.pair (.int .i64) (.int .i64)))]] [ak_s] [.cells [ck_i, ck_i, ck_i, ck_i, ck_b, ck_s, .sh (.rows (.pair (.int .i64) (.int .i64)))]] [⟨[], [], [], []⟩] ((), ()) ((p0_0, (p0_1, (p0_2, (p0_3, (p0_4, (p0_5, (p0_6, ()))))))), ())
noncomputable def impl_Frame_streamBytes.S (N : Nat) : Say := ⟨false, 104, [.one (.ptr 0 0)], [.cells [ck_i, ck_i, ck_i, ck_i, ck_b, ck_s, .sh (.rows (.pair (.int .i64) (.int .i64)))]], [ak_s], [.cells [ck_i, ck_i, ck_i, ck_i, ck_b, ck_s, .sh (.rows (.pair (.int .i64) (.int .i64)))]], fun a s => impl_Frame_streamBytes N s.1.1 s.1.2.1 s.1.2.2.1 s.1.2.2.2.1 s.1.2.2.2.2.1 s.1.2.2.2.2.2.1 s.1.2.2.2.2.2.2.1⟩
set_option maxRecDepth 100000 in
theorem impl_Frame_streamBytes.eq (N : Nat) (p0_0 : Int) (p0_1 : Int) (p0_2 : Int) (p0_3 : Int) (p0_4 : Bool) (p0_5 : ByteArray) (p0_6 : (List (Int × Int))) : impl_Frame_streamBytes N p0_0 p0_1 p0_2 p0_3 p0_4 p0_5 p0_6 =
 andK (α := ((Unit × (Int × (ByteArray × Unit))) × ((Int × (Int × (Int × (Int × (Bool × (ByteArray × ((List (Int × Int)) × Unit))))))) × Unit))) (
  sel (!(decide (p0_2 = 0)))
   (
   andK (impl_varint N p0_2) fun u1 =>
   some ((((), (14, (u1.1.1, ()))), ((p0_0, (p0_1, (p0_2, (p0_3, (p0_4, (p0_5, (p0_6, ()))))))), ()))))
   (
   some ((((), (10, ((⟨#[]⟩ : ByteArray), ()))), ((p0_0, (p0_1, (p0_2, (p0_3, (p0_4, (p0_5, (p0_6, ()))))))), ()))))) fun j2 =>
 andK (α := ((Unit × (Int × Unit)) × ((Int × (Int × (Int × (Int × (Bool × (ByteArray × ((List (Int × Int)) × Unit))))))) × Unit))) (
  sel j2.2.1.2.2.2.2.1
   (
   some ((((), ((Go.bits .or .i64 j2.1.2.1 1), ())), j2.2)))
   (
   some ((((), (j2.1.2.1, ())), j2.2)))) fun j3 =>
 andK (impl_varint N j3.1.2.1) fun u4 =>
 andK (impl_varint N j3.2.1.2.1) fun u5 =>
 chk (decide (u4.1.1.size + u5.1.1.size ≤ 9223372036854775807)) (
 chk (decide ((u4.1.1 ++ u5.1.1).size + j2.1.2.2.1.size ≤ 9223372036854775807)) (
 andK (impl_counted N j3.2.1.2.2.2.2.2.1) fun u6 =>
 chk (decide (((u4.1.1 ++ u5.1.1) ++ j2.1.2.2.1).size + u6.1.1.size ≤ 9223372036854775807)) (
 some (((((u4.1.1 ++ u5.1.1) ++ j2.1.2.2.1) ++ u6.1.1), ()), j3.2)))) := by kernel_rfl
set_option maxRecDepth 100000 in
theorem impl_Frame_streamBytes.say (N : Nat) : SayOk Try.prog (impl_Frame_streamBytes.S N) := sayOk_mk (N := N) (H := impl_Frame_streamBytes.H) (preps := [⟨[], [], [], []⟩]) (l := impl_Frame_streamBytes.says) (fn := Try.f104) (c := bodyOf Try.f104)
  (by kernel_rfl) (by kernel_rfl) (by kernel_rfl) (by kernel_rfl) (by kernel_rfl) (by kernel_rfl) (by kernel_rfl)
  (fun N => SayAll.cons (impl_varint.say N) (SayAll.cons (impl_counted.say N) (SayAll.nil))) (fun a s => by kernel_rfl)

/-! ### (*loop.example/g00206/impl.Frame).bytes: function 49 -/
noncomputable def impl_Frame_bytes.H : Hints := hintsOf []
noncomputable def impl_Frame_bytes.says (N : Nat) : List Say := [impl_varint.S N, impl_Frame_ackBytes.S N, impl_counted.S N, impl_Frame_streamBytes.S N, impl_bigEndian.S N]
noncomputable def impl_Frame_bytes.call (N : Nat) : CallK := callBy (impl_Frame_bytes.says N)
noncomputable def impl_Frame_bytes.qt (N : Nat) : FuncId → List PV → Sig → Cl := qtBy (impl_Frame_bytes.says N)
noncomputable def impl_Frame_bytes (N : Nat) (p0_0 : Int) (p0_1 : Int) (p0_2 : Int) (p0_3 : Int) (p0_4 : Bool) (p0_5 : ByteArray) (p0_6 : (List (Int × Int))) : Option ((ByteArray × Unit) × ((Int × (Int × (Int × (Int × (Bool × (ByteArray × ((List (Int × Int)) × Unit))))))) × Unit)) :=
  ofFn Try.prog impl_Frame_bytes.call impl_Frame_bytes.qt impl_Frame_bytes.H N Try.f49 [.one (.ptr 0 0)] [.cells [ck_i, ck_i, ck_i, ck_i, ck_b, ck_s, .sh (.rows (.pair (.int .i64) (.int .i64)))]] [ak_s] [.cells [ck_i, ck_i, ck_i, ck_i, ck_b, ck_s, .sh (.rows (.pair (.int .i64) (.int .i64)))]] [⟨[], [], [], []⟩] ((), ()) ((p0_0, (p0_1, (p0_2, (p0_3, (p0_4, (p0_5, (p0_6, ()))))))), ())
noncomputable def impl_Frame_bytes.S (N : Nat) : Say := ⟨false, 49, [.one (.ptr 0 0)], [.cells [ck_i, ck_i, ck_i, ck_i, ck_b, ck_s, .sh (.rows (.pair (.int .i64) (.int .i64)))]], [ak_s], [.cells [ck_i, ck_i, ck_i, ck_i, ck_b, ck_s, .sh (.rows (.pair (.int .i64) (.int .i64)))]], fun a s => impl_Frame_bytes N s.1.1 s.1.2.1 s.1.2.2.1 s.1.2.2.2.1 s.1.2.2.2.2.1 s.1.2.2.2.2.2.1 s.1.2.2.2.2.2.2.1⟩
set_option maxRecDepth 100000 in
theorem impl_Frame_bytes.eq (N : Nat) (p0_0 : Int) (p0_1 : Int) (p0_2 : Int) (p0_3 : Int) (p0_4 : Bool) (p0_5 : ByteArray) (p0_6 : (List (Int × Int))) : impl_Frame_bytes N p0_0 p0_1 p0_2 p0_3 p0_4 p0_5 p0_6 =
 andK (impl_varint N p0_0) fun u1 =>
 sel (decide (p0_0 = 2))
  (
  andK (impl_Frame_ackBytes N p0_0 p0_1 p0_2 p0_3 p0_4 p0_5 p0_6) fun u2 =>
  chk (decide (u1.1.1.size + u2.1.1.size ≤ 9223372036854775807)) (
  some (((u1.1.1 ++ u2.1.1), ()), u2.2)))
  (
  sel (decide (p0_0 = 4))
   (
   andK (impl_varint N p0_1) fun u3 =>
   chk (decide (u1.1.1.size + u3.1.1.size ≤ 9223372036854775807)) (
   andK (impl_varint N p0_2) fun u4 =>
   chk (decide ((u1.1.1 ++ u3.1.1).size + u4.1.1.size ≤ 9223372036854775807)) (
   andK (impl_varint N p0_3) fun u5 =>
   chk (decide (((u1.1.1 ++ u3.1.1) ++ u4.1.1).size + u5.1.1.size ≤ 9223372036854775807)) (
   some (((((u1.1.1 ++ u3.1.1) ++ u4.1.1) ++ u5.1.1), ()), ((p0_0, (p0_1, (p0_2, (p0_3, (p0_4, (p0_5, (p0_6, ()))))))), ()))))))
   (
   sel (decide (p0_0 = 5))
    (
    sel (decide (p0_0 = 5))
     (
     andK (impl_varint N p0_1) fun u6 =>
     chk (decide (u1.1.1.size + u6.1.1.size ≤ 9223372036854775807)) (
     andK (impl_varint N p0_2) fun u7 =>
     chk (decide ((u1.1.1 ++ u6.1.1).size + u7.1.1.size ≤ 9223372036854775807)) (
     some ((((u1.1.1 ++ u6.1.1) ++ u7.1.1), ()), ((p0_0, (p0_1, (p0_2, (p0_3, (p0_4, (p0_5, (p0_6, ()))))))), ())))))
     (
     sel (decide (p0_0 = 16))
      (
      andK (impl_varint N p0_1) fun u8 =>
      chk (decide (u1.1.1.size + u8.1.1.size ≤ 9223372036854775807)) (
      some (((u1.1.1 ++ u8.1.1), ()), ((p0_0, (p0_1, (p0_2, (p0_3, (p0_4, (p0_5, (p0_6, ()))))))), ()))))
      (
      sel (decide (p0_0 = 6))
       (
       andK (impl_varint N p0_1) fun u9 =>
       chk (decide (u1.1.1.size + u9.1.1.size ≤ 9223372036854775807)) (
       andK (impl_counted N p0_5) fun u10 =>
       chk (decide ((u1.1.1 ++ u9.1.1).size + u10.1.1.size ≤ 9223372036854775807)) (
       some ((((u1.1.1 ++ u9.1.1) ++ u10.1.1), ()), ((p0_0, (p0_1, (p0_2, (p0_3, (p0_4, (p0_5, (p0_6, ()))))))), ())))))
       (
       sel (decide (p0_0 = 7))
        (
        andK (impl_counted N p0_5) fun u11 =>
        chk (decide (u1.1.1.size + u11.1.1.size ≤ 9223372036854775807)) (
        some (((u1.1.1 ++ u11.1.1), ()), ((p0_0, (p0_1, (p0_2, (p0_3, (p0_4, (p0_5, (p0_6, ()))))))), ()))))
        (
        sel (decide (p0_0 = 8))
         (
         andK (impl_Frame_streamBytes N p0_0 p0_1 p0_2 p0_3 p0_4 p0_5 p0_6) fun u12 =>
         some (u12.1, u12.2))
         (
         sel (decide (p0_0 = 24))
          (
          andK (impl_varint N p0_1) fun u13 =>
          chk (decide (u1.1.1.size + u13.1.1.size ≤ 9223372036854775807)) (
          andK (impl_varint N p0_2) fun u14 =>
          chk (decide ((u1.1.1 ++ u13.1.1).size + u14.1.1.size ≤ 9223372036854775807)) (
          andK (impl_bigEndian N (IntKind.u64.wrap (p0_5.size : Int)) 1) fun u15 =>
          chk (decide (((u1.1.1 ++ u13.1.1) ++ u14.1.1).size + u15.1.1.size ≤ 9223372036854775807)) (
          chk (decide ((((u1.1.1 ++ u13.1.1) ++ u14.1.1) ++ u15.1.1).size + p0_5.size ≤ 9223372036854775807)) (
          andK (impl_bigEndian N (IntKind.u64.wrap p0_3) 1) fun u16 =>
          chk (decide (((((u1.1.1 ++ u13.1.1) ++ u14.1.1) ++ u15.1.1) ++ p0_5).size + u16.1.1.size ≤ 9223372036854775807)) (
          some (((((((u1.1.1 ++ u13.1.1) ++ u14.1.1) ++ u15.1.1) ++ p0_5) ++ u16.1.1), ()), ((p0_0, (p0_1, (p0_2, (p0_3, (p0_4, (p0_5, (p0_6, ()))))))), ()))))))))
          (
          sel (decide (p0_0 = 26))
           (
           sel (decide (p0_0 = 26))
            (
            chk (decide (u1.1.1.size + p0_5.size ≤ 9223372036854775807)) (
            some (((u1.1.1 ++ p0_5), ()), ((p0_0, (p0_1, (p0_2, (p0_3, (p0_4, (p0_5, (p0_6, ()))))))), ()))))
            (
            sel (decide (p0_0 = 28))
             (
             andK (impl_varint N p0_1) fun u17 =>
             chk (decide (u1.1.1.size + u17.1.1.size ≤ 9223372036854775807)) (
             andK (impl_varint N p0_2) fun u18 =>
             chk (decide ((u1.1.1 ++ u17.1.1).size + u18.1.1.size ≤ 9223372036854775807)) (
             andK (impl_counted N p0_5) fun u19 =>
             chk (decide (((u1.1.1 ++ u17.1.1) ++ u18.1.1).size + u19.1.1.size ≤ 9223372036854775807)) (
             some (((((u1.1.1 ++ u17.1.1) ++ u18.1.1) ++ u19.1.1), ()), ((p0_0, (p0_1, (p0_2, (p0_3, (p0_4, (p0_5, (p0_6, ()))))))), ()))))))
             (
             sel (decide (p0_0 = 48))
              (
              andK (impl_varint N 49) fun u20 =>
              andK (impl_counted N p0_5) fun u21 =>
              chk (decide (u20.1.1.size + u21.1.1.size ≤ 9223372036854775807)) (
              some (((u20.1.1 ++ u21.1.1), ()), ((p0_0, (p0_1, (p0_2, (p0_3, (p0_4, (p0_5, (p0_6, ()))))))), ()))))
              (
              some (u1.1, ((p0_0, (p0_1, (p0_2, (p0_3, (p0_4, (p0_5, (p0_6, ()))))))), ()))))))
           (
           sel (decide (p0_0 = 27))
            (
            chk (decide (u1.1.1.size + p0_5.size ≤ 9223372036854775807)) (
            some (((u1.1.1 ++ p0_5), ()), ((p0_0, (p0_1, (p0_2, (p0_3, (p0_4, (p0_5, (p0_6, ()))))))), ()))))
            (
            sel (decide (p0_0 = 28))
             (
             andK (impl_varint N p0_1) fun u22 =>
             chk (decide (u1.1.1.size + u22.1.1.size ≤ 9223372036854775807)) (
             andK (impl_varint N p0_2) fun u23 =>
             chk (decide ((u1.1.1 ++ u22.1.1).size + u23.1.1.size ≤ 9223372036854775807)) (
             andK (impl_counted N p0_5) fun u24 =>
             chk (decide (((u1.1.1 ++ u22.1.1) ++ u23.1.1).size + u24.1.1.size ≤ 9223372036854775807)) (
             some (((((u1.1.1 ++ u22.1.1) ++ u23.1.1) ++ u24.1.1), ()), ((p0_0, (p0_1, (p0_2, (p0_3, (p0_4, (p0_5, (p0_6, ()))))))), ()))))))
             (
             sel (decide (p0_0 = 48))
              (
              andK (impl_varint N 49) fun u25 =>
              andK (impl_counted N p0_5) fun u26 =>
              chk (decide (u25.1.1.size + u26.1.1.size ≤ 9223372036854775807)) (
              some (((u25.1.1 ++ u26.1.1), ()), ((p0_0, (p0_1, (p0_2, (p0_3, (p0_4, (p0_5, (p0_6, ()))))))), ()))))
              (
              some (u1.1, ((p0_0, (p0_1, (p0_2, (p0_3, (p0_4, (p0_5, (p0_6, ()))))))), ())))))))))))))
    (
    sel (decide (p0_0 = 17))
     (
     andK (impl_varint N p0_1) fun u27 =>
     chk (decide (u1.1.1.size + u27.1.1.size ≤ 9223372036854775807)) (
     andK (impl_varint N p0_2) fun u28 =>
     chk (decide ((u1.1.1 ++ u27.1.1).size + u28.1.1.size ≤ 9223372036854775807)) (
     some ((((u1.1.1 ++ u27.1.1) ++ u28.1.1), ()), ((p0_0, (p0_1, (p0_2, (p0_3, (p0_4, (p0_5, (p0_6, ()))))))), ())))))
     (
     sel (decide (p0_0 = 16))
      (
      andK (impl_varint N p0_1) fun u29 =>
      chk (decide (u1.1.1.size + u29.1.1.size ≤ 9223372036854775807)) (
      some (((u1.1.1 ++ u29.1.1), ()), ((p0_0, (p0_1, (p0_2, (p0_3, (p0_4, (p0_5, (p0_6, ()))))))), ()))))
      (
      sel (decide (p0_0 = 6))
       (
       andK (impl_varint N p0_1) fun u30 =>
       chk (decide (u1.1.1.size + u30.1.1.size ≤ 9223372036854775807)) (
       andK (impl_counted N p0_5) fun u31 =>
       chk (decide ((u1.1.1 ++ u30.1.1).size + u31.1.1.size ≤ 9223372036854775807)) (
       some ((((u1.1.1 ++ u30.1.1) ++ u31.1.1), ()), ((p0_0, (p0_1, (p0_2, (p0_3, (p0_4, (p0_5, (p0_6, ()))))))), ())))))
       (
       sel (decide (p0_0 = 7))
        (
        andK (impl_counted N p0_5) fun u32 =>
        chk (decide (u1.1.1.size + u32.1.1.size ≤ 9223372036854775807)) (
        some (((u1.1.1 ++ u32.1.1), ()), ((p0_0, (p0_1, (p0_2, (p0_3, (p0_4, (p0_5, (p0_6, ()))))))), ()))))
        (
        sel (decide (p0_0 = 8))
         (
         andK (impl_Frame_streamBytes N p0_0 p0_1 p0_2 p0_3 p0_4 p0_5 p0_6) fun u33 =>
         some (u33.1, u33.2))
         (
         sel (decide (p0_0 = 24))
          (
          andK (impl_varint N p0_1) fun u34 =>
          chk (decide (u1.1.1.size + u34.1.1.size ≤ 9223372036854775807)) (
          andK (impl_varint N p0_2) fun u35 =>
          chk (decide ((u1.1.1 ++ u34.1.1).size + u35.1.1.size ≤ 9223372036854775807)) (
          andK (impl_bigEndian N (IntKind.u64.wrap (p0_5.size : Int)) 1) fun u36 =>
          chk (decide (((u1.1.1 ++ u34.1.1) ++ u35.1.1).size + u36.1.1.size ≤ 9223372036854775807)) (
          chk (decide ((((u1.1.1 ++ u34.1.1) ++ u35.1.1) ++ u36.1.1).size + p0_5.size ≤ 9223372036854775807)) (
          andK (impl_bigEndian N (IntKind.u64.wrap p0_3) 1) fun u37 =>
          chk (decide (((((u1.1.1 ++ u34.1.1) ++ u35.1.1) ++ u36.1.1) ++ p0_5).size + u37.1.1.size ≤ 9223372036854775807)) (
          some (((((((u1.1.1 ++ u34.1.1) ++ u35.1.1) ++ u36.1.1) ++ p0_5) ++ u37.1.1), ()), ((p0_0, (p0_1, (p0_2, (p0_3, (p0_4, (p0_5, (p0_6, ()))))))), ()))))))))
          (
          sel (decide (p0_0 = 26))
           (
           sel (decide (p0_0 = 26))
            (
            chk (decide (u1.1.1.size + p0_5.size ≤ 9223372036854775807)) (
            some (((u1.1.1 ++ p0_5), ()), ((p0_0, (p0_1, (p0_2, (p0_3, (p0_4, (p0_5, (p0_6, ()))))))), ()))))
            (
            sel (decide (p0_0 = 28))
             (
             andK (impl_varint N p0_1) fun u38 =>
             chk (decide (u1.1.1.size + u38.1.1.size ≤ 9223372036854775807)) (
             andK (impl_varint N p0_2) fun u39 =>
             chk (decide ((u1.1.1 ++ u38.1.1).size + u39.1.1.size ≤ 9223372036854775807)) (
             andK (impl_counted N p0_5) fun u40 =>
             chk (decide (((u1.1.1 ++ u38.1.1) ++ u39.1.1).size + u40.1.1.size ≤ 9223372036854775807)) (
             some (((((u1.1.1 ++ u38.1.1) ++ u39.1.1) ++ u40.1.1), ()), ((p0_0, (p0_1, (p0_2, (p0_3, (p0_4, (p0_5, (p0_6, ()))))))), ()))))))
             (
             sel (decide (p0_0 = 48))
              (
              andK (impl_varint N 49) fun u41 =>
              andK (impl_counted N p0_5) fun u42 =>
              chk (decide (u41.1.1.size + u42.1.1.size ≤ 9223372036854775807)) (
              some (((u41.1.1 ++ u42.1.1), ()), ((p0_0, (p0_1, (p0_2, (p0_3, (p0_4, (p0_5, (p0_6, ()))))))), ()))))
              (
              some (u1.1, ((p0_0, (p0_1, (p0_2, (p0_3, (p0_4, (p0_5, (p0_6, ()))))))), ()))))))
           (
           sel (decide (p0_0 = 27))
            (
            chk (decide (u1.1.1.size + p0_5.size ≤ 9223372036854775807)) (
            some (((u1.1.1 ++ p0_5), ()), ((p0_0, (p0_1, (p0_2, (p0_3, (p0_4, (p0_5, (p0_6, ()))))))), ()))))
            (
            sel (decide (p0_0 = 28))
             (
             andK (impl_varint N p0_1) fun u43 =>
             chk (decide (u1.1.1.size + u43.1.1.size ≤ 9223372036854775807)) (
             andK (impl_varint N p0_2) fun u44 =>
             chk (decide ((u1.1.1 ++ u43.1.1).size + u44.1.1.size ≤ 9223372036854775807)) (
             andK (impl_counted N p0_5) fun u45 =>
             chk (decide (((u1.1.1 ++ u43.1.1) ++ u44.1.1).size + u45.1.1.size ≤ 9223372036854775807)) (
             some (((((u1.1.1 ++ u43.1.1) ++ u44.1.1) ++ u45.1.1), ()), ((p0_0, (p0_1, (p0_2, (p0_3, (p0_4, (p0_5, (p0_6, ()))))))), ()))))))
             (
             sel (decide (p0_0 = 48))
              (
              andK (impl_varint N 49) fun u46 =>
              andK (impl_counted N p0_5) fun u47 =>
              chk (decide (u46.1.1.size + u47.1.1.size ≤ 9223372036854775807)) (
              some (((u46.1.1 ++ u47.1.1), ()), ((p0_0, (p0_1, (p0_2, (p0_3, (p0_4, (p0_5, (p0_6, ()))))))), ()))))
              (
              some (u1.1, ((p0_0, (p0_1, (p0_2, (p0_3, (p0_4, (p0_5, (p0_6, ()))))))), ()))))))))))))))) := by kernel_rfl
set_option maxRecDepth 100000 in
theorem impl_Frame_bytes.say (N : Nat) : SayOk Try.prog (impl_Frame_bytes.S N) := sayOk_mk (N := N) (H := impl_Frame_bytes.H) (preps := [⟨[], [], [], []⟩]) (l := impl_Frame_bytes.says) (fn := Try.f49) (c := bodyOf Try.f49)
  (by kernel_rfl) (by kernel_rfl) (by kernel_rfl) (by kernel_rfl) (by kernel_rfl) (by kernel_rfl) (by kernel_rfl)
  (fun N => SayAll.cons (impl_varint.say N) (SayAll.cons (impl_Frame_ackBytes.say N) (SayAll.cons (impl_counted.say N) (SayAll.cons (impl_Frame_streamBytes.say N) (SayAll.cons (impl_bigEndian.say N) (SayAll.nil)))))) (fun a s => by kernel_rfl)

/-! ### loop.example/g00206/impl.FrameBytes: function 10 -/
noncomputable def impl_FrameBytes.H : Hints := hintsOf []
noncomputable def impl_FrameBytes.says (N : Nat) : List Say := [impl_GoodFrame.S N, impl_Frame_bytes.S N]
noncomputable def impl_FrameBytes.call (N : Nat) : CallK := callBy (impl_FrameBytes.says N)
noncomputable def impl_FrameBytes.qt (N : Nat) : FuncId → List PV → Sig → Cl := qtBy (impl_FrameBytes.says N)
noncomputable def impl_FrameBytes (N : Nat) (f_0 : Int) (f_1 : Int) (f_2 : Int) (f_3 : Int) (f_4 : Bool) (f_5 : ByteArray) (f_6 : (List (Int × Int))) : Option ((ByteArray × (Bool × Unit)) × Unit) :=
  ofFn Try.prog impl_FrameBytes.call impl_FrameBytes.qt impl_FrameBytes.H N Try.f10 [.agg [ck_i, ck_i, ck_i, ck_i, ck_b, ck_s, .sh (.rows (.pair (.int .i64) (.int .i64)))]] [] [ak_s, ak_b] [] [⟨[], [], [], []⟩] ((f_0, (f_1, (f_2, (f_3, (f_4, (f_5, (f_6, ()))))))), ()) ()
noncomputable def impl_FrameBytes.S (N : Nat) : Say := ⟨false, 10, [.agg [ck_i, ck_i, ck_i, ck_i, ck_b, ck_s, .sh (.rows (.pair (.int .i64) (.int .i64)))]], [], [ak_s, ak_b], [], fun a s => impl_FrameBytes N a.1.1 a.1.2.1 a.1.2.2.1 a.1.2.2.2.1 a.1.2.2.2.2.1 a.1.2.2.2.2.2.1 a.1.2.2.2.2.2.2.1⟩
set_option maxRecDepth 100000 in
theorem impl_FrameBytes.eq (N : Nat) (f_0 : Int) (f_1 : Int) (f_2 : Int) (f_3 : Int) (f_4 : Bool) (f_5 : ByteArray) (f_6 : (List (Int × Int))) : impl_FrameBytes N f_0 f_1 f_2 f_3 f_4 f_5 f_6 =
 andK (impl_GoodFrame N f_0 f_1 f_2 f_3 f_4 f_5 f_6) fun u1 =>
 sel (!u1.1.1)
  (
  some (((⟨#[]⟩ : ByteArray), (false, ())), ()))
  (
  andK (impl_Frame_bytes N f_0 f_1 f_2 f_3 f_4 f_5 f_6) fun u2 =>
  some ((u2.1.1, (true, ())), ())) := by kernel_rfl
set_option maxRecDepth 100000 in
theorem impl_FrameBytes.say (N : Nat) : SayOk Try.prog (impl_FrameBytes.S N) := sayOk_mk (N := N) (H := impl_FrameBytes.H) (preps := [⟨[], [], [], []⟩]) (l := impl_FrameBytes.says) (fn := Try.f10) (c := bodyOf Try.f10)
  (by kernel_rfl) (by kernel_rfl) (by kernel_rfl) (by kernel_rfl) (by kernel_rfl) (by kernel_rfl) (by kernel_rfl)
  (fun N => SayAll.cons (impl_GoodFrame.say N) (SayAll.cons (impl_Frame_bytes.say N) (SayAll.nil))) (fun a s => by kernel_rfl)
noncomputable def impl_FrameBytes.SB (N : Nat) : Say := impl_FrameBytes.S N |>.lent
theorem impl_FrameBytes.sayB (N : Nat) : SayOk Try.prog (impl_FrameBytes.SB N) := (impl_FrameBytes.say N).lent

/-! ### loop.example/g00206/spec.l1In: function 62 -/
noncomputable def spec_l1In.H : Hints := hintsOf []
noncomputable def spec_l1In.says (N : Nat) : List Say := []
noncomputable def spec_l1In.call (N : Nat) : CallK := callBy (spec_l1In.says N)
noncomputable def spec_l1In.qt (N : Nat) : FuncId → List PV → Sig → Cl := qtBy (spec_l1In.says N)
noncomputable def spec_l1In (N : Nat) (n : Int) (lo : Int) (hi : Int) : Option ((Bool × Unit) × Unit) :=
  ofFn Try.prog spec_l1In.call spec_l1In.qt spec_l1In.H N Try.f62 [ak_i, ak_i, ak_i] [] [ak_b] [] [⟨[], [], [], []⟩] (n, (lo, (hi, ()))) ()
noncomputable def spec_l1In.S (N : Nat) : Say := ⟨false, 62, [ak_i, ak_i, ak_i], [], [ak_b], [], fun a s => spec_l1In N a.1 a.2.1 a.2.2.1⟩
set_option maxRecDepth 100000 in
theorem spec_l1In.eq (N : Nat) (n : Int) (lo : Int) (hi : Int) : spec_l1In N n lo hi =
 sel (decide (lo ≤ n))
  (
  some (((decide (n ≤ hi)), ()), ()))
  (
  some ((false, ()), ())) := by kernel_rfl
set_option maxRecDepth 100000 in
theorem spec_l1In.say (N : Nat) : SayOk Try.prog (spec_l1In.S N) := sayOk_mk (N := N) (H := spec_l1In.H) (preps := [⟨[], [], [], []⟩]) (l := spec_l1In.says) (fn := Try.f62) (c := bodyOf Try.f62)
  (by kernel_rfl) (by kernel_rfl) (by kernel_rfl) (by kernel_rfl) (by kernel_rfl) (by kernel_rfl) (by kernel_rfl)
  (fun N => SayAll.nil) (fun a s => by kernel_rfl)

/-! ### loop.example/g00206/spec.l1Known: function 84 -/
noncomputable def spec_l1Known.H : Hints := hintsOf []
noncomputable def spec_l1Known.says (N : Nat) : List Say := [spec_l1In.S N]
noncomputable def spec_l1Known.call (N : Nat) : CallK := callBy (spec_l1Known.says N)
noncomputable def spec_l1Known.qt (N : Nat) : FuncId → List PV → Sig → Cl := qtBy (spec_l1Known.says N)
noncomputable def spec_l1Known (N : Nat) (n : Int) : Option ((Bool × Unit) × Unit) :=
  ofFn Try.prog spec_l1Known.call spec_l1Known.qt spec_l1Known.H N Try.f84 [ak_i] [] [ak_b] [] [⟨[], [], [], []⟩] (n, ()) ()
noncomputable def spec_l1Known.S (N : Nat) : Say := ⟨false, 84, [ak_i], [], [ak_b], [], fun a s => spec_l1Known N a.1⟩
set_option maxRecDepth 100000 in
theorem spec_l1Known.eq (N : Nat) (n : Int) : spec_l1Known N n =
 andK (spec_l1In N n 0 4611686018427387903) fun u1 =>
 some (u1.1, ()) := by kernel_rfl
set_option maxRecDepth 100000 in
theorem spec_l1Known.say (N : Nat) : SayOk Try.prog (spec_l1Known.S N) := sayOk_mk (N := N) (H := spec_l1Known.H) (preps := [⟨[], [], [], []⟩]) (l := spec_l1Known.says) (fn := Try.f84) (c := bodyOf Try.f84)
  (by kernel_rfl) (by kernel_rfl) (by kernel_rfl) (by kernel_rfl) (by kernel_rfl) (by kernel_rfl) (by kernel_rfl)
  (fun N => SayAll.cons (spec_l1In.say N) (SayAll.nil)) (fun a s => by kernel_rfl)

/-! ### loop.example/g00206/spec.l1Ranges: function 107 -/
noncomputable def spec_l1Ranges.H : Hints := hintsOf [(5000004, .join [⟨.normal, [0, 5, 6, 7], [39], [ak_b], [.cells [ck_i, ck_i]], [⟨[], [], [], []⟩]⟩]),
  (2000002, .loop ⟨.normal, [0, 5, 6], [7], [ak_i], [], [⟨[], [], [], []⟩]⟩ [⟨.ret, [], [2], [ak_b], [], [⟨[], [], [], []⟩]⟩, ⟨(.exit 0), [0], [], [], [], [⟨[], [], [], []⟩]⟩])]
noncomputable def spec_l1Ranges.says (N : Nat) : List Say := [spec_l1In.S N, spec_l1Known.S N]
noncomputable def spec_l1Ranges.call (N : Nat) : CallK := callBy (spec_l1Ranges.says N)
noncomputable def spec_l1Ranges.qt (N : Nat) : FuncId → List PV → Sig → Cl := qtBy (spec_l1Ranges.says N)
noncomputable def spec_l1Ranges.l0.hd : Alt := ⟨.normal, [0, 5, 6], [7], [ak_i], [], [⟨[], [], [], []⟩]⟩
noncomputable def spec_l1Ranges.l0.outs : List Alt := [⟨.ret, [], [2], [ak_b], [], [⟨[], [], [], []⟩]⟩, ⟨(.exit 0), [0], [], [], [], [⟨[], [], [], []⟩]⟩]
noncomputable def spec_l1Ranges.l0 (N : Nat) (l1 : (List (Int × Int))) (t5 : (List (Int × Int))) (t6 : Int) (t7 : Int) : Option (((Bool × Unit) × Unit) ⊕ (Unit × Unit)) :=
  loopK Try.prog spec_l1Ranges.call spec_l1Ranges.qt spec_l1Ranges.H (codeAt (bodyOf Try.f107) [1, 0, 1, 0, 0]) 0 spec_l1Ranges.l0.hd spec_l1Ranges.l0.outs [(0, .rows false (.pair (.int .i64) (.int .i64)) l1), (5, .rows false (.pair (.int .i64) (.int .i64)) t5), (6, .v (.int .i64 t6))] N ((t7, ()), ())
noncomputable def spec_l1Ranges (N : Nat) (l : (List (Int × Int))) : Option ((Bool × Unit) × Unit) :=
  ofFn Try.prog spec_l1Ranges.call spec_l1Ranges.qt spec_l1Ranges.H N Try.f107 [.one (.sh (.rows (.pair (.int .i64) (.int .i64))))] [] [ak_b] [] [⟨[], [], [], []⟩] (l, ()) ()
noncomputable def spec_l1Ranges.S (N : Nat) : Say := ⟨false, 107, [.one (.sh (.rows (.pair (.int .i64) (.int .i64))))], [], [ak_b], [], fun a s => spec_l1Ranges N a.1⟩
set_option maxRecDepth 100000 in
theorem spec_l1Ranges.l0.eq (N : Nat) (l1 : (List (Int × Int))) (t5 : (List (Int × Int))) (t6 : Int) (t7 : Int) : spec_l1Ranges.l0 (N + 1) l1 t5 t6 t7 =
 sel (decide (t7 < t6))
  (
  chk ((decide (0 ≤ t7)) && (decide (t7 < (t5.length : Int)))) (
  andK (α := ((Bool × Unit) × ((Int × (Int × Unit)) × Unit))) (
   andK (spec_l1In N (rdS (.pair (.int .i64) (.int .i64)) t5 (Int.toNat t7)).1 0 (rdS (.pair (.int .i64) (.int .i64)) t5 (Int.toNat t7)).2) fun u1 =>
   sel (!u1.1.1)
    (
    some (((true, ()), (((rdS (.pair (.int .i64) (.int .i64)) t5 (Int.toNat t7)).1, ((rdS (.pair (.int .i64) (.int .i64)) t5 (Int.toNat t7)).2, ())), ()))))
    (
    andK (spec_l1Known N (rdS (.pair (.int .i64) (.int .i64)) t5 (Int.toNat t7)).2) fun u2 =>
    sel (!u2.1.1)
     (
     some (((true, ()), (((rdS (.pair (.int .i64) (.int .i64)) t5 (Int.toNat t7)).1, ((rdS (.pair (.int .i64) (.int .i64)) t5 (Int.toNat t7)).2, ())), ()))))
     (
     sel (decide (0 < t7))
      (
      chk ((decide (0 ≤ (IntKind.i64.wrap (t7 - 1)))) && (decide ((IntKind.i64.wrap (t7 - 1)) < (l1.length : Int)))) (
      some ((((decide ((IntKind.i64.wrap ((rdS (.pair (.int .i64) (.int .i64)) l1 (Int.toNat (IntKind.i64.wrap (t7 - 1)))).1 - 2)) < (rdS (.pair (.int .i64) (.int .i64)) t5 (Int.toNat t7)).2)), ()), (((rdS (.pair (.int .i64) (.int .i64)) t5 (Int.toNat t7)).1, ((rdS (.pair (.int .i64) (.int .i64)) t5 (Int.toNat t7)).2, ())), ())))))
      (
      some (((false, ()), (((rdS (.pair (.int .i64) (.int .i64)) t5 (Int.toNat t7)).1, ((rdS (.pair (.int .i64) (.int .i64)) t5 (Int.toNat t7)).2, ())), ()))))))) fun j3 =>
  sel j3.1.1
   (
   some (.inl ((false, ()), ())))
   (
   spec_l1Ranges.l0 N l1 t5 t6 (IntKind.i64.wrap (t7 + 1)))))
  (
  some (.inr (((), ())))) := by kernel_rfl
set_option maxRecDepth 100000 in
theorem spec_l1Ranges.eq (N : Nat) (l : (List (Int × Int))) : spec_l1Ranges N l =
 andK (spec_l1Ranges.l0 N l l (l.length : Int) 0) fun l4 =>
 orK l4 (fun x5 =>
  some (x5.1, ()))
  (fun x6 =>
  andK (spec_l1In N (l.length : Int) 1 20) fun u7 =>
  some (u7.1, ())) := by kernel_rfl
set_option maxRecDepth 100000 in
theorem spec_l1Ranges.say (N : Nat) : SayOk Try.prog (spec_l1Ranges.S N) := sayOk_mk (N := N) (H := spec_l1Ranges.H) (preps := [⟨[], [], [], []⟩]) (l := spec_l1Ranges.says) (fn := Try.f107) (c := bodyOf Try.f107)
  (by kernel_rfl) (by kernel_rfl) (by kernel_rfl) (by kernel_rfl) (by kernel_rfl) (by kernel_rfl) (by kernel_rfl)
  (fun N => SayAll.cons (spec_l1In.say N) (SayAll.cons (spec_l1Known.say N) (SayAll.nil))) (fun a s => by kernel_rfl)

/-! ### loop.example/g00206/spec.GoodFrame: function 50 -/
noncomputable def spec_GoodFrame.H : Hints := hintsOf [(5000002, .join [⟨.normal, [3], [1, 50], [.one (.ptr 0 0), ak_b], [.cells [ck_i, ck_i, ck_i, ck_i, ck_b, ck_s, .sh (.rows (.pair (.int .i64) (.int .i64)))]], [⟨[], [], [], []⟩]⟩]),
  (5000004, .join [⟨.normal, [], [1, 75], [.one (.ptr 0 0), ak_b], [.cells [ck_i, ck_i, ck_i, ck_i, ck_b, ck_s, .sh (.rows (.pair (.int .i64) (.int .i64)))]], [⟨[], [], [], []⟩]⟩]),
  (5000006, .join [⟨.normal, [], [1, 94], [.one (.ptr 0 0), ak_b], [.cells [ck_i, ck_i, ck_i, ck_i, ck_b, ck_s, .sh (.rows (.pair (.int .i64) (.int .i64)))]], [⟨[], [], [], []⟩]⟩])]
noncomputable def spec_GoodFrame.says (N : Nat) : List Say := [spec_l1Shape.S N, spec_l1Known.S N, spec_l1In.S N, spec_l1Ranges.S N]
noncomputable def spec_GoodFrame.call (N : Nat) : CallK := callBy (spec_GoodFrame.says N)
noncomputable def spec_GoodFrame.qt (N : Nat) : FuncId → List PV → Sig → Cl := qtBy (spec_GoodFrame.says N)
noncomputable def spec_GoodFrame (N : Nat) (G_0 : Int) (G_1 : Int) (G_2 : Int) (G_3 : Int) (G_4 : Bool) (G_5 : ByteArray) (G_6 : (List (Int × Int))) : Option ((Bool × Unit) × Unit) :=
  ofFn Try.prog spec_GoodFrame.call spec_GoodFrame.qt spec_GoodFrame.H N Try.f50 [.agg [ck_i, ck_i, ck_i, ck_i, ck_b, ck_s, .sh (.rows (.pair (.int .i64) (.int .i64)))]] [] [ak_b] [] [⟨[], [], [], []⟩] ((G_0, (G_1, (G_2, (G_3, (G_4, (G_5, (G_6, ()))))))), ()) ()
noncomputable def spec_GoodFrame.S (N : Nat) : Say := ⟨false, 50, [.agg [ck_i, ck_i, ck_i, ck_i, ck_b, ck_s, .sh (.rows (.pair (.int .i64) (.int .i64)))]], [], [ak_b], [], fun a s => spec_GoodFrame N a.1.1 a.1.2.1 a.1.2.2.1 a.1.2.2.2.1 a.1.2.2.2.2.1 a.1.2.2.2.2.2.1 a.1.2.2.2.2.2.2.1⟩
set_option maxRecDepth 100000 in
theorem spec_GoodFrame.eq (N : Nat) (G_0 : Int) (G_1 : Int) (G_2 : Int) (G_3 : Int) (G_4 : Bool) (G_5 : ByteArray) (G_6 : (List (Int × Int))) : spec_GoodFrame N G_0 G_1 G_2 G_3 G_4 G_5 G_6 =
 andK (spec_l1Shape N G_0) fun u1 =>
 andK (α := ((Unit × (Bool × Unit)) × ((Int × (Int × (Int × (Int × (Bool × (ByteArray × ((List (Int × Int)) × Unit))))))) × Unit))) (
  sel (decide (u1.1.1 < 0))
   (
   some ((((), (true, ())), ((G_0, (G_1, (G_2, (G_3, (G_4, (G_5, (G_6, ()))))))), ()))))
   (
   andK (spec_l1Known N G_1) fun u2 =>
   sel (!u2.1.1)
    (
    some ((((), (true, ())), ((G_0, (G_1, (G_2, (G_3, (G_4, (G_5, (G_6, ()))))))), ()))))
    (
    andK (spec_l1Known N G_2) fun u3 =>
    sel (!u3.1.1)
     (
     some ((((), (true, ())), ((G_0, (G_1, (G_2, (G_3, (G_4, (G_5, (G_6, ()))))))), ()))))
     (
     andK (spec_l1Known N G_3) fun u4 =>
     sel (!u4.1.1)
      (
      some ((((), (true, ())), ((G_0, (G_1, (G_2, (G_3, (G_4, (G_5, (G_6, ()))))))), ()))))
      (
      andK (spec_l1In N (G_5.size : Int) u1.1.2.1 u1.1.2.2.1) fun u5 =>
      sel (!u5.1.1)
       (
       some ((((), (true, ())), ((G_0, (G_1, (G_2, (G_3, (G_4, (G_5, (G_6, ()))))))), ()))))
       (
       sel G_4
        (
        some ((((), ((!(decide (G_0 = 8))), ())), ((G_0, (G_1, (G_2, (G_3, (G_4, (G_5, (G_6, ()))))))), ()))))
        (
        some ((((), (false, ())), ((G_0, (G_1, (G_2, (G_3, (G_4, (G_5, (G_6, ()))))))), ())))))))))) fun j6 =>
 sel j6.1.2.1
  (
  some ((false, ()), ()))
  (
  andK (α := ((Unit × (Bool × Unit)) × ((Int × (Int × (Int × (Int × (Bool × (ByteArray × ((List (Int × Int)) × Unit))))))) × Unit))) (
   sel (decide (u1.1.1 < 3))
    (
    sel (!(decide (j6.2.1.2.2.2.1 = 0)))
     (
     some ((((), (true, ())), j6.2)))
     (
     sel (decide (u1.1.1 < 2))
      (
      sel (!(decide (j6.2.1.2.2.1 = 0)))
       (
       some ((((), (true, ())), j6.2)))
       (
       sel (decide (u1.1.1 < 1))
        (
        some ((((), ((!(decide (j6.2.1.2.1 = 0))), ())), j6.2)))
        (
        some ((((), (false, ())), j6.2)))))
      (
      sel (decide (u1.1.1 < 1))
       (
       some ((((), ((!(decide (j6.2.1.2.1 = 0))), ())), j6.2)))
       (
       some ((((), (false, ())), j6.2))))))
    (
    sel (decide (u1.1.1 < 2))
     (
     sel (!(decide (j6.2.1.2.2.1 = 0)))
      (
      some ((((), (true, ())), j6.2)))
      (
      sel (decide (u1.1.1 < 1))
       (
       some ((((), ((!(decide (j6.2.1.2.1 = 0))), ())), j6.2)))
       (
       some ((((), (false, ())), j6.2)))))
     (
     sel (decide (u1.1.1 < 1))
      (
      some ((((), ((!(decide (j6.2.1.2.1 = 0))), ())), j6.2)))
      (
      some ((((), (false, ())), j6.2)))))) fun j7 =>
  sel j7.1.2.1
   (
   some ((false, ()), ()))
   (
   andK (α := ((Unit × (Bool × Unit)) × ((Int × (Int × (Int × (Int × (Bool × (ByteArray × ((List (Int × Int)) × Unit))))))) × Unit))) (
    sel (!((decide (j7.2.1.1 = 2)) == (decide (0 < (j7.2.1.2.2.2.2.2.2.1.length : Int)))))
     (
     some ((((), (true, ())), j7.2)))
     (
     sel (decide (j7.2.1.1 = 2))
      (
      andK (spec_l1Ranges N j7.2.1.2.2.2.2.2.2.1) fun u8 =>
      some ((((), ((!u8.1.1), ())), j7.2)))
      (
      some ((((), (false, ())), j7.2))))) fun j9 =>
   sel j9.1.2.1
    (
    some ((false, ()), ()))
    (
    sel (decide (j9.2.1.1 = 6))
     (
     some (((decide (j9.2.1.2.1 ≤ (IntKind.i64.wrap (4611686018427387903 - (j9.2.1.2.2.2.2.2.1.size : Int))))), ()), ()))
     (
     sel (decide (j9.2.1.1 = 8))
      (
      some (((decide (j9.2.1.2.2.1 ≤ (IntKind.i64.wrap (4611686018427387903 - (j9.2.1.2.2.2.2.2.1.size : Int))))), ()), ()))
      (
      sel (decide (j9.2.1.1 = 24))
       (
       sel (decide (j9.2.1.2.2.1 ≤ j9.2.1.2.1))
        (
        some (((decide (j9.2.1.2.2.2.1 ≤ 255)), ()), ()))
        (
        some ((false, ()), ())))
       (
       some ((true, ()), ()))))))) := by kernel_rfl
set_option maxRecDepth 100000 in
theorem spec_GoodFrame.say (N : Nat) : SayOk Try.prog (spec_GoodFrame.S N) := sayOk_mk (N := N) (H := spec_GoodFrame.H) (preps := [⟨[], [], [], []⟩]) (l := spec_GoodFrame.says) (fn := Try.f50) (c := bodyOf Try.f50)
  (by kernel_rfl) (by kernel_rfl) (by kernel_rfl) (by kernel_rfl) (by kernel_rfl) (by kernel_rfl) (by kernel_rfl)
  (fun N => SayAll.cons (spec_l1Shape.say N) (SayAll.cons (spec_l1Known.say N) (SayAll.cons (spec_l1In.say N) (SayAll.cons (spec_l1Ranges.say N) (SayAll.nil))))) (fun a s => by kernel_rfl)
noncomputable def spec_GoodFrame.SB (N : Nat) : Say := spec_GoodFrame.S N |>.lent
theorem spec_GoodFrame.sayB (N : Nat) : SayOk Try.prog (spec_GoodFrame.SB N) := (spec_GoodFrame.say N).lent

/-! ### loop.example/g00206/spec.l1Size: function 139 -/
noncomputable def spec_l1Size.H : Hints := hintsOf []
noncomputable def spec_l1Size.says (N : Nat) : List Say := []
noncomputable def spec_l1Size.call (N : Nat) : CallK := callBy (spec_l1Size.says N)
noncomputable def spec_l1Size.qt (N : Nat) : FuncId → List PV → Sig → Cl := qtBy (spec_l1Size.says N)
noncomputable def spec_l1Size (N : Nat) (n : Int) : Option ((Int × Unit) × Unit) :=
  ofFn Try.prog spec_l1Size.call spec_l1Size.qt spec_l1Size.H N Try.f139 [ak_i] [] [ak_i] [] [⟨[], [], [], []⟩] (n, ()) ()
noncomputable def spec_l1Size.S (N : Nat) : Say := ⟨false, 139, [ak_i], [], [ak_i], [], fun a s => spec_l1Size N a.1⟩
set_option maxRecDepth 100000 in
theorem spec_l1Size.eq (N : Nat) (n : Int) : spec_l1Size N n =
 sel (decide (n < 64))
  (
  some ((1, ()), ()))
  (
  sel (decide (n < 16384))
   (
   some ((2, ()), ()))
   (
   sel (decide (n < 1073741824))
    (
    some ((4, ()), ()))
    (
    some ((8, ()), ())))) := by kernel_rfl
set_option maxRecDepth 100000 in
theorem spec_l1Size.say (N : Nat) : SayOk Try.prog (spec_l1Size.S N) := sayOk_mk (N := N) (H := spec_l1Size.H) (preps := [⟨[], [], [], []⟩]) (l := spec_l1Size.says) (fn := Try.f139) (c := bodyOf Try.f139)
  (by kernel_rfl) (by kernel_rfl) (by kernel_rfl) (by kernel_rfl) (by kernel_rfl) (by kernel_rfl) (by kernel_rfl)
  (fun N => SayAll.nil) (fun a s => by kernel_rfl)

/-! ### loop.example/g00206/spec.l1Fixed: function 109 -/
noncomputable def spec_l1Fixed.H : Hints := hintsOf [(2000003, .loop ⟨.normal, [0], [5, 6], [.one (.own 0), ak_i], [.rows (.int .u8)], [⟨[(5, (.int .u8))], [], [], [0]⟩, ⟨[], [], [], [0]⟩]⟩ [⟨(.exit 0), [], [5], [.one (.own 0)], [.rows (.int .u8)], [⟨[], [], [], [0]⟩]⟩])]
noncomputable def spec_l1Fixed.says (N : Nat) : List Say := []
noncomputable def spec_l1Fixed.call (N : Nat) : CallK := callBy (spec_l1Fixed.says N)
noncomputable def spec_l1Fixed.qt (N : Nat) : FuncId → List PV → Sig → Cl := qtBy (spec_l1Fixed.says N)
noncomputable def spec_l1Fixed.l0.hd : Alt := ⟨.normal, [0], [5, 6], [.one (.own 0), ak_i], [.rows (.int .u8)], [⟨[(5, (.int .u8))], [], [], [0]⟩, ⟨[], [], [], [0]⟩]⟩
noncomputable def spec_l1Fixed.l0.outs : List Alt := [⟨(.exit 0), [], [5], [.one (.own 0)], [.rows (.int .u8)], [⟨[], [], [], [0]⟩]⟩]
noncomputable def spec_l1Fixed.l0 (N : Nat) (n1 : Int) (k : Int) (p0 : (List Int)) : Option ((Unit × Unit) × ((List Int) × Unit)) :=
  loopK Try.prog spec_l1Fixed.call spec_l1Fixed.qt spec_l1Fixed.H (codeAt (bodyOf Try.f109) [1, 1, 0, 1, 0, 0]) 0 spec_l1Fixed.l0.hd spec_l1Fixed.l0.outs [(0, .v (.int .i64 n1))] N (((), (k, ())), (p0, ()))
noncomputable def spec_l1Fixed (N : Nat) (n : Int) (many : Int) : Option ((ByteArray × Unit) × Unit) :=
  ofFn Try.prog spec_l1Fixed.call spec_l1Fixed.qt spec_l1Fixed.H N Try.f109 [ak_i, ak_i] [] [ak_s] [] [⟨[], [], [], []⟩] (n, (many, ())) ()
noncomputable def spec_l1Fixed.S (N : Nat) : Say := ⟨false, 109, [ak_i, ak_i], [], [ak_s], [], fun a s => spec_l1Fixed N a.1 a.2.1⟩
set_option maxRecDepth 100000 in
theorem spec_l1Fixed.l0.eq (N : Nat) (n1 : Int) (k : Int) (p0 : (List Int)) : spec_l1Fixed.l0 (N + 1) n1 k p0 =
 sel (decide (0 ≤ k))
  (
  chk (decide (0 ≤ (IntKind.u64.wrap (IntKind.i64.wrap (8 * k))))) (
  chk (decide (p0.length + 1 < most)) (
  spec_l1Fixed.l0 N n1 (IntKind.i64.wrap (k - 1)) (p0 ++ [(IntKind.u8.wrap (shrI .i64 n1 (IntKind.u64.wrap (IntKind.i64.wrap (8 * k)))))]))))
  (
  some ((((), ()), (p0, ())))) := by kernel_rfl
set_option maxRecDepth 100000 in
theorem spec_l1Fixed.eq (N : Nat) (n : Int) (many : Int) : spec_l1Fixed N n many =
 andK (spec_l1Fixed.l0 N n (IntKind.i64.wrap (many - 1)) []) fun l1 =>
 some (((strL l1.2.1), ()), ()) := by kernel_rfl
set_option maxRecDepth 100000 in
theorem spec_l1Fixed.say (N : Nat) : SayOk Try.prog (spec_l1Fixed.S N) := sayOk_mk (N := N) (H := spec_l1Fixed.H) (preps := [⟨[], [], [], []⟩]) (l := spec_l1Fixed.says) (fn := Try.f109) (c := bodyOf Try.f109)
  (by kernel_rfl) (by kernel_rfl) (by kernel_rfl) (by kernel_rfl) (by kernel_rfl) (by kernel_rfl) (by kernel_rfl)
  (fun N => SayAll.nil) (fun a s => by kernel_rfl)

/-! ### loop.example/g00206/spec.l1Var: function 108 -/
noncomputable def spec_l1Var.H : Hints := hintsOf []
noncomputable def spec_l1Var.says (N : Nat) : List Say := [spec_l1Size.S N, spec_l1Fixed.S N]
noncomputable def spec_l1Var.call (N : Nat) : CallK := callBy (spec_l1Var.says N)
noncomputable def spec_l1Var.qt (N : Nat) : FuncId → List PV → Sig → Cl := qtBy (spec_l1Var.says N)
noncomputable def spec_l1Var (N : Nat) (n : Int) : Option ((ByteArray × Unit) × Unit) :=
  ofFn Try.prog spec_l1Var.call spec_l1Var.qt spec_l1Var.H N Try.f108 [ak_i] [] [ak_s] [] [⟨[], [], [], []⟩] (n, ()) ()
noncomputable def spec_l1Var.S (N : Nat) : Say := ⟨false, 108, [ak_i], [], [ak_s], [], fun a s => spec_l1Var N a.1⟩
set_option maxRecDepth 100000 in
theorem spec_l1Var.eq (N : Nat) (n : Int) : spec_l1Var N n =
 andK (spec_l1Size N n) fun u1 =>
 sel (decide (u1.1.1 = 1))
  (
  andK (spec_l1Fixed N n 1) fun u2 =>
  some (u2.1, ()))
  (
  sel (decide (u1.1.1 = 2))
   (
   andK (spec_l1Fixed N (Go.bits .or .i64 n 16384) 2) fun u3 =>
   some (u3.1, ()))
   (
   sel (decide (u1.1.1 = 4))
    (
    andK (spec_l1Fixed N (Go.bits .or .i64 n 2147483648) 4) fun u4 =>
    some (u4.1, ()))
    (
    andK (spec_l1Fixed N (Go.bits .or .i64 n (-4611686018427387904)) 8) fun u5 =>
    some (u5.1, ())))) := by kernel_rfl
set_option maxRecDepth 100000 in
theorem spec_l1Var.say (N : Nat) : SayOk Try.prog (spec_l1Var.S N) := sayOk_mk (N := N) (H := spec_l1Var.H) (preps := [⟨[], [], [], []⟩]) (l := spec_l1Var.says) (fn := Try.f108) (c := bodyOf Try.f108)
  (by kernel_rfl) (by kernel_rfl) (by kernel_rfl) (by kernel_rfl) (by kernel_rfl) (by kernel_rfl) (by kernel_rfl)
  (fun N => SayAll.cons (spec_l1Size.say N) (SayAll.cons (spec_l1Fixed.say N) (SayAll.nil))) (fun a s => by kernel_rfl)

/-! ### loop.example/g00206/spec.l1Bytes: function 51 -/
noncomputable def spec_l1Bytes.H : Hints := hintsOf [(20, .join [⟨.normal, [102, 103, 104], [1, 3], [.one (.ptr 0 0), ak_s], [.cells [ck_i, ck_i, ck_i, ck_i, ck_b, ck_s, .sh (.rows (.pair (.int .i64) (.int .i64)))]], [⟨[], [], [], []⟩]⟩]),
  (2000016, .loop ⟨.normal, [102, 103], [1, 3, 104], [.one (.ptr 0 0), ak_s, ak_i], [.cells [ck_i, ck_i, ck_i, ck_i, ck_b, ck_s, .sh (.rows (.pair (.int .i64) (.int .i64)))]], [⟨[], [], [], []⟩]⟩ [⟨(.exit 1), [], [3], [ak_s], [.cells [ck_i, ck_i, ck_i, ck_i, ck_b, ck_s, .sh (.rows (.pair (.int .i64) (.int .i64)))]], [⟨[], [], [], []⟩]⟩]),
  (32, .join [⟨.normal, [4], [1, 7, 8], [.one (.ptr 0 0), ak_i, ak_s], [.cells [ck_i, ck_i, ck_i, ck_i, ck_b, ck_s, .sh (.rows (.pair (.int .i64) (.int .i64)))]], [⟨[], [], [], []⟩]⟩]),
  (34, .join [⟨.normal, [4, 8], [1, 7], [.one (.ptr 0 0), ak_i], [.cells [ck_i, ck_i, ck_i, ck_i, ck_b, ck_s, .sh (.rows (.pair (.int .i64) (.int .i64)))]], [⟨[], [], [], []⟩]⟩])]
noncomputable def spec_l1Bytes.says (N : Nat) : List Say := [spec_l1Var.S N, spec_l1Fixed.S N]
noncomputable def spec_l1Bytes.call (N : Nat) : CallK := callBy (spec_l1Bytes.says N)
noncomputable def spec_l1Bytes.qt (N : Nat) : FuncId → List PV → Sig → Cl := qtBy (spec_l1Bytes.says N)
noncomputable def spec_l1Bytes.l0.hd : Alt := ⟨.normal, [102, 103], [1, 3, 104], [.one (.ptr 0 0), ak_s, ak_i], [.cells [ck_i, ck_i, ck_i, ck_i, ck_b, ck_s, .sh (.rows (.pair (.int .i64) (.int .i64)))]], [⟨[], [], [], []⟩]⟩
noncomputable def spec_l1Bytes.l0.outs : List Alt := [⟨(.exit 1), [], [3], [ak_s], [.cells [ck_i, ck_i, ck_i, ck_i, ck_b, ck_s, .sh (.rows (.pair (.int .i64) (.int .i64)))]], [⟨[], [], [], []⟩]⟩]
noncomputable def spec_l1Bytes.l0 (N : Nat) (t102 : (List (Int × Int))) (t103 : Int) (C : ByteArray) (t104 : Int) (p0_0 : Int) (p0_1 : Int) (p0_2 : Int) (p0_3 : Int) (p0_4 : Bool) (p0_5 : ByteArray) (p0_6 : (List (Int × Int))) : Option ((ByteArray × Unit) × ((Int × (Int × (Int × (Int × (Bool × (ByteArray × ((List (Int × Int)) × Unit))))))) × Unit)) :=
  loopK Try.prog spec_l1Bytes.call spec_l1Bytes.qt spec_l1Bytes.H (codeAt (bodyOf Try.f51) [1, 1, 1, 0, 1, 0, 1, 1, 1, 1, 1, 1, 1, 1, 1, 0, 1, 0, 1, 0, 0]) 1 spec_l1Bytes.l0.hd spec_l1Bytes.l0.outs [(102, .rows false (.pair (.int .i64) (.int .i64)) t102), (103, .v (.int .i64 t103))] N (((), (C, (t104, ()))), ((p0_0, (p0_1, (p0_2, (p0_3, (p0_4, (p0_5, (p0_6, ()))))))), ()))
noncomputable def spec_l1Bytes.l1.hd : Alt := ⟨.normal, [102, 103], [1, 3, 104], [.one (.ptr 0 0), ak_s, ak_i], [.cells [ck_i, ck_i, ck_i, ck_i, ck_b, ck_s, .sh (.rows (.pair (.int .i64) (.int .i64)))]], [⟨[], [], [], []⟩]⟩
noncomputable def spec_l1Bytes.l1.outs : List Alt := [⟨(.exit 1), [], [3], [ak_s], [.cells [ck_i, ck_i, ck_i, ck_i, ck_b, ck_s, .sh (.rows (.pair (.int .i64) (.int .i64)))]], [⟨[], [], [], []⟩]⟩]
noncomputable def spec_l1Bytes.l1 (N : Nat) (t1021 : (List (Int × Int))) (t1031 : Int) (C1 : ByteArray) (t1041 : Int) (p0_01 : Int) (p0_11 : Int) (p0_21 : Int) (p0_31 : Int) (p0_41 : Bool) (p0_51 : ByteArray) (p0_61 : (List (Int × Int))) : Option ((ByteArray × Unit) × ((Int × (Int × (Int × (Int × (Bool × (ByteArray × ((List (Int × Int)) × Unit))))))) × Unit)) :=
  loopK Try.prog spec_l1Bytes.call spec_l1Bytes.qt spec_l1Bytes.H (codeAt (bodyOf Try.f51) [1, 1, 1, 0, 1, 0, 1, 1, 1, 1, 1, 1, 1, 1, 1, 0, 1, 0, 1, 0, 0]) 1 spec_l1Bytes.l1.hd spec_l1Bytes.l1.outs [(102, .rows false (.pair (.int .i64) (.int .i64)) t1021), (103, .v (.int .i64 t1031))] N (((), (C1, (t1041, ()))), ((p0_01, (p0_11, (p0_21, (p0_31, (p0_41, (p0_51, (p0_61, ()))))))), ()))
noncomputable def spec_l1Bytes (N : Nat) (G_0 : Int) (G_1 : Int) (G_2 : Int) (G_3 : Int) (G_4 : Bool) (G_5 : ByteArray) (G_6 : (List (Int × Int))) : Option ((ByteArray × Unit) × Unit) :=
  ofFn Try.prog spec_l1Bytes.call spec_l1Bytes.qt spec_l1Bytes.H N Try.f51 [.agg [ck_i, ck_i, ck_i, ck_i, ck_b, ck_s, .sh (.rows (.pair (.int .i64) (.int .i64)))]] [] [ak_s] [] [⟨[], [], [], []⟩] ((G_0, (G_1, (G_2, (G_3, (G_4, (G_5, (G_6, ()))))))), ()) ()
noncomputable def spec_l1Bytes.S (N : Nat) : Say := ⟨false, 51, [.agg [ck_i, ck_i, ck_i, ck_i, ck_b, ck_s, .sh (.rows (.pair (.int .i64) (.int .i64)))]], [], [ak_s], [], fun a s => spec_l1Bytes N a.1.1 a.1.2.1 a.1.2.2.1 a.1.2.2.2.1 a.1.2.2.2.2.1 a.1.2.2.2.2.2.1 a.1.2.2.2.2.2.2.1⟩
set_option maxRecDepth 100000 in
theorem spec_l1Bytes.l1.eq (N : Nat) (t1021 : (List (Int × Int))) (t1031 : Int) (C1 : ByteArray) (t1041 : Int) (p0_01 : Int) (p0_11 : Int) (p0_21 : Int) (p0_31 : Int) (p0_41 : Bool) (p0_51 : ByteArray) (p0_61 : (List (Int × Int))) : spec_l1Bytes.l1 (N + 1) t1021 t1031 C1 t1041 p0_01 p0_11 p0_21 p0_31 p0_41 p0_51 p0_61 =
 sel (decide (t1041 < t1031))
  (
  andK (α := ((Unit × (ByteArray × Unit)) × ((Int × (Int × (Int × (Int × (Bool × (ByteArray × ((List (Int × Int)) × Unit))))))) × Unit))) (
   chk ((decide (0 ≤ t1041)) && (decide (t1041 < (t1021.length : Int)))) (
   sel (decide (0 < t1041))
    (
    chk ((decide (0 ≤ (IntKind.i64.wrap (t1041 - 1)))) && (decide ((IntKind.i64.wrap (t1041 - 1)) < (p0_61.length : Int)))) (
    andK (spec_l1Var N (IntKind.i64.wrap ((IntKind.i64.wrap ((rdS (.pair (.int .i64) (.int .i64)) p0_61 (Int.toNat (IntKind.i64.wrap (t1041 - 1)))).1 - (rdS (.pair (.int .i64) (.int .i64)) t1021 (Int.toNat t1041)).2)) - 2))) fun u42 =>
    andK (spec_l1Var N (IntKind.i64.wrap ((rdS (.pair (.int .i64) (.int .i64)) t1021 (Int.toNat t1041)).2 - (rdS (.pair (.int .i64) (.int .i64)) t1021 (Int.toNat t1041)).1))) fun u43 =>
    chk (decide (u42.1.1.size + u43.1.1.size ≤ 9223372036854775807)) (
    chk (decide (C1.size + (u42.1.1 ++ u43.1.1).size ≤ 9223372036854775807)) (
    some ((((), ((C1 ++ (u42.1.1 ++ u43.1.1)), ())), ((p0_01, (p0_11, (p0_21, (p0_31, (p0_41, (p0_51, (p0_61, ()))))))), ())))))))
    (
    some ((((), (C1, ())), ((p0_01, (p0_11, (p0_21, (p0_31, (p0_41, (p0_51, (p0_61, ()))))))), ())))))) fun j44 =>
  spec_l1Bytes.l1 N t1021 t1031 j44.1.2.1 (IntKind.i64.wrap (t1041 + 1)) j44.2.1.1 j44.2.1.2.1 j44.2.1.2.2.1 j44.2.1.2.2.2.1 j44.2.1.2.2.2.2.1 j44.2.1.2.2.2.2.2.1 j44.2.1.2.2.2.2.2.2.1)
  (
  some (((C1, ()), ((p0_01, (p0_11, (p0_21, (p0_31, (p0_41, (p0_51, (p0_61, ()))))))), ())))) := by kernel_rfl
set_option maxRecDepth 100000 in
theorem spec_l1Bytes.l0.eq (N : Nat) (t102 : (List (Int × Int))) (t103 : Int) (C : ByteArray) (t104 : Int) (p0_0 : Int) (p0_1 : Int) (p0_2 : Int) (p0_3 : Int) (p0_4 : Bool) (p0_5 : ByteArray) (p0_6 : (List (Int × Int))) : spec_l1Bytes.l0 (N + 1) t102 t103 C t104 p0_0 p0_1 p0_2 p0_3 p0_4 p0_5 p0_6 =
 sel (decide (t104 < t103))
  (
  andK (α := ((Unit × (ByteArray × Unit)) × ((Int × (Int × (Int × (Int × (Bool × (ByteArray × ((List (Int × Int)) × Unit))))))) × Unit))) (
   chk ((decide (0 ≤ t104)) && (decide (t104 < (t102.length : Int)))) (
   sel (decide (0 < t104))
    (
    chk ((decide (0 ≤ (IntKind.i64.wrap (t104 - 1)))) && (decide ((IntKind.i64.wrap (t104 - 1)) < (p0_6.length : Int)))) (
    andK (spec_l1Var N (IntKind.i64.wrap ((IntKind.i64.wrap ((rdS (.pair (.int .i64) (.int .i64)) p0_6 (Int.toNat (IntKind.i64.wrap (t104 - 1)))).1 - (rdS (.pair (.int .i64) (.int .i64)) t102 (Int.toNat t104)).2)) - 2))) fun u15 =>
    andK (spec_l1Var N (IntKind.i64.wrap ((rdS (.pair (.int .i64) (.int .i64)) t102 (Int.toNat t104)).2 - (rdS (.pair (.int .i64) (.int .i64)) t102 (Int.toNat t104)).1))) fun u16 =>
    chk (decide (u15.1.1.size + u16.1.1.size ≤ 9223372036854775807)) (
    chk (decide (C.size + (u15.1.1 ++ u16.1.1).size ≤ 9223372036854775807)) (
    some ((((), ((C ++ (u15.1.1 ++ u16.1.1)), ())), ((p0_0, (p0_1, (p0_2, (p0_3, (p0_4, (p0_5, (p0_6, ()))))))), ())))))))
    (
    some ((((), (C, ())), ((p0_0, (p0_1, (p0_2, (p0_3, (p0_4, (p0_5, (p0_6, ()))))))), ())))))) fun j17 =>
  spec_l1Bytes.l0 N t102 t103 j17.1.2.1 (IntKind.i64.wrap (t104 + 1)) j17.2.1.1 j17.2.1.2.1 j17.2.1.2.2.1 j17.2.1.2.2.2.1 j17.2.1.2.2.2.2.1 j17.2.1.2.2.2.2.2.1 j17.2.1.2.2.2.2.2.2.1)
  (
  some (((C, ()), ((p0_0, (p0_1, (p0_2, (p0_3, (p0_4, (p0_5, (p0_6, ()))))))), ())))) := by kernel_rfl
set_option maxRecDepth 100000 in
theorem spec_l1Bytes.eq (N : Nat) (G_0 : Int) (G_1 : Int) (G_2 : Int) (G_3 : Int) (G_4 : Bool) (G_5 : ByteArray) (G_6 : (List (Int × Int))) : spec_l1Bytes N G_0 G_1 G_2 G_3 G_4 G_5 G_6 =
 andK (spec_l1Var N G_0) fun u1 =>
 andK (spec_l1Var N (G_5.size : Int)) fun u2 =>
 chk (decide (u2.1.1.size + G_5.size ≤ 9223372036854775807)) (
 sel (decide (G_0 = 16))
  (
  andK (spec_l1Var N G_1) fun u3 =>
  chk (decide (u1.1.1.size + u3.1.1.size ≤ 9223372036854775807)) (
  some (((u1.1.1 ++ u3.1.1), ()), ())))
  (
  sel (decide (G_0 = 17))
   (
   sel (decide (G_0 = 17))
    (
    andK (spec_l1Var N G_1) fun u4 =>
    chk (decide (u1.1.1.size + u4.1.1.size ≤ 9223372036854775807)) (
    andK (spec_l1Var N G_2) fun u5 =>
    chk (decide ((u1.1.1 ++ u4.1.1).size + u5.1.1.size ≤ 9223372036854775807)) (
    some ((((u1.1.1 ++ u4.1.1) ++ u5.1.1), ()), ()))))
    (
    sel (decide (G_0 = 4))
     (
     andK (spec_l1Var N G_1) fun u6 =>
     chk (decide (u1.1.1.size + u6.1.1.size ≤ 9223372036854775807)) (
     andK (spec_l1Var N G_2) fun u7 =>
     chk (decide ((u1.1.1 ++ u6.1.1).size + u7.1.1.size ≤ 9223372036854775807)) (
     andK (spec_l1Var N G_3) fun u8 =>
     chk (decide (((u1.1.1 ++ u6.1.1) ++ u7.1.1).size + u8.1.1.size ≤ 9223372036854775807)) (
     some (((((u1.1.1 ++ u6.1.1) ++ u7.1.1) ++ u8.1.1), ()), ())))))
     (
     sel (decide (G_0 = 28))
      (
      andK (spec_l1Var N G_1) fun u9 =>
      chk (decide (u1.1.1.size + u9.1.1.size ≤ 9223372036854775807)) (
      andK (spec_l1Var N G_2) fun u10 =>
      chk (decide ((u1.1.1 ++ u9.1.1).size + u10.1.1.size ≤ 9223372036854775807)) (
      chk (decide (((u1.1.1 ++ u9.1.1) ++ u10.1.1).size + (u2.1.1 ++ G_5).size ≤ 9223372036854775807)) (
      some (((((u1.1.1 ++ u9.1.1) ++ u10.1.1) ++ (u2.1.1 ++ G_5)), ()), ())))))
      (
      sel (decide (G_0 = 2))
       (
       chk (decide (0 < (G_6.length : Int))) (
       andK (spec_l1Var N (rdS (.pair (.int .i64) (.int .i64)) G_6 0).2) fun u11 =>
       andK (spec_l1Var N G_1) fun u12 =>
       chk (decide (u11.1.1.size + u12.1.1.size ≤ 9223372036854775807)) (
       andK (spec_l1Var N (IntKind.i64.wrap ((G_6.length : Int) - 1))) fun u13 =>
       chk (decide ((u11.1.1 ++ u12.1.1).size + u13.1.1.size ≤ 9223372036854775807)) (
       chk (decide (0 < (G_6.length : Int))) (
       chk (decide (0 < (G_6.length : Int))) (
       andK (spec_l1Var N (IntKind.i64.wrap ((rdS (.pair (.int .i64) (.int .i64)) G_6 0).2 - (rdS (.pair (.int .i64) (.int .i64)) G_6 0).1))) fun u14 =>
       chk (decide (((u11.1.1 ++ u12.1.1) ++ u13.1.1).size + u14.1.1.size ≤ 9223372036854775807)) (
       chk (decide (u1.1.1.size + (((u11.1.1 ++ u12.1.1) ++ u13.1.1) ++ u14.1.1).size ≤ 9223372036854775807)) (
       andK (spec_l1Bytes.l0 N G_6 (G_6.length : Int) (u1.1.1 ++ (((u11.1.1 ++ u12.1.1) ++ u13.1.1) ++ u14.1.1)) 0 G_0 G_1 G_2 G_3 G_4 G_5 G_6) fun l18 =>
       some (l18.1, ())))))))))
       (
       sel (decide (G_0 = 6))
        (
        andK (spec_l1Var N G_1) fun u19 =>
        chk (decide (u1.1.1.size + u19.1.1.size ≤ 9223372036854775807)) (
        chk (decide ((u1.1.1 ++ u19.1.1).size + (u2.1.1 ++ G_5).size ≤ 9223372036854775807)) (
        some ((((u1.1.1 ++ u19.1.1) ++ (u2.1.1 ++ G_5)), ()), ()))))
        (
        sel (decide (G_0 = 7))
         (
         chk (decide (u1.1.1.size + (u2.1.1 ++ G_5).size ≤ 9223372036854775807)) (
         some (((u1.1.1 ++ (u2.1.1 ++ G_5)), ()), ())))
         (
         sel (decide (G_0 = 8))
          (
          andK (α := ((Unit × (Int × (ByteArray × Unit))) × ((Int × (Int × (Int × (Int × (Bool × (ByteArray × ((List (Int × Int)) × Unit))))))) × Unit))) (
           sel (!(decide (G_2 = 0)))
            (
            andK (spec_l1Var N G_2) fun u20 =>
            some ((((), (14, (u20.1.1, ()))), ((G_0, (G_1, (G_2, (G_3, (G_4, (G_5, (G_6, ()))))))), ()))))
            (
            some ((((), (10, ((⟨#[]⟩ : ByteArray), ()))), ((G_0, (G_1, (G_2, (G_3, (G_4, (G_5, (G_6, ()))))))), ()))))) fun j21 =>
          andK (α := ((Unit × (Int × Unit)) × ((Int × (Int × (Int × (Int × (Bool × (ByteArray × ((List (Int × Int)) × Unit))))))) × Unit))) (
           sel j21.2.1.2.2.2.2.1
            (
            some ((((), ((Go.bits .or .i64 j21.1.2.1 1), ())), j21.2)))
            (
            some ((((), (j21.1.2.1, ())), j21.2)))) fun j22 =>
          andK (spec_l1Var N j22.1.2.1) fun u23 =>
          andK (spec_l1Var N j22.2.1.2.1) fun u24 =>
          chk (decide (u23.1.1.size + u24.1.1.size ≤ 9223372036854775807)) (
          chk (decide ((u23.1.1 ++ u24.1.1).size + j21.1.2.2.1.size ≤ 9223372036854775807)) (
          chk (decide (((u23.1.1 ++ u24.1.1) ++ j21.1.2.2.1).size + (u2.1.1 ++ G_5).size ≤ 9223372036854775807)) (
          some (((((u23.1.1 ++ u24.1.1) ++ j21.1.2.2.1) ++ (u2.1.1 ++ G_5)), ()), ())))))
          (
          sel (decide (G_0 = 24))
           (
           andK (spec_l1Var N G_1) fun u25 =>
           chk (decide (u1.1.1.size + u25.1.1.size ≤ 9223372036854775807)) (
           andK (spec_l1Var N G_2) fun u26 =>
           chk (decide ((u1.1.1 ++ u25.1.1).size + u26.1.1.size ≤ 9223372036854775807)) (
           andK (spec_l1Fixed N (G_5.size : Int) 1) fun u27 =>
           chk (decide (((u1.1.1 ++ u25.1.1) ++ u26.1.1).size + u27.1.1.size ≤ 9223372036854775807)) (
           chk (decide ((((u1.1.1 ++ u25.1.1) ++ u26.1.1) ++ u27.1.1).size + G_5.size ≤ 9223372036854775807)) (
           andK (spec_l1Fixed N G_3 1) fun u28 =>
           chk (decide (((((u1.1.1 ++ u25.1.1) ++ u26.1.1) ++ u27.1.1) ++ G_5).size + u28.1.1.size ≤ 9223372036854775807)) (
           some (((((((u1.1.1 ++ u25.1.1) ++ u26.1.1) ++ u27.1.1) ++ G_5) ++ u28.1.1), ()), ())))))))
           (
           sel (decide (G_0 = 26))
            (
            sel (decide (G_0 = 26))
             (
             chk (decide (u1.1.1.size + G_5.size ≤ 9223372036854775807)) (
             some (((u1.1.1 ++ G_5), ()), ())))
             (
             sel (decide (G_0 = 48))
              (
              andK (spec_l1Var N 49) fun u29 =>
              chk (decide (u29.1.1.size + (u2.1.1 ++ G_5).size ≤ 9223372036854775807)) (
              some (((u29.1.1 ++ (u2.1.1 ++ G_5)), ()), ())))
              (
              some (u1.1, ()))))
            (
            sel (decide (G_0 = 27))
             (
             chk (decide (u1.1.1.size + G_5.size ≤ 9223372036854775807)) (
             some (((u1.1.1 ++ G_5), ()), ())))
             (
             sel (decide (G_0 = 48))
              (
              andK (spec_l1Var N 49) fun u30 =>
              chk (decide (u30.1.1.size + (u2.1.1 ++ G_5).size ≤ 9223372036854775807)) (
              some (((u30.1.1 ++ (u2.1.1 ++ G_5)), ()), ())))
              (
              some (u1.1, ())))))))))))))
   (
   sel (decide (G_0 = 5))
    (
    andK (spec_l1Var N G_1) fun u31 =>
    chk (decide (u1.1.1.size + u31.1.1.size ≤ 9223372036854775807)) (
    andK (spec_l1Var N G_2) fun u32 =>
    chk (decide ((u1.1.1 ++ u31.1.1).size + u32.1.1.size ≤ 9223372036854775807)) (
    some ((((u1.1.1 ++ u31.1.1) ++ u32.1.1), ()), ()))))
    (
    sel (decide (G_0 = 4))
     (
     andK (spec_l1Var N G_1) fun u33 =>
     chk (decide (u1.1.1.size + u33.1.1.size ≤ 9223372036854775807)) (
     andK (spec_l1Var N G_2) fun u34 =>
     chk (decide ((u1.1.1 ++ u33.1.1).size + u34.1.1.size ≤ 9223372036854775807)) (
     andK (spec_l1Var N G_3) fun u35 =>
     chk (decide (((u1.1.1 ++ u33.1.1) ++ u34.1.1).size + u35.1.1.size ≤ 9223372036854775807)) (
     some (((((u1.1.1 ++ u33.1.1) ++ u34.1.1) ++ u35.1.1), ()), ())))))
     (
     sel (decide (G_0 = 28))
      (
      andK (spec_l1Var N G_1) fun u36 =>
      chk (decide (u1.1.1.size + u36.1.1.size ≤ 9223372036854775807)) (
      andK (spec_l1Var N G_2) fun u37 =>
      chk (decide ((u1.1.1 ++ u36.1.1).size + u37.1.1.size ≤ 9223372036854775807)) (
      chk (decide (((u1.1.1 ++ u36.1.1) ++ u37.1.1).size + (u2.1.1 ++ G_5).size ≤ 9223372036854775807)) (
      some (((((u1.1.1 ++ u36.1.1) ++ u37.1.1) ++ (u2.1.1 ++ G_5)), ()), ())))))
      (
      sel (decide (G_0 = 2))
       (
       chk (decide (0 < (G_6.length : Int))) (
       andK (spec_l1Var N (rdS (.pair (.int .i64) (.int .i64)) G_6 0).2) fun u38 =>
       andK (spec_l1Var N G_1) fun u39 =>
       chk (decide (u38.1.1.size + u39.1.1.size ≤ 9223372036854775807)) (
       andK (spec_l1Var N (IntKind.i64.wrap ((G_6.length : Int) - 1))) fun u40 =>
       chk (decide ((u38.1.1 ++ u39.1.1).size + u40.1.1.size ≤ 9223372036854775807)) (
       chk (decide (0 < (G_6.length : Int))) (
       chk (decide (0 < (G_6.length : Int))) (
       andK (spec_l1Var N (IntKind.i64.wrap ((rdS (.pair (.int .i64) (.int .i64)) G_6 0).2 - (rdS (.pair (.int .i64) (.int .i64)) G_6 0).1))) fun u41 =>
       chk (decide (((u38.1.1 ++ u39.1.1) ++ u40.1.1).size + u41.1.1.size ≤ 9223372036854775807)) (
       chk (decide (u1.1.1.size + (((u38.1.1 ++ u39.1.1) ++ u40.1.1) ++ u41.1.1).size ≤ 9223372036854775807)) (
       andK (spec_l1Bytes.l1 N G_6 (G_6.length : Int) (u1.1.1 ++ (((u38.1.1 ++ u39.1.1) ++ u40.1.1) ++ u41.1.1)) 0 G_0 G_1 G_2 G_3 G_4 G_5 G_6) fun l45 =>
       some (l45.1, ())))))))))
       (
       sel (decide (G_0 = 6))
        (
        andK (spec_l1Var N G_1) fun u46 =>
        chk (decide (u1.1.1.size + u46.1.1.size ≤ 9223372036854775807)) (
        chk (decide ((u1.1.1 ++ u46.1.1).size + (u2.1.1 ++ G_5).size ≤ 9223372036854775807)) (
        some ((((u1.1.1 ++ u46.1.1) ++ (u2.1.1 ++ G_5)), ()), ()))))
        (
        sel (decide (G_0 = 7))
         (
         chk (decide (u1.1.1.size + (u2.1.1 ++ G_5).size ≤ 9223372036854775807)) (
         some (((u1.1.1 ++ (u2.1.1 ++ G_5)), ()), ())))
         (
         sel (decide (G_0 = 8))
          (
          andK (α := ((Unit × (Int × (ByteArray × Unit))) × ((Int × (Int × (Int × (Int × (Bool × (ByteArray × ((List (Int × Int)) × Unit))))))) × Unit))) (
           sel (!(decide (G_2 = 0)))
            (
            andK (spec_l1Var N G_2) fun u47 =>
            some ((((), (14, (u47.1.1, ()))), ((G_0, (G_1, (G_2, (G_3, (G_4, (G_5, (G_6, ()))))))), ()))))
            (
            some ((((), (10, ((⟨#[]⟩ : ByteArray), ()))), ((G_0, (G_1, (G_2, (G_3, (G_4, (G_5, (G_6, ()))))))), ()))))) fun j48 =>
          andK (α := ((Unit × (Int × Unit)) × ((Int × (Int × (Int × (Int × (Bool × (ByteArray × ((List (Int × Int)) × Unit))))))) × Unit))) (
           sel j48.2.1.2.2.2.2.1
            (
            some ((((), ((Go.bits .or .i64 j48.1.2.1 1), ())), j48.2)))
            (
            some ((((), (j48.1.2.1, ())), j48.2)))) fun j49 =>
          andK (spec_l1Var N j49.1.2.1) fun u50 =>
          andK (spec_l1Var N j49.2.1.2.1) fun u51 =>
          chk (decide (u50.1.1.size + u51.1.1.size ≤ 9223372036854775807)) (
          chk (decide ((u50.1.1 ++ u51.1.1).size + j48.1.2.2.1.size ≤ 9223372036854775807)) (
          chk (decide (((u50.1.1 ++ u51.1.1) ++ j48.1.2.2.1).size + (u2.1.1 ++ G_5).size ≤ 9223372036854775807)) (
          some (((((u50.1.1 ++ u51.1.1) ++ j48.1.2.2.1) ++ (u2.1.1 ++ G_5)), ()), ())))))
          (
          sel (decide (G_0 = 24))
           (
           andK (spec_l1Var N G_1) fun u52 =>
           chk (decide (u1.1.1.size + u52.1.1.size ≤ 9223372036854775807)) (
           andK (spec_l1Var N G_2) fun u53 =>
           chk (decide ((u1.1.1 ++ u52.1.1).size + u53.1.1.size ≤ 9223372036854775807)) (
           andK (spec_l1Fixed N (G_5.size : Int) 1) fun u54 =>
           chk (decide (((u1.1.1 ++ u52.1.1) ++ u53.1.1).size + u54.1.1.size ≤ 9223372036854775807)) (
           chk (decide ((((u1.1.1 ++ u52.1.1) ++ u53.1.1) ++ u54.1.1).size + G_5.size ≤ 9223372036854775807)) (
           andK (spec_l1Fixed N G_3 1) fun u55 =>
           chk (decide (((((u1.1.1 ++ u52.1.1) ++ u53.1.1) ++ u54.1.1) ++ G_5).size + u55.1.1.size ≤ 9223372036854775807)) (
           some (((((((u1.1.1 ++ u52.1.1) ++ u53.1.1) ++ u54.1.1) ++ G_5) ++ u55.1.1), ()), ())))))))
           (
           sel (decide (G_0 = 26))
            (
            sel (decide (G_0 = 26))
             (
             chk (decide (u1.1.1.size + G_5.size ≤ 9223372036854775807)) (
             some (((u1.1.1 ++ G_5), ()), ())))
             (
             sel (decide (G_0 = 48))
              (
              andK (spec_l1Var N 49) fun u56 =>
              chk (decide (u56.1.1.size + (u2.1.1 ++ G_5).size ≤ 9223372036854775807)) (
              some (((u56.1.1 ++ (u2.1.1 ++ G_5)), ()), ())))
              (
              some (u1.1, ()))))
            (
            sel (decide (G_0 = 27))
             (
             chk (decide (u1.1.1.size + G_5.size ≤ 9223372036854775807)) (
             some (((u1.1.1 ++ G_5), ()), ())))
             (
             sel (decide (G_0 = 48))
              (
              andK (spec_l1Var N 49) fun u57 =>
              chk (decide (u57.1.1.size + (u2.1.1 ++ G_5).size ≤ 9223372036854775807)) (
              some (((u57.1.1 ++ (u2.1.1 ++ G_5)), ()), ())))
              (
              some (u1.1, ()))))))))))))))) := by kernel_rfl
set_option maxRecDepth 100000 in
theorem spec_l1Bytes.say (N : Nat) : SayOk Try.prog (spec_l1Bytes.S N) := sayOk_mk (N := N) (H := spec_l1Bytes.H) (preps := [⟨[], [], [], []⟩]) (l := spec_l1Bytes.says) (fn := Try.f51) (c := bodyOf Try.f51)
  (by kernel_rfl) (by kernel_rfl) (by kernel_rfl) (by kernel_rfl) (by kernel_rfl) (by kernel_rfl) (by kernel_rfl)
  (fun N => SayAll.cons (spec_l1Var.say N) (SayAll.cons (spec_l1Fixed.say N) (SayAll.nil))) (fun a s => by kernel_rfl)

/-! ### loop.example/g00206/spec.FrameBytes: function 11 -/
noncomputable def spec_FrameBytes.H : Hints := hintsOf []
noncomputable def spec_FrameBytes.says (N : Nat) : List Say := [spec_GoodFrame.S N, spec_l1Bytes.S N]
noncomputable def spec_FrameBytes.call (N : Nat) : CallK := callBy (spec_FrameBytes.says N)
noncomputable def spec_FrameBytes.qt (N : Nat) : FuncId → List PV → Sig → Cl := qtBy (spec_FrameBytes.says N)
noncomputable def spec_FrameBytes (N : Nat) (f_0 : Int) (f_1 : Int) (f_2 : Int) (f_3 : Int) (f_4 : Bool) (f_5 : ByteArray) (f_6 : (List (Int × Int))) : Option ((ByteArray × (Bool × Unit)) × Unit) :=
  ofFn Try.prog spec_FrameBytes.call spec_FrameBytes.qt spec_FrameBytes.H N Try.f11 [.agg [ck_i, ck_i, ck_i, ck_i, ck_b, ck_s, .sh (.rows (.pair (.int .i64) (.int .i64)))]] [] [ak_s, ak_b] [] [⟨[], [], [], []⟩] ((f_0, (f_1, (f_2, (f_3, (f_4, (f_5, (f_6, ()))))))), ()) ()
noncomputable def spec_FrameBytes.S (N : Nat) : Say := ⟨false, 11, [.agg [ck_i, ck_i, ck_i, ck_i, ck_b, ck_s, .sh (.rows (.pair (.int .i64) (.int .i64)))]], [], [ak_s, ak_b], [], fun a s => spec_FrameBytes N a.1.1 a.1.2.1 a.1.2.2.1 a.1.2.2.2.1 a.1.2.2.2.2.1 a.1.2.2.2.2.2.1 a.1.2.2.2.2.2.2.1⟩
set_option maxRecDepth 100000 in
theorem spec_FrameBytes.eq (N : Nat) (f_0 : Int) (f_1 : Int) (f_2 : Int) (f_3 : Int) (f_4 : Bool) (f_5 : ByteArray) (f_6 : (List (Int × Int))) : spec_FrameBytes N f_0 f_1 f_2 f_3 f_4 f_5 f_6 =
 andK (spec_GoodFrame N f_0 f_1 f_2 f_3 f_4 f_5 f_6) fun u1 =>
 sel (!u1.1.1)
  (
  some (((⟨#[]⟩ : ByteArray), (false, ())), ()))
  (
  andK (spec_l1Bytes N f_0 f_1 f_2 f_3 f_4 f_5 f_6) fun u2 =>
  some ((u2.1.1, (true, ())), ())) := by kernel_rfl
set_option maxRecDepth 100000 in
theorem spec_FrameBytes.say (N : Nat) : SayOk Try.prog (spec_FrameBytes.S N) := sayOk_mk (N := N) (H := spec_FrameBytes.H) (preps := [⟨[], [], [], []⟩]) (l := spec_FrameBytes.says) (fn := Try.f11) (c := bodyOf Try.f11)
  (by kernel_rfl) (by kernel_rfl) (by kernel_rfl) (by kernel_rfl) (by kernel_rfl) (by kernel_rfl) (by kernel_rfl)
  (fun N => SayAll.cons (spec_GoodFrame.say N) (SayAll.cons (spec_l1Bytes.say N) (SayAll.nil))) (fun a s => by kernel_rfl)
noncomputable def spec_FrameBytes.SB (N : Nat) : Say := spec_FrameBytes.S N |>.lent
theorem spec_FrameBytes.sayB (N : Nat) : SayOk Try.prog (spec_FrameBytes.SB N) := (spec_FrameBytes.say N).lent

/-! ### loop.example/g00206/impl.numberOf: function 140 -/
noncomputable def impl_numberOf.H : Hints := hintsOf [(2000003, .loop ⟨.normal, [0, 6], [3, 7], [.one (.sh (.int .u64)), ak_i], [], [⟨[], [], [], []⟩]⟩ [⟨(.exit 0), [], [3], [.one (.sh (.int .u64))], [], [⟨[], [], [], []⟩]⟩])]
noncomputable def impl_numberOf.says (N : Nat) : List Say := []
noncomputable def impl_numberOf.call (N : Nat) : CallK := callBy (impl_numberOf.says N)
noncomputable def impl_numberOf.qt (N : Nat) : FuncId → List PV → Sig → Cl := qtBy (impl_numberOf.says N)
noncomputable def impl_numberOf.l0.hd : Alt := ⟨.normal, [0, 6], [3, 7], [.one (.sh (.int .u64)), ak_i], [], [⟨[], [], [], []⟩]⟩
noncomputable def impl_numberOf.l0.outs : List Alt := [⟨(.exit 0), [], [3], [.one (.sh (.int .u64))], [], [⟨[], [], [], []⟩]⟩]
noncomputable def impl_numberOf.l0 (N : Nat) (s1 : ByteArray) (t6 : Int) (n : Int) (t7 : Int) : Option ((Int × Unit) × Unit) :=
  loopK Try.prog impl_numberOf.call impl_numberOf.qt impl_numberOf.H (codeAt (bodyOf Try.f140) [1, 1, 0, 1, 0, 0]) 0 impl_numberOf.l0.hd impl_numberOf.l0.outs [(0, .v (.string s1)), (6, .v (.int .i64 t6))] N ((n, (t7, ())), ())
noncomputable def impl_numberOf (N : Nat) (s : ByteArray) : Option ((Int × Unit) × Unit) :=
  ofFn Try.prog impl_numberOf.call impl_numberOf.qt impl_numberOf.H N Try.f140 [ak_s] [] [.one (.sh (.int .u64))] [] [⟨[], [], [], []⟩] (s, ()) ()
noncomputable def impl_numberOf.S (N : Nat) : Say := ⟨false, 140, [ak_s], [], [.one (.sh (.int .u64))], [], fun a s => impl_numberOf N a.1⟩
set_option maxRecDepth 100000 in
theorem impl_numberOf.l0.eq (N : Nat) (s1 : ByteArray) (t6 : Int) (n : Int) (t7 : Int) : impl_numberOf.l0 (N + 1) s1 t6 n t7 =
 sel (decide (t7 < t6))
  (
  chk ((decide (0 ≤ t7)) && (decide (t7 < (s1.size : Int)))) (
  impl_numberOf.l0 N s1 t6 (Go.bits .or .u64 (shlI .u64 n 8) (IntKind.u64.wrap ((bytesL s1).getD (Int.toNat t7) 0))) (IntKind.i64.wrap (t7 + 1))))
  (
  some (((n, ()), ()))) := by kernel_rfl
set_option maxRecDepth 100000 in
theorem impl_numberOf.eq (N : Nat) (s : ByteArray) : impl_numberOf N s =
 andK (impl_numberOf.l0 N s (s.size : Int) 0 0) fun l1 =>
 some (l1.1, ()) := by kernel_rfl
set_option maxRecDepth 100000 in
theorem impl_numberOf.say (N : Nat) : SayOk Try.prog (impl_numberOf.S N) := sayOk_mk (N := N) (H := impl_numberOf.H) (preps := [⟨[], [], [], []⟩]) (l := impl_numberOf.says) (fn := Try.f140) (c := bodyOf Try.f140)
  (by kernel_rfl) (by kernel_rfl) (by kernel_rfl) (by kernel_rfl) (by kernel_rfl) (by kernel_rfl) (by kernel_rfl)
  (fun N => SayAll.nil) (fun a s => by kernel_rfl)

/-! ### loop.example/g00206/impl.TakeVarint: function 110 -/
noncomputable def impl_TakeVarint.H : Hints := hintsOf []
noncomputable def impl_TakeVarint.says (N : Nat) : List Say := [impl_numberOf.S N]
noncomputable def impl_TakeVarint.call (N : Nat) : CallK := callBy (impl_TakeVarint.says N)
noncomputable def impl_TakeVarint.qt (N : Nat) : FuncId → List PV → Sig → Cl := qtBy (impl_TakeVarint.says N)
noncomputable def impl_TakeVarint (N : Nat) (s : ByteArray) : Option ((Int × (Int × Unit)) × Unit) :=
  ofFn Try.prog impl_TakeVarint.call impl_TakeVarint.qt impl_TakeVarint.H N Try.f110 [ak_s] [] [ak_i, ak_i] [] [⟨[], [], [], []⟩] (s, ()) ()
noncomputable def impl_TakeVarint.S (N : Nat) : Say := ⟨false, 110, [ak_s], [], [ak_i, ak_i], [], fun a s => impl_TakeVarint N a.1⟩
set_option maxRecDepth 100000 in
theorem impl_TakeVarint.eq (N : Nat) (s : ByteArray) : impl_TakeVarint N s =
 sel (decide (s = (⟨#[]⟩ : ByteArray)))
  (
  some ((0, (0, ())), ()))
  (
  chk (decide (0 < (s.size : Int))) (
  chk (decide (0 ≤ (shrI .u8 ((bytesL s).getD 0 0) 6))) (
  sel (decide ((s.size : Int) < (shlI .i64 1 (shrI .u8 ((bytesL s).getD 0 0) 6))))
   (
   some ((0, (0, ())), ()))
   (
   chk ((decide (0 ≤ (shlI .i64 1 (shrI .u8 ((bytesL s).getD 0 0) 6)))) && (decide ((shlI .i64 1 (shrI .u8 ((bytesL s).getD 0 0) 6)) ≤ (s.size : Int)))) (
   andK (impl_numberOf N (s.extract 0 (Int.toNat (shlI .i64 1 (shrI .u8 ((bytesL s).getD 0 0) 6))))) fun u1 =>
   chk (decide (0 ≤ (IntKind.i64.wrap ((IntKind.i64.wrap (8 * (shlI .i64 1 (shrI .u8 ((bytesL s).getD 0 0) 6)))) - 2)))) (
   some (((IntKind.i64.wrap (Go.bits .and .u64 u1.1.1 (IntKind.u64.wrap ((shlI .u64 1 (IntKind.i64.wrap ((IntKind.i64.wrap (8 * (shlI .i64 1 (shrI .u8 ((bytesL s).getD 0 0) 6)))) - 2))) - 1)))), ((shlI .i64 1 (shrI .u8 ((bytesL s).getD 0 0) 6)), ())), ()))))))) := by kernel_rfl
set_option maxRecDepth 100000 in
theorem impl_TakeVarint.say (N : Nat) : SayOk Try.prog (impl_TakeVarint.S N) := sayOk_mk (N := N) (H := impl_TakeVarint.H) (preps := [⟨[], [], [], []⟩]) (l := impl_TakeVarint.says) (fn := Try.f110) (c := bodyOf Try.f110)
  (by kernel_rfl) (by kernel_rfl) (by kernel_rfl) (by kernel_rfl) (by kernel_rfl) (by kernel_rfl) (by kernel_rfl)
  (fun N => SayAll.cons (impl_numberOf.say N) (SayAll.nil)) (fun a s => by kernel_rfl)

/-! ### (*loop.example/g00206/impl.cursor).number: function 52 -/
noncomputable def impl_cursor_number.H : Hints := hintsOf [(4, .join [⟨.normal, [3, 4], [0], [.one (.ptr 0 0)], [.cells [ck_s, ck_b]], [⟨[], [], [], []⟩]⟩])]
noncomputable def impl_cursor_number.says (N : Nat) : List Say := [impl_TakeVarint.S N]
noncomputable def impl_cursor_number.call (N : Nat) : CallK := callBy (impl_cursor_number.says N)
noncomputable def impl_cursor_number.qt (N : Nat) : FuncId → List PV → Sig → Cl := qtBy (impl_cursor_number.says N)
noncomputable def impl_cursor_number (N : Nat) (p0_0 : ByteArray) (p0_1 : Bool) : Option ((Int × Unit) × ((ByteArray × (Bool × Unit)) × Unit)) :=
  ofFn Try.prog impl_cursor_number.call impl_cursor_number.qt impl_cursor_number.H N Try.f52 [.one (.ptr 0 0)] [.cells [ck_s, ck_b]] [ak_i] [.cells [ck_s, ck_b]] [⟨[], [], [], []⟩] ((), ()) ((p0_0, (p0_1, ())), ())
noncomputable def impl_cursor_number.S (N : Nat) : Say := ⟨false, 52, [.one (.ptr 0 0)], [.cells [ck_s, ck_b]], [ak_i], [.cells [ck_s, ck_b]], fun a s => impl_cursor_number N s.1.1 s.1.2.1⟩
set_option maxRecDepth 100000 in
theorem impl_cursor_number.eq (N : Nat) (p0_0 : ByteArray) (p0_1 : Bool) : impl_cursor_number N p0_0 p0_1 =
 andK (impl_TakeVarint N p0_0) fun u1 =>
 andK (α := ((Unit × Unit) × ((ByteArray × (Bool × Unit)) × Unit))) (
  sel (decide (u1.1.2.1 = 0))
   (
   some ((((), ()), ((p0_0, (true, ())), ()))))
   (
   some ((((), ()), ((p0_0, (p0_1, ())), ()))))) fun j2 =>
 chk ((decide (0 ≤ u1.1.2.1)) && ((decide (u1.1.2.1 ≤ (j2.2.1.1.size : Int))) && (decide ((j2.2.1.1.size : Int) ≤ (j2.2.1.1.size : Int))))) (
 some ((u1.1.1, ()), (((j2.2.1.1.extract (Int.toNat u1.1.2.1) (Int.toNat (j2.2.1.1.size : Int))), (j2.2.1.2.1, ())), ()))) := by kernel_rfl
set_option maxRecDepth 100000 in
theorem impl_cursor_number.say (N : Nat) : SayOk Try.prog (impl_cursor_number.S N) := sayOk_mk (N := N) (H := impl_cursor_number.H) (preps := [⟨[], [], [], []⟩]) (l := impl_cursor_number.says) (fn := Try.f52) (c := bodyOf Try.f52)
  (by kernel_rfl) (by kernel_rfl) (by kernel_rfl) (by kernel_rfl) (by kernel_rfl) (by kernel_rfl) (by kernel_rfl)
  (fun N => SayAll.cons (impl_TakeVarint.say N) (SayAll.nil)) (fun a s => by kernel_rfl)

/-! ### (*loop.example/g00206/impl.cursor).ranges: function 111 -/
noncomputable def impl_cursor_ranges.H : Hints := hintsOf [(5000009, .join [⟨.normal, [6, 9, 10, 11, 24, 25], [0, 8, 48], [.one (.ptr 0 0), .one (.own 1), ak_b], [.cells [ck_s, ck_b], .rows (.pair (.int .i64) (.int .i64))], [⟨[], [], [], []⟩]⟩]),
  (13, .join [⟨.normal, [6, 12, 24, 25], [0, 8, 10], [.one (.ptr 0 0), .one (.own 1), ak_i], [.cells [ck_s, ck_b], .rows (.pair (.int .i64) (.int .i64))], [⟨[], [], [], []⟩]⟩]),
  (14, .join [⟨(.exit 0), [6], [8], [.one (.own 1)], [.cells [ck_s, ck_b], .rows (.pair (.int .i64) (.int .i64))], [⟨[], [], [], []⟩]⟩, ⟨.normal, [6, 24, 25], [0, 8], [.one (.ptr 0 0), .one (.own 1)], [.cells [ck_s, ck_b], .rows (.pair (.int .i64) (.int .i64))], [⟨[], [], [], []⟩]⟩]),
  (2000005, .loop ⟨.normal, [6, 24], [0, 8, 25], [.one (.ptr 0 0), .one (.own 1), ak_i], [.cells [ck_s, ck_b], .rows (.pair (.int .i64) (.int .i64))], [⟨[], [], [], []⟩]⟩ [⟨(.exit 0), [6], [8], [.one (.own 1)], [.cells [ck_s, ck_b], .rows (.pair (.int .i64) (.int .i64))], [⟨[], [], [], []⟩]⟩]),
  (8000003, .alts [23]),
  (8000013, .alts [61])]
noncomputable def impl_cursor_ranges.says (N : Nat) : List Say := [impl_cursor_number.S N]
noncomputable def impl_cursor_ranges.call (N : Nat) : CallK := callBy (impl_cursor_ranges.says N)
noncomputable def impl_cursor_ranges.qt (N : Nat) : FuncId → List PV → Sig → Cl := qtBy (impl_cursor_ranges.says N)
noncomputable def impl_cursor_ranges.l0.hd : Alt := ⟨.normal, [6, 24], [0, 8, 25], [.one (.ptr 0 0), .one (.own 1), ak_i], [.cells [ck_s, ck_b], .rows (.pair (.int .i64) (.int .i64))], [⟨[], [], [], []⟩]⟩
noncomputable def impl_cursor_ranges.l0.outs : List Alt := [⟨(.exit 0), [6], [8], [.one (.own 1)], [.cells [ck_s, ck_b], .rows (.pair (.int .i64) (.int .i64))], [⟨[], [], [], []⟩]⟩]
noncomputable def impl_cursor_ranges.l0 (N : Nat) (e : Int) (t24 : Int) (t25 : Int) (p0_01 : ByteArray) (p0_11 : Bool) (p1 : (List (Int × Int))) : Option ((Unit × Unit) × ((ByteArray × (Bool × Unit)) × ((List (Int × Int)) × Unit))) :=
  loopK Try.prog impl_cursor_ranges.call impl_cursor_ranges.qt impl_cursor_ranges.H (codeAt (bodyOf Try.f111) [1, 1, 1, 1, 0, 1, 0, 0]) 2 impl_cursor_ranges.l0.hd impl_cursor_ranges.l0.outs [(6, .v (.int .i64 e)), (24, .v (.int .i64 t24))] N (((), ((), (t25, ()))), ((p0_01, (p0_11, ())), (p1, ())))
noncomputable def impl_cursor_ranges (N : Nat) (o : Int) (p0_0 : ByteArray) (p0_1 : Bool) : Option ((Int × (Unit × Unit)) × ((ByteArray × (Bool × Unit)) × ((List (Int × Int)) × Unit))) :=
  ofFn Try.prog impl_cursor_ranges.call impl_cursor_ranges.qt impl_cursor_ranges.H N Try.f111 [.one (.ptr 0 0), ak_i] [.cells [ck_s, ck_b]] [ak_i, .one (.own 1)] [.cells [ck_s, ck_b], .rows (.pair (.int .i64) (.int .i64))] [⟨[], [], [], [1]⟩] ((), (o, ())) ((p0_0, (p0_1, ())), ())
noncomputable def impl_cursor_ranges.S (N : Nat) : Say := ⟨false, 111, [.one (.ptr 0 0), ak_i], [.cells [ck_s, ck_b]], [ak_i, .one (.own 1)], [.cells [ck_s, ck_b], .rows (.pair (.int .i64) (.int .i64))], fun a s => impl_cursor_ranges N a.2.1 s.1.1 s.1.2.1⟩
set_option maxRecDepth 100000 in
theorem impl_cursor_ranges.l0.eq (N : Nat) (e : Int) (t24 : Int) (t25 : Int) (p0_01 : ByteArray) (p0_11 : Bool) (p1 : (List (Int × Int))) : impl_cursor_ranges.l0 (N + 1) e t24 t25 p0_01 p0_11 p1 =
 sel (decide (t25 < t24))
  (
  andK (α := (((Unit × Unit) × ((ByteArray × (Bool × Unit)) × ((List (Int × Int)) × Unit))) ⊕ ((Unit × (Unit × Unit)) × ((ByteArray × (Bool × Unit)) × ((List (Int × Int)) × Unit))))) (
   andK (impl_cursor_number N p0_01 p0_11) fun u4 =>
   andK (impl_cursor_number N u4.2.1.1 u4.2.1.2.1) fun u5 =>
   sel u5.2.1.2.1
    (
    some (.inl (((), ()), (u5.2.1, (p1, ())))))
    (
    chk ((decide (0 ≤ (IntKind.i64.wrap ((p1.length : Int) - 1)))) && (decide ((IntKind.i64.wrap ((p1.length : Int) - 1)) < (p1.length : Int)))) (
    andK (α := ((Unit × (Unit × (Bool × Unit))) × ((ByteArray × (Bool × Unit)) × ((List (Int × Int)) × Unit)))) (
     sel (decide ((rdS (.pair (.int .i64) (.int .i64)) p1 (Int.toNat (IntKind.i64.wrap ((p1.length : Int) - 1)))).1 < 0))
      (
      some ((((), ((), (true, ()))), (u5.2.1, (p1, ())))))
      (
      some ((((), ((), ((decide (20 < (p1.length : Int))), ()))), (u5.2.1, (p1, ())))))) fun j6 =>
    sel j6.1.2.2.1
     (
     some (.inr ((((), ((), ())), j6.2))))
     (
     andK (α := ((Unit × (Unit × (Int × Unit))) × ((ByteArray × (Bool × Unit)) × ((List (Int × Int)) × Unit)))) (
      sel (decide ((IntKind.i64.wrap ((IntKind.i64.wrap ((rdS (.pair (.int .i64) (.int .i64)) p1 (Int.toNat (IntKind.i64.wrap ((p1.length : Int) - 1)))).1 - u4.1.1)) - 2)) < 0))
       (
       some ((((), ((), (0, ()))), j6.2)))
       (
       some ((((), ((), (u5.1.1, ()))), j6.2)))) fun j7 =>
     chk (decide (j7.2.2.1.length + 1 < most)) (
     some (.inr ((((), ((), ())), (j7.2.1, ((j7.2.2.1 ++ [((IntKind.i64.wrap ((IntKind.i64.wrap ((IntKind.i64.wrap ((rdS (.pair (.int .i64) (.int .i64)) p1 (Int.toNat (IntKind.i64.wrap ((p1.length : Int) - 1)))).1 - u4.1.1)) - 2)) - j7.1.2.2.1)), (IntKind.i64.wrap ((IntKind.i64.wrap ((rdS (.pair (.int .i64) (.int .i64)) p1 (Int.toNat (IntKind.i64.wrap ((p1.length : Int) - 1)))).1 - u4.1.1)) - 2)))]), ())))))))))) fun j8 =>
  orK j8 (fun x9 =>
   some ((((), ()), x9.2)))
   (fun x10 =>
   impl_cursor_ranges.l0 N e t24 (IntKind.i64.wrap (t25 + 1)) x10.2.1.1 x10.2.1.2.1 x10.2.2.1))
  (
  some ((((), ()), ((p0_01, (p0_11, ())), (p1, ()))))) := by kernel_rfl
set_option maxRecDepth 100000 in
theorem impl_cursor_ranges.eq (N : Nat) (o : Int) (p0_0 : ByteArray) (p0_1 : Bool) : impl_cursor_ranges N o p0_0 p0_1 =
 andK (impl_cursor_number N p0_0 p0_1) fun u1 =>
 andK (impl_cursor_number N u1.2.1.1 u1.2.1.2.1) fun u2 =>
 andK (impl_cursor_number N u2.2.1.1 u2.2.1.2.1) fun u3 =>
 andK (impl_cursor_ranges.l0 N u1.1.1 u2.1.1 0 u3.2.1.1 u3.2.1.2.1 [((IntKind.i64.wrap (o - u3.1.1)), o)]) fun l11 =>
 some ((u1.1.1, ((), ())), l11.2) := by kernel_rfl
set_option maxRecDepth 100000 in
theorem impl_cursor_ranges.say (N : Nat) : SayOk Try.prog (impl_cursor_ranges.S N) := sayOk_mk (N := N) (H := impl_cursor_ranges.H) (preps := [⟨[], [], [], [1]⟩]) (l := impl_cursor_ranges.says) (fn := Try.f111) (c := bodyOf Try.f111)
  (by kernel_rfl) (by kernel_rfl) (by kernel_rfl) (by kernel_rfl) (by kernel_rfl) (by kernel_rfl) (by kernel_rfl)
  (fun N => SayAll.cons (impl_cursor_number.say N) (SayAll.nil)) (fun a s => by kernel_rfl)

/-! ### (*loop.example/g00206/impl.cursor).take: function 113 -/
noncomputable def impl_cursor_take.H : Hints := hintsOf [(5000001, .join [⟨.normal, [1], [0, 18], [.one (.ptr 0 0), ak_b], [.cells [ck_s, ck_b]], [⟨[], [], [], []⟩]⟩])]
noncomputable def impl_cursor_take.says (N : Nat) : List Say := []
noncomputable def impl_cursor_take.call (N : Nat) : CallK := callBy (impl_cursor_take.says N)
noncomputable def impl_cursor_take.qt (N : Nat) : FuncId → List PV → Sig → Cl := qtBy (impl_cursor_take.says N)
noncomputable def impl_cursor_take (N : Nat) (n : Int) (p0_0 : ByteArray) (p0_1 : Bool) : Option ((ByteArray × Unit) × ((ByteArray × (Bool × Unit)) × Unit)) :=
  ofFn Try.prog impl_cursor_take.call impl_cursor_take.qt impl_cursor_take.H N Try.f113 [.one (.ptr 0 0), ak_i] [.cells [ck_s, ck_b]] [ak_s] [.cells [ck_s, ck_b]] [⟨[], [], [], []⟩] ((), (n, ())) ((p0_0, (p0_1, ())), ())
noncomputable def impl_cursor_take.S (N : Nat) : Say := ⟨false, 113, [.one (.ptr 0 0), ak_i], [.cells [ck_s, ck_b]], [ak_s], [.cells [ck_s, ck_b]], fun a s => impl_cursor_take N a.2.1 s.1.1 s.1.2.1⟩
set_option maxRecDepth 100000 in
theorem impl_cursor_take.eq (N : Nat) (n : Int) (p0_0 : ByteArray) (p0_1 : Bool) : impl_cursor_take N n p0_0 p0_1 =
 andK (α := ((Unit × (Bool × Unit)) × ((ByteArray × (Bool × Unit)) × Unit))) (
  sel p0_1
   (
   some ((((), (true, ())), ((p0_0, (p0_1, ())), ()))))
   (
   some ((((), ((decide ((p0_0.size : Int) < n)), ())), ((p0_0, (p0_1, ())), ()))))) fun j1 =>
 sel j1.1.2.1
  (
  some (((⟨#[]⟩ : ByteArray), ()), ((j1.2.1.1, (true, ())), ())))
  (
  chk ((decide (0 ≤ n)) && (decide (n ≤ (j1.2.1.1.size : Int)))) (
  chk ((decide (0 ≤ n)) && ((decide (n ≤ (j1.2.1.1.size : Int))) && (decide ((j1.2.1.1.size : Int) ≤ (j1.2.1.1.size : Int))))) (
  some (((j1.2.1.1.extract 0 (Int.toNat n)), ()), (((j1.2.1.1.extract (Int.toNat n) (Int.toNat (j1.2.1.1.size : Int))), (j1.2.1.2.1, ())), ()))))) := by kernel_rfl
set_option maxRecDepth 100000 in
theorem impl_cursor_take.say (N : Nat) : SayOk Try.prog (impl_cursor_take.S N) := sayOk_mk (N := N) (H := impl_cursor_take.H) (preps := [⟨[], [], [], []⟩]) (l := impl_cursor_take.says) (fn := Try.f113) (c := bodyOf Try.f113)
  (by kernel_rfl) (by kernel_rfl) (by kernel_rfl) (by kernel_rfl) (by kernel_rfl) (by kernel_rfl) (by kernel_rfl)
  (fun N => SayAll.nil) (fun a s => by kernel_rfl)

/-! ### (*loop.example/g00206/impl.cursor).counted: function 112 -/
noncomputable def impl_cursor_counted.H : Hints := hintsOf []
noncomputable def impl_cursor_counted.says (N : Nat) : List Say := [impl_cursor_number.S N, impl_cursor_take.S N]
noncomputable def impl_cursor_counted.call (N : Nat) : CallK := callBy (impl_cursor_counted.says N)
noncomputable def impl_cursor_counted.qt (N : Nat) : FuncId → List PV → Sig → Cl := qtBy (impl_cursor_counted.says N)
noncomputable def impl_cursor_counted (N : Nat) (p0_0 : ByteArray) (p0_1 : Bool) : Option ((ByteArray × Unit) × ((ByteArray × (Bool × Unit)) × Unit)) :=
  ofFn Try.prog impl_cursor_counted.call impl_cursor_counted.qt impl_cursor_counted.H N Try.f112 [.one (.ptr 0 0)] [.cells [ck_s, ck_b]] [ak_s] [.cells [ck_s, ck_b]] [⟨[], [], [], []⟩] ((), ()) ((p0_0, (p0_1, ())), ())
noncomputable def impl_cursor_counted.S (N : Nat) : Say := ⟨false, 112, [.one (.ptr 0 0)], [.cells [ck_s, ck_b]], [ak_s], [.cells [ck_s, ck_b]], fun a s => impl_cursor_counted N s.1.1 s.1.2.1⟩
set_option maxRecDepth 100000 in
theorem impl_cursor_counted.eq (N : Nat) (p0_0 : ByteArray) (p0_1 : Bool) : impl_cursor_counted N p0_0 p0_1 =
 andK (impl_cursor_number N p0_0 p0_1) fun u1 =>
 andK (impl_cursor_take N u1.1.1 u1.2.1.1 u1.2.1.2.1) fun u2 =>
 some (u2.1, u2.2) := by kernel_rfl
set_option maxRecDepth 100000 in
theorem impl_cursor_counted.say (N : Nat) : SayOk Try.prog (impl_cursor_counted.S N) := sayOk_mk (N := N) (H := impl_cursor_counted.H) (preps := [⟨[], [], [], []⟩]) (l := impl_cursor_counted.says) (fn := Try.f112) (c := bodyOf Try.f112)
  (by kernel_rfl) (by kernel_rfl) (by kernel_rfl) (by kernel_rfl) (by kernel_rfl) (by kernel_rfl) (by kernel_rfl)
  (fun N => SayAll.cons (impl_cursor_number.say N) (SayAll.cons (impl_cursor_take.say N) (SayAll.nil))) (fun a s => by kernel_rfl)

/-! ### (*loop.example/g00206/impl.cursor).byte: function 114 -/
noncomputable def impl_cursor_byte.H : Hints := hintsOf []
noncomputable def impl_cursor_byte.says (N : Nat) : List Say := [impl_cursor_take.S N, impl_numberOf.S N]
noncomputable def impl_cursor_byte.call (N : Nat) : CallK := callBy (impl_cursor_byte.says N)
noncomputable def impl_cursor_byte.qt (N : Nat) : FuncId → List PV → Sig → Cl := qtBy (impl_cursor_byte.says N)
noncomputable def impl_cursor_byte (N : Nat) (p0_0 : ByteArray) (p0_1 : Bool) : Option ((Int × Unit) × ((ByteArray × (Bool × Unit)) × Unit)) :=
  ofFn Try.prog impl_cursor_byte.call impl_cursor_byte.qt impl_cursor_byte.H N Try.f114 [.one (.ptr 0 0)] [.cells [ck_s, ck_b]] [ak_i] [.cells [ck_s, ck_b]] [⟨[], [], [], []⟩] ((), ()) ((p0_0, (p0_1, ())), ())
noncomputable def impl_cursor_byte.S (N : Nat) : Say := ⟨false, 114, [.one (.ptr 0 0)], [.cells [ck_s, ck_b]], [ak_i], [.cells [ck_s, ck_b]], fun a s => impl_cursor_byte N s.1.1 s.1.2.1⟩
set_option maxRecDepth 100000 in
theorem impl_cursor_byte.eq (N : Nat) (p0_0 : ByteArray) (p0_1 : Bool) : impl_cursor_byte N p0_0 p0_1 =
 andK (impl_cursor_take N 1 p0_0 p0_1) fun u1 =>
 andK (impl_numberOf N u1.1.1) fun u2 =>
 some (((IntKind.i64.wrap u2.1.1), ()), u1.2) := by kernel_rfl
set_option maxRecDepth 100000 in
theorem impl_cursor_byte.say (N : Nat) : SayOk Try.prog (impl_cursor_byte.S N) := sayOk_mk (N := N) (H := impl_cursor_byte.H) (preps := [⟨[], [], [], []⟩]) (l := impl_cursor_byte.says) (fn := Try.f114) (c := bodyOf Try.f114)
  (by kernel_rfl) (by kernel_rfl) (by kernel_rfl) (by kernel_rfl) (by kernel_rfl) (by kernel_rfl) (by kernel_rfl)
  (fun N => SayAll.cons (impl_cursor_take.say N) (SayAll.cons (impl_numberOf.say N) (SayAll.nil))) (fun a s => by kernel_rfl)

/-! ### (*loop.example/g00206/impl.cursor).rest: function 115 -/
noncomputable def impl_cursor_rest.H : Hints := hintsOf []
noncomputable def impl_cursor_rest.says (N : Nat) : List Say := [impl_cursor_take.S N]
noncomputable def impl_cursor_rest.call (N : Nat) : CallK := callBy (impl_cursor_rest.says N)
noncomputable def impl_cursor_rest.qt (N : Nat) : FuncId → List PV → Sig → Cl := qtBy (impl_cursor_rest.says N)
noncomputable def impl_cursor_rest (N : Nat) (p0_0 : ByteArray) (p0_1 : Bool) : Option ((ByteArray × Unit) × ((ByteArray × (Bool × Unit)) × Unit)) :=
  ofFn Try.prog impl_cursor_rest.call impl_cursor_rest.qt impl_cursor_rest.H N Try.f115 [.one (.ptr 0 0)] [.cells [ck_s, ck_b]] [ak_s] [.cells [ck_s, ck_b]] [⟨[], [], [], []⟩] ((), ()) ((p0_0, (p0_1, ())), ())
noncomputable def impl_cursor_rest.S (N : Nat) : Say := ⟨false, 115, [.one (.ptr 0 0)], [.cells [ck_s, ck_b]], [ak_s], [.cells [ck_s, ck_b]], fun a s => impl_cursor_rest N s.1.1 s.1.2.1⟩
set_option maxRecDepth 100000 in
theorem impl_cursor_rest.eq (N : Nat) (p0_0 : ByteArray) (p0_1 : Bool) : impl_cursor_rest N p0_0 p0_1 =
 andK (impl_cursor_take N (p0_0.size : Int) p0_0 p0_1) fun u1 =>
 some (u1.1, u1.2) := by kernel_rfl
set_option maxRecDepth 100000 in
theorem impl_cursor_rest.say (N : Nat) : SayOk Try.prog (impl_cursor_rest.S N) := sayOk_mk (N := N) (H := impl_cursor_rest.H) (preps := [⟨[], [], [], []⟩]) (l := impl_cursor_rest.says) (fn := Try.f115) (c := bodyOf Try.f115)
  (by kernel_rfl) (by kernel_rfl) (by kernel_rfl) (by kernel_rfl) (by kernel_rfl) (by kernel_rfl) (by kernel_rfl)
  (fun N => SayAll.cons (impl_cursor_take.say N) (SayAll.nil)) (fun a s => by kernel_rfl)

/-! ### (*loop.example/g00206/impl.cursor).stream: function 116 -/
noncomputable def impl_cursor_stream.H : Hints := hintsOf [(4, .join [⟨.normal, [1], [0, 4, 5], [.one (.ptr 0 0), .one (.ptr 1 0), .one (.ptr 2 0)], [.cells [ck_s, ck_b], .cells [ck_i, ck_i, ck_i, ck_i, ck_b, ck_s, .nil], .cells [ck_i, ck_i, ck_i, ck_i, ck_b, ck_s, .nil]], [⟨[], [], [], []⟩]⟩])]
noncomputable def impl_cursor_stream.says (N : Nat) : List Say := [impl_cursor_number.S N, impl_cursor_counted.S N, impl_cursor_rest.S N]
noncomputable def impl_cursor_stream.call (N : Nat) : CallK := callBy (impl_cursor_stream.says N)
noncomputable def impl_cursor_stream.qt (N : Nat) : FuncId → List PV → Sig → Cl := qtBy (impl_cursor_stream.says N)
noncomputable def impl_cursor_stream (N : Nat) (kind : Int) (p0_0 : ByteArray) (p0_1 : Bool) : Option (((Int × (Int × (Int × (Int × (Bool × (ByteArray × (Unit × Unit))))))) × Unit) × ((ByteArray × (Bool × Unit)) × Unit)) :=
  ofFn Try.prog impl_cursor_stream.call impl_cursor_stream.qt impl_cursor_stream.H N Try.f116 [.one (.ptr 0 0), ak_i] [.cells [ck_s, ck_b]] [.agg [ck_i, ck_i, ck_i, ck_i, ck_b, ck_s, .nil]] [.cells [ck_s, ck_b]] [⟨[], [], [], []⟩] ((), (kind, ())) ((p0_0, (p0_1, ())), ())
noncomputable def impl_cursor_stream.S (N : Nat) : Say := ⟨false, 116, [.one (.ptr 0 0), ak_i], [.cells [ck_s, ck_b]], [.agg [ck_i, ck_i, ck_i, ck_i, ck_b, ck_s, .nil]], [.cells [ck_s, ck_b]], fun a s => impl_cursor_stream N a.2.1 s.1.1 s.1.2.1⟩
set_option maxRecDepth 100000 in
theorem impl_cursor_stream.eq (N : Nat) (kind : Int) (p0_0 : ByteArray) (p0_1 : Bool) : impl_cursor_stream N kind p0_0 p0_1 =
 andK (impl_cursor_number N p0_0 p0_1) fun u1 =>
 andK (α := ((Unit × (Unit × (Unit × Unit))) × ((ByteArray × (Bool × Unit)) × ((Int × (Int × (Int × (Int × (Bool × (ByteArray × (Unit × Unit))))))) × ((Int × (Int × (Int × (Int × (Bool × (ByteArray × (Unit × Unit))))))) × Unit))))) (
  sel (!(decide ((Go.bits .and .i64 kind 4) = 0)))
   (
   andK (impl_cursor_number N u1.2.1.1 u1.2.1.2.1) fun u2 =>
   some ((((), ((), ((), ()))), (u2.2.1, ((0, (0, (0, (0, (false, ((⟨#[]⟩ : ByteArray), ((), ()))))))), ((8, (u1.1.1, (u2.1.1, (0, ((!(decide ((Go.bits .and .i64 kind 1) = 0))), ((⟨#[]⟩ : ByteArray), ((), ()))))))), ()))))))
   (
   some ((((), ((), ((), ()))), (u1.2.1, ((0, (0, (0, (0, (false, ((⟨#[]⟩ : ByteArray), ((), ()))))))), ((8, (u1.1.1, (0, (0, ((!(decide ((Go.bits .and .i64 kind 1) = 0))), ((⟨#[]⟩ : ByteArray), ((), ()))))))), ()))))))) fun j3 =>
 sel (!(decide ((Go.bits .and .i64 kind 2) = 0)))
  (
  andK (impl_cursor_counted N j3.2.1.1 j3.2.1.2.1) fun u4 =>
  some (((j3.2.2.2.1.1, (j3.2.2.2.1.2.1, (j3.2.2.2.1.2.2.1, (j3.2.2.2.1.2.2.2.1, (j3.2.2.2.1.2.2.2.2.1, (u4.1.1, ((), ()))))))), ()), u4.2))
  (
  andK (impl_cursor_rest N j3.2.1.1 j3.2.1.2.1) fun u5 =>
  some (((j3.2.2.2.1.1, (j3.2.2.2.1.2.1, (j3.2.2.2.1.2.2.1, (j3.2.2.2.1.2.2.2.1, (j3.2.2.2.1.2.2.2.2.1, (u5.1.1, ((), ()))))))), ()), u5.2)) := by kernel_rfl
set_option maxRecDepth 100000 in
theorem impl_cursor_stream.say (N : Nat) : SayOk Try.prog (impl_cursor_stream.S N) := sayOk_mk (N := N) (H := impl_cursor_stream.H) (preps := [⟨[], [], [], []⟩]) (l := impl_cursor_stream.says) (fn := Try.f116) (c := bodyOf Try.f116)
  (by kernel_rfl) (by kernel_rfl) (by kernel_rfl) (by kernel_rfl) (by kernel_rfl) (by kernel_rfl) (by kernel_rfl)
  (fun N => SayAll.cons (impl_cursor_number.say N) (SayAll.cons (impl_cursor_counted.say N) (SayAll.cons (impl_cursor_rest.say N) (SayAll.nil)))) (fun a s => by kernel_rfl)

/-! ### (*loop.example/g00206/impl.cursor).frame: function 53 -/
noncomputable def impl_cursor_frame.H : Hints := hintsOf []
noncomputable def impl_cursor_frame.says (N : Nat) : List Say := [impl_cursor_number.S N, impl_cursor_ranges.S N, impl_cursor_counted.S N, impl_cursor_byte.S N, impl_cursor_take.S N, impl_cursor_rest.S N, impl_in.S N, impl_cursor_stream.S N]
noncomputable def impl_cursor_frame.call (N : Nat) : CallK := callBy (impl_cursor_frame.says N)
noncomputable def impl_cursor_frame.qt (N : Nat) : FuncId → List PV → Sig → Cl := qtBy (impl_cursor_frame.says N)
noncomputable def impl_cursor_frame (N : Nat) (o : Int) (p0_0 : ByteArray) (p0_1 : Bool) : Option (((Int × (Int × (Int × (Int × (Bool × (ByteArray × ((List (Int × Int)) × Unit))))))) × (Bool × Unit)) × ((ByteArray × (Bool × Unit)) × Unit)) :=
  ofFn Try.prog impl_cursor_frame.call impl_cursor_frame.qt impl_cursor_frame.H N Try.f53 [.one (.ptr 0 0), ak_i] [.cells [ck_s, ck_b]] [.agg [ck_i, ck_i, ck_i, ck_i, ck_b, ck_s, .sh (.rows (.pair (.int .i64) (.int .i64)))], ak_b] [.cells [ck_s, ck_b]] [⟨[], [], [], []⟩, ⟨[], [], [3], []⟩] ((), (o, ())) ((p0_0, (p0_1, ())), ())
noncomputable def impl_cursor_frame.S (N : Nat) : Say := ⟨false, 53, [.one (.ptr 0 0), ak_i], [.cells [ck_s, ck_b]], [.agg [ck_i, ck_i, ck_i, ck_i, ck_b, ck_s, .sh (.rows (.pair (.int .i64) (.int .i64)))], ak_b], [.cells [ck_s, ck_b]], fun a s => impl_cursor_frame N a.2.1 s.1.1 s.1.2.1⟩
set_option maxRecDepth 100000 in
theorem impl_cursor_frame.eq (N : Nat) (o : Int) (p0_0 : ByteArray) (p0_1 : Bool) : impl_cursor_frame N o p0_0 p0_1 =
 sel (decide (o = 0))
  (
  sel (decide (o = 0))
   (
   some (((o, (0, (0, (0, (false, ((⟨#[]⟩ : ByteArray), ([], ()))))))), (true, ())), ((p0_0, (p0_1, ())), ())))
   (
   sel (decide (o = 2))
    (
    andK (impl_cursor_number N p0_0 p0_1) fun u1 =>
    andK (impl_cursor_ranges N u1.1.1 u1.2.1.1 u1.2.1.2.1) fun u2 =>
    some (((o, (u2.1.1, (0, (0, (false, ((⟨#[]⟩ : ByteArray), (u2.2.2.1, ()))))))), (true, ())), (u2.2.1, ())))
    (
    sel (decide (o = 4))
     (
     andK (impl_cursor_number N p0_0 p0_1) fun u3 =>
     andK (impl_cursor_number N u3.2.1.1 u3.2.1.2.1) fun u4 =>
     andK (impl_cursor_number N u4.2.1.1 u4.2.1.2.1) fun u5 =>
     some (((o, (u3.1.1, (u4.1.1, (u5.1.1, (false, ((⟨#[]⟩ : ByteArray), ([], ()))))))), (true, ())), u5.2))
     (
     sel (decide (o = 5))
      (
      sel (decide (o = 5))
       (
       andK (impl_cursor_number N p0_0 p0_1) fun u6 =>
       andK (impl_cursor_number N u6.2.1.1 u6.2.1.2.1) fun u7 =>
       some (((o, (u6.1.1, (u7.1.1, (0, (false, ((⟨#[]⟩ : ByteArray), ([], ()))))))), (true, ())), u7.2))
       (
       sel (decide (o = 16))
        (
        andK (impl_cursor_number N p0_0 p0_1) fun u8 =>
        some (((o, (u8.1.1, (0, (0, (false, ((⟨#[]⟩ : ByteArray), ([], ()))))))), (true, ())), u8.2))
        (
        sel (decide (o = 6))
         (
         andK (impl_cursor_number N p0_0 p0_1) fun u9 =>
         andK (impl_cursor_counted N u9.2.1.1 u9.2.1.2.1) fun u10 =>
         some (((o, (u9.1.1, (0, (0, (false, (u10.1.1, ([], ()))))))), (true, ())), u10.2))
         (
         sel (decide (o = 7))
          (
          andK (impl_cursor_counted N p0_0 p0_1) fun u11 =>
          some (((o, (0, (0, (0, (false, (u11.1.1, ([], ()))))))), (true, ())), u11.2))
          (
          sel (decide (o = 24))
           (
           andK (impl_cursor_number N p0_0 p0_1) fun u12 =>
           andK (impl_cursor_number N u12.2.1.1 u12.2.1.2.1) fun u13 =>
           andK (impl_cursor_byte N u13.2.1.1 u13.2.1.2.1) fun u14 =>
           andK (impl_cursor_take N u14.1.1 u14.2.1.1 u14.2.1.2.1) fun u15 =>
           andK (impl_cursor_byte N u15.2.1.1 u15.2.1.2.1) fun u16 =>
           some (((o, (u12.1.1, (u13.1.1, (u16.1.1, (false, (u15.1.1, ([], ()))))))), (true, ())), u16.2))
           (
           sel (decide (o = 26))
            (
            sel (decide (o = 26))
             (
             andK (impl_cursor_take N 8 p0_0 p0_1) fun u17 =>
             some (((o, (0, (0, (0, (false, (u17.1.1, ([], ()))))))), (true, ())), u17.2))
             (
             sel (decide (o = 28))
              (
              andK (impl_cursor_number N p0_0 p0_1) fun u18 =>
              andK (impl_cursor_number N u18.2.1.1 u18.2.1.2.1) fun u19 =>
              andK (impl_cursor_counted N u19.2.1.1 u19.2.1.2.1) fun u20 =>
              some (((o, (u18.1.1, (u19.1.1, (0, (false, (u20.1.1, ([], ()))))))), (true, ())), u20.2))
              (
              sel (decide (o = 48))
               (
               andK (impl_cursor_rest N p0_0 p0_1) fun u21 =>
               some (((o, (0, (0, (0, (false, (u21.1.1, ([], ()))))))), (true, ())), u21.2))
               (
               sel (decide (o = 49))
                (
                andK (impl_cursor_counted N p0_0 p0_1) fun u22 =>
                some (((48, (0, (0, (0, (false, (u22.1.1, ([], ()))))))), (true, ())), u22.2))
                (
                andK (impl_in N o 8 15) fun u23 =>
                sel (!u23.1.1)
                 (
                 some (((0, (0, (0, (0, (false, ((⟨#[]⟩ : ByteArray), ([], ()))))))), (false, ())), ((p0_0, (p0_1, ())), ())))
                 (
                 andK (impl_cursor_stream N o p0_0 p0_1) fun u24 =>
                 some (((u24.1.1.1, (u24.1.1.2.1, (u24.1.1.2.2.1, (u24.1.1.2.2.2.1, (u24.1.1.2.2.2.2.1, (u24.1.1.2.2.2.2.2.1, ([], ()))))))), (true, ())), u24.2)))))))
            (
            sel (decide (o = 27))
             (
             andK (impl_cursor_take N 8 p0_0 p0_1) fun u25 =>
             some (((o, (0, (0, (0, (false, (u25.1.1, ([], ()))))))), (true, ())), u25.2))
             (
             sel (decide (o = 28))
              (
              andK (impl_cursor_number N p0_0 p0_1) fun u26 =>
              andK (impl_cursor_number N u26.2.1.1 u26.2.1.2.1) fun u27 =>
              andK (impl_cursor_counted N u27.2.1.1 u27.2.1.2.1) fun u28 =>
              some (((o, (u26.1.1, (u27.1.1, (0, (false, (u28.1.1, ([], ()))))))), (true, ())), u28.2))
              (
              sel (decide (o = 48))
               (
               andK (impl_cursor_rest N p0_0 p0_1) fun u29 =>
               some (((o, (0, (0, (0, (false, (u29.1.1, ([], ()))))))), (true, ())), u29.2))
               (
               sel (decide (o = 49))
                (
                andK (impl_cursor_counted N p0_0 p0_1) fun u30 =>
                some (((48, (0, (0, (0, (false, (u30.1.1, ([], ()))))))), (true, ())), u30.2))
                (
                andK (impl_in N o 8 15) fun u31 =>
                sel (!u31.1.1)
                 (
                 some (((0, (0, (0, (0, (false, ((⟨#[]⟩ : ByteArray), ([], ()))))))), (false, ())), ((p0_0, (p0_1, ())), ())))
                 (
                 andK (impl_cursor_stream N o p0_0 p0_1) fun u32 =>
                 some (((u32.1.1.1, (u32.1.1.2.1, (u32.1.1.2.2.1, (u32.1.1.2.2.2.1, (u32.1.1.2.2.2.2.1, (u32.1.1.2.2.2.2.2.1, ([], ()))))))), (true, ())), u32.2)))))))))))))
      (
      sel (decide (o = 17))
       (
       andK (impl_cursor_number N p0_0 p0_1) fun u33 =>
       andK (impl_cursor_number N u33.2.1.1 u33.2.1.2.1) fun u34 =>
       some (((o, (u33.1.1, (u34.1.1, (0, (false, ((⟨#[]⟩ : ByteArray), ([], ()))))))), (true, ())), u34.2))
       (
       sel (decide (o = 16))
        (
        andK (impl_cursor_number N p0_0 p0_1) fun u35 =>
        some (((o, (u35.1.1, (0, (0, (false, ((⟨#[]⟩ : ByteArray), ([], ()))))))), (true, ())), u35.2))
        (
        sel (decide (o = 6))
         (
         andK (impl_cursor_number N p0_0 p0_1) fun u36 =>
         andK (impl_cursor_counted N u36.2.1.1 u36.2.1.2.1) fun u37 =>
         some (((o, (u36.1.1, (0, (0, (false, (u37.1.1, ([], ()))))))), (true, ())), u37.2))
         (
         sel (decide (o = 7))
          (
          andK (impl_cursor_counted N p0_0 p0_1) fun u38 =>
          some (((o, (0, (0, (0, (false, (u38.1.1, ([], ()))))))), (true, ())), u38.2))
          (
          sel (decide (o = 24))
           (
           andK (impl_cursor_number N p0_0 p0_1) fun u39 =>
           andK (impl_cursor_number N u39.2.1.1 u39.2.1.2.1) fun u40 =>
           andK (impl_cursor_byte N u40.2.1.1 u40.2.1.2.1) fun u41 =>
           andK (impl_cursor_take N u41.1.1 u41.2.1.1 u41.2.1.2.1) fun u42 =>
           andK (impl_cursor_byte N u42.2.1.1 u42.2.1.2.1) fun u43 =>
           some (((o, (u39.1.1, (u40.1.1, (u43.1.1, (false, (u42.1.1, ([], ()))))))), (true, ())), u43.2))
           (
           sel (decide (o = 26))
            (
            sel (decide (o = 26))
             (
             andK (impl_cursor_take N 8 p0_0 p0_1) fun u44 =>
             some (((o, (0, (0, (0, (false, (u44.1.1, ([], ()))))))), (true, ())), u44.2))
             (
             sel (decide (o = 28))
              (
              andK (impl_cursor_number N p0_0 p0_1) fun u45 =>
              andK (impl_cursor_number N u45.2.1.1 u45.2.1.2.1) fun u46 =>
              andK (impl_cursor_counted N u46.2.1.1 u46.2.1.2.1) fun u47 =>
              some (((o, (u45.1.1, (u46.1.1, (0, (false, (u47.1.1, ([], ()))))))), (true, ())), u47.2))
              (
              sel (decide (o = 48))
               (
               andK (impl_cursor_rest N p0_0 p0_1) fun u48 =>
               some (((o, (0, (0, (0, (false, (u48.1.1, ([], ()))))))), (true, ())), u48.2))
               (
               sel (decide (o = 49))
                (
                andK (impl_cursor_counted N p0_0 p0_1) fun u49 =>
                some (((48, (0, (0, (0, (false, (u49.1.1, ([], ()))))))), (true, ())), u49.2))
                (
                andK (impl_in N o 8 15) fun u50 =>
                sel (!u50.1.1)
                 (
                 some (((0, (0, (0, (0, (false, ((⟨#[]⟩ : ByteArray), ([], ()))))))), (false, ())), ((p0_0, (p0_1, ())), ())))
                 (
                 andK (impl_cursor_stream N o p0_0 p0_1) fun u51 =>
                 some (((u51.1.1.1, (u51.1.1.2.1, (u51.1.1.2.2.1, (u51.1.1.2.2.2.1, (u51.1.1.2.2.2.2.1, (u51.1.1.2.2.2.2.2.1, ([], ()))))))), (true, ())), u51.2)))))))
            (
            sel (decide (o = 27))
             (
             andK (impl_cursor_take N 8 p0_0 p0_1) fun u52 =>
             some (((o, (0, (0, (0, (false, (u52.1.1, ([], ()))))))), (true, ())), u52.2))
             (
             sel (decide (o = 28))
              (
              andK (impl_cursor_number N p0_0 p0_1) fun u53 =>
              andK (impl_cursor_number N u53.2.1.1 u53.2.1.2.1) fun u54 =>
              andK (impl_cursor_counted N u54.2.1.1 u54.2.1.2.1) fun u55 =>
              some (((o, (u53.1.1, (u54.1.1, (0, (false, (u55.1.1, ([], ()))))))), (true, ())), u55.2))
              (
              sel (decide (o = 48))
               (
               andK (impl_cursor_rest N p0_0 p0_1) fun u56 =>
               some (((o, (0, (0, (0, (false, (u56.1.1, ([], ()))))))), (true, ())), u56.2))
               (
               sel (decide (o = 49))
                (
                andK (impl_cursor_counted N p0_0 p0_1) fun u57 =>
                some (((48, (0, (0, (0, (false, (u57.1.1, ([], ()))))))), (true, ())), u57.2))
                (
                andK (impl_in N o 8 15) fun u58 =>
                sel (!u58.1.1)
                 (
                 some (((0, (0, (0, (0, (false, ((⟨#[]⟩ : ByteArray), ([], ()))))))), (false, ())), ((p0_0, (p0_1, ())), ())))
                 (
                 andK (impl_cursor_stream N o p0_0 p0_1) fun u59 =>
                 some (((u59.1.1.1, (u59.1.1.2.1, (u59.1.1.2.2.1, (u59.1.1.2.2.2.1, (u59.1.1.2.2.2.2.1, (u59.1.1.2.2.2.2.2.1, ([], ()))))))), (true, ())), u59.2)))))))))))))))))
  (
  sel (decide (o = 1))
   (
   some (((o, (0, (0, (0, (false, ((⟨#[]⟩ : ByteArray), ([], ()))))))), (true, ())), ((p0_0, (p0_1, ())), ())))
   (
   sel (decide (o = 2))
    (
    andK (impl_cursor_number N p0_0 p0_1) fun u60 =>
    andK (impl_cursor_ranges N u60.1.1 u60.2.1.1 u60.2.1.2.1) fun u61 =>
    some (((o, (u61.1.1, (0, (0, (false, ((⟨#[]⟩ : ByteArray), (u61.2.2.1, ()))))))), (true, ())), (u61.2.1, ())))
    (
    sel (decide (o = 4))
     (
     andK (impl_cursor_number N p0_0 p0_1) fun u62 =>
     andK (impl_cursor_number N u62.2.1.1 u62.2.1.2.1) fun u63 =>
     andK (impl_cursor_number N u63.2.1.1 u63.2.1.2.1) fun u64 =>
     some (((o, (u62.1.1, (u63.1.1, (u64.1.1, (false, ((⟨#[]⟩ : ByteArray), ([], ()))))))), (true, ())), u64.2))
     (
     sel (decide (o = 5))
      (
      sel (decide (o = 5))
       (
       andK (impl_cursor_number N p0_0 p0_1) fun u65 =>
       andK (impl_cursor_number N u65.2.1.1 u65.2.1.2.1) fun u66 =>
       some (((o, (u65.1.1, (u66.1.1, (0, (false, ((⟨#[]⟩ : ByteArray), ([], ()))))))), (true, ())), u66.2))
       (
       sel (decide (o = 16))
        (
        andK (impl_cursor_number N p0_0 p0_1) fun u67 =>
        some (((o, (u67.1.1, (0, (0, (false, ((⟨#[]⟩ : ByteArray), ([], ()))))))), (true, ())), u67.2))
        (
        sel (decide (o = 6))
         (
         andK (impl_cursor_number N p0_0 p0_1) fun u68 =>
         andK (impl_cursor_counted N u68.2.1.1 u68.2.1.2.1) fun u69 =>
         some (((o, (u68.1.1, (0, (0, (false, (u69.1.1, ([], ()))))))), (true, ())), u69.2))
         (
         sel (decide (o = 7))
          (
          andK (impl_cursor_counted N p0_0 p0_1) fun u70 =>
          some (((o, (0, (0, (0, (false, (u70.1.1, ([], ()))))))), (true, ())), u70.2))
          (
          sel (decide (o = 24))
           (
           andK (impl_cursor_number N p0_0 p0_1) fun u71 =>
           andK (impl_cursor_number N u71.2.1.1 u71.2.1.2.1) fun u72 =>
           andK (impl_cursor_byte N u72.2.1.1 u72.2.1.2.1) fun u73 =>
           andK (impl_cursor_take N u73.1.1 u73.2.1.1 u73.2.1.2.1) fun u74 =>
           andK (impl_cursor_byte N u74.2.1.1 u74.2.1.2.1) fun u75 =>
           some (((o, (u71.1.1, (u72.1.1, (u75.1.1, (false, (u74.1.1, ([], ()))))))), (true, ())), u75.2))
           (
           sel (decide (o = 26))
            (
            sel (decide (o = 26))
             (
             andK (impl_cursor_take N 8 p0_0 p0_1) fun u76 =>
             some (((o, (0, (0, (0, (false, (u76.1.1, ([], ()))))))), (true, ())), u76.2))
             (
             sel (decide (o = 28))
              (
              andK (impl_cursor_number N p0_0 p0_1) fun u77 =>
              andK (impl_cursor_number N u77.2.1.1 u77.2.1.2.1) fun u78 =>
              andK (impl_cursor_counted N u78.2.1.1 u78.2.1.2.1) fun u79 =>
              some (((o, (u77.1.1, (u78.1.1, (0, (false, (u79.1.1, ([], ()))))))), (true, ())), u79.2))
              (
              sel (decide (o = 48))
               (
               andK (impl_cursor_rest N p0_0 p0_1) fun u80 =>
               some (((o, (0, (0, (0, (false, (u80.1.1, ([], ()))))))), (true, ())), u80.2))
               (
               sel (decide (o = 49))
                (
                andK (impl_cursor_counted N p0_0 p0_1) fun u81 =>
                some (((48, (0, (0, (0, (false, (u81.1.1, ([], ()))))))), (true, ())), u81.2))
                (
                andK (impl_in N o 8 15) fun u82 =>
                sel (!u82.1.1)
                 (
                 some (((0, (0, (0, (0, (false, ((⟨#[]⟩ : ByteArray), ([], ()))))))), (false, ())), ((p0_0, (p0_1, ())), ())))
                 (
                 andK (impl_cursor_stream N o p0_0 p0_1) fun u83 =>
                 some (((u83.1.1.1, (u83.1.1.2.1, (u83.1.1.2.2.1, (u83.1.1.2.2.2.1, (u83.1.1.2.2.2.2.1, (u83.1.1.2.2.2.2.2.1, ([], ()))))))), (true, ())), u83.2)))))))
            (
            sel (decide (o = 27))
             (
             andK (impl_cursor_take N 8 p0_0 p0_1) fun u84 =>
             some (((o, (0, (0, (0, (false, (u84.1.1, ([], ()))))))), (true, ())), u84.2))
             (
             sel (decide (o = 28))
              (
              andK (impl_cursor_number N p0_0 p0_1) fun u85 =>
              andK (impl_cursor_number N u85.2.1.1 u85.2.1.2.1) fun u86 =>
              andK (impl_cursor_counted N u86.2.1.1 u86.2.1.2.1) fun u87 =>
              some (((o, (u85.1.1, (u86.1.1, (0, (false, (u87.1.1, ([], ()))))))), (true, ())), u87.2))
              (
              sel (decide (o = 48))
               (
               andK (impl_cursor_rest N p0_0 p0_1) fun u88 =>
               some (((o, (0, (0, (0, (false, (u88.1.1, ([], ()))))))), (true, ())), u88.2))
               (
               sel (decide (o = 49))
                (
                andK (impl_cursor_counted N p0_0 p0_1) fun u89 =>
                some (((48, (0, (0, (0, (false, (u89.1.1, ([], ()))))))), (true, ())), u89.2))
                (
                andK (impl_in N o 8 15) fun u90 =>
                sel (!u90.1.1)
                 (
                 some (((0, (0, (0, (0, (false, ((⟨#[]⟩ : ByteArray), ([], ()))))))), (false, ())), ((p0_0, (p0_1, ())), ())))
                 (
                 andK (impl_cursor_stream N o p0_0 p0_1) fun u91 =>
                 some (((u91.1.1.1, (u91.1.1.2.1, (u91.1.1.2.2.1, (u91.1.1.2.2.2.1, (u91.1.1.2.2.2.2.1, (u91.1.1.2.2.2.2.2.1, ([], ()))))))), (true, ())), u91.2)))))))))))))
      (
      sel (decide (o = 17))
       (
       andK (impl_cursor_number N p0_0 p0_1) fun u92 =>
       andK (impl_cursor_number N u92.2.1.1 u92.2.1.2.1) fun u93 =>
       some (((o, (u92.1.1, (u93.1.1, (0, (false, ((⟨#[]⟩ : ByteArray), ([], ()))))))), (true, ())), u93.2))
       (
       sel (decide (o = 16))
        (
        andK (impl_cursor_number N p0_0 p0_1) fun u94 =>
        some (((o, (u94.1.1, (0, (0, (false, ((⟨#[]⟩ : ByteArray), ([], ()))))))), (true, ())), u94.2))
        (
        sel (decide (o = 6))
         (
         andK (impl_cursor_number N p0_0 p0_1) fun u95 =>
         andK (impl_cursor_counted N u95.2.1.1 u95.2.1.2.1) fun u96 =>
         some (((o, (u95.1.1, (0, (0, (false, (u96.1.1, ([], ()))))))), (true, ())), u96.2))
         (
         sel (decide (o = 7))
          (
          andK (impl_cursor_counted N p0_0 p0_1) fun u97 =>
          some (((o, (0, (0, (0, (false, (u97.1.1, ([], ()))))))), (true, ())), u97.2))
          (
          sel (decide (o = 24))
           (
           andK (impl_cursor_number N p0_0 p0_1) fun u98 =>
           andK (impl_cursor_number N u98.2.1.1 u98.2.1.2.1) fun u99 =>
           andK (impl_cursor_byte N u99.2.1.1 u99.2.1.2.1) fun u100 =>
           andK (impl_cursor_take N u100.1.1 u100.2.1.1 u100.2.1.2.1) fun u101 =>
           andK (impl_cursor_byte N u101.2.1.1 u101.2.1.2.1) fun u102 =>
           some (((o, (u98.1.1, (u99.1.1, (u102.1.1, (false, (u101.1.1, ([], ()))))))), (true, ())), u102.2))
           (
           sel (decide (o = 26))
            (
            sel (decide (o = 26))
             (
             andK (impl_cursor_take N 8 p0_0 p0_1) fun u103 =>
             some (((o, (0, (0, (0, (false, (u103.1.1, ([], ()))))))), (true, ())), u103.2))
             (
             sel (decide (o = 28))
              (
              andK (impl_cursor_number N p0_0 p0_1) fun u104 =>
              andK (impl_cursor_number N u104.2.1.1 u104.2.1.2.1) fun u105 =>
              andK (impl_cursor_counted N u105.2.1.1 u105.2.1.2.1) fun u106 =>
              some (((o, (u104.1.1, (u105.1.1, (0, (false, (u106.1.1, ([], ()))))))), (true, ())), u106.2))
              (
              sel (decide (o = 48))
               (
               andK (impl_cursor_rest N p0_0 p0_1) fun u107 =>
               some (((o, (0, (0, (0, (false, (u107.1.1, ([], ()))))))), (true, ())), u107.2))
               (
               sel (decide (o = 49))
                (
                andK (impl_cursor_counted N p0_0 p0_1) fun u108 =>
                some (((48, (0, (0, (0, (false, (u108.1.1, ([], ()))))))), (true, ())), u108.2))
                (
                andK (impl_in N o 8 15) fun u109 =>
                sel (!u109.1.1)
                 (
                 some (((0, (0, (0, (0, (false, ((⟨#[]⟩ : ByteArray), ([], ()))))))), (false, ())), ((p0_0, (p0_1, ())), ())))
                 (
                 andK (impl_cursor_stream N o p0_0 p0_1) fun u110 =>
                 some (((u110.1.1.1, (u110.1.1.2.1, (u110.1.1.2.2.1, (u110.1.1.2.2.2.1, (u110.1.1.2.2.2.2.1, (u110.1.1.2.2.2.2.2.1, ([], ()))))))), (true, ())), u110.2)))))))
            (
            sel (decide (o = 27))
             (
             andK (impl_cursor_take N 8 p0_0 p0_1) fun u111 =>
             some (((o, (0, (0, (0, (false, (u111.1.1, ([], ()))))))), (true, ())), u111.2))
             (
             sel (decide (o = 28))
              (
              andK (impl_cursor_number N p0_0 p0_1) fun u112 =>
              andK (impl_cursor_number N u112.2.1.1 u112.2.1.2.1) fun u113 =>
              andK (impl_cursor_counted N u113.2.1.1 u113.2.1.2.1) fun u114 =>
              some (((o, (u112.1.1, (u113.1.1, (0, (false, (u114.1.1, ([], ()))))))), (true, ())), u114.2))
              (
              sel (decide (o = 48))
               (
               andK (impl_cursor_rest N p0_0 p0_1) fun u115 =>
               some (((o, (0, (0, (0, (false, (u115.1.1, ([], ()))))))), (true, ())), u115.2))
               (
               sel (decide (o = 49))
                (
                andK (impl_cursor_counted N p0_0 p0_1) fun u116 =>
                some (((48, (0, (0, (0, (false, (u116.1.1, ([], ()))))))), (true, ())), u116.2))
                (
                andK (impl_in N o 8 15) fun u117 =>
                sel (!u117.1.1)
                 (
                 some (((0, (0, (0, (0, (false, ((⟨#[]⟩ : ByteArray), ([], ()))))))), (false, ())), ((p0_0, (p0_1, ())), ())))
                 (
                 andK (impl_cursor_stream N o p0_0 p0_1) fun u118 =>
                 some (((u118.1.1.1, (u118.1.1.2.1, (u118.1.1.2.2.1, (u118.1.1.2.2.2.1, (u118.1.1.2.2.2.2.1, (u118.1.1.2.2.2.2.2.1, ([], ()))))))), (true, ())), u118.2))))))))))))))))) := by kernel_rfl
set_option maxRecDepth 100000 in
theorem impl_cursor_frame.say (N : Nat) : SayOk Try.prog (impl_cursor_frame.S N) := sayOk_mk (N := N) (H := impl_cursor_frame.H) (preps := [⟨[], [], [], []⟩, ⟨[], [], [3], []⟩]) (l := impl_cursor_frame.says) (fn := Try.f53) (c := bodyOf Try.f53)
  (by kernel_rfl) (by kernel_rfl) (by kernel_rfl) (by kernel_rfl) (by kernel_rfl) (by kernel_rfl) (by kernel_rfl)
  (fun N => SayAll.cons (impl_cursor_number.say N) (SayAll.cons (impl_cursor_ranges.say N) (SayAll.cons (impl_cursor_counted.say N) (SayAll.cons (impl_cursor_byte.say N) (SayAll.cons (impl_cursor_take.say N) (SayAll.cons (impl_cursor_rest.say N) (SayAll.cons (impl_in.say N) (SayAll.cons (impl_cursor_stream.say N) (SayAll.nil))))))))) (fun a s => by kernel_rfl)

/-! ### loop.example/g00206/impl.ReadFrame: function 12 -/
noncomputable def impl_ReadFrame.H : Hints := hintsOf []
noncomputable def impl_ReadFrame.says (N : Nat) : List Say := [impl_cursor_number.S N, impl_cursor_frame.S N, impl_GoodFrame.S N]
noncomputable def impl_ReadFrame.call (N : Nat) : CallK := callBy (impl_ReadFrame.says N)
noncomputable def impl_ReadFrame.qt (N : Nat) : FuncId → List PV → Sig → Cl := qtBy (impl_ReadFrame.says N)
noncomputable def impl_ReadFrame (N : Nat) (s : ByteArray) : Option (((Int × (Int × (Int × (Int × (Bool × (ByteArray × ((List (Int × Int)) × Unit))))))) × (Int × (Int × Unit))) × Unit) :=
  ofFn Try.prog impl_ReadFrame.call impl_ReadFrame.qt impl_ReadFrame.H N Try.f12 [ak_s] [] [.agg [ck_i, ck_i, ck_i, ck_i, ck_b, ck_s, .sh (.rows (.pair (.int .i64) (.int .i64)))], ak_i, ak_i] [] [⟨[], [], [], []⟩] (s, ()) ()
noncomputable def impl_ReadFrame.S (N : Nat) : Say := ⟨false, 12, [ak_s], [], [.agg [ck_i, ck_i, ck_i, ck_i, ck_b, ck_s, .sh (.rows (.pair (.int .i64) (.int .i64)))], ak_i, ak_i], [], fun a s => impl_ReadFrame N a.1⟩
set_option maxRecDepth 100000 in
theorem impl_ReadFrame.eq (N : Nat) (s : ByteArray) : impl_ReadFrame N s =
 andK (impl_cursor_number N s false) fun u1 =>
 sel u1.2.1.2.1
  (
  some (((0, (0, (0, (0, (false, ((⟨#[]⟩ : ByteArray), ([], ()))))))), (0, (1, ()))), ()))
  (
  andK (impl_cursor_frame N u1.1.1 u1.2.1.1 u1.2.1.2.1) fun u2 =>
  sel (!u2.1.2.1)
   (
   some (((0, (0, (0, (0, (false, ((⟨#[]⟩ : ByteArray), ([], ()))))))), (0, (2, ()))), ()))
   (
   sel u2.2.1.2.1
    (
    some (((0, (0, (0, (0, (false, ((⟨#[]⟩ : ByteArray), ([], ()))))))), (0, (1, ()))), ()))
    (
    andK (impl_GoodFrame N u2.1.1.1 u2.1.1.2.1 u2.1.1.2.2.1 u2.1.1.2.2.2.1 u2.1.1.2.2.2.2.1 u2.1.1.2.2.2.2.2.1 u2.1.1.2.2.2.2.2.2.1) fun u3 =>
    sel (!u3.1.1)
     (
     some (((0, (0, (0, (0, (false, ((⟨#[]⟩ : ByteArray), ([], ()))))))), (0, (3, ()))), ()))
     (
     some ((u2.1.1, ((IntKind.i64.wrap ((s.size : Int) - (u2.2.1.1.size : Int))), (0, ()))), ()))))) := by kernel_rfl
set_option maxRecDepth 100000 in
theorem impl_ReadFrame.say (N : Nat) : SayOk Try.prog (impl_ReadFrame.S N) := sayOk_mk (N := N) (H := impl_ReadFrame.H) (preps := [⟨[], [], [], []⟩]) (l := impl_ReadFrame.says) (fn := Try.f12) (c := bodyOf Try.f12)
  (by kernel_rfl) (by kernel_rfl) (by kernel_rfl) (by kernel_rfl) (by kernel_rfl) (by kernel_rfl) (by kernel_rfl)
  (fun N => SayAll.cons (impl_cursor_number.say N) (SayAll.cons (impl_cursor_frame.say N) (SayAll.cons (impl_GoodFrame.say N) (SayAll.nil)))) (fun a s => by kernel_rfl)

/-! ### loop.example/g00206/laws.sameRanges: function 32 -/
noncomputable def laws_sameRanges.H : Hints := hintsOf [(2000004, .loop ⟨.normal, [0, 1, 12], [13], [ak_i], [], [⟨[], [], [], []⟩]⟩ [⟨.ret, [], [4], [ak_b], [], [⟨[], [], [], []⟩]⟩, ⟨(.exit 0), [], [], [], [], [⟨[], [], [], []⟩]⟩])]
noncomputable def laws_sameRanges.says (N : Nat) : List Say := []
noncomputable def laws_sameRanges.call (N : Nat) : CallK := callBy (laws_sameRanges.says N)
noncomputable def laws_sameRanges.qt (N : Nat) : FuncId → List PV → Sig → Cl := qtBy (laws_sameRanges.says N)
noncomputable def laws_sameRanges.l0.hd : Alt := ⟨.normal, [0, 1, 12], [13], [ak_i], [], [⟨[], [], [], []⟩]⟩
noncomputable def laws_sameRanges.l0.outs : List Alt := [⟨.ret, [], [4], [ak_b], [], [⟨[], [], [], []⟩]⟩, ⟨(.exit 0), [], [], [], [], [⟨[], [], [], []⟩]⟩]
noncomputable def laws_sameRanges.l0 (N : Nat) (a1 : (List (Int × Int))) (b1 : (List (Int × Int))) (t12 : Int) (t13 : Int) : Option (((Bool × Unit) × Unit) ⊕ (Unit × Unit)) :=
  loopK Try.prog laws_sameRanges.call laws_sameRanges.qt laws_sameRanges.H (codeAt (bodyOf Try.f32) [1, 1, 0, 1, 0, 0]) 0 laws_sameRanges.l0.hd laws_sameRanges.l0.outs [(0, .rows false (.pair (.int .i64) (.int .i64)) a1), (1, .rows false (.pair (.int .i64) (.int .i64)) b1), (12, .v (.int .i64 t12))] N ((t13, ()), ())
noncomputable def laws_sameRanges (N : Nat) (a : (List (Int × Int))) (b : (List (Int × Int))) : Option ((Bool × Unit) × Unit) :=
  ofFn Try.prog laws_sameRanges.call laws_sameRanges.qt laws_sameRanges.H N Try.f32 [.one (.sh (.rows (.pair (.int .i64) (.int .i64)))), .one (.sh (.rows (.pair (.int .i64) (.int .i64))))] [] [ak_b] [] [⟨[], [], [], []⟩] (a, (b, ())) ()
noncomputable def laws_sameRanges.S (N : Nat) : Say := ⟨false, 32, [.one (.sh (.rows (.pair (.int .i64) (.int .i64)))), .one (.sh (.rows (.pair (.int .i64) (.int .i64))))], [], [ak_b], [], fun a s => laws_sameRanges N a.1 a.2.1⟩
set_option maxRecDepth 100000 in
theorem laws_sameRanges.l0.eq (N : Nat) (a1 : (List (Int × Int))) (b1 : (List (Int × Int))) (t12 : Int) (t13 : Int) : laws_sameRanges.l0 (N + 1) a1 b1 t12 t13 =
 sel (decide (t13 < t12))
  (
  chk ((decide (0 ≤ t13)) && (decide (t13 < (a1.length : Int)))) (
  chk ((decide (0 ≤ t13)) && (decide (t13 < (b1.length : Int)))) (
  sel (!((decide ((rdS (.pair (.int .i64) (.int .i64)) a1 (Int.toNat t13)).1 = (rdS (.pair (.int .i64) (.int .i64)) b1 (Int.toNat t13)).1)) && (decide ((rdS (.pair (.int .i64) (.int .i64)) a1 (Int.toNat t13)).2 = (rdS (.pair (.int .i64) (.int .i64)) b1 (Int.toNat t13)).2))))
   (
   some (.inl ((false, ()), ())))
   (
   laws_sameRanges.l0 N a1 b1 t12 (IntKind.i64.wrap (t13 + 1))))))
  (
  some (.inr (((), ())))) := by kernel_rfl
set_option maxRecDepth 100000 in
theorem laws_sameRanges.eq (N : Nat) (a : (List (Int × Int))) (b : (List (Int × Int))) : laws_sameRanges N a b =
 sel (!(decide ((a.length : Int) = (b.length : Int))))
  (
  some ((false, ()), ()))
  (
  andK (laws_sameRanges.l0 N a b (a.length : Int) 0) fun l1 =>
  orK l1 (fun x2 =>
   some (x2.1, ()))
   (fun x3 =>
   some ((true, ()), ()))) := by kernel_rfl
set_option maxRecDepth 100000 in
theorem laws_sameRanges.say (N : Nat) : SayOk Try.prog (laws_sameRanges.S N) := sayOk_mk (N := N) (H := laws_sameRanges.H) (preps := [⟨[], [], [], []⟩]) (l := laws_sameRanges.says) (fn := Try.f32) (c := bodyOf Try.f32)
  (by kernel_rfl) (by kernel_rfl) (by kernel_rfl) (by kernel_rfl) (by kernel_rfl) (by kernel_rfl) (by kernel_rfl)
  (fun N => SayAll.nil) (fun a s => by kernel_rfl)

/-! ### loop.example/g00206/laws.sameFrames: function 13 -/
noncomputable def laws_sameFrames.H : Hints := hintsOf []
noncomputable def laws_sameFrames.says (N : Nat) : List Say := [laws_sameRanges.S N]
noncomputable def laws_sameFrames.call (N : Nat) : CallK := callBy (laws_sameFrames.says N)
noncomputable def laws_sameFrames.qt (N : Nat) : FuncId → List PV → Sig → Cl := qtBy (laws_sameFrames.says N)
noncomputable def laws_sameFrames (N : Nat) (a_0 : Int) (a_1 : Int) (a_2 : Int) (a_3 : Int) (a_4 : Bool) (a_5 : ByteArray) (a_6 : (List (Int × Int))) (b_0 : Int) (b_1 : Int) (b_2 : Int) (b_3 : Int) (b_4 : Bool) (b_5 : ByteArray) (b_6 : (List (Int × Int))) : Option ((Bool × Unit) × Unit) :=
  ofFn Try.prog laws_sameFrames.call laws_sameFrames.qt laws_sameFrames.H N Try.f13 [.agg [ck_i, ck_i, ck_i, ck_i, ck_b, ck_s, .sh (.rows (.pair (.int .i64) (.int .i64)))], .agg [ck_i, ck_i, ck_i, ck_i, ck_b, ck_s, .sh (.rows (.pair (.int .i64) (.int .i64)))]] [] [ak_b] [] [⟨[], [], [], []⟩] ((a_0, (a_1, (a_2, (a_3, (a_4, (a_5, (a_6, ()))))))), ((b_0, (b_1, (b_2, (b_3, (b_4, (b_5, (b_6, ()))))))), ())) ()
noncomputable def laws_sameFrames.S (N : Nat) : Say := ⟨false, 13, [.agg [ck_i, ck_i, ck_i, ck_i, ck_b, ck_s, .sh (.rows (.pair (.int .i64) (.int .i64)))], .agg [ck_i, ck_i, ck_i, ck_i, ck_b, ck_s, .sh (.rows (.pair (.int .i64) (.int .i64)))]], [], [ak_b], [], fun a s => laws_sameFrames N a.1.1 a.1.2.1 a.1.2.2.1 a.1.2.2.2.1 a.1.2.2.2.2.1 a.1.2.2.2.2.2.1 a.1.2.2.2.2.2.2.1 a.2.1.1 a.2.1.2.1 a.2.1.2.2.1 a.2.1.2.2.2.1 a.2.1.2.2.2.2.1 a.2.1.2.2.2.2.2.1 a.2.1.2.2.2.2.2.2.1⟩
set_option maxRecDepth 100000 in
theorem laws_sameFrames.eq (N : Nat) (a_0 : Int) (a_1 : Int) (a_2 : Int) (a_3 : Int) (a_4 : Bool) (a_5 : ByteArray) (a_6 : (List (Int × Int))) (b_0 : Int) (b_1 : Int) (b_2 : Int) (b_3 : Int) (b_4 : Bool) (b_5 : ByteArray) (b_6 : (List (Int × Int))) : laws_sameFrames N a_0 a_1 a_2 a_3 a_4 a_5 a_6 b_0 b_1 b_2 b_3 b_4 b_5 b_6 =
 sel (decide (a_0 = b_0))
  (
  sel (decide (a_1 = b_1))
   (
   sel (decide (a_2 = b_2))
    (
    sel (decide (a_3 = b_3))
     (
     sel (a_4 == b_4)
      (
      sel (decide (a_5 = b_5))
       (
       andK (laws_sameRanges N a_6 b_6) fun u1 =>
       some (u1.1, ()))
       (
       some ((false, ()), ())))
      (
      some ((false, ()), ())))
     (
     some ((false, ()), ())))
    (
    some ((false, ()), ())))
   (
   some ((false, ()), ())))
  (
  some ((false, ()), ())) := by kernel_rfl
set_option maxRecDepth 100000 in
theorem laws_sameFrames.say (N : Nat) : SayOk Try.prog (laws_sameFrames.S N) := sayOk_mk (N := N) (H := laws_sameFrames.H) (preps := [⟨[], [], [], []⟩]) (l := laws_sameFrames.says) (fn := Try.f13) (c := bodyOf Try.f13)
  (by kernel_rfl) (by kernel_rfl) (by kernel_rfl) (by kernel_rfl) (by kernel_rfl) (by kernel_rfl) (by kernel_rfl)
  (fun N => SayAll.cons (laws_sameRanges.say N) (SayAll.nil)) (fun a s => by kernel_rfl)
noncomputable def laws_sameFrames.SB (N : Nat) : Say := laws_sameFrames.S N |>.lent
theorem laws_sameFrames.sayB (N : Nat) : SayOk Try.prog (laws_sameFrames.SB N) := (laws_sameFrames.say N).lent

/-! ### (*loop.example/g00206/spec.l1Cur).frame: function 56 -/
noncomputable def spec_l1Cur_frame_2.H : Hints := hintsOf [(5, .join [⟨.normal, [4, 5, 6], [0, 2, 3], [.one (.ptr 0 0), .one (.ptr 1 0), .one (.ptr 2 0)], [.cells [.sh (.rows (.int .u8)), ck_i, .sh (.int .u64)], .cells [ck_i, ck_i, ck_i, ck_i, ck_b, ck_s, .nil], .cells [ck_i, ck_i, ck_i, ck_i, ck_b, ck_s, .nil]], [⟨[], [], [], []⟩]⟩]),
  (7, .join [⟨.normal, [4, 5, 6], [0, 2, 3], [.one (.ptr 0 0), .one (.ptr 1 0), .one (.ptr 2 0)], [.cells [.sh (.rows (.int .u8)), ck_i, .sh (.int .u64)], .cells [ck_i, ck_i, ck_i, ck_i, ck_b, ck_s, .nil], .cells [ck_i, ck_i, ck_i, ck_i, ck_b, ck_s, .nil]], [⟨[], [], [], []⟩]⟩]),
  (9, .join [⟨.normal, [5, 6], [0, 2, 3], [.one (.ptr 0 0), .one (.ptr 1 0), .one (.ptr 2 0)], [.cells [.sh (.rows (.int .u8)), ck_i, .sh (.int .u64)], .cells [ck_i, ck_i, ck_i, ck_i, ck_b, ck_s, .nil], .cells [ck_i, ck_i, ck_i, ck_i, ck_b, ck_s, .nil]], [⟨[], [], [], []⟩]⟩]),
  (5000011, .join [⟨.normal, [6, 7], [0, 2, 3, 46], [.one (.ptr 0 0), .one (.ptr 1 0), .one (.ptr 2 0), ak_b], [.cells [.sh (.rows (.int .u8)), ck_i, .sh (.int .u64)], .cells [ck_i, ck_i, ck_i, ck_i, ck_b, ck_s, .nil], .cells [ck_i, ck_i, ck_i, ck_i, ck_b, ck_s, .nil]], [⟨[], [], [], []⟩]⟩]),
  (13, .join [⟨.normal, [], [0, 2, 3, 7], [.one (.ptr 0 0), .one (.ptr 1 0), .one (.ptr 2 0), ak_i], [.cells [.sh (.rows (.int .u8)), ck_i, .sh (.int .u64)], .cells [ck_i, ck_i, ck_i, ck_i, ck_b, ck_s, .nil], .cells [ck_i, ck_i, ck_i, ck_i, ck_b, ck_s, .nil]], [⟨[], [], [], []⟩]⟩]),
  (14, .join [⟨.normal, [], [0, 2, 3], [.one (.ptr 0 0), .one (.ptr 1 0), .one (.ptr 2 0)], [.cells [.sh (.rows (.int .u8)), ck_i, .sh (.int .u64)], .cells [ck_i, ck_i, ck_i, ck_i, ck_b, ck_s, .nil], .cells [ck_i, ck_i, ck_i, ck_i, ck_b, ck_s, .nil]], [⟨[], [], [], []⟩]⟩]),
  (23, .join [⟨.normal, [], [0, 2, 3], [.one (.ptr 0 0), .one (.ptr 1 0), .one (.ptr 2 0)], [.cells [.sh (.rows (.int .u8)), ck_i, .sh (.int .u64)], .cells [ck_i, ck_i, ck_i, ck_i, ck_b, ck_s, .nil], .cells [ck_i, ck_i, ck_i, ck_i, ck_b, ck_s, .own 3], .rows (.pair (.int .i64) (.int .i64))], [⟨[], [], [], [3]⟩, ⟨[], [(2, (6, (.pair (.int .i64) (.int .i64))))], [], [3]⟩]⟩])]
noncomputable def spec_l1Cur_frame_2.says (N : Nat) : List Say := [spec_l1Cur_among.S N, spec_l1Shape.S N, spec_l1Cur_num.S N, spec_l1Cur_pick.S N, spec_l1Cur_one.S N, spec_l1Cur_sizedBytes.S N, spec_l1Cur_ranges.S N]
noncomputable def spec_l1Cur_frame_2.call (N : Nat) : CallK := callBy (spec_l1Cur_frame_2.says N)
noncomputable def spec_l1Cur_frame_2.qt (N : Nat) : FuncId → List PV → Sig → Cl := qtBy (spec_l1Cur_frame_2.says N)
noncomputable def spec_l1Cur_frame_2 (N : Nat) (p0_0 : (List Int)) (p0_1 : Int) (p0_2 : Int) : Option (((Int × (Int × (Int × (Int × (Bool × (ByteArray × ((List (Int × Int)) × Unit))))))) × Unit) × (((List Int) × (Int × (Int × Unit))) × Unit)) :=
  ofFn Try.prog spec_l1Cur_frame_2.call spec_l1Cur_frame_2.qt spec_l1Cur_frame_2.H N Try.f56 [.one (.ptr 0 0)] [.cells [.sh (.rows (.int .u8)), ck_i, .sh (.int .u64)]] [.agg [ck_i, ck_i, ck_i, ck_i, ck_b, ck_s, .sh (.rows (.pair (.int .i64) (.int .i64)))]] [.cells [.sh (.rows (.int .u8)), ck_i, .sh (.int .u64)]] [⟨[], [], [3], []⟩] ((), ()) ((p0_0, (p0_1, (p0_2, ()))), ())
noncomputable def spec_l1Cur_frame_2.S (N : Nat) : Say := ⟨false, 56, [.one (.ptr 0 0)], [.cells [.sh (.rows (.int .u8)), ck_i, .sh (.int .u64)]], [.agg [ck_i, ck_i, ck_i, ck_i, ck_b, ck_s, .sh (.rows (.pair (.int .i64) (.int .i64)))]], [.cells [.sh (.rows (.int .u8)), ck_i, .sh (.int .u64)]], fun a s => spec_l1Cur_frame_2 N s.1.1 s.1.2.1 s.1.2.2.1⟩
set_option maxRecDepth 100000 in
theorem spec_l1Cur_frame_2.eq (N : Nat) (p0_0 : (List Int)) (p0_1 : Int) (p0_2 : Int) : spec_l1Cur_frame_2 N p0_0 p0_1 p0_2 =
 andK (spec_l1Cur_among N [0, 1, 2, 4, 5, 6, 7, 8, 8, 16, 17, 24, 26, 27, 28, 48] p0_0 p0_1 p0_2) fun u1 =>
 andK (spec_l1Shape N u1.1.1) fun u2 =>
 andK (α := ((Unit × (Unit × (Unit × Unit))) × (((List Int) × (Int × (Int × Unit))) × ((Int × (Int × (Int × (Int × (Bool × (ByteArray × (Unit × Unit))))))) × ((Int × (Int × (Int × (Int × (Bool × (ByteArray × (Unit × Unit))))))) × Unit))))) (
  sel (decide (0 < u2.1.1))
   (
   andK (spec_l1Cur_num N u1.2.1.1 u1.2.1.2.1 u1.2.1.2.2.1) fun u3 =>
   some ((((), ((), ((), ()))), (u3.2.1, ((0, (0, (0, (0, (false, ((⟨#[]⟩ : ByteArray), ((), ()))))))), ((u1.1.1, (u3.1.1, (0, (0, (false, ((⟨#[]⟩ : ByteArray), ((), ()))))))), ()))))))
   (
   some ((((), ((), ((), ()))), (u1.2.1, ((0, (0, (0, (0, (false, ((⟨#[]⟩ : ByteArray), ((), ()))))))), ((u1.1.1, (0, (0, (0, (false, ((⟨#[]⟩ : ByteArray), ((), ()))))))), ()))))))) fun j4 =>
 andK (α := ((Unit × (Unit × (Unit × Unit))) × (((List Int) × (Int × (Int × Unit))) × ((Int × (Int × (Int × (Int × (Bool × (ByteArray × (Unit × Unit))))))) × ((Int × (Int × (Int × (Int × (Bool × (ByteArray × (Unit × Unit))))))) × Unit))))) (
  sel (decide (1 < u2.1.1))
   (
   andK (spec_l1Cur_num N j4.2.1.1 j4.2.1.2.1 j4.2.1.2.2.1) fun u5 =>
   some ((((), ((), ((), ()))), (u5.2.1, (j4.2.2.1, ((j4.2.2.2.1.1, (j4.2.2.2.1.2.1, (u5.1.1, (j4.2.2.2.1.2.2.2.1, (j4.2.2.2.1.2.2.2.2.1, (j4.2.2.2.1.2.2.2.2.2.1, ((), ()))))))), ()))))))
   (
   some ((((), ((), ((), ()))), j4.2)))) fun j6 =>
 andK (α := ((Unit × (Unit × (Unit × Unit))) × (((List Int) × (Int × (Int × Unit))) × ((Int × (Int × (Int × (Int × (Bool × (ByteArray × (Unit × Unit))))))) × ((Int × (Int × (Int × (Int × (Bool × (ByteArray × (Unit × Unit))))))) × Unit))))) (
  sel (decide (2 < u2.1.1))
   (
   andK (spec_l1Cur_pick N 200 j6.2.1.1 j6.2.1.2.1 j6.2.1.2.2.1) fun u7 =>
   some ((((), ((), ((), ()))), (u7.2.1, (j6.2.2.1, ((j6.2.2.2.1.1, (j6.2.2.2.1.2.1, (j6.2.2.2.1.2.2.1, (u7.1.1, (j6.2.2.2.1.2.2.2.2.1, (j6.2.2.2.1.2.2.2.2.2.1, ((), ()))))))), ()))))))
   (
   some ((((), ((), ((), ()))), j6.2)))) fun j8 =>
 andK (α := ((Unit × (Unit × (Unit × Unit))) × (((List Int) × (Int × (Int × Unit))) × ((Int × (Int × (Int × (Int × (Bool × (ByteArray × (Unit × Unit))))))) × ((Int × (Int × (Int × (Int × (Bool × (ByteArray × (Unit × Unit))))))) × Unit))))) (
  sel (decide (0 < u2.1.2.2.1))
   (
   andK (spec_l1Cur_pick N 6 j8.2.1.1 j8.2.1.2.1 j8.2.1.2.2.1) fun u9 =>
   andK (α := ((Unit × (Unit × (Unit × (Int × Unit)))) × (((List Int) × (Int × (Int × Unit))) × ((Int × (Int × (Int × (Int × (Bool × (ByteArray × (Unit × Unit))))))) × ((Int × (Int × (Int × (Int × (Bool × (ByteArray × (Unit × Unit))))))) × Unit))))) (
    andK (α := ((Unit × (Unit × (Unit × (Bool × Unit)))) × (((List Int) × (Int × (Int × Unit))) × ((Int × (Int × (Int × (Int × (Bool × (ByteArray × (Unit × Unit))))))) × ((Int × (Int × (Int × (Int × (Bool × (ByteArray × (Unit × Unit))))))) × Unit))))) (
     sel (decide (u2.1.2.2.1 < (IntKind.i64.wrap (u2.1.2.1 + u9.1.1))))
      (
      some ((((), ((), ((), (true, ())))), (u9.2.1, (j8.2.2.1, (j8.2.2.2.1, ()))))))
      (
      andK (spec_l1Cur_one N 20 u9.2.1.1 u9.2.1.2.1 u9.2.1.2.2.1) fun u10 =>
      some ((((), ((), ((), (u10.1.1, ())))), (u10.2.1, (j8.2.2.1, (j8.2.2.2.1, ()))))))) fun j11 =>
    sel j11.1.2.2.2.1
     (
     some ((((), ((), ((), (u2.1.2.2.1, ())))), j11.2)))
     (
     some ((((), ((), ((), ((IntKind.i64.wrap (u2.1.2.1 + u9.1.1)), ())))), j11.2)))) fun j12 =>
   andK (spec_l1Cur_sizedBytes N j12.1.2.2.2.1 j12.2.1.1 j12.2.1.2.1 j12.2.1.2.2.1) fun u13 =>
   some ((((), ((), ((), ()))), (u13.2.1, (j12.2.2.1, ((j12.2.2.2.1.1, (j12.2.2.2.1.2.1, (j12.2.2.2.1.2.2.1, (j12.2.2.2.1.2.2.2.1, (j12.2.2.2.1.2.2.2.2.1, ((strL u13.2.2.1), ((), ()))))))), ()))))))
   (
   some ((((), ((), ((), ()))), j8.2)))) fun j14 =>
 andK (α := ((Unit × (Unit × (Unit × Unit))) × (((List Int) × (Int × (Int × Unit))) × ((Int × (Int × (Int × (Int × (Bool × (ByteArray × (Unit × Unit))))))) × ((Int × (Int × (Int × (Int × (Bool × (ByteArray × (Unit × Unit))))))) × ((List (Int × Int)) × Unit)))))) (
  sel (decide (j14.2.2.2.1.1 = 2))
   (
   andK (spec_l1Cur_ranges N j14.2.1.1 j14.2.1.2.1 j14.2.1.2.2.1) fun u15 =>
   some ((((), ((), ((), ()))), (u15.2.1, (j14.2.2.1, (j14.2.2.2.1, (u15.2.2.1, ())))))))
   (
   sel (decide (j14.2.2.2.1.1 = 24))
    (
    andK (spec_l1Cur_pick N 9 j14.2.1.1 j14.2.1.2.1 j14.2.1.2.2.1) fun u16 =>
    some ((((), ((), ((), ()))), (u16.2.1, (j14.2.2.1, ((j14.2.2.2.1.1, (j14.2.2.2.1.2.1, (u16.1.1, (j14.2.2.2.1.2.2.2.1, (j14.2.2.2.1.2.2.2.2.1, (j14.2.2.2.1.2.2.2.2.2.1, ((), ()))))))), ([], ())))))))
    (
    sel (decide (j14.2.2.2.1.1 = 8))
     (
     andK (spec_l1Cur_one N 3 j14.2.1.1 j14.2.1.2.1 j14.2.1.2.2.1) fun u17 =>
     andK (spec_l1Cur_one N 3 u17.2.1.1 u17.2.1.2.1 u17.2.1.2.2.1) fun u18 =>
     sel u18.1.1
      (
      some ((((), ((), ((), ()))), (u18.2.1, (j14.2.2.1, ((j14.2.2.2.1.1, (j14.2.2.2.1.2.1, (0, (j14.2.2.2.1.2.2.2.1, (u17.1.1, (j14.2.2.2.1.2.2.2.2.2.1, ((), ()))))))), ([], ())))))))
      (
      some ((((), ((), ((), ()))), (u18.2.1, (j14.2.2.1, ((j14.2.2.2.1.1, (j14.2.2.2.1.2.1, (j14.2.2.2.1.2.2.1, (j14.2.2.2.1.2.2.2.1, (u17.1.1, (j14.2.2.2.1.2.2.2.2.2.1, ((), ()))))))), ([], ()))))))))
     (
     some ((((), ((), ((), ()))), (j14.2.1, (j14.2.2.1, (j14.2.2.2.1, ([], ())))))))))) fun j19 =>
 andK (spec_l1Cur_pick N 60 j19.2.1.1 j19.2.1.2.1 j19.2.1.2.2.1) fun u20 =>
 sel (decide (u20.1.1 = 0))
  (
  andK (spec_l1Cur_among N [(-1), 4611686018427387904] u20.2.1.1 u20.2.1.2.1 u20.2.1.2.2.1) fun u21 =>
  some (((j19.2.2.2.1.1, (u21.1.1, (j19.2.2.2.1.2.2.1, (j19.2.2.2.1.2.2.2.1, (j19.2.2.2.1.2.2.2.2.1, (j19.2.2.2.1.2.2.2.2.2.1, (j19.2.2.2.2.1, ()))))))), ()), u21.2))
  (
  sel (decide (u20.1.1 = 1))
   (
   chk (decide (j19.2.2.2.1.2.2.2.2.2.1.size + 9 ≤ 9223372036854775807)) (
   some (((j19.2.2.2.1.1, (j19.2.2.2.1.2.1, (j19.2.2.2.1.2.2.1, (j19.2.2.2.1.2.2.2.1, (j19.2.2.2.1.2.2.2.2.1, ((j19.2.2.2.1.2.2.2.2.2.1 ++ (⟨#[120, 120, 120, 120, 120, 120, 120, 120, 120]⟩ : ByteArray)), (j19.2.2.2.2.1, ()))))))), ()), u20.2)))
   (
   sel (decide (u20.1.1 = 2))
    (
    some (((j19.2.2.2.1.1, (j19.2.2.2.1.2.1, (j19.2.2.2.1.2.2.1, (j19.2.2.2.1.2.2.2.1, (true, (j19.2.2.2.1.2.2.2.2.2.1, (j19.2.2.2.2.1, ()))))))), ()), u20.2))
    (
    sel (decide (u20.1.1 = 3))
     (
     andK (spec_l1Cur_pick N 60 u20.2.1.1 u20.2.1.2.1 u20.2.1.2.2.1) fun u22 =>
     some (((u22.1.1, (j19.2.2.2.1.2.1, (j19.2.2.2.1.2.2.1, (j19.2.2.2.1.2.2.2.1, (j19.2.2.2.1.2.2.2.2.1, (j19.2.2.2.1.2.2.2.2.2.1, (j19.2.2.2.2.1, ()))))))), ()), u22.2))
     (
     some (((j19.2.2.2.1.1, (j19.2.2.2.1.2.1, (j19.2.2.2.1.2.2.1, (j19.2.2.2.1.2.2.2.1, (j19.2.2.2.1.2.2.2.2.1, (j19.2.2.2.1.2.2.2.2.2.1, (j19.2.2.2.2.1, ()))))))), ()), u20.2))))) := by kernel_rfl
set_option maxRecDepth 100000 in
theorem spec_l1Cur_frame_2.say (N : Nat) : SayOk Try.prog (spec_l1Cur_frame_2.S N) := sayOk_mk (N := N) (H := spec_l1Cur_frame_2.H) (preps := [⟨[], [], [3], []⟩]) (l := spec_l1Cur_frame_2.says) (fn := Try.f56) (c := bodyOf Try.f56)
  (by kernel_rfl) (by kernel_rfl) (by kernel_rfl) (by kernel_rfl) (by kernel_rfl) (by kernel_rfl) (by kernel_rfl)
  (fun N => SayAll.cons (spec_l1Cur_among.say N) (SayAll.cons (spec_l1Shape.say N) (SayAll.cons (spec_l1Cur_num.say N) (SayAll.cons (spec_l1Cur_pick.say N) (SayAll.cons (spec_l1Cur_one.say N) (SayAll.cons (spec_l1Cur_sizedBytes.say N) (SayAll.cons (spec_l1Cur_ranges.say N) (SayAll.nil)))))))) (fun a s => by kernel_rfl)

/-! ### loop.example/g00206/spec.DrawFramesBytes: function 14 -/
noncomputable def spec_DrawFramesBytes.H : Hints := hintsOf [(6, .join [⟨.normal, [4], [3, 5], [.one (.ptr 0 0), ak_i], [.cells [.sh (.rows (.int .u8)), ck_i, .sh (.int .u64)]], [⟨[], [], [], []⟩]⟩]),
  (5000009, .join [⟨.normal, [5], [3, 4, 6, 28], [.one (.ptr 0 0), .one (.own 1), .one (.ptr 2 0), ak_b], [.cells [.sh (.rows (.int .u8)), ck_i, .sh (.int .u64)], .rows (.pair (.int .i64) (.pair (.int .i64) (.pair (.int .i64) (.pair (.int .i64) (.pair .bool (.pair .str (.rows (.pair (.int .i64) (.int .i64))))))))), .cells [ck_i, ck_i, ck_i, ck_i, ck_b, ck_s, .sh (.rows (.pair (.int .i64) (.int .i64)))]], [⟨[], [], [], []⟩]⟩]),
  (7, .join [⟨.normal, [5], [3, 4], [.one (.ptr 0 0), .one (.own 1)], [.cells [.sh (.rows (.int .u8)), ck_i, .sh (.int .u64)], .rows (.pair (.int .i64) (.pair (.int .i64) (.pair (.int .i64) (.pair (.int .i64) (.pair .bool (.pair .str (.rows (.pair (.int .i64) (.int .i64)))))))))], [⟨[], [], [], []⟩]⟩]),
  (2000006, .loop ⟨.normal, [], [3, 4, 5], [.one (.ptr 0 0), .one (.own 1), ak_i], [.cells [.sh (.rows (.int .u8)), ck_i, .sh (.int .u64)], .rows (.pair (.int .i64) (.pair (.int .i64) (.pair (.int .i64) (.pair (.int .i64) (.pair .bool (.pair .str (.rows (.pair (.int .i64) (.int .i64)))))))))], [⟨[(4, (.pair (.int .i64) (.pair (.int .i64) (.pair (.int .i64) (.pair (.int .i64) (.pair .bool (.pair .str (.rows (.pair (.int .i64) (.int .i64))))))))))], [], [], [1]⟩, ⟨[], [], [], [1]⟩]⟩ [⟨(.exit 0), [], [4], [.one (.own 1)], [.cells [.sh (.rows (.int .u8)), ck_i, .sh (.int .u64)], .rows (.pair (.int .i64) (.pair (.int .i64) (.pair (.int .i64) (.pair (.int .i64) (.pair .bool (.pair .str (.rows (.pair (.int .i64) (.int .i64)))))))))], [⟨[], [], [], [1]⟩]⟩])]
noncomputable def spec_DrawFramesBytes.says (N : Nat) : List Say := [spec_l1Cur_pick.S N, spec_l1Cur_one.S N, spec_l1Cur_frame_2.S N, spec_GoodFrame.S N]
noncomputable def spec_DrawFramesBytes.call (N : Nat) : CallK := callBy (spec_DrawFramesBytes.says N)
noncomputable def spec_DrawFramesBytes.qt (N : Nat) : FuncId → List PV → Sig → Cl := qtBy (spec_DrawFramesBytes.says N)
noncomputable def spec_DrawFramesBytes.l0.hd : Alt := ⟨.normal, [], [3, 4, 5], [.one (.ptr 0 0), .one (.own 1), ak_i], [.cells [.sh (.rows (.int .u8)), ck_i, .sh (.int .u64)], .rows (.pair (.int .i64) (.pair (.int .i64) (.pair (.int .i64) (.pair (.int .i64) (.pair .bool (.pair .str (.rows (.pair (.int .i64) (.int .i64)))))))))], [⟨[(4, (.pair (.int .i64) (.pair (.int .i64) (.pair (.int .i64) (.pair (.int .i64) (.pair .bool (.pair .str (.rows (.pair (.int .i64) (.int .i64))))))))))], [], [], [1]⟩, ⟨[], [], [], [1]⟩]⟩
noncomputable def spec_DrawFramesBytes.l0.outs : List Alt := [⟨(.exit 0), [], [4], [.one (.own 1)], [.cells [.sh (.rows (.int .u8)), ck_i, .sh (.int .u64)], .rows (.pair (.int .i64) (.pair (.int .i64) (.pair (.int .i64) (.pair (.int .i64) (.pair .bool (.pair .str (.rows (.pair (.int .i64) (.int .i64)))))))))], [⟨[], [], [], [1]⟩]⟩]
noncomputable def spec_DrawFramesBytes.l0 (N : Nat) (n : Int) (p0_0 : (List Int)) (p0_1 : Int) (p0_2 : Int) (p1 : (List (Int × (Int × (Int × (Int × (Bool × (ByteArray × (List (Int × Int)))))))))) : Option ((Unit × Unit) × (((List Int) × (Int × (Int × Unit))) × ((List (Int × (Int × (Int × (Int × (Bool × (ByteArray × (List (Int × Int))))))))) × Unit))) :=
  loopK Try.prog spec_DrawFramesBytes.call spec_DrawFramesBytes.qt spec_DrawFramesBytes.H (codeAt (bodyOf Try.f14) [1, 1, 1, 1, 1, 0, 0, 0]) 1 spec_DrawFramesBytes.l0.hd spec_DrawFramesBytes.l0.outs [] N (((), ((), (n, ()))), ((p0_0, (p0_1, (p0_2, ()))), (p1, ())))
noncomputable def spec_DrawFramesBytes (N : Nat) (code : (List Int)) : Option ((Unit × Unit) × ((List (Int × (Int × (Int × (Int × (Bool × (ByteArray × (List (Int × Int))))))))) × Unit)) :=
  ofFn Try.prog spec_DrawFramesBytes.call spec_DrawFramesBytes.qt spec_DrawFramesBytes.H N Try.f14 [.one (.sh (.rows (.int .u8)))] [] [.one (.own 0)] [.rows (.pair (.int .i64) (.pair (.int .i64) (.pair (.int .i64) (.pair (.int .i64) (.pair .bool (.pair .str (.rows (.pair (.int .i64) (.int .i64)))))))))] [⟨[], [], [], [1]⟩] (code, ()) ()
noncomputable def spec_DrawFramesBytes.S (N : Nat) : Say := ⟨false, 14, [.one (.sh (.rows (.int .u8)))], [], [.one (.own 0)], [.rows (.pair (.int .i64) (.pair (.int .i64) (.pair (.int .i64) (.pair (.int .i64) (.pair .bool (.pair .str (.rows (.pair (.int .i64) (.int .i64)))))))))], fun a s => spec_DrawFramesBytes N a.1⟩
set_option maxRecDepth 100000 in
theorem spec_DrawFramesBytes.l0.eq (N : Nat) (n : Int) (p0_0 : (List Int)) (p0_1 : Int) (p0_2 : Int) (p1 : (List (Int × (Int × (Int × (Int × (Bool × (ByteArray × (List (Int × Int)))))))))) : spec_DrawFramesBytes.l0 (N + 1) n p0_0 p0_1 p0_2 p1 =
 sel (decide (0 < n))
  (
  andK (α := ((Unit × (Unit × Unit)) × (((List Int) × (Int × (Int × Unit))) × ((List (Int × (Int × (Int × (Int × (Bool × (ByteArray × (List (Int × Int))))))))) × Unit)))) (
   andK (spec_l1Cur_frame_2 N p0_0 p0_1 p0_2) fun u5 =>
   andK (α := ((Unit × (Unit × (Unit × (Bool × Unit)))) × (((List Int) × (Int × (Int × Unit))) × ((List (Int × (Int × (Int × (Int × (Bool × (ByteArray × (List (Int × Int))))))))) × ((Int × (Int × (Int × (Int × (Bool × (ByteArray × ((List (Int × Int)) × Unit))))))) × Unit))))) (
    andK (spec_GoodFrame N u5.1.1.1 u5.1.1.2.1 u5.1.1.2.2.1 u5.1.1.2.2.2.1 u5.1.1.2.2.2.2.1 u5.1.1.2.2.2.2.2.1 u5.1.1.2.2.2.2.2.2.1) fun u6 =>
    sel u6.1.1
     (
     some ((((), ((), ((), (true, ())))), (u5.2.1, (p1, (u5.1.1, ()))))))
     (
     andK (spec_l1Cur_one N 30 u5.2.1.1 u5.2.1.2.1 u5.2.1.2.2.1) fun u7 =>
     some ((((), ((), ((), (u7.1.1, ())))), (u7.2.1, (p1, (u5.1.1, ()))))))) fun j8 =>
   sel j8.1.2.2.2.1
    (
    chk (decide (j8.2.2.1.length + 1 < most)) (
    some ((((), ((), ())), (j8.2.1, ((j8.2.2.1 ++ [(j8.2.2.2.1.1, (j8.2.2.2.1.2.1, (j8.2.2.2.1.2.2.1, (j8.2.2.2.1.2.2.2.1, (j8.2.2.2.1.2.2.2.2.1, (j8.2.2.2.1.2.2.2.2.2.1, j8.2.2.2.1.2.2.2.2.2.2.1))))))]), ()))))))
    (
    some ((((), ((), ())), (j8.2.1, (j8.2.2.1, ())))))) fun j9 =>
  spec_DrawFramesBytes.l0 N (IntKind.i64.wrap (n - 1)) j9.2.1.1 j9.2.1.2.1 j9.2.1.2.2.1 j9.2.2.1)
  (
  some ((((), ()), ((p0_0, (p0_1, (p0_2, ()))), (p1, ()))))) := by kernel_rfl
set_option maxRecDepth 100000 in
theorem spec_DrawFramesBytes.eq (N : Nat) (code : (List Int)) : spec_DrawFramesBytes N code =
 andK (spec_l1Cur_pick N 6 code 0 0) fun u1 =>
 andK (α := ((Unit × (Int × Unit)) × (((List Int) × (Int × (Int × Unit))) × Unit))) (
  andK (spec_l1Cur_one N 20 u1.2.1.1 u1.2.1.2.1 u1.2.1.2.2.1) fun u2 =>
  sel u2.1.1
   (
   andK (spec_l1Cur_pick N 2 u2.2.1.1 u2.2.1.2.1 u2.2.1.2.2.1) fun u3 =>
   some ((((), ((IntKind.i64.wrap (40 + u3.1.1)), ())), u3.2)))
   (
   some ((((), (u1.1.1, ())), u2.2)))) fun j4 =>
 andK (spec_DrawFramesBytes.l0 N j4.1.2.1 j4.2.1.1 j4.2.1.2.1 j4.2.1.2.2.1 []) fun l10 =>
 some (((), ()), (l10.2.2.1, ())) := by kernel_rfl
set_option maxRecDepth 100000 in
theorem spec_DrawFramesBytes.say (N : Nat) : SayOk Try.prog (spec_DrawFramesBytes.S N) := sayOk_mk (N := N) (H := spec_DrawFramesBytes.H) (preps := [⟨[], [], [], [1]⟩]) (l := spec_DrawFramesBytes.says) (fn := Try.f14) (c := bodyOf Try.f14)
  (by kernel_rfl) (by kernel_rfl) (by kernel_rfl) (by kernel_rfl) (by kernel_rfl) (by kernel_rfl) (by kernel_rfl)
  (fun N => SayAll.cons (spec_l1Cur_pick.say N) (SayAll.cons (spec_l1Cur_one.say N) (SayAll.cons (spec_l1Cur_frame_2.say N) (SayAll.cons (spec_GoodFrame.say N) (SayAll.nil))))) (fun a s => by kernel_rfl)

/-! ### loop.example/g00206/impl.FramesBytes$1: function 58 -/
noncomputable def impl_FramesBytes_1.H : Hints := hintsOf []
noncomputable def impl_FramesBytes_1.says (N : Nat) : List Say := [impl_GoodFrame.S N]
noncomputable def impl_FramesBytes_1.call (N : Nat) : CallK := callBy (impl_FramesBytes_1.says N)
noncomputable def impl_FramesBytes_1.qt (N : Nat) : FuncId → List PV → Sig → Cl := qtBy (impl_FramesBytes_1.says N)
noncomputable def impl_FramesBytes_1 (N : Nat) (f_0 : Int) (f_1 : Int) (f_2 : Int) (f_3 : Int) (f_4 : Bool) (f_5 : ByteArray) (f_6 : (List (Int × Int))) : Option ((Bool × Unit) × Unit) :=
  ofFn Try.prog impl_FramesBytes_1.call impl_FramesBytes_1.qt impl_FramesBytes_1.H N Try.f58 [.agg [ck_i, ck_i, ck_i, ck_i, ck_b, ck_s, .sh (.rows (.pair (.int .i64) (.int .i64)))]] [] [ak_b] [] [⟨[], [], [], []⟩] ((f_0, (f_1, (f_2, (f_3, (f_4, (f_5, (f_6, ()))))))), ()) ()
noncomputable def impl_FramesBytes_1.S (N : Nat) : Say := ⟨false, 58, [.agg [ck_i, ck_i, ck_i, ck_i, ck_b, ck_s, .sh (.rows (.pair (.int .i64) (.int .i64)))]], [], [ak_b], [], fun a s => impl_FramesBytes_1 N a.1.1 a.1.2.1 a.1.2.2.1 a.1.2.2.2.1 a.1.2.2.2.2.1 a.1.2.2.2.2.2.1 a.1.2.2.2.2.2.2.1⟩
set_option maxRecDepth 100000 in
theorem impl_FramesBytes_1.eq (N : Nat) (f_0 : Int) (f_1 : Int) (f_2 : Int) (f_3 : Int) (f_4 : Bool) (f_5 : ByteArray) (f_6 : (List (Int × Int))) : impl_FramesBytes_1 N f_0 f_1 f_2 f_3 f_4 f_5 f_6 =
 andK (impl_GoodFrame N f_0 f_1 f_2 f_3 f_4 f_5 f_6) fun u1 =>
 some (((!u1.1.1), ()), ()) := by kernel_rfl
set_option maxRecDepth 100000 in
theorem impl_FramesBytes_1.say (N : Nat) : SayOk Try.prog (impl_FramesBytes_1.S N) := sayOk_mk (N := N) (H := impl_FramesBytes_1.H) (preps := [⟨[], [], [], []⟩]) (l := impl_FramesBytes_1.says) (fn := Try.f58) (c := bodyOf Try.f58)
  (by kernel_rfl) (by kernel_rfl) (by kernel_rfl) (by kernel_rfl) (by kernel_rfl) (by kernel_rfl) (by kernel_rfl)
  (fun N => SayAll.cons (impl_GoodFrame.say N) (SayAll.nil)) (fun a s => by kernel_rfl)

/-! ### slices.IndexFunc[[]loop.example/g00206/impl.Frame,loop.example/g00206/impl.Frame]: function 121 -/
noncomputable def slices_IndexFuncimpl_Frame_impl_Frame.H : Hints := hintsOf [(2000002, .loop ⟨.normal, [0, 1, 7], [8], [ak_i], [], [⟨[], [], [], []⟩]⟩ [⟨.ret, [], [4], [ak_i], [], [⟨[], [], [], []⟩]⟩, ⟨(.exit 0), [], [], [], [], [⟨[], [], [], []⟩]⟩])]
noncomputable def slices_IndexFuncimpl_Frame_impl_Frame.says (N : Nat) : List Say := [impl_FramesBytes_1.S N]
noncomputable def slices_IndexFuncimpl_Frame_impl_Frame.call (N : Nat) : CallK := callBy (slices_IndexFuncimpl_Frame_impl_Frame.says N)
noncomputable def slices_IndexFuncimpl_Frame_impl_Frame.qt (N : Nat) : FuncId → List PV → Sig → Cl := qtBy (slices_IndexFuncimpl_Frame_impl_Frame.says N)
noncomputable def slices_IndexFuncimpl_Frame_impl_Frame.l0.hd : Alt := ⟨.normal, [0, 1, 7], [8], [ak_i], [], [⟨[], [], [], []⟩]⟩
noncomputable def slices_IndexFuncimpl_Frame_impl_Frame.l0.outs : List Alt := [⟨.ret, [], [4], [ak_i], [], [⟨[], [], [], []⟩]⟩, ⟨(.exit 0), [], [], [], [], [⟨[], [], [], []⟩]⟩]
noncomputable def slices_IndexFuncimpl_Frame_impl_Frame.l0 (N : Nat) (s1 : (List (Int × (Int × (Int × (Int × (Bool × (ByteArray × (List (Int × Int)))))))))) (t7 : Int) (t8 : Int) : Option (((Int × Unit) × Unit) ⊕ (Unit × Unit)) :=
  loopK Try.prog slices_IndexFuncimpl_Frame_impl_Frame.call slices_IndexFuncimpl_Frame_impl_Frame.qt slices_IndexFuncimpl_Frame_impl_Frame.H (codeAt (bodyOf Try.f121) [1, 0, 1, 0, 0]) 0 slices_IndexFuncimpl_Frame_impl_Frame.l0.hd slices_IndexFuncimpl_Frame_impl_Frame.l0.outs [(0, .rows false (.pair (.int .i64) (.pair (.int .i64) (.pair (.int .i64) (.pair (.int .i64) (.pair .bool (.pair .str (.rows (.pair (.int .i64) (.int .i64))))))))) s1), (1, .fn 58 []), (7, .v (.int .i64 t7))] N ((t8, ()), ())
noncomputable def slices_IndexFuncimpl_Frame_impl_Frame (N : Nat) (s : (List (Int × (Int × (Int × (Int × (Bool × (ByteArray × (List (Int × Int)))))))))) : Option ((Int × Unit) × Unit) :=
  ofFn Try.prog slices_IndexFuncimpl_Frame_impl_Frame.call slices_IndexFuncimpl_Frame_impl_Frame.qt slices_IndexFuncimpl_Frame_impl_Frame.H N Try.f121 [.one (.sh (.rows (.pair (.int .i64) (.pair (.int .i64) (.pair (.int .i64) (.pair (.int .i64) (.pair .bool (.pair .str (.rows (.pair (.int .i64) (.int .i64))))))))))), .fn 58 []] [] [ak_i] [] [⟨[], [], [], []⟩] (s, ((), ())) ()
noncomputable def slices_IndexFuncimpl_Frame_impl_Frame.S (N : Nat) : Say := ⟨false, 121, [.one (.sh (.rows (.pair (.int .i64) (.pair (.int .i64) (.pair (.int .i64) (.pair (.int .i64) (.pair .bool (.pair .str (.rows (.pair (.int .i64) (.int .i64))))))))))), .fn 58 []], [], [ak_i], [], fun a s => slices_IndexFuncimpl_Frame_impl_Frame N a.1⟩
set_option maxRecDepth 100000 in
theorem slices_IndexFuncimpl_Frame_impl_Frame.l0.eq (N : Nat) (s1 : (List (Int × (Int × (Int × (Int × (Bool × (ByteArray × (List (Int × Int)))))))))) (t7 : Int) (t8 : Int) : slices_IndexFuncimpl_Frame_impl_Frame.l0 (N + 1) s1 t7 t8 =
 sel (decide (t8 < t7))
  (
  chk ((decide (0 ≤ t8)) && (decide (t8 < (s1.length : Int)))) (
  andK (impl_FramesBytes_1 N (rdS (.pair (.int .i64) (.pair (.int .i64) (.pair (.int .i64) (.pair (.int .i64) (.pair .bool (.pair .str (.rows (.pair (.int .i64) (.int .i64))))))))) s1 (Int.toNat t8)).1 (rdS (.pair (.int .i64) (.pair (.int .i64) (.pair (.int .i64) (.pair (.int .i64) (.pair .bool (.pair .str (.rows (.pair (.int .i64) (.int .i64))))))))) s1 (Int.toNat t8)).2.1 (rdS (.pair (.int .i64) (.pair (.int .i64) (.pair (.int .i64) (.pair (.int .i64) (.pair .bool (.pair .str (.rows (.pair (.int .i64) (.int .i64))))))))) s1 (Int.toNat t8)).2.2.1 (rdS (.pair (.int .i64) (.pair (.int .i64) (.pair (.int .i64) (.pair (.int .i64) (.pair .bool (.pair .str (.rows (.pair (.int .i64) (.int .i64))))))))) s1 (Int.toNat t8)).2.2.2.1 (rdS (.pair (.int .i64) (.pair (.int .i64) (.pair (.int .i64) (.pair (.int .i64) (.pair .bool (.pair .str (.rows (.pair (.int .i64) (.int .i64))))))))) s1 (Int.toNat t8)).2.2.2.2.1 (rdS (.pair (.int .i64) (.pair (.int .i64) (.pair (.int .i64) (.pair (.int .i64) (.pair .bool (.pair .str (.rows (.pair (.int .i64) (.int .i64))))))))) s1 (Int.toNat t8)).2.2.2.2.2.1 (rdS (.pair (.int .i64) (.pair (.int .i64) (.pair (.int .i64) (.pair (.int .i64) (.pair .bool (.pair .str (.rows (.pair (.int .i64) (.int .i64))))))))) s1 (Int.toNat t8)).2.2.2.2.2.2) fun u1 =>
  sel u1.1.1
   (
   some (.inl ((t8, ()), ())))
   (
   slices_IndexFuncimpl_Frame_impl_Frame.l0 N s1 t7 (IntKind.i64.wrap (t8 + 1)))))
  (
  some (.inr (((), ())))) := by kernel_rfl
set_option maxRecDepth 100000 in
theorem slices_IndexFuncimpl_Frame_impl_Frame.eq (N : Nat) (s : (List (Int × (Int × (Int × (Int × (Bool × (ByteArray × (List (Int × Int)))))))))) : slices_IndexFuncimpl_Frame_impl_Frame N s =
 andK (slices_IndexFuncimpl_Frame_impl_Frame.l0 N s (s.length : Int) 0) fun l2 =>
 orK l2 (fun x3 =>
  some (x3.1, ()))
  (fun x4 =>
  some (((-1), ()), ())) := by kernel_rfl
set_option maxRecDepth 100000 in
theorem slices_IndexFuncimpl_Frame_impl_Frame.say (N : Nat) : SayOk Try.prog (slices_IndexFuncimpl_Frame_impl_Frame.S N) := sayOk_mk (N := N) (H := slices_IndexFuncimpl_Frame_impl_Frame.H) (preps := [⟨[], [], [], []⟩]) (l := slices_IndexFuncimpl_Frame_impl_Frame.says) (fn := Try.f121) (c := bodyOf Try.f121)
  (by kernel_rfl) (by kernel_rfl) (by kernel_rfl) (by kernel_rfl) (by kernel_rfl) (by kernel_rfl) (by kernel_rfl)
  (fun N => SayAll.cons (impl_FramesBytes_1.say N) (SayAll.nil)) (fun a s => by kernel_rfl)

/-! ### slices.ContainsFunc[[]loop.example/g00206/impl.Frame,loop.example/g00206/impl.Frame]: function 57 -/
noncomputable def slices_ContainsFuncimpl_Frame_impl_Frame.H : Hints := hintsOf []
noncomputable def slices_ContainsFuncimpl_Frame_impl_Frame.says (N : Nat) : List Say := [slices_IndexFuncimpl_Frame_impl_Frame.S N]
noncomputable def slices_ContainsFuncimpl_Frame_impl_Frame.call (N : Nat) : CallK := callBy (slices_ContainsFuncimpl_Frame_impl_Frame.says N)
noncomputable def slices_ContainsFuncimpl_Frame_impl_Frame.qt (N : Nat) : FuncId → List PV → Sig → Cl := qtBy (slices_ContainsFuncimpl_Frame_impl_Frame.says N)
noncomputable def slices_ContainsFuncimpl_Frame_impl_Frame (N : Nat) (s : (List (Int × (Int × (Int × (Int × (Bool × (ByteArray × (List (Int × Int)))))))))) : Option ((Bool × Unit) × Unit) :=
  ofFn Try.prog slices_ContainsFuncimpl_Frame_impl_Frame.call slices_ContainsFuncimpl_Frame_impl_Frame.qt slices_ContainsFuncimpl_Frame_impl_Frame.H N Try.f57 [.one (.sh (.rows (.pair (.int .i64) (.pair (.int .i64) (.pair (.int .i64) (.pair (.int .i64) (.pair .bool (.pair .str (.rows (.pair (.int .i64) (.int .i64))))))))))), .fn 58 []] [] [ak_b] [] [⟨[], [], [], []⟩] (s, ((), ())) ()
noncomputable def slices_ContainsFuncimpl_Frame_impl_Frame.S (N : Nat) : Say := ⟨false, 57, [.one (.sh (.rows (.pair (.int .i64) (.pair (.int .i64) (.pair (.int .i64) (.pair (.int .i64) (.pair .bool (.pair .str (.rows (.pair (.int .i64) (.int .i64))))))))))), .fn 58 []], [], [ak_b], [], fun a s => slices_ContainsFuncimpl_Frame_impl_Frame N a.1⟩
set_option maxRecDepth 100000 in
theorem slices_ContainsFuncimpl_Frame_impl_Frame.eq (N : Nat) (s : (List (Int × (Int × (Int × (Int × (Bool × (ByteArray × (List (Int × Int)))))))))) : slices_ContainsFuncimpl_Frame_impl_Frame N s =
 andK (slices_IndexFuncimpl_Frame_impl_Frame N s) fun u1 =>
 some (((decide (0 ≤ u1.1.1)), ()), ()) := by kernel_rfl
set_option maxRecDepth 100000 in
theorem slices_ContainsFuncimpl_Frame_impl_Frame.say (N : Nat) : SayOk Try.prog (slices_ContainsFuncimpl_Frame_impl_Frame.S N) := sayOk_mk (N := N) (H := slices_ContainsFuncimpl_Frame_impl_Frame.H) (preps := [⟨[], [], [], []⟩]) (l := slices_ContainsFuncimpl_Frame_impl_Frame.says) (fn := Try.f57) (c := bodyOf Try.f57)
  (by kernel_rfl) (by kernel_rfl) (by kernel_rfl) (by kernel_rfl) (by kernel_rfl) (by kernel_rfl) (by kernel_rfl)
  (fun N => SayAll.cons (slices_IndexFuncimpl_Frame_impl_Frame.say N) (SayAll.nil)) (fun a s => by kernel_rfl)

/-! ### loop.example/g00206/impl.FramesBytes: function 15 -/
noncomputable def impl_FramesBytes.H : Hints := hintsOf [(5000001, .join [⟨.normal, [0], [13], [ak_b], [], [⟨[], [], [], []⟩]⟩]),
  (2000005, .loop ⟨.normal, [14, 15], [4, 16], [ak_s, ak_i], [], [⟨[], [], [], []⟩]⟩ [⟨(.exit 0), [], [4], [ak_s], [], [⟨[], [], [], []⟩]⟩])]
noncomputable def impl_FramesBytes.says (N : Nat) : List Say := [slices_ContainsFuncimpl_Frame_impl_Frame.S N, impl_Frame_bytes.S N]
noncomputable def impl_FramesBytes.call (N : Nat) : CallK := callBy (impl_FramesBytes.says N)
noncomputable def impl_FramesBytes.qt (N : Nat) : FuncId → List PV → Sig → Cl := qtBy (impl_FramesBytes.says N)
noncomputable def impl_FramesBytes.l0.hd : Alt := ⟨.normal, [14, 15], [4, 16], [ak_s, ak_i], [], [⟨[], [], [], []⟩]⟩
noncomputable def impl_FramesBytes.l0.outs : List Alt := [⟨(.exit 0), [], [4], [ak_s], [], [⟨[], [], [], []⟩]⟩]
noncomputable def impl_FramesBytes.l0 (N : Nat) (t14 : (List (Int × (Int × (Int × (Int × (Bool × (ByteArray × (List (Int × Int)))))))))) (t15 : Int) (out : ByteArray) (t16 : Int) : Option ((ByteArray × Unit) × Unit) :=
  loopK Try.prog impl_FramesBytes.call impl_FramesBytes.qt impl_FramesBytes.H (codeAt (bodyOf Try.f15) [1, 1, 1, 0, 1, 0, 0]) 0 impl_FramesBytes.l0.hd impl_FramesBytes.l0.outs [(14, .rows false (.pair (.int .i64) (.pair (.int .i64) (.pair (.int .i64) (.pair (.int .i64) (.pair .bool (.pair .str (.rows (.pair (.int .i64) (.int .i64))))))))) t14), (15, .v (.int .i64 t15))] N ((out, (t16, ())), ())
noncomputable def impl_FramesBytes (N : Nat) (l : (List (Int × (Int × (Int × (Int × (Bool × (ByteArray × (List (Int × Int)))))))))) : Option ((ByteArray × (Bool × Unit)) × Unit) :=
  ofFn Try.prog impl_FramesBytes.call impl_FramesBytes.qt impl_FramesBytes.H N Try.f15 [.one (.sh (.rows (.pair (.int .i64) (.pair (.int .i64) (.pair (.int .i64) (.pair (.int .i64) (.pair .bool (.pair .str (.rows (.pair (.int .i64) (.int .i64)))))))))))] [] [ak_s, ak_b] [] [⟨[], [], [], []⟩] (l, ()) ()
noncomputable def impl_FramesBytes.S (N : Nat) : Say := ⟨false, 15, [.one (.sh (.rows (.pair (.int .i64) (.pair (.int .i64) (.pair (.int .i64) (.pair (.int .i64) (.pair .bool (.pair .str (.rows (.pair (.int .i64) (.int .i64)))))))))))], [], [ak_s, ak_b], [], fun a s => impl_FramesBytes N a.1⟩
set_option maxRecDepth 100000 in
theorem impl_FramesBytes.l0.eq (N : Nat) (t14 : (List (Int × (Int × (Int × (Int × (Bool × (ByteArray × (List (Int × Int)))))))))) (t15 : Int) (out : ByteArray) (t16 : Int) : impl_FramesBytes.l0 (N + 1) t14 t15 out t16 =
 sel (decide (t16 < t15))
  (
  chk ((decide (0 ≤ t16)) && (decide (t16 < (t14.length : Int)))) (
  andK (impl_Frame_bytes N (rdS (.pair (.int .i64) (.pair (.int .i64) (.pair (.int .i64) (.pair (.int .i64) (.pair .bool (.pair .str (.rows (.pair (.int .i64) (.int .i64))))))))) t14 (Int.toNat t16)).1 (rdS (.pair (.int .i64) (.pair (.int .i64) (.pair (.int .i64) (.pair (.int .i64) (.pair .bool (.pair .str (.rows (.pair (.int .i64) (.int .i64))))))))) t14 (Int.toNat t16)).2.1 (rdS (.pair (.int .i64) (.pair (.int .i64) (.pair (.int .i64) (.pair (.int .i64) (.pair .bool (.pair .str (.rows (.pair (.int .i64) (.int .i64))))))))) t14 (Int.toNat t16)).2.2.1 (rdS (.pair (.int .i64) (.pair (.int .i64) (.pair (.int .i64) (.pair (.int .i64) (.pair .bool (.pair .str (.rows (.pair (.int .i64) (.int .i64))))))))) t14 (Int.toNat t16)).2.2.2.1 (rdS (.pair (.int .i64) (.pair (.int .i64) (.pair (.int .i64) (.pair (.int .i64) (.pair .bool (.pair .str (.rows (.pair (.int .i64) (.int .i64))))))))) t14 (Int.toNat t16)).2.2.2.2.1 (rdS (.pair (.int .i64) (.pair (.int .i64) (.pair (.int .i64) (.pair (.int .i64) (.pair .bool (.pair .str (.rows (.pair (.int .i64) (.int .i64))))))))) t14 (Int.toNat t16)).2.2.2.2.2.1 (rdS (.pair (.int .i64) (.pair (.int .i64) (.pair (.int .i64) (.pair (.int .i64) (.pair .bool (.pair .str (.rows (.pair (.int .i64) (.int .i64))))))))) t14 (Int.toNat t16)).2.2.2.2.2.2) fun u3 =>
  chk (decide (out.size + u3.1.1.size ≤ 9223372036854775807)) (
  impl_FramesBytes.l0 N t14 t15 (out ++ u3.1.1) (IntKind.i64.wrap (t16 + 1)))))
  (
  some (((out, ()), ()))) := by kernel_rfl
set_option maxRecDepth 100000 in
theorem impl_FramesBytes.eq (N : Nat) (l : (List (Int × (Int × (Int × (Int × (Bool × (ByteArray × (List (Int × Int)))))))))) : impl_FramesBytes N l =
 andK (α := ((Bool × Unit) × Unit)) (
  sel (decide (40 < (l.length : Int)))
   (
   some (((true, ()), ())))
   (
   andK (slices_ContainsFuncimpl_Frame_impl_Frame N l) fun u1 =>
   some ((u1.1, ())))) fun j2 =>
 sel j2.1.1
  (
  some (((⟨#[]⟩ : ByteArray), (false, ())), ()))
  (
  andK (impl_FramesBytes.l0 N l (l.length : Int) (⟨#[]⟩ : ByteArray) 0) fun l4 =>
  sel (decide (1500 < (l4.1.1.size : Int)))
   (
   some (((⟨#[]⟩ : ByteArray), (false, ())), ()))
   (
   some ((l4.1.1, (true, ())), ()))) := by kernel_rfl
set_option maxRecDepth 100000 in
theorem impl_FramesBytes.say (N : Nat) : SayOk Try.prog (impl_FramesBytes.S N) := sayOk_mk (N := N) (H := impl_FramesBytes.H) (preps := [⟨[], [], [], []⟩]) (l := impl_FramesBytes.says) (fn := Try.f15) (c := bodyOf Try.f15)
  (by kernel_rfl) (by kernel_rfl) (by kernel_rfl) (by kernel_rfl) (by kernel_rfl) (by kernel_rfl) (by kernel_rfl)
  (fun N => SayAll.cons (slices_ContainsFuncimpl_Frame_impl_Frame.say N) (SayAll.cons (impl_Frame_bytes.say N) (SayAll.nil))) (fun a s => by kernel_rfl)
noncomputable def impl_FramesBytes.SB (N : Nat) : Say := impl_FramesBytes.S N |>.lent
theorem impl_FramesBytes.sayB (N : Nat) : SayOk Try.prog (impl_FramesBytes.SB N) := (impl_FramesBytes.say N).lent

/-! ### loop.example/g00206/spec.FramesBytes: function 16 -/
noncomputable def spec_FramesBytes.H : Hints := hintsOf [(2000005, .loop ⟨.normal, [10, 11], [4, 12], [ak_s, ak_i], [], [⟨[], [], [], []⟩]⟩ [⟨.ret, [], [2, 3], [ak_s, ak_b], [], [⟨[], [], [], []⟩]⟩, ⟨(.exit 0), [], [4], [ak_s], [], [⟨[], [], [], []⟩]⟩])]
noncomputable def spec_FramesBytes.says (N : Nat) : List Say := [spec_GoodFrame.S N, spec_l1Bytes.S N]
noncomputable def spec_FramesBytes.call (N : Nat) : CallK := callBy (spec_FramesBytes.says N)
noncomputable def spec_FramesBytes.qt (N : Nat) : FuncId → List PV → Sig → Cl := qtBy (spec_FramesBytes.says N)
noncomputable def spec_FramesBytes.l0.hd : Alt := ⟨.normal, [10, 11], [4, 12], [ak_s, ak_i], [], [⟨[], [], [], []⟩]⟩
noncomputable def spec_FramesBytes.l0.outs : List Alt := [⟨.ret, [], [2, 3], [ak_s, ak_b], [], [⟨[], [], [], []⟩]⟩, ⟨(.exit 0), [], [4], [ak_s], [], [⟨[], [], [], []⟩]⟩]
noncomputable def spec_FramesBytes.l0 (N : Nat) (t10 : (List (Int × (Int × (Int × (Int × (Bool × (ByteArray × (List (Int × Int)))))))))) (t11 : Int) (s : ByteArray) (t12 : Int) : Option (((ByteArray × (Bool × Unit)) × Unit) ⊕ ((ByteArray × Unit) × Unit)) :=
  loopK Try.prog spec_FramesBytes.call spec_FramesBytes.qt spec_FramesBytes.H (codeAt (bodyOf Try.f16) [1, 1, 1, 0, 1, 0, 0]) 0 spec_FramesBytes.l0.hd spec_FramesBytes.l0.outs [(10, .rows false (.pair (.int .i64) (.pair (.int .i64) (.pair (.int .i64) (.pair (.int .i64) (.pair .bool (.pair .str (.rows (.pair (.int .i64) (.int .i64))))))))) t10), (11, .v (.int .i64 t11))] N ((s, (t12, ())), ())
noncomputable def spec_FramesBytes (N : Nat) (l : (List (Int × (Int × (Int × (Int × (Bool × (ByteArray × (List (Int × Int)))))))))) : Option ((ByteArray × (Bool × Unit)) × Unit) :=
  ofFn Try.prog spec_FramesBytes.call spec_FramesBytes.qt spec_FramesBytes.H N Try.f16 [.one (.sh (.rows (.pair (.int .i64) (.pair (.int .i64) (.pair (.int .i64) (.pair (.int .i64) (.pair .bool (.pair .str (.rows (.pair (.int .i64) (.int .i64)))))))))))] [] [ak_s, ak_b] [] [⟨[], [], [], []⟩] (l, ()) ()
noncomputable def spec_FramesBytes.S (N : Nat) : Say := ⟨false, 16, [.one (.sh (.rows (.pair (.int .i64) (.pair (.int .i64) (.pair (.int .i64) (.pair (.int .i64) (.pair .bool (.pair .str (.rows (.pair (.int .i64) (.int .i64)))))))))))], [], [ak_s, ak_b], [], fun a s => spec_FramesBytes N a.1⟩
set_option maxRecDepth 100000 in
theorem spec_FramesBytes.l0.eq (N : Nat) (t10 : (List (Int × (Int × (Int × (Int × (Bool × (ByteArray × (List (Int × Int)))))))))) (t11 : Int) (s : ByteArray) (t12 : Int) : spec_FramesBytes.l0 (N + 1) t10 t11 s t12 =
 sel (decide (t12 < t11))
  (
  chk ((decide (0 ≤ t12)) && (decide (t12 < (t10.length : Int)))) (
  andK (spec_GoodFrame N (rdS (.pair (.int .i64) (.pair (.int .i64) (.pair (.int .i64) (.pair (.int .i64) (.pair .bool (.pair .str (.rows (.pair (.int .i64) (.int .i64))))))))) t10 (Int.toNat t12)).1 (rdS (.pair (.int .i64) (.pair (.int .i64) (.pair (.int .i64) (.pair (.int .i64) (.pair .bool (.pair .str (.rows (.pair (.int .i64) (.int .i64))))))))) t10 (Int.toNat t12)).2.1 (rdS (.pair (.int .i64) (.pair (.int .i64) (.pair (.int .i64) (.pair (.int .i64) (.pair .bool (.pair .str (.rows (.pair (.int .i64) (.int .i64))))))))) t10 (Int.toNat t12)).2.2.1 (rdS (.pair (.int .i64) (.pair (.int .i64) (.pair (.int .i64) (.pair (.int .i64) (.pair .bool (.pair .str (.rows (.pair (.int .i64) (.int .i64))))))))) t10 (Int.toNat t12)).2.2.2.1 (rdS (.pair (.int .i64) (.pair (.int .i64) (.pair (.int .i64) (.pair (.int .i64) (.pair .bool (.pair .str (.rows (.pair (.int .i64) (.int .i64))))))))) t10 (Int.toNat t12)).2.2.2.2.1 (rdS (.pair (.int .i64) (.pair (.int .i64) (.pair (.int .i64) (.pair (.int .i64) (.pair .bool (.pair .str (.rows (.pair (.int .i64) (.int .i64))))))))) t10 (Int.toNat t12)).2.2.2.2.2.1 (rdS (.pair (.int .i64) (.pair (.int .i64) (.pair (.int .i64) (.pair (.int .i64) (.pair .bool (.pair .str (.rows (.pair (.int .i64) (.int .i64))))))))) t10 (Int.toNat t12)).2.2.2.2.2.2) fun u1 =>
  sel (!u1.1.1)
   (
   some (.inl (((⟨#[]⟩ : ByteArray), (false, ())), ())))
   (
   andK (spec_l1Bytes N (rdS (.pair (.int .i64) (.pair (.int .i64) (.pair (.int .i64) (.pair (.int .i64) (.pair .bool (.pair .str (.rows (.pair (.int .i64) (.int .i64))))))))) t10 (Int.toNat t12)).1 (rdS (.pair (.int .i64) (.pair (.int .i64) (.pair (.int .i64) (.pair (.int .i64) (.pair .bool (.pair .str (.rows (.pair (.int .i64) (.int .i64))))))))) t10 (Int.toNat t12)).2.1 (rdS (.pair (.int .i64) (.pair (.int .i64) (.pair (.int .i64) (.pair (.int .i64) (.pair .bool (.pair .str (.rows (.pair (.int .i64) (.int .i64))))))))) t10 (Int.toNat t12)).2.2.1 (rdS (.pair (.int .i64) (.pair (.int .i64) (.pair (.int .i64) (.pair (.int .i64) (.pair .bool (.pair .str (.rows (.pair (.int .i64) (.int .i64))))))))) t10 (Int.toNat t12)).2.2.2.1 (rdS (.pair (.int .i64) (.pair (.int .i64) (.pair (.int .i64) (.pair (.int .i64) (.pair .bool (.pair .str (.rows (.pair (.int .i64) (.int .i64))))))))) t10 (Int.toNat t12)).2.2.2.2.1 (rdS (.pair (.int .i64) (.pair (.int .i64) (.pair (.int .i64) (.pair (.int .i64) (.pair .bool (.pair .str (.rows (.pair (.int .i64) (.int .i64))))))))) t10 (Int.toNat t12)).2.2.2.2.2.1 (rdS (.pair (.int .i64) (.pair (.int .i64) (.pair (.int .i64) (.pair (.int .i64) (.pair .bool (.pair .str (.rows (.pair (.int .i64) (.int .i64))))))))) t10 (Int.toNat t12)).2.2.2.2.2.2) fun u2 =>
   chk (decide (s.size + u2.1.1.size ≤ 9223372036854775807)) (
   spec_FramesBytes.l0 N t10 t11 (s ++ u2.1.1) (IntKind.i64.wrap (t12 + 1))))))
  (
  some (.inr (((s, ()), ())))) := by kernel_rfl
set_option maxRecDepth 100000 in
theorem spec_FramesBytes.eq (N : Nat) (l : (List (Int × (Int × (Int × (Int × (Bool × (ByteArray × (List (Int × Int)))))))))) : spec_FramesBytes N l =
 sel (decide (40 < (l.length : Int)))
  (
  some (((⟨#[]⟩ : ByteArray), (false, ())), ()))
  (
  andK (spec_FramesBytes.l0 N l (l.length : Int) (⟨#[]⟩ : ByteArray) 0) fun l3 =>
  orK l3 (fun x4 =>
   some (x4.1, ()))
   (fun x5 =>
   sel (decide (1500 < (x5.1.1.size : Int)))
    (
    some (((⟨#[]⟩ : ByteArray), (false, ())), ()))
    (
    some ((x5.1.1, (true, ())), ())))) := by kernel_rfl
set_option maxRecDepth 100000 in
theorem spec_FramesBytes.say (N : Nat) : SayOk Try.prog (spec_FramesBytes.S N) := sayOk_mk (N := N) (H := spec_FramesBytes.H) (preps := [⟨[], [], [], []⟩]) (l := spec_FramesBytes.says) (fn := Try.f16) (c := bodyOf Try.f16)
  (by kernel_rfl) (by kernel_rfl) (by kernel_rfl) (by kernel_rfl) (by kernel_rfl) (by kernel_rfl) (by kernel_rfl)
  (fun N => SayAll.cons (spec_GoodFrame.say N) (SayAll.cons (spec_l1Bytes.say N) (SayAll.nil))) (fun a s => by kernel_rfl)
noncomputable def spec_FramesBytes.SB (N : Nat) : Say := spec_FramesBytes.S N |>.lent
theorem spec_FramesBytes.sayB (N : Nat) : SayOk Try.prog (spec_FramesBytes.SB N) := (spec_FramesBytes.say N).lent

/-! ### loop.example/g00206/impl.ReadFrames: function 17 -/
noncomputable def impl_ReadFrames.H : Hints := hintsOf [(2000004, .loop ⟨.normal, [], [0, 4], [ak_s, .one (.own 0)], [.rows (.pair (.int .i64) (.pair (.int .i64) (.pair (.int .i64) (.pair (.int .i64) (.pair .bool (.pair .str (.rows (.pair (.int .i64) (.int .i64)))))))))], [⟨[(4, (.pair (.int .i64) (.pair (.int .i64) (.pair (.int .i64) (.pair (.int .i64) (.pair .bool (.pair .str (.rows (.pair (.int .i64) (.int .i64))))))))))], [], [], [0]⟩, ⟨[], [], [], [0]⟩]⟩ [⟨.ret, [], [2, 3], [.one .nil, ak_i], [], [⟨[], [], [], []⟩]⟩, ⟨(.exit 0), [], [4], [.one (.own 0)], [.rows (.pair (.int .i64) (.pair (.int .i64) (.pair (.int .i64) (.pair (.int .i64) (.pair .bool (.pair .str (.rows (.pair (.int .i64) (.int .i64)))))))))], [⟨[], [], [], [0]⟩]⟩])]
noncomputable def impl_ReadFrames.says (N : Nat) : List Say := [impl_ReadFrame.S N]
noncomputable def impl_ReadFrames.call (N : Nat) : CallK := callBy (impl_ReadFrames.says N)
noncomputable def impl_ReadFrames.qt (N : Nat) : FuncId → List PV → Sig → Cl := qtBy (impl_ReadFrames.says N)
noncomputable def impl_ReadFrames.l0.hd : Alt := ⟨.normal, [], [0, 4], [ak_s, .one (.own 0)], [.rows (.pair (.int .i64) (.pair (.int .i64) (.pair (.int .i64) (.pair (.int .i64) (.pair .bool (.pair .str (.rows (.pair (.int .i64) (.int .i64)))))))))], [⟨[(4, (.pair (.int .i64) (.pair (.int .i64) (.pair (.int .i64) (.pair (.int .i64) (.pair .bool (.pair .str (.rows (.pair (.int .i64) (.int .i64))))))))))], [], [], [0]⟩, ⟨[], [], [], [0]⟩]⟩
noncomputable def impl_ReadFrames.l0.outs : List Alt := [⟨.ret, [], [2, 3], [.one .nil, ak_i], [], [⟨[], [], [], []⟩]⟩, ⟨(.exit 0), [], [4], [.one (.own 0)], [.rows (.pair (.int .i64) (.pair (.int .i64) (.pair (.int .i64) (.pair (.int .i64) (.pair .bool (.pair .str (.rows (.pair (.int .i64) (.int .i64)))))))))], [⟨[], [], [], [0]⟩]⟩]
noncomputable def impl_ReadFrames.l0 (N : Nat) (s1 : ByteArray) (p0 : (List (Int × (Int × (Int × (Int × (Bool × (ByteArray × (List (Int × Int)))))))))) : Option (((Unit × (Int × Unit)) × Unit) ⊕ ((Unit × Unit) × ((List (Int × (Int × (Int × (Int × (Bool × (ByteArray × (List (Int × Int))))))))) × Unit))) :=
  loopK Try.prog impl_ReadFrames.call impl_ReadFrames.qt impl_ReadFrames.H (codeAt (bodyOf Try.f17) [1, 1, 1, 0, 0, 0]) 0 impl_ReadFrames.l0.hd impl_ReadFrames.l0.outs [] N ((s1, ((), ())), (p0, ()))
noncomputable def impl_ReadFrames (N : Nat) (s : ByteArray) : Option ((Unit × (Int × Unit)) × ((List (Int × (Int × (Int × (Int × (Bool × (ByteArray × (List (Int × Int))))))))) × Unit)) :=
  ofFn Try.prog impl_ReadFrames.call impl_ReadFrames.qt impl_ReadFrames.H N Try.f17 [ak_s] [] [.one (.own 0), ak_i] [.rows (.pair (.int .i64) (.pair (.int .i64) (.pair (.int .i64) (.pair (.int .i64) (.pair .bool (.pair .str (.rows (.pair (.int .i64) (.int .i64)))))))))] [⟨[(0, (.pair (.int .i64) (.pair (.int .i64) (.pair (.int .i64) (.pair (.int .i64) (.pair .bool (.pair .str (.rows (.pair (.int .i64) (.int .i64))))))))))], [], [], [0]⟩, ⟨[], [], [], [0]⟩] (s, ()) ()
noncomputable def impl_ReadFrames.S (N : Nat) : Say := ⟨false, 17, [ak_s], [], [.one (.own 0), ak_i], [.rows (.pair (.int .i64) (.pair (.int .i64) (.pair (.int .i64) (.pair (.int .i64) (.pair .bool (.pair .str (.rows (.pair (.int .i64) (.int .i64)))))))))], fun a s => impl_ReadFrames N a.1⟩
set_option maxRecDepth 100000 in
theorem impl_ReadFrames.l0.eq (N : Nat) (s1 : ByteArray) (p0 : (List (Int × (Int × (Int × (Int × (Bool × (ByteArray × (List (Int × Int)))))))))) : impl_ReadFrames.l0 (N + 1) s1 p0 =
 sel (!(decide (s1 = (⟨#[]⟩ : ByteArray))))
  (
  sel (decide ((p0.length : Int) = 40))
   (
   some (.inl (((), (4, ())), ())))
   (
   andK (impl_ReadFrame N s1) fun u1 =>
   sel (!(decide (u1.1.2.2.1 = 0)))
    (
    some (.inl (((), (u1.1.2.2.1, ())), ())))
    (
    chk (decide (p0.length + 1 < most)) (
    chk ((decide (0 ≤ u1.1.2.1)) && ((decide (u1.1.2.1 ≤ (s1.size : Int))) && (decide ((s1.size : Int) ≤ (s1.size : Int))))) (
    impl_ReadFrames.l0 N (s1.extract (Int.toNat u1.1.2.1) (Int.toNat (s1.size : Int))) (p0 ++ [(u1.1.1.1, (u1.1.1.2.1, (u1.1.1.2.2.1, (u1.1.1.2.2.2.1, (u1.1.1.2.2.2.2.1, (u1.1.1.2.2.2.2.2.1, u1.1.1.2.2.2.2.2.2.1))))))]))))))
  (
  some (.inr ((((), ()), (p0, ()))))) := by kernel_rfl
set_option maxRecDepth 100000 in
theorem impl_ReadFrames.eq (N : Nat) (s : ByteArray) : impl_ReadFrames N s =
 sel (decide (1500 < (s.size : Int)))
  (
  some (((), (4, ())), ([], ())))
  (
  andK (impl_ReadFrames.l0 N s []) fun l2 =>
  orK l2 (fun x3 =>
   some (x3.1, ([], ())))
   (fun x4 =>
   some (((), (0, ())), x4.2))) := by kernel_rfl
set_option maxRecDepth 100000 in
theorem impl_ReadFrames.say (N : Nat) : SayOk Try.prog (impl_ReadFrames.S N) := sayOk_mk (N := N) (H := impl_ReadFrames.H) (preps := [⟨[(0, (.pair (.int .i64) (.pair (.int .i64) (.pair (.int .i64) (.pair (.int .i64) (.pair .bool (.pair .str (.rows (.pair (.int .i64) (.int .i64))))))))))], [], [], [0]⟩, ⟨[], [], [], [0]⟩]) (l := impl_ReadFrames.says) (fn := Try.f17) (c := bodyOf Try.f17)
  (by kernel_rfl) (by kernel_rfl) (by kernel_rfl) (by kernel_rfl) (by kernel_rfl) (by kernel_rfl) (by kernel_rfl)
  (fun N => SayAll.cons (impl_ReadFrame.say N) (SayAll.nil)) (fun a s => by kernel_rfl)

end Go.Proofs.Ytbfkfhadcmpndaa.GFnFrames
