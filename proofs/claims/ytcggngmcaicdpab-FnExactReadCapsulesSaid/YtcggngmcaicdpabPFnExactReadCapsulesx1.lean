-- Written by a program of this session out of the translation; Lean checks it.
import Derived.Test.YtcggngmcaicdpabPFnExactReadCapsulesx0
namespace Go.Proofs.Ytcggngmcaicdpab.PFnExactReadCapsules
open Go.RowKit Go.Proofs.YtcggngmcaicdpabW.PrintWords Go.Proofs.YtcggngmcaicdpabW.PrintLast Go.Proofs.YtcggngmcaicdpabW.PrintMore
attribute [local go_sem] max2_int min2_int max_two min_two max_three min_three max_four min_four   -- for this text's walks alone
set_option linter.unusedVariables false
set_option linter.unusedSimpArgs false

/-! ### spec_l1Big: function 91 -/
def spec_l1Big.l0 : Nat → ByteArray → Int → Int → Option (Int)
 | 0, _, _, _ => none
 | k + 1, x0, x3, x4 => if x4 < (x0.size : Int) then (if 0 ≤ x4 then (spec_l1Big.l0 k x0 (Go.bits .or .i64 (wrap64 (x3 * 256)) (wrap64 (bt x0 x4))) (wrap64 (x4 + 1))) else (none)) else (some x3)
def spec_l1Big.f (k : Nat) (a0 : ByteArray) : Option (Int) := spec_l1Big.l0 k a0 0 0
theorem spec_l1Big.mono_l : ∀ k, (∀ y0 y1 y2, LeO (spec_l1Big.l0 k y0 y1 y2) (spec_l1Big.l0 (k + 1) y0 y1 y2))
 | 0 => fun _ _ _ r h => by simp [spec_l1Big.l0] at h
 | k + 1 => by
  have ih0 := spec_l1Big.mono_l k
  ·intro y0 y1 y2
   unfold spec_l1Big.l0
   repeat' first
   | (with_reducible exact ih0 _ _ _)
   | (with_reducible exact LeO.refl _)
   | (with_reducible exact LeO.none _)
   | (with_reducible refine LeO.ite ?_ ?_)
   | (with_reducible refine LeO.bind ?_ (fun _ => ?_))
   | exact ih0 _ _ _
   | exact LeO.none _
   | refine LeO.ite ?_ ?_
   | refine LeO.bind ?_ (fun _ => ?_)
theorem spec_l1Big.mono : ∀ a0 k, LeO (spec_l1Big.f k a0) (spec_l1Big.f (k + 1) a0) := by
 intro a0 k
 have ih0 := spec_l1Big.mono_l k
 unfold spec_l1Big.f
 repeat' first
   | (with_reducible exact ih0 _ _ _)
   | (with_reducible exact LeO.refl _)
   | (with_reducible exact LeO.none _)
   | (with_reducible refine LeO.ite ?_ ?_)
   | (with_reducible refine LeO.bind ?_ (fun _ => ?_))
   | exact ih0 _ _ _
   | exact LeO.none _
   | refine LeO.ite ?_ ?_
   | refine LeO.bind ?_ (fun _ => ?_)
set_option maxHeartbeats 8000000 in
set_option maxRecDepth 100000 in
theorem spec_l1Big.calls (k : Nat) (a0 : ByteArray) (r : Int) (w : World) (h : spec_l1Big.f k a0 = some r) :
  Calls Try.prog 91 #[.string a0] w fun e w' => e = .returned (.int .i64 r) ∧ Drawn0 w w' := by
 have H : (spec_l1Big.l0 k a0 0 0) = some r := h
 clear h
 have H' := Aside0.mk H
 clear H
 go_enter Try.func91, Try.ntmps91
 go_wp2
 go_loopg [3, 4] k (fun kq v3 v4 w' => ∃ (x3_1 : Int) (x4_1 : Int), v3 = .int .i64 x3_1 ∧ v4 = .int .i64 x4_1 ∧ Aside0 (spec_l1Big.l0 kq a0 x3_1 x4_1 = some r) ∧ Aside0 (kq ≤ k) ∧ Drawn0 w w')
 case atStart => exact ⟨(0), (0), (by first | rfl | (simp; done) | (simp [*]; done)), (by first | rfl | (simp; done) | (simp [*]; done)), H', ⟨Nat.le_refl _⟩, by repeat (first | exact Drawn0.refl _ | apply Drawn0.step)⟩
 case round =>
  clear H'
  obtain ⟨x3_1, x4_1, rfl, rfl, HA, HK1, ⟨m1, rfl⟩⟩ := hrel
  cases gk with
  | zero => exact absurd HA.out (by simp [spec_l1Big.l0])
  | succ k1 =>
   have H := HA.out
   clear HA
   simp only [spec_l1Big.l0] at H
   by_cases c2 : x4_1 < (a0.size : Int)
   ·rw [if_pos c2] at H
    have c2b0 : decide (x4_1 < (a0.size : Int)) = true := decide_eq_true c2
    clear c2
    by_cases c3 : 0 ≤ x4_1
    ·rw [if_pos c3] at H
     have c3b0 : decide (0 ≤ x4_1) = true := decide_eq_true c3
     clear c3
     have H' := Aside0.mk H
     clear H
     have p4 : 0 ≤ (x4_1 : Int) := of_decide_eq_true (by first | (with_reducible assumption) | assumption)
     have q4 : x4_1 < (a0.size : Int) := of_decide_eq_true (by first | (with_reducible assumption) | assumption)
     have hx4 := bt_at a0 x4_1
     replace p4 := eq_true p4
     replace q4 := eq_true q4
     go_wp2
     go_roundg k1
     case measure => have := HK1.out; omega
     case rel => exact ⟨(Go.bits .or .i64 (wrap64 (x3_1 * 256)) (wrap64 (bt a0 x4_1))), (wrap64 (x4_1 + 1)), (by first | rfl | (simp; done) | (simp [*]; done)), (by first | rfl | (simp; done) | (simp [*]; done)), H', ⟨by have := HK1.out; omega⟩, by repeat (first | exact Drawn0.refl _ | apply Drawn0.step)⟩
    ·rw [if_neg c3] at H
     exact absurd H (by simp)
   ·rw [if_neg c2] at H
    have c2b0 : decide (x4_1 < (a0.size : Int)) = false := decide_eq_false c2
    clear c2
    obtain rfl := Option.some.inj H
    go_wp2
    go_ret
    exact ⟨by first | rfl | (simp; done) | (simp [*]; done), by repeat (first | exact Drawn0.refl _ | apply Drawn0.step)⟩

/-! ### spec_l1Take: function 95 -/
/-- As the print would write it: '[]byte(s)' is the one thing that it lacks. -/
def spec_l1Take.m (a0 : ByteArray) : Nat := 2 ^ ((bt a0 0) / 64).toNat
def spec_l1Take.f (k : Nat) (a0 : ByteArray) : Option (Int × Int) :=
 if a0.size = 0 then some (0, 0) else
 if a0.size < spec_l1Take.m a0 then some (0, 0) else
 (spec_l1Big.f k (strOfNums ((Go.Proofs.Ytcggngmcaicdpab.B.B (a0.extract 0 (spec_l1Take.m a0))).set 0 (bits .and .u8 (bt a0 0) 63)))).bind fun t => some (t, (spec_l1Take.m a0 : Int))
theorem spec_l1Take.mono : ∀ a0 k, LeO (spec_l1Take.f k a0) (spec_l1Take.f (k + 1) a0) := by
 intro a0 k
 unfold spec_l1Take.f
 exact LeO.ite (LeO.refl _) (LeO.ite (LeO.refl _) (LeO.bind (spec_l1Big.mono _ k) (fun _ => LeO.refl _)))
theorem spec_l1Take.m_le (a0 : ByteArray) : (1 ≤ spec_l1Take.m a0 ∧ spec_l1Take.m a0 ≤ 8) ∧ wrap64 (2 ^ min (IntKind.u64.wrap (bt a0 0 / 64)).toNat 64) = (spec_l1Take.m a0 : Int) := by
 obtain ⟨h0, h1⟩ := bt_range a0 0
 unfold spec_l1Take.m
 have : bt a0 0 / 64 = 0 ∨ bt a0 0 / 64 = 1 ∨ bt a0 0 / 64 = 2 ∨ bt a0 0 / 64 = 3 := by omega
 rcases this with e | e | e | e <;> rw [e] <;> exact ⟨by decide, by simp [wrap64, IntKind.wrap, IntKind.signed, IntKind.bits]⟩
set_option maxHeartbeats 8000000 in
set_option maxRecDepth 100000 in
theorem spec_l1Take.calls (k : Nat) (a0 : ByteArray) (r1 : Int) (r2 : Int) (w : World) (h : spec_l1Take.f k a0 = some (r1, r2)) :
  Calls Try.prog 95 #[.string a0] w fun e w' => e = .returned (.tuple #[.int .i64 r1, .int .i64 r2]) ∧ Below w.heap.size w w' := by
 unfold spec_l1Take.f at h
 by_cases c1 : a0.size = 0
 ·rw [if_pos c1] at h
  simp only [Option.some.injEq, Prod.mk.injEq] at h
  obtain ⟨rfl, rfl⟩ := h
  obtain rfl : a0 = (⟨#[]⟩ : ByteArray) := by
   have : a0.data.size = 0 := c1
   cases a0 with | mk d => simp at this; subst this; rfl
  go_enter Try.func95, Try.ntmps95
  go_wp2
  go_ret2
  exact ⟨rfl, Below.refl _ _⟩
 ·rw [if_neg c1] at h
  have hz : 0 < a0.size := Nat.pos_of_ne_zero c1
  have q0 : (0 : Int) < (a0.size : Int) := by omega
  have hx : ∀ h : 0 < a0.size, ((a0[0]'h).toNat : Int) = bt a0 0 := bt_at a0 0
  have c2b0 : a0.toList.isEmpty = false := by
   cases hd : a0.toList with
   | nil => exact absurd (by have := congrArg List.length hd; rw [ByteArray.toList_eq] at this; simpa using this) c1
   | cons x t => rfl
  obtain ⟨⟨hm1, hm8⟩, hm⟩ := spec_l1Take.m_le a0
  generalize hM : spec_l1Take.m a0 = M at h hm1 hm8 hm
  by_cases c2 : a0.size < M
  ·rw [if_pos c2] at h
   simp only [Option.some.injEq, Prod.mk.injEq] at h
   obtain ⟨rfl, rfl⟩ := h
   have c3 : decide ((a0.size : Int) < (M : Int)) = true := decide_eq_true (by omega)
   go_enter Try.func95, Try.ntmps95
   go_wp2
   go_ret2
   exact ⟨rfl, Below.refl _ _⟩
  ·rw [if_neg c2] at h
   have c3 : decide ((a0.size : Int) < (M : Int)) = false := decide_eq_false (by omega)
   have c4 : decide (0 ≤ (M : Int)) = true := decide_eq_true (by omega)
   have c5 : ((M : Int) ≤ (a0.size : Int)) = True := eq_true (by omega)
   replace h := Option.bind_eq_some_iff.mp h
   obtain ⟨t, A, h⟩ := h
   simp only [Option.some.injEq, Prod.mk.injEq] at h
   obtain ⟨rfl, rfl⟩ := h
   generalize hy : a0.extract 0 M = y at A
   have hyn : y.size = M := by rw [← hy, ByteArray.size_extract]; omega
   have hbl : (Go.Proofs.Ytcggngmcaicdpab.B.B y).length = M := by rw [Go.Proofs.Ytcggngmcaicdpab.B.B_length, hyn]
   have hb0 : (Go.Proofs.Ytcggngmcaicdpab.B.B y).getD 0 0 = bt a0 0 := by
    rw [← hy, Go.Proofs.Ytcggngmcaicdpab.B.B_extract, Go.Proofs.Ytcggngmcaicdpab.B.bt_B a0 0 hz, List.drop_zero, List.getD_eq_getElem?_getD, List.getElem?_take_of_lt hm1]
    rw [rd, List.getD_eq_getElem?_getD]
    rfl
   have q1 : ((0 : Int) < (y.size : Int)) = True := eq_true (by omega)
   have q2 : ((y.size : Int) ≤ 0) = False := eq_false (by omega)
   go_enter Try.func95, Try.ntmps95
   go_wp2_with (first | ((with_reducible refine gate_dst (N := 20) rfl ?_); refine Go.Proofs.Ytcggngmcaicdpab.CR.conv_event ?hg (N := 20) ?hd 9 22 5 (.tmp 19) y ?ho ?hx ?h1 ?h2 ?h3 ?_; (case hd => rfl); (case hg => rfl); (case ho => rfl); (case h1 => kernel_rfl); (case h2 => kernel_rfl); (case h3 => kernel_rfl); (case hx => first | (go_simp; done) | (go_simp; rfl)); intro g cap w1 hg hrow hb; have hgl : w.heap.size ≤ g := (by omega); clear hg; refine Aside0.out ?_))
   refine ⟨?_⟩
   have hc := hrow.cell 0 (by omega)
   rw [hb0] at hc
   obtain ⟨hc1, hc2⟩ := hc
   have hrow2 := hrow.set 0 (bits .and .u8 (bt a0 0) 63)
   have hb2 := below_set (v := .int .u8 (bits .and .u8 (bt a0 0) 63)) (j := 0) hb hgl
   go_wp2_with (first | ((with_reducible refine gate_dst (N := 27) rfl ?_); refine Aside0.out ?_))
   refine ⟨?_⟩
   refine Go.Proofs.Ytcggngmcaicdpab.CR.string_event ?hg (N := 27) ?hd 22 9 5 5 (.tmp 26) (n := M) (cap := cap) hrow2 (by rw [List.length_set, hbl]) (by omega) ?ho ?hx ?h1 ?h2 ?h3 ?_
   case hd => rfl
   case hg => rfl
   case ho => rfl
   case h1 => kernel_rfl
   case h2 => kernel_rfl
   case h3 => kernel_rfl
   case hx => first | rfl | (go_simp; done) | (go_simp; rfl)
   clear hc1 hc2 hrow hb
   go_wp2_with (first | ((with_reducible refine gate_callee (f := 91) rfl ?_); refine Aside0.out ?_))
   refine ⟨?_⟩
   refine goesL_ (some 28) rfl rfl Try.func91 (by kernel_rfl) rfl #[.string (strOfNums ((Go.Proofs.Ytcggngmcaicdpab.B.B y).set 0 (bits .and .u8 (bt a0 0) 63)))] rfl (by (try simp only [List.map_toArray, List.map_cons, List.map_nil]); first | done | rfl) ?_
   refine (spec_l1Big.calls k _ t _ A).mono ?_
   rintro e w3 ⟨rfl, ⟨n3, rfl⟩⟩
   refine ⟨_, rfl, ?_⟩
   go_wp2
   go_ret2
   exact ⟨rfl, pw_below_drewN hb2 _⟩

/-! ### spec_l16Read: function 77 -/
def spec_l16Read.l0 : Nat → ByteArray → List (S100) → Int → Option ((List (S100)) × Int × Bool)
 | 0, _, _, _ => none
 | k + 1, x0, x5, x6 => if 0 ≤ x6 then (if x6 ≤ (x0.size : Int) then ((spec_l1Take.f k (x0.extract (x6 : Int).toNat x0.size)).bind fun bt101 => (if bt101.2 = 0 then (some (x5, x6, true)) else (if 0 ≤ (wrap64 (x6 + bt101.2)) then (if (wrap64 (x6 + bt101.2)) ≤ (x0.size : Int) then ((spec_l1Take.f k (x0.extract ((wrap64 (x6 + bt101.2)) : Int).toNat x0.size)).bind fun bt103 => (if bt103.2 = 0 then (some (x5, x6, true)) else (if bt103.1 > 200 then (some (([] : List (S100)), 0, false)) else (if bt103.1 > (wrap64 ((x0.size : Int) - (wrap64 ((wrap64 (x6 + bt101.2)) + bt103.2)))) then (some (x5, x6, true)) else (if (x5.length : Int) = 30 then (some (([] : List (S100)), 0, false)) else (if 0 ≤ (wrap64 ((wrap64 (x6 + bt101.2)) + bt103.2)) then (if (wrap64 ((wrap64 (x6 + bt101.2)) + bt103.2)) ≤ (wrap64 ((wrap64 ((wrap64 (x6 + bt101.2)) + bt103.2)) + bt103.1)) then (if (wrap64 ((wrap64 ((wrap64 (x6 + bt101.2)) + bt103.2)) + bt103.1)) ≤ (x0.size : Int) then (if x5.length < 5864062014805 then (spec_l16Read.l0 k x0 (x5 ++ [(⟨bt101.1, x0.extract ((wrap64 ((wrap64 (x6 + bt101.2)) + bt103.2)) : Int).toNat ((wrap64 ((wrap64 ((wrap64 (x6 + bt101.2)) + bt103.2)) + bt103.1)) : Int).toNat⟩ : S100)]) (wrap64 ((wrap64 ((wrap64 (x6 + bt101.2)) + bt103.2)) + bt103.1))) else (none)) else (none)) else (none)) else (none))))))) else (none)) else (none)))) else (none)) else (none)
def spec_l16Read.f (k : Nat) (a0 : ByteArray) : Option ((List (S100)) × Int × Bool) := spec_l16Read.l0 k a0 ([] : List (S100)) 0
theorem spec_l16Read.mono_l : ∀ k, (∀ y0 y1 y2, LeO (spec_l16Read.l0 k y0 y1 y2) (spec_l16Read.l0 (k + 1) y0 y1 y2))
 | 0 => fun _ _ _ r h => by simp [spec_l16Read.l0] at h
 | k + 1 => by
  have ih0 := spec_l16Read.mono_l k
  ·intro y0 y1 y2
   unfold spec_l16Read.l0
   repeat' first
   | (with_reducible exact ih0 _ _ _)
   | (with_reducible exact spec_l1Take.mono _ _)
   | (with_reducible exact LeO.refl _)
   | (with_reducible exact LeO.none _)
   | (with_reducible refine LeO.ite ?_ ?_)
   | (with_reducible refine LeO.bind ?_ (fun _ => ?_))
   | exact ih0 _ _ _
   | exact spec_l1Take.mono _ _
   | exact LeO.none _
   | refine LeO.ite ?_ ?_
   | refine LeO.bind ?_ (fun _ => ?_)
theorem spec_l16Read.mono : ∀ a0 k, LeO (spec_l16Read.f k a0) (spec_l16Read.f (k + 1) a0) := by
 intro a0 k
 have ih0 := spec_l16Read.mono_l k
 unfold spec_l16Read.f
 repeat' first
   | (with_reducible exact ih0 _ _ _)
   | (with_reducible exact spec_l1Take.mono _ _)
   | (with_reducible exact LeO.refl _)
   | (with_reducible exact LeO.none _)
   | (with_reducible refine LeO.ite ?_ ?_)
   | (with_reducible refine LeO.bind ?_ (fun _ => ?_))
   | exact ih0 _ _ _
   | exact spec_l1Take.mono _ _
   | exact LeO.none _
   | refine LeO.ite ?_ ?_
   | refine LeO.bind ?_ (fun _ => ?_)
set_option maxHeartbeats 8000000 in
set_option maxRecDepth 100000 in
theorem spec_l16Read.calls (k : Nat) (a0 : ByteArray) (r1 : List (S100)) (r2 : Int) (r3 : Bool) (w : World) (h : spec_l16Read.f k a0 = some (r1, r2, r3)) :
  Calls Try.prog 77 #[.string a0] w fun e w' => ∃ v0_ : Value, e = .returned (.tuple #[v0_, .int .i64 r2, .bool r3]) ∧ Kd.R k100 100 w' w.heap.size (fun _ => True) v0_ r1 ∧ Below w.heap.size w w' := by
 have hu100 := Try.underlying100
 have HB := Aside0.mk (Below.refl w.heap.size w)
 have H : (spec_l16Read.l0 k a0 ([] : List (S100)) 0) = some (r1, r2, r3) := h
 clear h
 have H' := Aside0.mk H
 clear H
 go_enter Try.func77, Try.ntmps77
 go_wp2
 go_loopg [5, 6] k (fun kq v5 v6 w' => ∃ (x5_1 : List (S100)) (x6_1 : Int), v6 = .int .i64 x6_1 ∧ Aside0 (spec_l16Read.l0 kq a0 x5_1 x6_1 = some (r1, r2, r3)) ∧ Aside0 (kq ≤ k) ∧ Aside0 (Kd.R k100 100 w' w.heap.size (fun _ => True) v5 x5_1) ∧ Aside0 (Below w.heap.size w w'))
 case atStart => exact ⟨(([] : List (S100))), (0), (by first | rfl | (simp; done) | (simp [*]; done)), H', ⟨Nat.le_refl _⟩, ⟨by first | exact Kd.R_nil _ _ _ _ _ | exact Kd.N_nil _ _ _ _ _ | exact Kd.V_nil _ _ _ _ _ | exact Kd.Q_nil _ _ _ _ _ | exact Kd.S_nil _ _ _ _ _⟩, ⟨by repeat (first | (with_reducible first | exact HB.out | apply below_alloc | apply pw_below_drewN | apply below_drew1) | exact HB.out)⟩⟩
 case round =>
  clear H'
  obtain ⟨x5_1, x6_1, rfl, HA, HK1, HO_5, HB⟩ := hrel
  cases gk with
  | zero => exact absurd HA.out (by simp [spec_l16Read.l0])
  | succ k1 =>
   have H := HA.out
   clear HA
   simp only [spec_l16Read.l0] at H
   by_cases c2 : 0 ≤ x6_1
   ·rw [if_pos c2] at H
    have c2b0 := eq_true c2
    have c2b1 : decide (0 ≤ x6_1) = true := decide_eq_true c2
    clear c2
    by_cases c3 : x6_1 ≤ (a0.size : Int)
    ·rw [if_pos c3] at H
     have c3b0 := eq_true c3
     have c3b1 : decide (x6_1 ≤ (a0.size : Int)) = true := decide_eq_true c3
     clear c3
     replace H := Option.bind_eq_some_iff.mp H
     obtain ⟨⟨t101, t102⟩, A40, H⟩ := H
     replace H : (if t102 = 0 then (some (x5_1, x6_1, true)) else (if 0 ≤ (wrap64 (x6_1 + t102)) then (if (wrap64 (x6_1 + t102)) ≤ (a0.size : Int) then ((spec_l1Take.f k1 (a0.extract ((wrap64 (x6_1 + t102)) : Int).toNat a0.size)).bind fun bt103 => (if bt103.2 = 0 then (some (x5_1, x6_1, true)) else (if bt103.1 > 200 then (some (([] : List (S100)), 0, false)) else (if bt103.1 > (wrap64 ((a0.size : Int) - (wrap64 ((wrap64 (x6_1 + t102)) + bt103.2)))) then (some (x5_1, x6_1, true)) else (if (x5_1.length : Int) = 30 then (some (([] : List (S100)), 0, false)) else (if 0 ≤ (wrap64 ((wrap64 (x6_1 + t102)) + bt103.2)) then (if (wrap64 ((wrap64 (x6_1 + t102)) + bt103.2)) ≤ (wrap64 ((wrap64 ((wrap64 (x6_1 + t102)) + bt103.2)) + bt103.1)) then (if (wrap64 ((wrap64 ((wrap64 (x6_1 + t102)) + bt103.2)) + bt103.1)) ≤ (a0.size : Int) then (if x5_1.length < 5864062014805 then (spec_l16Read.l0 k1 a0 (x5_1 ++ [(⟨t101, a0.extract ((wrap64 ((wrap64 (x6_1 + t102)) + bt103.2)) : Int).toNat ((wrap64 ((wrap64 ((wrap64 (x6_1 + t102)) + bt103.2)) + bt103.1)) : Int).toNat⟩ : S100)]) (wrap64 ((wrap64 ((wrap64 (x6_1 + t102)) + bt103.2)) + bt103.1))) else (none)) else (none)) else (none)) else (none))))))) else (none)) else (none))) = some (r1, r2, r3) := H
     have A4 := Aside0.mk A40
     clear A40
     by_cases c5 : t102 = 0
     ·rw [if_pos c5] at H
      have c5b0 : (t102 == 0) = true := beq_iff_eq.mpr c5
      have c5b1 : (t102 != 0) = false := bne_eq_false_iff_eq.mpr c5
      clear c5
      simp only [Option.some.injEq, Prod.mk.injEq] at H
      obtain ⟨rfl, rfl, rfl⟩ := H
      go_wp2_with (first | ((with_reducible refine gate_callee (f := 95) rfl ?_); refine goesL_ (some 16) rfl rfl Try.func95 (by kernel_rfl) rfl #[.string (a0.extract (x6_1 : Int).toNat a0.size)] rfl (by (try simp only [List.map_toArray, List.map_cons, List.map_nil]); first | done | rfl | (simp only [List.length_drop, List.length_take]; rfl)) ?_; (with_reducible refine (spec_l1Take.calls k1 (a0.extract (x6_1 : Int).toNat a0.size) t101 t102 _ A4.out).mono ?_); rintro e w6 ⟨rfl, hb⟩; refine ⟨_, rfl, ?_⟩; have n0_ := Aside0.mk (Kd.R_below (by (with_reducible repeat (first | apply Kd.R_alloc | apply Kd.R_drewN | apply Kd.R_drew)); exact HO_5.out) hb); have n1_ := Aside0.mk (below_step (by repeat (first | (with_reducible first | exact HB.out | apply below_alloc | apply pw_below_drewN | apply below_drew1) | exact HB.out)) hb); clear HO_5; clear HB; have HO_5 := n0_; have HB := n1_; clear n0_ n1_; (try clear hb); (try clear hb2); (try clear hk); (try clear hi)))
      go_ret3
      exact ⟨_, by first | rfl | (simp [errW_none, errW_some] <;> rfl) | (simp [*, errW_none, errW_some] <;> rfl), by (with_reducible repeat (first | apply Kd.R_alloc | apply Kd.R_drewN | apply Kd.R_drew)); exact HO_5.out, by repeat (first | (with_reducible first | exact HB.out | apply below_alloc | apply pw_below_drewN | apply below_drew1) | exact HB.out)⟩
     ·rw [if_neg c5] at H
      have c5b0 : (t102 == 0) = false := beq_eq_false_iff_ne.mpr c5
      have c5b1 : (t102 != 0) = true := bne_iff_ne.mpr c5
      obtain ⟨ji7, hji7⟩ : ∃ j_ : Int, (wrap64 (x6_1 + t102)) = j_ := ⟨_, rfl⟩
      replace H : (if 0 ≤ (ji7) then (if (ji7) ≤ (a0.size : Int) then ((spec_l1Take.f k1 (a0.extract ((ji7) : Int).toNat a0.size)).bind fun bt103 => (if bt103.2 = 0 then (some (x5_1, x6_1, true)) else (if bt103.1 > 200 then (some (([] : List (S100)), 0, false)) else (if bt103.1 > (wrap64 ((a0.size : Int) - (wrap64 ((ji7) + bt103.2)))) then (some (x5_1, x6_1, true)) else (if (x5_1.length : Int) = 30 then (some (([] : List (S100)), 0, false)) else (if 0 ≤ (wrap64 ((ji7) + bt103.2)) then (if (wrap64 ((ji7) + bt103.2)) ≤ (wrap64 ((wrap64 ((ji7) + bt103.2)) + bt103.1)) then (if (wrap64 ((wrap64 ((ji7) + bt103.2)) + bt103.1)) ≤ (a0.size : Int) then (if x5_1.length < 5864062014805 then (spec_l16Read.l0 k1 a0 (x5_1 ++ [(⟨t101, a0.extract ((wrap64 ((ji7) + bt103.2)) : Int).toNat ((wrap64 ((wrap64 ((ji7) + bt103.2)) + bt103.1)) : Int).toNat⟩ : S100)]) (wrap64 ((wrap64 ((ji7) + bt103.2)) + bt103.1))) else (none)) else (none)) else (none)) else (none))))))) else (none)) else (none)) = some (r1, r2, r3) := by first | (rw [hji7] at H; exact H) | (simp only [hji7] at H ⊢; exact H)
      (try rw [hji7] at A4)
      have hji7w : (IntKind.i64.wrap (x6_1 + t102)) = ji7 := (i64_w _).trans hji7
      by_cases c8 : 0 ≤ (ji7)
      ·rw [if_pos c8] at H
       have c8b0 := eq_true c8
       have c8b1 : decide (0 ≤ (ji7)) = true := decide_eq_true c8
       clear c8
       by_cases c9 : (ji7) ≤ (a0.size : Int)
       ·rw [if_pos c9] at H
        have c9b0 := eq_true c9
        have c9b1 : decide ((ji7) ≤ (a0.size : Int)) = true := decide_eq_true c9
        clear c9
        replace H := Option.bind_eq_some_iff.mp H
        obtain ⟨⟨t103, t104⟩, A100, H⟩ := H
        replace H : (if t104 = 0 then (some (x5_1, x6_1, true)) else (if t103 > 200 then (some (([] : List (S100)), 0, false)) else (if t103 > (wrap64 ((a0.size : Int) - (wrap64 ((ji7) + t104)))) then (some (x5_1, x6_1, true)) else (if (x5_1.length : Int) = 30 then (some (([] : List (S100)), 0, false)) else (if 0 ≤ (wrap64 ((ji7) + t104)) then (if (wrap64 ((ji7) + t104)) ≤ (wrap64 ((wrap64 ((ji7) + t104)) + t103)) then (if (wrap64 ((wrap64 ((ji7) + t104)) + t103)) ≤ (a0.size : Int) then (if x5_1.length < 5864062014805 then (spec_l16Read.l0 k1 a0 (x5_1 ++ [(⟨t101, a0.extract ((wrap64 ((ji7) + t104)) : Int).toNat ((wrap64 ((wrap64 ((ji7) + t104)) + t103)) : Int).toNat⟩ : S100)]) (wrap64 ((wrap64 ((ji7) + t104)) + t103))) else (none)) else (none)) else (none)) else (none)))))) = some (r1, r2, r3) := H
        have A10 := Aside0.mk A100
        clear A100
        by_cases c11 : t104 = 0
        ·rw [if_pos c11] at H
         have c11b0 : (t104 == 0) = true := beq_iff_eq.mpr c11
         have c11b1 : (t104 != 0) = false := bne_eq_false_iff_eq.mpr c11
         clear c11
         simp only [Option.some.injEq, Prod.mk.injEq] at H
         obtain ⟨rfl, rfl, rfl⟩ := H
         go_wp2_with (first | ((with_reducible refine gate_callee (f := 95) rfl ?_); refine goesL_ (some 16) rfl rfl Try.func95 (by kernel_rfl) rfl #[.string (a0.extract (x6_1 : Int).toNat a0.size)] rfl (by (try simp only [List.map_toArray, List.map_cons, List.map_nil]); first | done | rfl | (simp only [List.length_drop, List.length_take]; rfl)) ?_; (with_reducible refine (spec_l1Take.calls k1 (a0.extract (x6_1 : Int).toNat a0.size) t101 t102 _ A4.out).mono ?_); rintro e w12 ⟨rfl, hb⟩; refine ⟨_, rfl, ?_⟩; have n0_ := Aside0.mk (Kd.R_below (by (with_reducible repeat (first | apply Kd.R_alloc | apply Kd.R_drewN | apply Kd.R_drew)); exact HO_5.out) hb); have n1_ := Aside0.mk (below_step (by repeat (first | (with_reducible first | exact HB.out | apply below_alloc | apply pw_below_drewN | apply below_drew1) | exact HB.out)) hb); clear HO_5; clear HB; have HO_5 := n0_; have HB := n1_; clear n0_ n1_; (try clear hb); (try clear hb2); (try clear hk); (try clear hi)) | ((with_reducible refine gate_callee (f := 95) rfl ?_); refine goesL_ (some 29) rfl rfl Try.func95 (by kernel_rfl) rfl #[.string (a0.extract ((ji7) : Int).toNat a0.size)] rfl (by (try simp only [List.map_toArray, List.map_cons, List.map_nil]); first | done | (simp only [hji7]; rfl) | rfl | (simp only [List.length_drop, List.length_take]; rfl)) ?_; (with_reducible refine (spec_l1Take.calls k1 (a0.extract ((ji7) : Int).toNat a0.size) t103 t104 _ A10.out).mono ?_); rintro e w13 ⟨rfl, hb⟩; refine ⟨_, rfl, ?_⟩; have n0_ := Aside0.mk (Kd.R_below (by (with_reducible repeat (first | apply Kd.R_alloc | apply Kd.R_drewN | apply Kd.R_drew)); exact HO_5.out) hb); have n1_ := Aside0.mk (below_step (by repeat (first | (with_reducible first | exact HB.out | apply below_alloc | apply pw_below_drewN | apply below_drew1) | exact HB.out)) hb); clear HO_5; clear HB; have HO_5 := n0_; have HB := n1_; clear n0_ n1_; (try clear hb); (try clear hb2); (try clear hk); (try clear hi)))
         go_ret3
         exact ⟨_, by first | rfl | (simp [errW_none, errW_some] <;> rfl) | (simp only [← hji7]; first | rfl | (simp [errW_none, errW_some] <;> rfl)) | (simp [*, errW_none, errW_some] <;> rfl), by (with_reducible repeat (first | apply Kd.R_alloc | apply Kd.R_drewN | apply Kd.R_drew)); exact HO_5.out, by repeat (first | (with_reducible first | exact HB.out | apply below_alloc | apply pw_below_drewN | apply below_drew1) | exact HB.out)⟩
        ·rw [if_neg c11] at H
         have c11b0 : (t104 == 0) = false := beq_eq_false_iff_ne.mpr c11
         have c11b1 : (t104 != 0) = true := bne_iff_ne.mpr c11
         by_cases c14 : t103 > 200
         ·rw [if_pos c14] at H
          have c14b0 : decide (200 < t103) = true := decide_eq_true c14
          clear c14
          simp only [Option.some.injEq, Prod.mk.injEq] at H
          obtain ⟨rfl, rfl, rfl⟩ := H
          go_wp2_with (first | ((with_reducible refine gate_callee (f := 95) rfl ?_); refine goesL_ (some 16) rfl rfl Try.func95 (by kernel_rfl) rfl #[.string (a0.extract (x6_1 : Int).toNat a0.size)] rfl (by (try simp only [List.map_toArray, List.map_cons, List.map_nil]); first | done | rfl | (simp only [List.length_drop, List.length_take]; rfl)) ?_; (with_reducible refine (spec_l1Take.calls k1 (a0.extract (x6_1 : Int).toNat a0.size) t101 t102 _ A4.out).mono ?_); rintro e w15 ⟨rfl, hb⟩; refine ⟨_, rfl, ?_⟩; have n0_ := Aside0.mk (Kd.R_below (by (with_reducible repeat (first | apply Kd.R_alloc | apply Kd.R_drewN | apply Kd.R_drew)); exact HO_5.out) hb); have n1_ := Aside0.mk (below_step (by repeat (first | (with_reducible first | exact HB.out | apply below_alloc | apply pw_below_drewN | apply below_drew1) | exact HB.out)) hb); clear HO_5; clear HB; have HO_5 := n0_; have HB := n1_; clear n0_ n1_; (try clear hb); (try clear hb2); (try clear hk); (try clear hi)) | ((with_reducible refine gate_callee (f := 95) rfl ?_); refine goesL_ (some 29) rfl rfl Try.func95 (by kernel_rfl) rfl #[.string (a0.extract ((ji7) : Int).toNat a0.size)] rfl (by (try simp only [List.map_toArray, List.map_cons, List.map_nil]); first | done | (simp only [hji7]; rfl) | rfl | (simp only [List.length_drop, List.length_take]; rfl)) ?_; (with_reducible refine (spec_l1Take.calls k1 (a0.extract ((ji7) : Int).toNat a0.size) t103 t104 _ A10.out).mono ?_); rintro e w16 ⟨rfl, hb⟩; refine ⟨_, rfl, ?_⟩; have n0_ := Aside0.mk (Kd.R_below (by (with_reducible repeat (first | apply Kd.R_alloc | apply Kd.R_drewN | apply Kd.R_drew)); exact HO_5.out) hb); have n1_ := Aside0.mk (below_step (by repeat (first | (with_reducible first | exact HB.out | apply below_alloc | apply pw_below_drewN | apply below_drew1) | exact HB.out)) hb); clear HO_5; clear HB; have HO_5 := n0_; have HB := n1_; clear n0_ n1_; (try clear hb); (try clear hb2); (try clear hk); (try clear hi)))
          go_ret3
          exact ⟨_, by first | rfl | (simp [errW_none, errW_some] <;> rfl) | (simp only [← hji7]; first | rfl | (simp [errW_none, errW_some] <;> rfl)) | (simp [*, errW_none, errW_some] <;> rfl), by first | exact Kd.R_nil _ _ _ _ _ | exact Kd.N_nil _ _ _ _ _ | exact Kd.V_nil _ _ _ _ _ | exact Kd.Q_nil _ _ _ _ _ | exact Kd.S_nil _ _ _ _ _, by repeat (first | (with_reducible first | exact HB.out | apply below_alloc | apply pw_below_drewN | apply below_drew1) | exact HB.out)⟩
         ·rw [if_neg c14] at H
          have c14b0 : decide (200 < t103) = false := decide_eq_false c14
          clear c14
          by_cases c17 : t103 > (wrap64 ((a0.size : Int) - (wrap64 ((ji7) + t104))))
          ·rw [if_pos c17] at H
           have c17b0 : decide ((wrap64 ((a0.size : Int) - (wrap64 ((ji7) + t104)))) < t103) = true := decide_eq_true c17
           clear c17
           simp only [Option.some.injEq, Prod.mk.injEq] at H
           obtain ⟨rfl, rfl, rfl⟩ := H
           go_wp2_with (first | ((with_reducible refine gate_callee (f := 95) rfl ?_); refine goesL_ (some 16) rfl rfl Try.func95 (by kernel_rfl) rfl #[.string (a0.extract (x6_1 : Int).toNat a0.size)] rfl (by (try simp only [List.map_toArray, List.map_cons, List.map_nil]); first | done | rfl | (simp only [List.length_drop, List.length_take]; rfl)) ?_; (with_reducible refine (spec_l1Take.calls k1 (a0.extract (x6_1 : Int).toNat a0.size) t101 t102 _ A4.out).mono ?_); rintro e w18 ⟨rfl, hb⟩; refine ⟨_, rfl, ?_⟩; have n0_ := Aside0.mk (Kd.R_below (by (with_reducible repeat (first | apply Kd.R_alloc | apply Kd.R_drewN | apply Kd.R_drew)); exact HO_5.out) hb); have n1_ := Aside0.mk (below_step (by repeat (first | (with_reducible first | exact HB.out | apply below_alloc | apply pw_below_drewN | apply below_drew1) | exact HB.out)) hb); clear HO_5; clear HB; have HO_5 := n0_; have HB := n1_; clear n0_ n1_; (try clear hb); (try clear hb2); (try clear hk); (try clear hi)) | ((with_reducible refine gate_callee (f := 95) rfl ?_); refine goesL_ (some 29) rfl rfl Try.func95 (by kernel_rfl) rfl #[.string (a0.extract ((ji7) : Int).toNat a0.size)] rfl (by (try simp only [List.map_toArray, List.map_cons, List.map_nil]); first | done | (simp only [hji7]; rfl) | rfl | (simp only [List.length_drop, List.length_take]; rfl)) ?_; (with_reducible refine (spec_l1Take.calls k1 (a0.extract ((ji7) : Int).toNat a0.size) t103 t104 _ A10.out).mono ?_); rintro e w19 ⟨rfl, hb⟩; refine ⟨_, rfl, ?_⟩; have n0_ := Aside0.mk (Kd.R_below (by (with_reducible repeat (first | apply Kd.R_alloc | apply Kd.R_drewN | apply Kd.R_drew)); exact HO_5.out) hb); have n1_ := Aside0.mk (below_step (by repeat (first | (with_reducible first | exact HB.out | apply below_alloc | apply pw_below_drewN | apply below_drew1) | exact HB.out)) hb); clear HO_5; clear HB; have HO_5 := n0_; have HB := n1_; clear n0_ n1_; (try clear hb); (try clear hb2); (try clear hk); (try clear hi)))
           go_ret3
           exact ⟨_, by first | rfl | (simp [errW_none, errW_some] <;> rfl) | (simp only [← hji7]; first | rfl | (simp [errW_none, errW_some] <;> rfl)) | (simp [*, errW_none, errW_some] <;> rfl), by (with_reducible repeat (first | apply Kd.R_alloc | apply Kd.R_drewN | apply Kd.R_drew)); exact HO_5.out, by repeat (first | (with_reducible first | exact HB.out | apply below_alloc | apply pw_below_drewN | apply below_drew1) | exact HB.out)⟩
          ·rw [if_neg c17] at H
           have c17b0 : decide ((wrap64 ((a0.size : Int) - (wrap64 ((ji7) + t104)))) < t103) = false := decide_eq_false c17
           clear c17
           by_cases c20 : (x5_1.length : Int) = 30
           ·rw [if_pos c20] at H
            have c20b0 : ((x5_1.length : Int) == 30) = true := beq_iff_eq.mpr c20
            have c20b1 : ((x5_1.length : Int) != 30) = false := bne_eq_false_iff_eq.mpr c20
            clear c20
            simp only [Option.some.injEq, Prod.mk.injEq] at H
            obtain ⟨rfl, rfl, rfl⟩ := H
            go_wp2_with (first | ((with_reducible refine gate_callee (f := 95) rfl ?_); refine goesL_ (some 16) rfl rfl Try.func95 (by kernel_rfl) rfl #[.string (a0.extract (x6_1 : Int).toNat a0.size)] rfl (by (try simp only [List.map_toArray, List.map_cons, List.map_nil]); first | done | rfl | (simp only [List.length_drop, List.length_take]; rfl)) ?_; (with_reducible refine (spec_l1Take.calls k1 (a0.extract (x6_1 : Int).toNat a0.size) t101 t102 _ A4.out).mono ?_); rintro e w21 ⟨rfl, hb⟩; refine ⟨_, rfl, ?_⟩; have n0_ := Aside0.mk (Kd.R_below (by (with_reducible repeat (first | apply Kd.R_alloc | apply Kd.R_drewN | apply Kd.R_drew)); exact HO_5.out) hb); have n1_ := Aside0.mk (below_step (by repeat (first | (with_reducible first | exact HB.out | apply below_alloc | apply pw_below_drewN | apply below_drew1) | exact HB.out)) hb); clear HO_5; clear HB; have HO_5 := n0_; have HB := n1_; clear n0_ n1_; (try clear hb); (try clear hb2); (try clear hk); (try clear hi)) | ((with_reducible refine gate_callee (f := 95) rfl ?_); refine goesL_ (some 29) rfl rfl Try.func95 (by kernel_rfl) rfl #[.string (a0.extract ((ji7) : Int).toNat a0.size)] rfl (by (try simp only [List.map_toArray, List.map_cons, List.map_nil]); first | done | (simp only [hji7]; rfl) | rfl | (simp only [List.length_drop, List.length_take]; rfl)) ?_; (with_reducible refine (spec_l1Take.calls k1 (a0.extract ((ji7) : Int).toNat a0.size) t103 t104 _ A10.out).mono ?_); rintro e w22 ⟨rfl, hb⟩; refine ⟨_, rfl, ?_⟩; have n0_ := Aside0.mk (Kd.R_below (by (with_reducible repeat (first | apply Kd.R_alloc | apply Kd.R_drewN | apply Kd.R_drew)); exact HO_5.out) hb); have n1_ := Aside0.mk (below_step (by repeat (first | (with_reducible first | exact HB.out | apply below_alloc | apply pw_below_drewN | apply below_drew1) | exact HB.out)) hb); clear HO_5; clear HB; have HO_5 := n0_; have HB := n1_; clear n0_ n1_; (try clear hb); (try clear hb2); (try clear hk); (try clear hi); obtain ⟨Ao23, co23, eo23⟩ := Kd.R_slice HO_5.out; subst eo23))
            go_ret3
            exact ⟨_, by first | rfl | (simp [errW_none, errW_some] <;> rfl) | (simp only [← hji7]; first | rfl | (simp [errW_none, errW_some] <;> rfl)) | (simp [*, errW_none, errW_some] <;> rfl), by first | exact Kd.R_nil _ _ _ _ _ | exact Kd.N_nil _ _ _ _ _ | exact Kd.V_nil _ _ _ _ _ | exact Kd.Q_nil _ _ _ _ _ | exact Kd.S_nil _ _ _ _ _, by repeat (first | (with_reducible first | exact HB.out | apply below_alloc | apply pw_below_drewN | apply below_drew1) | exact HB.out)⟩
           ·rw [if_neg c20] at H
            have c20b0 : ((x5_1.length : Int) == 30) = false := beq_eq_false_iff_ne.mpr c20
            have c20b1 : ((x5_1.length : Int) != 30) = true := bne_iff_ne.mpr c20
            obtain ⟨ji24, hji24⟩ : ∃ j_ : Int, (wrap64 ((ji7) + t104)) = j_ := ⟨_, rfl⟩
            replace H : (if 0 ≤ (ji24) then (if (ji24) ≤ (wrap64 ((ji24) + t103)) then (if (wrap64 ((ji24) + t103)) ≤ (a0.size : Int) then (if x5_1.length < 5864062014805 then (spec_l16Read.l0 k1 a0 (x5_1 ++ [(⟨t101, a0.extract ((ji24) : Int).toNat ((wrap64 ((ji24) + t103)) : Int).toNat⟩ : S100)]) (wrap64 ((ji24) + t103))) else (none)) else (none)) else (none)) else (none)) = some (r1, r2, r3) := by first | (rw [hji24] at H; exact H) | (simp only [hji24] at H ⊢; exact H)
            (try rw [hji24] at c17b0)
            (try rw [hji24] at A4)
            (try rw [hji24] at A10)
            have hji24w : (IntKind.i64.wrap ((ji7) + t104)) = ji24 := (i64_w _).trans hji24
            by_cases c25 : 0 ≤ (ji24)
            ·rw [if_pos c25] at H
             have c25b0 := eq_true c25
             have c25b1 : decide (0 ≤ (ji24)) = true := decide_eq_true c25
             clear c25
             by_cases c26 : (ji24) ≤ (wrap64 ((ji24) + t103))
             ·rw [if_pos c26] at H
              have c26b0 := eq_true c26
              have c26b1 : decide ((ji24) ≤ (wrap64 ((ji24) + t103))) = true := decide_eq_true c26
              by_cases c27 : (wrap64 ((ji24) + t103)) ≤ (a0.size : Int)
              ·rw [if_pos c27] at H
               have c27b0 := eq_true c27
               have c27b1 : decide ((wrap64 ((ji24) + t103)) ≤ (a0.size : Int)) = true := decide_eq_true c27
               by_cases c28 : x5_1.length < 5864062014805
               ·rw [if_pos c28] at H
                have LMc28 := Aside0.mk c28
                clear c28
                obtain ⟨y105, hy105⟩ : ∃ y_ : List (S100), y_ = (x5_1 ++ [(⟨t101, a0.extract ((ji24) : Int).toNat ((wrap64 ((ji24) + t103)) : Int).toNat⟩ : S100)]) := ⟨_, rfl⟩
                replace H : (spec_l16Read.l0 k1 a0 y105 (wrap64 ((ji24) + t103))) = some (r1, r2, r3) := by first | (rw [hy105]; with_reducible exact H) | (have H2_ := (Option.bind_some _ _).symm.trans H; rw [hy105]; with_reducible exact H2_) | (have H2_ := (Option.bind_some _ _).symm.trans H; with_reducible exact H2_) | with_reducible exact H | (rw [hy105]; exact H) | exact H
                have Ny105 := Aside0.mk hy105
                clear hy105
                have H' := Aside0.mk H
                clear H
                go_wp2_with (first | ((with_reducible refine gate_callee (f := 95) rfl ?_); refine goesL_ (some 16) rfl rfl Try.func95 (by kernel_rfl) rfl #[.string (a0.extract (x6_1 : Int).toNat a0.size)] rfl (by (try simp only [List.map_toArray, List.map_cons, List.map_nil]); first | done | rfl | (simp only [List.length_drop, List.length_take]; rfl)) ?_; (with_reducible refine (spec_l1Take.calls k1 (a0.extract (x6_1 : Int).toNat a0.size) t101 t102 _ A4.out).mono ?_); rintro e w29 ⟨rfl, hb⟩; refine ⟨_, rfl, ?_⟩; have n0_ := Aside0.mk (Kd.R_below (by (with_reducible repeat (first | apply Kd.R_alloc | apply Kd.R_drewN | apply Kd.R_drew)); exact HO_5.out) hb); have n1_ := Aside0.mk (below_step (by repeat (first | (with_reducible first | exact HB.out | apply below_alloc | apply pw_below_drewN | apply below_drew1) | exact HB.out)) hb); clear HO_5; clear HB; have HO_5 := n0_; have HB := n1_; clear n0_ n1_; (try clear hb); (try clear hb2); (try clear hk); (try clear hi)) | ((with_reducible refine gate_callee (f := 95) rfl ?_); refine goesL_ (some 29) rfl rfl Try.func95 (by kernel_rfl) rfl #[.string (a0.extract ((ji7) : Int).toNat a0.size)] rfl (by (try simp only [List.map_toArray, List.map_cons, List.map_nil]); first | done | (simp only [hji7]; rfl) | rfl | (simp only [List.length_drop, List.length_take]; rfl)) ?_; (with_reducible refine (spec_l1Take.calls k1 (a0.extract ((ji7) : Int).toNat a0.size) t103 t104 _ A10.out).mono ?_); rintro e w30 ⟨rfl, hb⟩; refine ⟨_, rfl, ?_⟩; have n0_ := Aside0.mk (Kd.R_below (by (with_reducible repeat (first | apply Kd.R_alloc | apply Kd.R_drewN | apply Kd.R_drew)); exact HO_5.out) hb); have n1_ := Aside0.mk (below_step (by repeat (first | (with_reducible first | exact HB.out | apply below_alloc | apply pw_below_drewN | apply below_drew1) | exact HB.out)) hb); clear HO_5; clear HB; have HO_5 := n0_; have HB := n1_; clear n0_ n1_; (try clear hb); (try clear hb2); (try clear hk); (try clear hi); obtain ⟨Ao31, co31, eo31⟩ := Kd.R_slice HO_5.out; subst eo31) | ((with_reducible refine gate_builtin (b := .append) (xs := #[.tmp 54, .tmp 63]) rfl ?_); at_builtin; refine Kd.R_append k100 (w0 := w) w.heap.size rfl (.tmp 54) (.tmp 63) 56 100 (.agg #[(.int .i64 0), (.string ⟨#[]⟩)]) 24 rfl Try.underlying56 info100 rfl (by decide) (by omega) (.slice Ao31 x5_1.length co31) x5_1 (⟨t101, a0.extract ((ji24) : Int).toNat ((wrap64 ((ji24) + t103)) : Int).toNat⟩ : S100) [.int .i64 t101, .string (a0.extract ((ji24) : Int).toNat ((wrap64 ((ji24) + t103)) : Int).toNat)] (fun _ => True) (fun _ => False) rfl rfl ?aP (fun _ hk => hk.elim) ?aF ?aO ?aB ?aS ?aL ?_; (case aP => exact k100_mkM _ _ _ (⟨t101, a0.extract ((ji24) : Int).toNat ((wrap64 ((ji24) + t103)) : Int).toNat⟩ : S100)); (case aB => exact (by repeat (first | (with_reducible first | exact HB.out | apply below_alloc | apply pw_below_drewN | apply below_drew1) | exact HB.out))); (case aF => exact (fun _ _ => trivial)); (case aO => exact (by (with_reducible repeat (first | apply Kd.R_alloc | apply Kd.R_drewN | apply Kd.R_drew)); exact HO_5.out)); (case aS => exact (below_size (by repeat (first | (with_reducible first | exact HB.out | apply below_alloc | apply pw_below_drewN | apply below_drew1) | exact HB.out)))); (case aL => have := LMc28.out; omega); intro v106 w32 ho hb hg hat; rw [← Ny105.out] at ho; have n0_ := Aside0.mk (hb); have n1_ := Aside0.mk (ho); clear HB; clear HO_5; have HB := n0_; have HO107 := n1_; clear n0_ n1_; clear ho hb hg hat))
                go_roundg k1
                case measure => have := HK1.out; omega
                case rel => exact ⟨(y105), (wrap64 ((ji24) + t103)), (by first | rfl | (simp; done) | (simp only [← hji24] <;> (first | rfl | simp)) | (simp [*]; done)), H', ⟨by have := HK1.out; omega⟩, ⟨by (with_reducible repeat (first | apply Kd.R_alloc | apply Kd.R_drewN | apply Kd.R_drew)); exact HO107.out⟩, ⟨by repeat (first | (with_reducible first | exact HB.out | apply below_alloc | apply pw_below_drewN | apply below_drew1) | exact HB.out)⟩⟩
               ·rw [if_neg c28] at H
                exact absurd H (by simp)
              ·rw [if_neg c27] at H
               exact absurd H (by simp)
             ·rw [if_neg c26] at H
              exact absurd H (by simp)
            ·rw [if_neg c25] at H
             exact absurd H (by simp)
       ·rw [if_neg c9] at H
        exact absurd H (by simp)
      ·rw [if_neg c8] at H
       exact absurd H (by simp)
    ·rw [if_neg c3] at H
     exact absurd H (by simp)
   ·rw [if_neg c2] at H
    exact absurd H (by simp)

/-! ### spec_ReadCapsules: function 36 -/
def spec_ReadCapsules.f (k : Nat) (a0 : ByteArray) : Option ((List (S100)) × Int × Bool) := if (a0.size : Int) > 1500 then (some (([] : List (S100)), 0, false)) else ((spec_l16Read.f k a0).bind fun bt108 => (some (bt108.1, bt108.2.1, bt108.2.2)))
theorem spec_ReadCapsules.mono : ∀ a0 k, LeO (spec_ReadCapsules.f k a0) (spec_ReadCapsules.f (k + 1) a0) := by
 intro a0 k
 unfold spec_ReadCapsules.f
 repeat' first
   | (with_reducible exact spec_l16Read.mono _ _)
   | (with_reducible exact LeO.refl _)
   | (with_reducible exact LeO.none _)
   | (with_reducible refine LeO.ite ?_ ?_)
   | (with_reducible refine LeO.bind ?_ (fun _ => ?_))
   | exact spec_l16Read.mono _ _
   | exact LeO.none _
   | refine LeO.ite ?_ ?_
   | refine LeO.bind ?_ (fun _ => ?_)
set_option maxHeartbeats 8000000 in
set_option maxRecDepth 100000 in
theorem spec_ReadCapsules.calls (k : Nat) (a0 : ByteArray) (r1 : List (S100)) (r2 : Int) (r3 : Bool) (w : World) (h : spec_ReadCapsules.f k a0 = some (r1, r2, r3)) :
  Calls Try.prog 36 #[.string a0] w fun e w' => ∃ v0_ : Value, e = .returned (.tuple #[v0_, .int .i64 r2, .bool r3]) ∧ Kd.R k100 100 w' w.heap.size (fun _ => True) v0_ r1 ∧ Below w.heap.size w w' := by
 have HB := Aside0.mk (Below.refl w.heap.size w)
 have H : (if (a0.size : Int) > 1500 then (some (([] : List (S100)), 0, false)) else ((spec_l16Read.f k a0).bind fun bt108 => (some (bt108.1, bt108.2.1, bt108.2.2)))) = some (r1, r2, r3) := h
 clear h
 by_cases c2 : (a0.size : Int) > 1500
 ·rw [if_pos c2] at H
  have c2b0 : decide (1500 < (a0.size : Int)) = true := decide_eq_true c2
  have c2b1 : decide (1500 < a0.size) = true := decide_eq_true (by omega)
  clear c2
  simp only [Option.some.injEq, Prod.mk.injEq] at H
  obtain ⟨rfl, rfl, rfl⟩ := H
  go_enter Try.func36, Try.ntmps36
  go_wp2
  go_ret3
  exact ⟨_, by first | rfl | (simp [errW_none, errW_some] <;> rfl) | (simp [*, errW_none, errW_some] <;> rfl), by first | exact Kd.R_nil _ _ _ _ _ | exact Kd.N_nil _ _ _ _ _ | exact Kd.V_nil _ _ _ _ _ | exact Kd.Q_nil _ _ _ _ _ | exact Kd.S_nil _ _ _ _ _, by repeat (first | (with_reducible first | exact HB.out | apply below_alloc | apply pw_below_drewN | apply below_drew1) | exact HB.out)⟩
 ·rw [if_neg c2] at H
  have c2b0 : decide (1500 < (a0.size : Int)) = false := decide_eq_false c2
  have c2b1 : decide (1500 < a0.size) = false := decide_eq_false (by omega)
  clear c2
  replace H := Option.bind_eq_some_iff.mp H
  obtain ⟨⟨t108, t109, t110⟩, A30, H⟩ := H
  replace H : (some (t108, t109, t110)) = some (r1, r2, r3) := H
  have A3 := Aside0.mk A30
  clear A30
  simp only [Option.some.injEq, Prod.mk.injEq] at H
  obtain ⟨rfl, rfl, rfl⟩ := H
  go_enter Try.func36, Try.ntmps36
  go_wp2_with (first | ((with_reducible refine gate_callee (f := 77) rfl ?_); refine goesL_ (some 9) rfl rfl Try.func77 (by kernel_rfl) rfl #[.string a0] rfl (by (try simp only [List.map_toArray, List.map_cons, List.map_nil]); first | done | rfl | (simp only [List.length_drop, List.length_take]; rfl)) ?_; (with_reducible refine (spec_l16Read.calls k a0 t108 t109 t110 _ A3.out).mono ?_); rintro e w4 ⟨v111, rfl, ho0, hb⟩; refine ⟨_, rfl, ?_⟩; have n0_ := Aside0.mk (Kd.R_lower ho0 (below_size (by repeat (first | (with_reducible first | exact HB.out | apply below_alloc | apply pw_below_drewN | apply below_drew1) | exact HB.out)))); have n1_ := Aside0.mk (below_step (by repeat (first | (with_reducible first | exact HB.out | apply below_alloc | apply pw_below_drewN | apply below_drew1) | exact HB.out)) hb); clear HB; have HO112 := n0_; have HB := n1_; clear n0_ n1_; (try clear hb); (try clear hb2); (try clear hk); (try clear hi); (try clear ho0)))
  go_ret3
  exact ⟨_, by first | rfl | (simp [errW_none, errW_some] <;> rfl) | (simp [*, errW_none, errW_some] <;> rfl), by (with_reducible repeat (first | apply Kd.R_alloc | apply Kd.R_drewN | apply Kd.R_drew)); exact HO112.out, by repeat (first | (with_reducible first | exact HB.out | apply below_alloc | apply pw_below_drewN | apply below_drew1) | exact HB.out)⟩

/-! ### impl_numberOf: function 54 -/
def impl_numberOf.l0 : Nat → ByteArray → Int → Int → Int → Option (Int)
 | 0, _, _, _, _ => none
 | k + 1, x0, x3, x6, x7 => if x7 < x6 then (if 0 ≤ x7 then (if x7 < (x0.size : Int) then (impl_numberOf.l0 k x0 (Go.bits .or .u64 (IntKind.u64.wrap (x3 * 256)) (IntKind.u64.wrap (bt x0 x7))) x6 (wrap64 (x7 + 1))) else (none)) else (none)) else (some x3)
def impl_numberOf.f (k : Nat) (a0 : ByteArray) : Option (Int) := impl_numberOf.l0 k a0 0 (a0.size : Int) 0
theorem impl_numberOf.mono_l : ∀ k, (∀ y0 y1 y2 y3, LeO (impl_numberOf.l0 k y0 y1 y2 y3) (impl_numberOf.l0 (k + 1) y0 y1 y2 y3))
 | 0 => fun _ _ _ _ r h => by simp [impl_numberOf.l0] at h
 | k + 1 => by
  have ih0 := impl_numberOf.mono_l k
  ·intro y0 y1 y2 y3
   unfold impl_numberOf.l0
   repeat' first
   | (with_reducible exact ih0 _ _ _ _)
   | (with_reducible exact LeO.refl _)
   | (with_reducible exact LeO.none _)
   | (with_reducible refine LeO.ite ?_ ?_)
   | (with_reducible refine LeO.bind ?_ (fun _ => ?_))
   | exact ih0 _ _ _ _
   | exact LeO.none _
   | refine LeO.ite ?_ ?_
   | refine LeO.bind ?_ (fun _ => ?_)
theorem impl_numberOf.mono : ∀ a0 k, LeO (impl_numberOf.f k a0) (impl_numberOf.f (k + 1) a0) := by
 intro a0 k
 have ih0 := impl_numberOf.mono_l k
 unfold impl_numberOf.f
 repeat' first
   | (with_reducible exact ih0 _ _ _ _)
   | (with_reducible exact LeO.refl _)
   | (with_reducible exact LeO.none _)
   | (with_reducible refine LeO.ite ?_ ?_)
   | (with_reducible refine LeO.bind ?_ (fun _ => ?_))
   | exact ih0 _ _ _ _
   | exact LeO.none _
   | refine LeO.ite ?_ ?_
   | refine LeO.bind ?_ (fun _ => ?_)
set_option maxHeartbeats 8000000 in
set_option maxRecDepth 100000 in
theorem impl_numberOf.calls (k : Nat) (a0 : ByteArray) (r : Int) (w : World) (h : impl_numberOf.f k a0 = some r) :
  Calls Try.prog 54 #[.string a0] w fun e w' => e = .returned (.int .u64 r) ∧ Drawn0 w w' := by
 have H : (impl_numberOf.l0 k a0 0 (a0.size : Int) 0) = some r := h
 clear h
 have H' := Aside0.mk H
 clear H
 go_enter Try.func54, Try.ntmps54
 go_wp2
 go_loopg [3, 7] k (fun kq v3 v7 w' => ∃ (x3_1 : Int) (x7_1 : Int), v3 = .int .u64 x3_1 ∧ v7 = .int .i64 x7_1 ∧ Aside0 (impl_numberOf.l0 kq a0 x3_1 (a0.size : Int) x7_1 = some r) ∧ Aside0 (kq ≤ k) ∧ Drawn0 w w')
 case atStart => exact ⟨(0), (0), (by first | rfl | (simp; done) | (simp [*]; done)), (by first | rfl | (simp; done) | (simp [*]; done)), H', ⟨Nat.le_refl _⟩, by repeat (first | exact Drawn0.refl _ | apply Drawn0.step)⟩
 case round =>
  clear H'
  obtain ⟨x3_1, x7_1, rfl, rfl, HA, HK1, ⟨m1, rfl⟩⟩ := hrel
  cases gk with
  | zero => exact absurd HA.out (by simp [impl_numberOf.l0])
  | succ k1 =>
   have H := HA.out
   clear HA
   simp only [impl_numberOf.l0] at H
   by_cases c2 : x7_1 < (a0.size : Int)
   ·rw [if_pos c2] at H
    have c2b0 : decide (x7_1 < (a0.size : Int)) = true := decide_eq_true c2
    clear c2
    by_cases c3 : 0 ≤ x7_1
    ·rw [if_pos c3] at H
     have c3b0 : decide (0 ≤ x7_1) = true := decide_eq_true c3
     clear c3
     by_cases c4 : x7_1 < (a0.size : Int)
     ·rw [if_pos c4] at H
      have c4b0 : decide (x7_1 < (a0.size : Int)) = true := decide_eq_true c4
      clear c4
      have H' := Aside0.mk H
      clear H
      have p5 : 0 ≤ (x7_1 : Int) := of_decide_eq_true (by first | (with_reducible assumption) | assumption)
      have q5 : x7_1 < (a0.size : Int) := of_decide_eq_true (by first | (with_reducible assumption) | assumption)
      have hx5 := bt_at a0 x7_1
      replace p5 := eq_true p5
      replace q5 := eq_true q5
      go_wp2
      go_roundg k1
      case measure => have := HK1.out; omega
      case rel => exact ⟨(Go.bits .or .u64 (IntKind.u64.wrap (x3_1 * 256)) (IntKind.u64.wrap (bt a0 x7_1))), (wrap64 (x7_1 + 1)), (by first | rfl | (simp; done) | (simp [*]; done)), (by first | rfl | (simp; done) | (simp [*]; done)), H', ⟨by have := HK1.out; omega⟩, by repeat (first | exact Drawn0.refl _ | apply Drawn0.step)⟩
     ·rw [if_neg c4] at H
      exact absurd H (by simp)
    ·rw [if_neg c3] at H
     exact absurd H (by simp)
   ·rw [if_neg c2] at H
    have c2b0 : decide (x7_1 < (a0.size : Int)) = false := decide_eq_false c2
    clear c2
    obtain rfl := Option.some.inj H
    go_wp2
    go_ret
    exact ⟨by first | rfl | (simp; done) | (simp [*]; done), by repeat (first | exact Drawn0.refl _ | apply Drawn0.step)⟩

/-! ### impl_TakeVarint: function 18 -/
def impl_TakeVarint.f (k : Nat) (a0 : ByteArray) : Option (Int × Int) := if a0.toList = ([] : List UInt8) then (some (0, 0)) else (if 0 < (a0.size : Int) then (if 0 ≤ ((bt a0 0) / 64) then (if (a0.size : Int) < (shl .i64 1 ((bt a0 0) / 64)) then (some (0, 0)) else (if 0 ≤ (shl .i64 1 ((bt a0 0) / 64)) then (if (shl .i64 1 ((bt a0 0) / 64)) ≤ (a0.size : Int) then ((impl_numberOf.f k (a0.extract 0 ((shl .i64 1 ((bt a0 0) / 64)) : Int).toNat)).bind fun t113 => (if 0 ≤ (wrap64 ((wrap64 (8 * (shl .i64 1 ((bt a0 0) / 64)))) - 2)) then (some (wrap64 (Go.bits .and .u64 t113 (IntKind.u64.wrap ((shl .u64 1 (wrap64 ((wrap64 (8 * (shl .i64 1 ((bt a0 0) / 64)))) - 2))) - 1))), shl .i64 1 ((bt a0 0) / 64))) else (none))) else (none)) else (none))) else (none)) else (none))
theorem impl_TakeVarint.mono : ∀ a0 k, LeO (impl_TakeVarint.f k a0) (impl_TakeVarint.f (k + 1) a0) := by
 intro a0 k
 unfold impl_TakeVarint.f
 repeat' first
   | (with_reducible exact impl_numberOf.mono _ _)
   | (with_reducible exact LeO.refl _)
   | (with_reducible exact LeO.none _)
   | (with_reducible refine LeO.ite ?_ ?_)
   | (with_reducible refine LeO.bind ?_ (fun _ => ?_))
   | exact impl_numberOf.mono _ _
   | exact LeO.none _
   | refine LeO.ite ?_ ?_
   | refine LeO.bind ?_ (fun _ => ?_)
set_option maxHeartbeats 8000000 in
set_option maxRecDepth 100000 in
theorem impl_TakeVarint.calls (k : Nat) (a0 : ByteArray) (r1 : Int) (r2 : Int) (w : World) (h : impl_TakeVarint.f k a0 = some (r1, r2)) :
  Calls Try.prog 18 #[.string a0] w fun e w' => e = .returned (.tuple #[.int .i64 r1, .int .i64 r2]) ∧ Drawn0 w w' := by
 have H : (if a0.toList = ([] : List UInt8) then (some (0, 0)) else (if 0 < (a0.size : Int) then (if 0 ≤ ((bt a0 0) / 64) then (if (a0.size : Int) < (shl .i64 1 ((bt a0 0) / 64)) then (some (0, 0)) else (if 0 ≤ (shl .i64 1 ((bt a0 0) / 64)) then (if (shl .i64 1 ((bt a0 0) / 64)) ≤ (a0.size : Int) then ((impl_numberOf.f k (a0.extract 0 ((shl .i64 1 ((bt a0 0) / 64)) : Int).toNat)).bind fun t113 => (if 0 ≤ (wrap64 ((wrap64 (8 * (shl .i64 1 ((bt a0 0) / 64)))) - 2)) then (some (wrap64 (Go.bits .and .u64 t113 (IntKind.u64.wrap ((shl .u64 1 (wrap64 ((wrap64 (8 * (shl .i64 1 ((bt a0 0) / 64)))) - 2))) - 1))), shl .i64 1 ((bt a0 0) / 64))) else (none))) else (none)) else (none))) else (none)) else (none))) = some (r1, r2) := h
 clear h
 by_cases c2 : a0.toList = ([] : List UInt8)
 ·rw [if_pos c2] at H
  have c2b0 : (a0.toList == ([] : List UInt8)) = true := beq_iff_eq.mpr c2
  have c2b1 : (a0.toList != ([] : List UInt8)) = false := bne_eq_false_iff_eq.mpr c2
  clear c2
  simp only [Option.some.injEq, Prod.mk.injEq] at H
  obtain ⟨rfl, rfl⟩ := H
  go_enter Try.func18, Try.ntmps18
  go_wp2
  repeat (go_quiet (fail); try go_wp2)
  go_ret2
  exact ⟨by first | rfl | (simp; done) | (simp [*]; done), by repeat (first | exact Drawn0.refl _ | apply Drawn0.step)⟩
 ·rw [if_neg c2] at H
  have c2b0 : (a0.toList == ([] : List UInt8)) = false := beq_eq_false_iff_ne.mpr c2
  have c2b1 : (a0.toList != ([] : List UInt8)) = true := bne_iff_ne.mpr c2
  by_cases c3 : 0 < (a0.size : Int)
  ·rw [if_pos c3] at H
   have c3b0 : decide (0 < (a0.size : Int)) = true := decide_eq_true c3
   have c3b1 : decide (0 < a0.size) = true := decide_eq_true (by omega)
   clear c3
   obtain ⟨ji5, hji5⟩ : ∃ j_ : Int, ((bt a0 0) / 64) = j_ := ⟨_, rfl⟩
   replace H : (if 0 ≤ (ji5) then (if (a0.size : Int) < (shl .i64 1 (ji5)) then (some (0, 0)) else (if 0 ≤ (shl .i64 1 (ji5)) then (if (shl .i64 1 (ji5)) ≤ (a0.size : Int) then ((impl_numberOf.f k (a0.extract 0 ((shl .i64 1 (ji5)) : Int).toNat)).bind fun t113 => (if 0 ≤ (wrap64 ((wrap64 (8 * (shl .i64 1 (ji5)))) - 2)) then (some (wrap64 (Go.bits .and .u64 t113 (IntKind.u64.wrap ((shl .u64 1 (wrap64 ((wrap64 (8 * (shl .i64 1 (ji5)))) - 2))) - 1))), shl .i64 1 (ji5))) else (none))) else (none)) else (none))) else (none)) = some (r1, r2) := by first | (rw [hji5] at H; exact H) | (simp only [hji5] at H ⊢; exact H)
   by_cases c6 : 0 ≤ (ji5)
   ·rw [if_pos c6] at H
    have c6b0 := eq_true c6
    have c6b1 : decide (0 ≤ (ji5)) = true := decide_eq_true c6
    clear c6
    obtain ⟨ji7, hji7⟩ : ∃ j_ : Int, (shl .i64 1 (ji5)) = j_ := ⟨_, rfl⟩
    replace H : (if (a0.size : Int) < (ji7) then (some (0, 0)) else (if 0 ≤ (ji7) then (if (ji7) ≤ (a0.size : Int) then ((impl_numberOf.f k (a0.extract 0 ((ji7) : Int).toNat)).bind fun t113 => (if 0 ≤ (wrap64 ((wrap64 (8 * (ji7))) - 2)) then (some (wrap64 (Go.bits .and .u64 t113 (IntKind.u64.wrap ((shl .u64 1 (wrap64 ((wrap64 (8 * (ji7))) - 2))) - 1))), ji7)) else (none))) else (none)) else (none))) = some (r1, r2) := by first | (rw [hji7] at H; exact H) | (simp only [hji7] at H ⊢; exact H)
    have hji7_ : (IntKind.i64.wrap (1 * 2 ^ min (ji5).toNat 64)) = ji7 := hji7
    have hji7z : (ji5) ≤ 64 → (IntKind.i64.wrap (1 * 2 ^ (ji5).toNat)) = ji7 := shl_small hji7
    have hji7u : (IntKind.i64.wrap (2 ^ min (ji5).toNat 64)) = ji7 := by have h_ := hji7_; rw [Int.one_mul] at h_; exact h_
    have hji7v : (ji5) ≤ 64 → (IntKind.i64.wrap (2 ^ (ji5).toNat)) = ji7 := fun hle_ => by have h_ := hji7z hle_; rw [Int.one_mul] at h_; exact h_
    have hji7y : (wrap64 (1 * 2 ^ min (ji5).toNat 64)) = ji7 := (i64_w _).symm.trans hji7_
    have hji7x : (ji5) ≤ 64 → (wrap64 (1 * 2 ^ (ji5).toNat)) = ji7 := fun h_ => (i64_w _).symm.trans (hji7z h_)
    by_cases c8 : (a0.size : Int) < (ji7)
    ·rw [if_pos c8] at H
     have c8b0 : decide ((a0.size : Int) < (ji7)) = true := decide_eq_true c8
     clear c8
     simp only [Option.some.injEq, Prod.mk.injEq] at H
     obtain ⟨rfl, rfl⟩ := H
     have p4 : 0 ≤ (0 : Int) := (by omega)
     have q4 : 0 < a0.size := (by have : (0 : Int) < (a0.size : Int) := of_decide_eq_true (by first | (with_reducible assumption) | assumption); omega)
     have hx4 : ∀ h : 0 < a0.size, ((a0[0]'h).toNat : Int) = bt a0 0 := bt_at a0 0
     clear p4
     have qi4 : (0 < (a0.size : Int)) = True := eq_true (of_decide_eq_true (by first | (with_reducible assumption) | assumption))
     replace q4 := eq_true q4
     go_enter Try.func18, Try.ntmps18
     go_wp2
     repeat (go_quiet (fail); try go_wp2)
     go_ret2
     exact ⟨by first | rfl | (simp; done) | (simp only [← hji5, ← hji7] <;> (first | rfl | simp)) | (simp [*]; done), by repeat (first | exact Drawn0.refl _ | apply Drawn0.step)⟩
    ·rw [if_neg c8] at H
     have c8b0 : decide ((a0.size : Int) < (ji7)) = false := decide_eq_false c8
     clear c8
     by_cases c9 : 0 ≤ (ji7)
     ·rw [if_pos c9] at H
      have c9b0 := eq_true c9
      have c9b1 : decide (0 ≤ (ji7)) = true := decide_eq_true c9
      clear c9
      by_cases c10 : (ji7) ≤ (a0.size : Int)
      ·rw [if_pos c10] at H
       have c10b0 := eq_true c10
       have c10b1 : decide ((ji7) ≤ (a0.size : Int)) = true := decide_eq_true c10
       clear c10
       replace H := Option.bind_eq_some_iff.mp H
       obtain ⟨t113, A110, H⟩ := H
       replace H : (if 0 ≤ (wrap64 ((wrap64 (8 * (ji7))) - 2)) then (some (wrap64 (Go.bits .and .u64 t113 (IntKind.u64.wrap ((shl .u64 1 (wrap64 ((wrap64 (8 * (ji7))) - 2))) - 1))), ji7)) else (none)) = some (r1, r2) := H
       have A11 := Aside0.mk A110
       clear A110
       obtain ⟨ji12, hji12⟩ : ∃ j_ : Int, (wrap64 ((wrap64 (8 * (ji7))) - 2)) = j_ := ⟨_, rfl⟩
       replace H : (if 0 ≤ (ji12) then (some (wrap64 (Go.bits .and .u64 t113 (IntKind.u64.wrap ((shl .u64 1 (ji12)) - 1))), ji7)) else (none)) = some (r1, r2) := by first | (rw [hji12] at H; exact H) | (simp only [hji12] at H ⊢; exact H)
       (try rw [hji12] at A11)
       have hji12w : (IntKind.i64.wrap ((wrap64 (8 * (ji7))) - 2)) = ji12 := (i64_w _).trans hji12
       by_cases c13 : 0 ≤ (ji12)
       ·rw [if_pos c13] at H
        have c13b0 := eq_true c13
        have c13b1 : decide (0 ≤ (ji12)) = true := decide_eq_true c13
        clear c13
        obtain ⟨ji14, hji14⟩ : ∃ j_ : Int, (shl .u64 1 (ji12)) = j_ := ⟨_, rfl⟩
        replace H : (some (wrap64 (Go.bits .and .u64 t113 (IntKind.u64.wrap ((ji14) - 1))), ji7)) = some (r1, r2) := by first | (rw [hji14] at H; exact H) | (simp only [hji14] at H ⊢; exact H)
        (try rw [hji14] at A11)
        have hji14_ : (IntKind.u64.wrap (1 * 2 ^ min (ji12).toNat 64)) = ji14 := hji14
        have hji14z : (ji12) ≤ 64 → (IntKind.u64.wrap (1 * 2 ^ (ji12).toNat)) = ji14 := shl_small hji14
        have hji14u : (IntKind.u64.wrap (2 ^ min (ji12).toNat 64)) = ji14 := by have h_ := hji14_; rw [Int.one_mul] at h_; exact h_
        have hji14v : (ji12) ≤ 64 → (IntKind.u64.wrap (2 ^ (ji12).toNat)) = ji14 := fun hle_ => by have h_ := hji14z hle_; rw [Int.one_mul] at h_; exact h_
        simp only [Option.some.injEq, Prod.mk.injEq] at H
        obtain ⟨rfl, rfl⟩ := H
        have p4 : 0 ≤ (0 : Int) := (by omega)
        have q4 : 0 < a0.size := (by have : (0 : Int) < (a0.size : Int) := of_decide_eq_true (by first | (with_reducible assumption) | assumption); omega)
        have hx4 : ∀ h : 0 < a0.size, ((a0[0]'h).toNat : Int) = bt a0 0 := bt_at a0 0
        clear p4
        have qi4 : (0 < (a0.size : Int)) = True := eq_true (of_decide_eq_true (by first | (with_reducible assumption) | assumption))
        replace q4 := eq_true q4
        go_enter Try.func18, Try.ntmps18
        go_wp2_with (first | (go_at_call 54; (with_reducible refine (impl_numberOf.calls k (a0.extract 0 ((ji7) : Int).toNat) t113 _ A11.out).mono ?_); rintro e w' ⟨rfl, ⟨nd, rfl⟩⟩; (try first | exact ⟨rfl, _, World.drewN_drewN _ _ _⟩ | exact ⟨rfl, _, Eq.trans (World.drewN_drewN _ _ _) (congrArg (World.drewN _) (Nat.add_assoc _ _ _))⟩)))
        repeat (go_quiet (first | (go_at_call 54; (with_reducible refine (impl_numberOf.calls k (a0.extract 0 ((ji7) : Int).toNat) t113 _ A11.out).mono ?_); rintro e w' ⟨rfl, ⟨nd, rfl⟩⟩; (try first | exact ⟨rfl, _, World.drewN_drewN _ _ _⟩ | exact ⟨rfl, _, Eq.trans (World.drewN_drewN _ _ _) (congrArg (World.drewN _) (Nat.add_assoc _ _ _))⟩))); try go_wp2_with (first | (go_at_call 54; (with_reducible refine (impl_numberOf.calls k (a0.extract 0 ((ji7) : Int).toNat) t113 _ A11.out).mono ?_); rintro e w' ⟨rfl, ⟨nd, rfl⟩⟩; (try first | exact ⟨rfl, _, World.drewN_drewN _ _ _⟩ | exact ⟨rfl, _, Eq.trans (World.drewN_drewN _ _ _) (congrArg (World.drewN _) (Nat.add_assoc _ _ _))⟩))))
        go_ret2
        exact ⟨by first | rfl | (simp; done) | (simp only [← hji5, ← hji7, ← hji12, ← hji14] <;> (first | rfl | simp)) | (simp [*]; done), by repeat (first | exact Drawn0.refl _ | apply Drawn0.step)⟩
       ·rw [if_neg c13] at H
        exact absurd H (by simp)
      ·rw [if_neg c10] at H
       exact absurd H (by simp)
     ·rw [if_neg c9] at H
      exact absurd H (by simp)
   ·rw [if_neg c6] at H
    exact absurd H (by simp)
  ·rw [if_neg c3] at H
   exact absurd H (by simp)

/-- A state of type 98 at block g of W; what its slices lead to came in by w0. -/
def IsS98 (w0 W : World) (g : Nat) (f0 : ByteArray) (f1 : Bool) : Prop := W.heap[g]? = some (.cells #[.string f0, .bool f1] 98 (0, 0)) ∧ w0.heap.size ≤ g
theorem IsS98.grown {w0 W : World} {g : Nat} {f0 : ByteArray} {f1 : Bool} {W1 : World} {row : Option Nat} (h : IsS98 w0 W g f0 f1) (hw : W.grownBy W1 row) (hne : some g ≠ row) : IsS98 w0 W1 g f0 f1 := by
 obtain ⟨hb, hg⟩ := h
 exact ⟨blk_grown hb hw hne, hg⟩
theorem IsS98.own_neN {w0 W : World} {g : Nat} {f0 : ByteArray} {f1 : Bool} {α : Type} {d : Kd α} {e : Nat} {base : Nat} {ok : Nat → Prop} {v : Value} {xs : List α} (h : IsS98 w0 W g f0 f1) (ho : Kd.N d e W base ok v xs) (ht : e ≠ 98) : some g ≠ v.ownBlock := by
 obtain ⟨hb, hg⟩ := h
 exact Kd.N_ne ho hb ht
theorem IsS98.fresh {w0 W : World} {g : Nat} {f0 : ByteArray} {f1 : Bool} (h : IsS98 w0 W g f0 f1) : ∀ k, W.heap.size ≤ k → k ≠ g := by
 obtain ⟨hb, hg⟩ := h
 exact Kd.freshB hb
theorem IsS98.kept {w0 W : World} {g : Nat} {f0 : ByteArray} {f1 : Bool} {W1 : World} {S : Nat → Prop} (h : IsS98 w0 W g f0 f1) (hk : Kept W W1 S) (hne : ¬ S g) : IsS98 w0 W1 g f0 f1 := by
 obtain ⟨hb, hg⟩ := h
 exact ⟨blk_kept hb hk hne, hg⟩
theorem IsS98.below {w0 W : World} {g : Nat} {f0 : ByteArray} {f1 : Bool} {W1 : World} (h : IsS98 w0 W g f0 f1) (hw : Below W.heap.size W W1) : IsS98 w0 W1 g f0 f1 := h.grown (grown_of_below hw none) (by simp)
theorem IsS98.alloc {w0 W : World} {g : Nat} {f0 : ByteArray} {f1 : Bool} (h : IsS98 w0 W g f0 f1) (o : Obj) : IsS98 w0 (W.alloc o) g f0 f1 := h.below (below_alloc (Below.refl _ _) o)
theorem IsS98.drewN {w0 W : World} {g : Nat} {f0 : ByteArray} {f1 : Bool} (h : IsS98 w0 W g f0 f1) (m : Nat) : IsS98 w0 (W.drewN m) g f0 f1 := h
theorem IsS98.drew {w0 W : World} {g : Nat} {f0 : ByteArray} {f1 : Bool} (h : IsS98 w0 W g f0 f1) : IsS98 w0 W.drew g f0 f1 := h
theorem IsS98.at_ {w0 W : World} {g : Nat} {f0 : ByteArray} {f1 : Bool} {w' : World} {m : Nat} (hq : W.drewN m = w') (h : IsS98 w0 W g f0 f1) : IsS98 w0 w' g f0 f1 := by subst hq; exact IsS98.drewN h m
theorem IsS98.apart {w0 W : World} {g : Nat} {f0 : ByteArray} {f1 : Bool} {α : Type} {d : Kd α} {e : Nat} {base : Nat} {ok : Nat → Prop} {v : Value} {xs : List α} (h : IsS98 w0 W g f0 f1) (ho : d.R e W base ok v xs) (ht : ∀ q, q ∈ e :: d.E → q ≠ 98) : d.R e W base (fun k => ok k ∧ k ≠ g) v xs := by
 obtain ⟨hb, hg⟩ := h
 exact Kd.R_types ho hb ht
theorem IsS98.own_ne {w0 W : World} {g : Nat} {f0 : ByteArray} {f1 : Bool} {α : Type} {d : Kd α} {e : Nat} {base : Nat} {ok : Nat → Prop} {v : Value} {xs : List α} (h : IsS98 w0 W g f0 f1) (ho : d.R e W base ok v xs) (ht : e ≠ 98) : some g ≠ v.ownBlock := by
 obtain ⟨hb, hg⟩ := h
 exact Kd.R_ne ho hb ht
theorem IsS98.apartQ {w0 W : World} {g : Nat} {f0 : ByteArray} {f1 : Bool} {α : Type} {d : Kd α} {e : Nat} {base : Nat} {ok : Nat → Prop} {v : Value} {xs : List α} (h : IsS98 w0 W g f0 f1) (ho : d.Q e W base ok v xs) (ht : ∀ q, q ∈ e :: d.E → q ≠ 98) : d.Q e W base (fun k => ok k ∧ k ≠ g) v xs := by
 obtain ⟨hb, hg⟩ := h
 exact Kd.Q_types ho hb ht
theorem IsS98.own_neQ {w0 W : World} {g : Nat} {f0 : ByteArray} {f1 : Bool} {α : Type} {d : Kd α} {e : Nat} {base : Nat} {ok : Nat → Prop} {v : Value} {xs : List α} (h : IsS98 w0 W g f0 f1) (ho : d.Q e W base ok v xs) (ht : e ≠ 98) : some g ≠ v.ownBlock := by
 obtain ⟨hb, hg⟩ := h
 exact Kd.Q_ne ho hb ht
theorem IsS98.apartS {w0 W : World} {g : Nat} {f0 : ByteArray} {f1 : Bool} {α : Type} {d : Kd α} {e : Nat} {base : Nat} {ok : Nat → Prop} {v : Value} {xs : List α} (h : IsS98 w0 W g f0 f1) (ho : d.S e W base ok v xs) (ht : ∀ q, q ∈ e :: d.E → q ≠ 98) : d.S e W base (fun k => ok k ∧ k ≠ g) v xs := by
 obtain ⟨hb, hg⟩ := h
 exact Kd.S_types ho hb ht
theorem IsS98.own_neS {w0 W : World} {g : Nat} {f0 : ByteArray} {f1 : Bool} {α : Type} {d : Kd α} {e : Nat} {base : Nat} {ok : Nat → Prop} {v : Value} {xs : List α} (h : IsS98 w0 W g f0 f1) (ho : d.S e W base ok v xs) (ht : e ≠ 98) : some g ≠ v.ownBlock := by
 obtain ⟨hb, hg⟩ := h
 exact Kd.S_ne ho hb ht
theorem IsS98.lt {w0 W : World} {g : Nat} {f0 : ByteArray} {f1 : Bool} (h : IsS98 w0 W g f0 f1) : g < W.heap.size := by
 obtain ⟨hb, hg⟩ := h
 exact blk_lt hb
theorem IsS98.ge {w0 W : World} {g : Nat} {f0 : ByteArray} {f1 : Bool} (h : IsS98 w0 W g f0 f1) : w0.heap.size ≤ g := by
 obtain ⟨hb, hg⟩ := h
 exact hg
theorem IsS98.ne_blk {w0 W : World} {g : Nat} {f0 : ByteArray} {f1 : Bool} {a : Nat} {cs : Array Value} {t : TypeId} {fr : Nat × Nat} (h : IsS98 w0 W g f0 f1) (hb2 : W.heap[a]? = some (.cells cs t fr)) (ht : t ≠ 98) : g ≠ a := by
 obtain ⟨hb, hg⟩ := h
 rintro rfl
 rw [hb] at hb2
 injection hb2 with hb2
 injection hb2 with _ ht2
 exact ht ht2.symm
theorem IsS98.far {w0 W : World} {g : Nat} {f0 : ByteArray} {f1 : Bool} {p : Addr} (h : IsS98 w0 W g f0 f1) (hne : g ≠ p.block) (u : Value) : IsS98 w0 (W.setCell p u) g f0 f1 := by
 obtain ⟨hb, hg⟩ := h
 exact ⟨blk_far hb hne u, hg⟩
theorem cellS98_0 {W : World} {g : Nat} {f0 : ByteArray} {f1 : Bool} (h : W.heap[g]? = some (.cells #[.string f0, .bool f1] 98 (0, 0))) : W.cell? ⟨g, 0, none⟩ = some (.string f0) := (blk_cell h 0).trans rfl
theorem IsS98.set_0 {w0 W : World} {g : Nat} {f0 : ByteArray} {f1 : Bool} (h : IsS98 w0 W g f0 f1) (x : ByteArray) : IsS98 w0 (W.setCell ⟨g, 0, none⟩ (.string x)) g x f1 := by
 obtain ⟨hb, hg⟩ := h
 exact ⟨by simpa using blk_set hb 0 (.string x), hg⟩
theorem cellS98_1 {W : World} {g : Nat} {f0 : ByteArray} {f1 : Bool} (h : W.heap[g]? = some (.cells #[.string f0, .bool f1] 98 (0, 0))) : W.cell? ⟨g, 1, none⟩ = some (.bool f1) := (blk_cell h 1).trans rfl
theorem IsS98.set_1 {w0 W : World} {g : Nat} {f0 : ByteArray} {f1 : Bool} (h : IsS98 w0 W g f0 f1) (x : Bool) : IsS98 w0 (W.setCell ⟨g, 1, none⟩ (.bool x)) g f0 x := by
 obtain ⟨hb, hg⟩ := h
 exact ⟨by simpa using blk_set hb 1 (.bool x), hg⟩
theorem IsS98.new (w0 W : World) (f0 : ByteArray) (f1 : Bool) (hB : Below w0.heap.size w0 W) : IsS98 w0 (W.alloc (.cells #[.string f0, .bool f1] 98)) W.heap.size f0 f1 := ⟨by simpa using heap_alloc_new W _, hB.size⟩

/-! ### impl_cursor_number: function 78 -/
def impl_cursor_number.f (k : Nat) (s0_0 : ByteArray) (s0_1 : Bool) : Option (Int × ByteArray × Bool) := (impl_TakeVarint.f k s0_0).bind fun bt114 => (if bt114.2 = 0 then (if 0 ≤ bt114.2 then (if bt114.2 ≤ (s0_0.size : Int) then (some (bt114.1, s0_0.extract (bt114.2 : Int).toNat s0_0.size, true)) else (none)) else (none)) else (if 0 ≤ bt114.2 then (if bt114.2 ≤ (s0_0.size : Int) then (some (bt114.1, s0_0.extract (bt114.2 : Int).toNat s0_0.size, s0_1)) else (none)) else (none)))
theorem impl_cursor_number.mono : ∀ a0 a1 k, LeO (impl_cursor_number.f k a0 a1) (impl_cursor_number.f (k + 1) a0 a1) := by
 intro a0 a1 k
 unfold impl_cursor_number.f
 repeat' first
   | (with_reducible exact impl_TakeVarint.mono _ _)
   | (with_reducible exact LeO.refl _)
   | (with_reducible exact LeO.none _)
   | (with_reducible refine LeO.ite ?_ ?_)
   | (with_reducible refine LeO.bind ?_ (fun _ => ?_))
   | exact impl_TakeVarint.mono _ _
   | exact LeO.none _
   | refine LeO.ite ?_ ?_
   | refine LeO.bind ?_ (fun _ => ?_)
set_option maxHeartbeats 8000000 in
set_option maxRecDepth 100000 in
theorem impl_cursor_number.calls (k : Nat) (g : Nat) (s0_0 : ByteArray) (s0_1 : Bool) (r1 : Int) (r2 : ByteArray) (r3 : Bool) (w0 w : World) (hI : IsS98 w0 w g s0_0 s0_1) (hB : Below w0.heap.size w0 w) (h : impl_cursor_number.f k s0_0 s0_1 = some (r1, r2, r3)) :
  Calls Try.prog 78 #[.pointer (some ⟨g, 0, none⟩)] w fun e w' => e = .returned (.int .i64 r1) ∧ IsS98 w0 w' g r2 r3 ∧ Below w0.heap.size w0 w' ∧ KeepBut w w' g none := by
 have HI0 := Aside0.mk hI
 have HK := Aside0.mk (KeepBut.refl w g none)
 have HL := Aside0.mk hB.size
 clear hI
 have HW0 := Aside0.mk hB.size
 have HB := Aside0.mk hB
 clear hB
 have H : ((impl_TakeVarint.f k s0_0).bind fun bt114 => (if bt114.2 = 0 then (if 0 ≤ bt114.2 then (if bt114.2 ≤ (s0_0.size : Int) then (some (bt114.1, s0_0.extract (bt114.2 : Int).toNat s0_0.size, true)) else (none)) else (none)) else (if 0 ≤ bt114.2 then (if bt114.2 ≤ (s0_0.size : Int) then (some (bt114.1, s0_0.extract (bt114.2 : Int).toNat s0_0.size, s0_1)) else (none)) else (none)))) = some (r1, r2, r3) := h
 clear h
 replace H := Option.bind_eq_some_iff.mp H
 obtain ⟨⟨t114, t115⟩, A20, H⟩ := H
 replace H : (if t115 = 0 then (if 0 ≤ t115 then (if t115 ≤ (s0_0.size : Int) then (some (t114, s0_0.extract (t115 : Int).toNat s0_0.size, true)) else (none)) else (none)) else (if 0 ≤ t115 then (if t115 ≤ (s0_0.size : Int) then (some (t114, s0_0.extract (t115 : Int).toNat s0_0.size, s0_1)) else (none)) else (none))) = some (r1, r2, r3) := H
 have A2 := Aside0.mk A20
 clear A20
 by_cases c3 : t115 = 0
 ·rw [if_pos c3] at H
  have c3b0 : (t115 == 0) = true := beq_iff_eq.mpr c3
  have c3b1 : (t115 != 0) = false := bne_eq_false_iff_eq.mpr c3
  clear c3
  by_cases c4 : 0 ≤ t115
  ·rw [if_pos c4] at H
   have c4b0 := eq_true c4
   have c4b1 : decide (0 ≤ t115) = true := decide_eq_true c4
   clear c4
   by_cases c5 : t115 ≤ (s0_0.size : Int)
   ·rw [if_pos c5] at H
    have c5b0 := eq_true c5
    have c5b1 : decide (t115 ≤ (s0_0.size : Int)) = true := decide_eq_true c5
    clear c5
    simp only [Option.some.injEq, Prod.mk.injEq] at H
    obtain ⟨rfl, rfl, rfl⟩ := H
    obtain ⟨HGz6, hgz6⟩ := HI0.out
    have hcz6_0 := cellS98_0 HGz6
    have hcz6_1 := cellS98_1 HGz6
    have hfz6_0 := blk_frozen HGz6 0
    have hfz6_1 := blk_frozen HGz6 1
    clear HGz6 hgz6
    go_enter Try.func78, Try.ntmps78
    go_wp2_with (first | ((with_reducible refine gate_callee (f := 18) rfl ?_); refine goesL_ (some 10) rfl rfl Try.func18 (by kernel_rfl) rfl #[.string s0_0] rfl (by (try simp only [List.map_toArray, List.map_cons, List.map_nil]); first | done | rfl | (simp only [List.length_drop, List.length_take]; rfl)) ?_; (with_reducible refine (impl_TakeVarint.calls k s0_0 t114 t115 _ A2.out).mono ?_); rintro e w' ⟨rfl, ⟨nd, rfl⟩⟩; refine ⟨_, rfl, ?_⟩))
    go_ret
    exact ⟨by first | rfl | (simp [errW_none, errW_some] <;> rfl) | (simp [*, errW_none, errW_some] <;> rfl), by repeat (first | (with_reducible first | exact HI0.out | apply IsS98.alloc | apply IsS98.drewN | apply IsS98.drew | apply IsS98.set_0 | apply IsS98.set_1) | exact HI0.out), by repeat (first | (with_reducible first | exact HB.out | apply below_alloc | apply pw_below_drewN | apply below_drew1 | refine below_set ?_ (IsS98.ge HI0.out)) | exact HB.out), by repeat (first | (with_reducible first | exact HK.out | apply KeepBut.set_ | apply keep_drewN | apply keep_drew | apply keep_alloc) | exact HK.out)⟩
   ·rw [if_neg c5] at H
    exact absurd H (by simp)
  ·rw [if_neg c4] at H
   exact absurd H (by simp)
 ·rw [if_neg c3] at H
  have c3b0 : (t115 == 0) = false := beq_eq_false_iff_ne.mpr c3
  have c3b1 : (t115 != 0) = true := bne_iff_ne.mpr c3
  by_cases c7 : 0 ≤ t115
  ·rw [if_pos c7] at H
   have c7b0 := eq_true c7
   have c7b1 : decide (0 ≤ t115) = true := decide_eq_true c7
   clear c7
   by_cases c8 : t115 ≤ (s0_0.size : Int)
   ·rw [if_pos c8] at H
    have c8b0 := eq_true c8
    have c8b1 : decide (t115 ≤ (s0_0.size : Int)) = true := decide_eq_true c8
    clear c8
    simp only [Option.some.injEq, Prod.mk.injEq] at H
    obtain ⟨rfl, rfl, rfl⟩ := H
    obtain ⟨HGz9, hgz9⟩ := HI0.out
    have hcz9_0 := cellS98_0 HGz9
    have hcz9_1 := cellS98_1 HGz9
    have hfz9_0 := blk_frozen HGz9 0
    have hfz9_1 := blk_frozen HGz9 1
    clear HGz9 hgz9
    go_enter Try.func78, Try.ntmps78
    go_wp2_with (first | ((with_reducible refine gate_callee (f := 18) rfl ?_); refine goesL_ (some 10) rfl rfl Try.func18 (by kernel_rfl) rfl #[.string s0_0] rfl (by (try simp only [List.map_toArray, List.map_cons, List.map_nil]); first | done | rfl | (simp only [List.length_drop, List.length_take]; rfl)) ?_; (with_reducible refine (impl_TakeVarint.calls k s0_0 t114 t115 _ A2.out).mono ?_); rintro e w' ⟨rfl, ⟨nd, rfl⟩⟩; refine ⟨_, rfl, ?_⟩))
    go_ret
    exact ⟨by first | rfl | (simp [errW_none, errW_some] <;> rfl) | (simp [*, errW_none, errW_some] <;> rfl), by repeat (first | (with_reducible first | exact HI0.out | apply IsS98.alloc | apply IsS98.drewN | apply IsS98.drew | apply IsS98.set_0 | apply IsS98.set_1) | exact HI0.out), by repeat (first | (with_reducible first | exact HB.out | apply below_alloc | apply pw_below_drewN | apply below_drew1 | refine below_set ?_ (IsS98.ge HI0.out)) | exact HB.out), by repeat (first | (with_reducible first | exact HK.out | apply KeepBut.set_ | apply keep_drewN | apply keep_drew | apply keep_alloc) | exact HK.out)⟩
   ·rw [if_neg c8] at H
    exact absurd H (by simp)
  ·rw [if_neg c7] at H
   exact absurd H (by simp)

/-! ### impl_cursor_take: function 79 -/
def impl_cursor_take.f (s0_0 : ByteArray) (s0_1 : Bool) (a1 : Int) : Option (ByteArray × ByteArray × Bool) := if s0_1 = true then (some ((⟨#[]⟩ : ByteArray), s0_0, true)) else (if a1 > (s0_0.size : Int) then (some ((⟨#[]⟩ : ByteArray), s0_0, true)) else (if 0 ≤ a1 then (if a1 ≤ (s0_0.size : Int) then (some (s0_0.extract 0 (a1 : Int).toNat, s0_0.extract (a1 : Int).toNat s0_0.size, s0_1)) else (none)) else (none)))
set_option maxHeartbeats 8000000 in
set_option maxRecDepth 100000 in
theorem impl_cursor_take.calls (g : Nat) (s0_0 : ByteArray) (s0_1 : Bool) (a1 : Int) (r1 : ByteArray) (r2 : ByteArray) (r3 : Bool) (w0 w : World) (hI : IsS98 w0 w g s0_0 s0_1) (hB : Below w0.heap.size w0 w) (h : impl_cursor_take.f s0_0 s0_1 a1 = some (r1, r2, r3)) :
  Calls Try.prog 79 #[.pointer (some ⟨g, 0, none⟩), .int .i64 a1] w fun e w' => e = .returned (.string r1) ∧ IsS98 w0 w' g r2 r3 ∧ Below w0.heap.size w0 w' ∧ KeepBut w w' g none := by
 have HI0 := Aside0.mk hI
 have HK := Aside0.mk (KeepBut.refl w g none)
 have HL := Aside0.mk hB.size
 clear hI
 have HW0 := Aside0.mk hB.size
 have HB := Aside0.mk hB
 clear hB
 have H : (if s0_1 = true then (some ((⟨#[]⟩ : ByteArray), s0_0, true)) else (if a1 > (s0_0.size : Int) then (some ((⟨#[]⟩ : ByteArray), s0_0, true)) else (if 0 ≤ a1 then (if a1 ≤ (s0_0.size : Int) then (some (s0_0.extract 0 (a1 : Int).toNat, s0_0.extract (a1 : Int).toNat s0_0.size, s0_1)) else (none)) else (none)))) = some (r1, r2, r3) := h
 clear h
 by_cases c3 : s0_1 = true
 ·subst c3
  have H1 : (some ((⟨#[]⟩ : ByteArray), s0_0, true)) = some (r1, r2, r3) := by rw [if_pos rfl] at H; exact H
  clear H
  have H := H1
  clear H1
  simp only [Option.some.injEq, Prod.mk.injEq] at H
  obtain ⟨rfl, rfl, rfl⟩ := H
  obtain ⟨HGz4, hgz4⟩ := HI0.out
  have hcz4_0 := cellS98_0 HGz4
  have hcz4_1 := cellS98_1 HGz4
  have hfz4_0 := blk_frozen HGz4 0
  have hfz4_1 := blk_frozen HGz4 1
  clear HGz4 hgz4
  go_enter Try.func79, Try.ntmps79
  go_wp2
  go_ret
  exact ⟨by first | rfl | (simp [errW_none, errW_some] <;> rfl) | (simp [*, errW_none, errW_some] <;> rfl), by repeat (first | (with_reducible first | exact HI0.out | apply IsS98.alloc | apply IsS98.drewN | apply IsS98.drew | apply IsS98.set_0 | apply IsS98.set_1) | exact HI0.out), by repeat (first | (with_reducible first | exact HB.out | apply below_alloc | apply pw_below_drewN | apply below_drew1 | refine below_set ?_ (IsS98.ge HI0.out)) | exact HB.out), by repeat (first | (with_reducible first | exact HK.out | apply KeepBut.set_ | apply keep_drewN | apply keep_drew | apply keep_alloc) | exact HK.out)⟩
 ·replace c3 := Bool.eq_false_iff.mpr c3
  subst c3
  have H1 : (if a1 > (s0_0.size : Int) then (some ((⟨#[]⟩ : ByteArray), s0_0, true)) else (if 0 ≤ a1 then (if a1 ≤ (s0_0.size : Int) then (some (s0_0.extract 0 (a1 : Int).toNat, s0_0.extract (a1 : Int).toNat s0_0.size, false)) else (none)) else (none))) = some (r1, r2, r3) := by rw [if_neg (show ¬ (false = true) by decide)] at H; exact H
  clear H
  have H := H1
  clear H1
  by_cases c5 : a1 > (s0_0.size : Int)
  ·rw [if_pos c5] at H
   have c5b0 : decide ((s0_0.size : Int) < a1) = true := decide_eq_true c5
   clear c5
   simp only [Option.some.injEq, Prod.mk.injEq] at H
   obtain ⟨rfl, rfl, rfl⟩ := H
   obtain ⟨HGz6, hgz6⟩ := HI0.out
   have hcz6_0 := cellS98_0 HGz6
   have hcz6_1 := cellS98_1 HGz6
   have hfz6_0 := blk_frozen HGz6 0
   have hfz6_1 := blk_frozen HGz6 1
   clear HGz6 hgz6
   go_enter Try.func79, Try.ntmps79
   go_wp2
   go_ret
   exact ⟨by first | rfl | (simp [errW_none, errW_some] <;> rfl) | (simp [*, errW_none, errW_some] <;> rfl), by repeat (first | (with_reducible first | exact HI0.out | apply IsS98.alloc | apply IsS98.drewN | apply IsS98.drew | apply IsS98.set_0 | apply IsS98.set_1) | exact HI0.out), by repeat (first | (with_reducible first | exact HB.out | apply below_alloc | apply pw_below_drewN | apply below_drew1 | refine below_set ?_ (IsS98.ge HI0.out)) | exact HB.out), by repeat (first | (with_reducible first | exact HK.out | apply KeepBut.set_ | apply keep_drewN | apply keep_drew | apply keep_alloc) | exact HK.out)⟩
  ·rw [if_neg c5] at H
   have c5b0 : decide ((s0_0.size : Int) < a1) = false := decide_eq_false c5
   clear c5
   by_cases c7 : 0 ≤ a1
   ·rw [if_pos c7] at H
    have c7b0 := eq_true c7
    have c7b1 : decide (0 ≤ a1) = true := decide_eq_true c7
    clear c7
    by_cases c8 : a1 ≤ (s0_0.size : Int)
    ·rw [if_pos c8] at H
     have c8b0 := eq_true c8
     have c8b1 : decide (a1 ≤ (s0_0.size : Int)) = true := decide_eq_true c8
     clear c8
     have c9b0 := eq_true (of_decide_eq_true (by first | (with_reducible assumption) | assumption) : 0 ≤ a1)
     have c10b0 := eq_true (of_decide_eq_true (by first | (with_reducible assumption) | assumption) : a1 ≤ (s0_0.size : Int))
     simp only [Option.some.injEq, Prod.mk.injEq] at H
     obtain ⟨rfl, rfl, rfl⟩ := H
     obtain ⟨HGz11, hgz11⟩ := HI0.out
     have hcz11_0 := cellS98_0 HGz11
     have hcz11_1 := cellS98_1 HGz11
     have hfz11_0 := blk_frozen HGz11 0
     have hfz11_1 := blk_frozen HGz11 1
     clear HGz11 hgz11
     go_enter Try.func79, Try.ntmps79
     go_wp2
     go_ret
     exact ⟨by first | rfl | (simp [errW_none, errW_some] <;> rfl) | (simp [*, errW_none, errW_some] <;> rfl), by repeat (first | (with_reducible first | exact HI0.out | apply IsS98.alloc | apply IsS98.drewN | apply IsS98.drew | apply IsS98.set_0 | apply IsS98.set_1) | exact HI0.out), by repeat (first | (with_reducible first | exact HB.out | apply below_alloc | apply pw_below_drewN | apply below_drew1 | refine below_set ?_ (IsS98.ge HI0.out)) | exact HB.out), by repeat (first | (with_reducible first | exact HK.out | apply KeepBut.set_ | apply keep_drewN | apply keep_drew | apply keep_alloc) | exact HK.out)⟩
    ·rw [if_neg c8] at H
     exact absurd H (by simp)
   ·rw [if_neg c7] at H
    exact absurd H (by simp)

end Go.Proofs.Ytcggngmcaicdpab.PFnExactReadCapsules
