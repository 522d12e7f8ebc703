-- Written by a program of this session out of the translation; Lean checks it.
import Derived.Test.YtcggngmcaicdpaaPFnGaloisx0
import Derived.Test.YtcggngmcaicdpaaPFnGaloisx1
namespace Go.Proofs.Ytcggngmcaicdpaa.PFnGalois
open Go.RowKit Go.Proofs.YtcggngmcaicdpaaW.PrintWords Go.Proofs.YtcggngmcaicdpaaW.PrintLast Go.Proofs.YtcggngmcaicdpaaW.PrintMore
attribute [local go_sem] max2_int min2_int max_two min_two max_three min_three max_four min_four   -- for this text's walks alone
set_option linter.unusedVariables false
set_option linter.unusedSimpArgs false

/-! ### impl_inverseGf: function 44 -/
def impl_inverseGf.l0 : Nat → Int → Int → Int → Option (Int)
  | 0, _, _, _ => none
  | k + 1, x0, x3, x4 => if x4 < 254 then ((impl_mulGf.f k x3 x0).bind fun t167 => (impl_inverseGf.l0 k x0 t167 (wrap64 (x4 + 1)))) else (some x3)
def impl_inverseGf.f (k : Nat) (a0 : Int) : Option (Int) := impl_inverseGf.l0 k a0 1 0
theorem impl_inverseGf.mono_l : ∀ k, (∀ y0 y1 y2, LeO (impl_inverseGf.l0 k y0 y1 y2) (impl_inverseGf.l0 (k + 1) y0 y1 y2))
  | 0 => fun _ _ _ r h => by simp [impl_inverseGf.l0] at h
  | k + 1 => by
    have ih0 := impl_inverseGf.mono_l k
    · intro y0 y1 y2
      unfold impl_inverseGf.l0
      repeat' first
      | (with_reducible exact ih0 _ _ _)
      | (with_reducible exact impl_mulGf.mono _ _ _)
      | (with_reducible exact LeO.refl _)
      | (with_reducible exact LeO.none _)
      | (with_reducible refine LeO.ite ?_ ?_)
      | (with_reducible refine LeO.bind ?_ (fun _ => ?_))
      | exact ih0 _ _ _
      | exact impl_mulGf.mono _ _ _
      | exact LeO.none _
      | refine LeO.ite ?_ ?_
      | refine LeO.bind ?_ (fun _ => ?_)
theorem impl_inverseGf.mono : ∀ a0 k, LeO (impl_inverseGf.f k a0) (impl_inverseGf.f (k + 1) a0) := by
  intro a0 k
  have ih0 := impl_inverseGf.mono_l k
  unfold impl_inverseGf.f
  repeat' first
      | (with_reducible exact ih0 _ _ _)
      | (with_reducible exact impl_mulGf.mono _ _ _)
      | (with_reducible exact LeO.refl _)
      | (with_reducible exact LeO.none _)
      | (with_reducible refine LeO.ite ?_ ?_)
      | (with_reducible refine LeO.bind ?_ (fun _ => ?_))
      | exact ih0 _ _ _
      | exact impl_mulGf.mono _ _ _
      | exact LeO.none _
      | refine LeO.ite ?_ ?_
      | refine LeO.bind ?_ (fun _ => ?_)
set_option maxHeartbeats 8000000 in
set_option maxRecDepth 100000 in
theorem impl_inverseGf.calls (k : Nat) (a0 : Int) (r : Int) (w : World) (h : impl_inverseGf.f k a0 = some r) :
    Calls Try.prog 44 #[.int .u8 a0] w fun e w' => e = .returned (.int .u8 r) ∧ Drawn0 w w' := by
  have H : (impl_inverseGf.l0 k a0 1 0) = some r := h
  clear h
  have H' := Aside0.mk H
  clear H
  go_enter Try.func44, Try.ntmps44
  go_wp2
  go_loopg [3, 4] k (fun kq v3 v4 w' => ∃ (x3_1 : Int) (x4_1 : Int), v3 = .int .u8 x3_1 ∧ v4 = .int .i64 x4_1 ∧ Aside0 (impl_inverseGf.l0 kq a0 x3_1 x4_1 = some r) ∧ Aside0 (kq ≤ k) ∧ Drawn0 w w')
  case atStart => exact ⟨(1), (0), (by first | rfl | (simp; done) | (simp [*]; done)), (by first | rfl | (simp; done) | (simp [*]; done)), H', ⟨Nat.le_refl _⟩, by repeat (first | exact Drawn0.refl _ | apply Drawn0.step)⟩
  case round =>
    clear H'
    obtain ⟨x3_1, x4_1, rfl, rfl, HA, HK1, ⟨m1, rfl⟩⟩ := hrel
    cases gk with
    | zero => exact absurd HA.out (by simp [impl_inverseGf.l0])
    | succ k1 =>
      have H := HA.out
      clear HA
      simp only [impl_inverseGf.l0] at H
      by_cases c2 : x4_1 < 254
      · rw [if_pos c2] at H
        have c2b0 : decide (x4_1 < 254) = true := decide_eq_true c2
        clear c2
        replace H := Option.bind_eq_some_iff.mp H
        obtain ⟨t167, A30, H⟩ := H
        replace H : (impl_inverseGf.l0 k1 a0 t167 (wrap64 (x4_1 + 1))) = some r := H
        have A3 := Aside0.mk A30
        clear A30
        have H' := Aside0.mk H
        clear H
        go_wp2_with (first | ((with_reducible refine gate_callee (f := 43) rfl ?_); refine goesL_ (some 8) rfl rfl Try.func43 (by kernel_rfl) rfl #[.int .u8 x3_1, .int .u8 a0] rfl (by (try simp only [List.map_toArray, List.map_cons, List.map_nil]); first | done | rfl | (simp only [List.length_drop, List.length_take]; rfl)) ?_; (with_reducible refine (impl_mulGf.calls k1 x3_1 a0 t167 _ A3.out).mono ?_); rintro e w' ⟨rfl, ⟨nd, rfl⟩⟩; refine ⟨_, rfl, ?_⟩))
        go_roundg k1
        case measure => have := HK1.out; omega
        case rel => exact ⟨(t167), (wrap64 (x4_1 + 1)), (by first | rfl | (simp; done) | (simp [*]; done)), (by first | rfl | (simp; done) | (simp [*]; done)), H', ⟨by have := HK1.out; omega⟩, by repeat (first | exact Drawn0.refl _ | apply Drawn0.step)⟩
      · rw [if_neg c2] at H
        have c2b0 : decide (x4_1 < 254) = false := decide_eq_false c2
        clear c2
        obtain rfl := Option.some.inj H
        go_wp2
        go_ret
        exact ⟨by first | rfl | (simp; done) | (simp [*]; done), by repeat (first | exact Drawn0.refl _ | apply Drawn0.step)⟩

/-! ### impl_InverseGf: function 18 -/
def impl_InverseGf.f (k : Nat) (a0 : Int) : Option (Int) := (impl_inverseGf.f k ((a0) % 256)).bind fun t168 => (some (wrap64 (t168)))
theorem impl_InverseGf.mono : ∀ a0 k, LeO (impl_InverseGf.f k a0) (impl_InverseGf.f (k + 1) a0) := by
  intro a0 k
  unfold impl_InverseGf.f
  repeat' first
      | (with_reducible exact impl_inverseGf.mono _ _)
      | (with_reducible exact LeO.refl _)
      | (with_reducible exact LeO.none _)
      | (with_reducible refine LeO.ite ?_ ?_)
      | (with_reducible refine LeO.bind ?_ (fun _ => ?_))
      | exact impl_inverseGf.mono _ _
      | exact LeO.none _
      | refine LeO.ite ?_ ?_
      | refine LeO.bind ?_ (fun _ => ?_)
set_option maxHeartbeats 8000000 in
set_option maxRecDepth 100000 in
theorem impl_InverseGf.calls (k : Nat) (a0 : Int) (r : Int) (w : World) (h : impl_InverseGf.f k a0 = some r) :
    Calls Try.prog 18 #[.int .i64 a0] w fun e w' => e = .returned (.int .i64 r) ∧ Drawn0 w w' := by
  have H : ((impl_inverseGf.f k ((a0) % 256)).bind fun t168 => (some (wrap64 (t168)))) = some r := h
  clear h
  replace H := Option.bind_eq_some_iff.mp H
  obtain ⟨t168, A20, H⟩ := H
  replace H : (some (wrap64 (t168))) = some r := H
  have A2 := Aside0.mk A20
  clear A20
  obtain rfl := Option.some.inj H
  go_enter Try.func18, Try.ntmps18
  go_wp2_with (first | ((with_reducible refine gate_callee (f := 44) rfl ?_); refine goesL_ (some 5) rfl rfl Try.func44 (by kernel_rfl) rfl #[.int .u8 ((a0) % 256)] rfl (by (try simp only [List.map_toArray, List.map_cons, List.map_nil]); first | done | rfl | (simp only [List.length_drop, List.length_take]; rfl)) ?_; (with_reducible refine (impl_inverseGf.calls k ((a0) % 256) t168 _ A2.out).mono ?_); rintro e w' ⟨rfl, ⟨nd, rfl⟩⟩; refine ⟨_, rfl, ?_⟩))
  go_ret
  exact ⟨by first | rfl | (simp; done) | (simp [*]; done), by repeat (first | exact Drawn0.refl _ | apply Drawn0.step)⟩

/-! ### spec_l3Mul: function 45 -/
def spec_l3Mul.l0 : Nat → Int → Int → Int → Option (Int)
  | 0, _, _, _ => none
  | k + 1, x0, x1, x5 => if x1 > 0 then (if (Go.bits .and .u8 x1 1) = 1 then (if (Go.bits .and .u8 x0 128) = 0 then (spec_l3Mul.l0 k ((x0 * 2) % 256) (x1 / 2) (Go.bits .xor .u8 x5 x0)) else (spec_l3Mul.l0 k (Go.bits .xor .u8 ((x0 * 2) % 256) 27) (x1 / 2) (Go.bits .xor .u8 x5 x0))) else (if (Go.bits .and .u8 x0 128) = 0 then (spec_l3Mul.l0 k ((x0 * 2) % 256) (x1 / 2) x5) else (spec_l3Mul.l0 k (Go.bits .xor .u8 ((x0 * 2) % 256) 27) (x1 / 2) x5))) else (some x5)
def spec_l3Mul.f (k : Nat) (a0 : Int) (a1 : Int) : Option (Int) := spec_l3Mul.l0 k a0 a1 0
theorem spec_l3Mul.mono_l : ∀ k, (∀ y0 y1 y2, LeO (spec_l3Mul.l0 k y0 y1 y2) (spec_l3Mul.l0 (k + 1) y0 y1 y2))
  | 0 => fun _ _ _ r h => by simp [spec_l3Mul.l0] at h
  | k + 1 => by
    have ih0 := spec_l3Mul.mono_l k
    · intro y0 y1 y2
      unfold spec_l3Mul.l0
      repeat' first
      | (with_reducible exact ih0 _ _ _)
      | (with_reducible exact LeO.refl _)
      | (with_reducible exact LeO.none _)
      | (with_reducible refine LeO.ite ?_ ?_)
      | (with_reducible refine LeO.bind ?_ (fun _ => ?_))
      | exact ih0 _ _ _
      | exact LeO.none _
      | refine LeO.ite ?_ ?_
      | refine LeO.bind ?_ (fun _ => ?_)
theorem spec_l3Mul.mono : ∀ a0 a1 k, LeO (spec_l3Mul.f k a0 a1) (spec_l3Mul.f (k + 1) a0 a1) := by
  intro a0 a1 k
  have ih0 := spec_l3Mul.mono_l k
  unfold spec_l3Mul.f
  repeat' first
      | (with_reducible exact ih0 _ _ _)
      | (with_reducible exact LeO.refl _)
      | (with_reducible exact LeO.none _)
      | (with_reducible refine LeO.ite ?_ ?_)
      | (with_reducible refine LeO.bind ?_ (fun _ => ?_))
      | exact ih0 _ _ _
      | exact LeO.none _
      | refine LeO.ite ?_ ?_
      | refine LeO.bind ?_ (fun _ => ?_)
set_option maxHeartbeats 8000000 in
set_option maxRecDepth 100000 in
theorem spec_l3Mul.calls (k : Nat) (a0 : Int) (a1 : Int) (r : Int) (w : World) (h : spec_l3Mul.f k a0 a1 = some r) :
    Calls Try.prog 45 #[.int .u8 a0, .int .u8 a1] w fun e w' => e = .returned (.int .u8 r) ∧ Drawn0 w w' := by
  have H : (spec_l3Mul.l0 k a0 a1 0) = some r := h
  clear h
  have H' := Aside0.mk H
  clear H
  go_enter Try.func45, Try.ntmps45
  go_wp2
  go_loopg [0, 1, 5] k (fun kq v0 v1 v5 w' => ∃ (x0_1 : Int) (x1_1 : Int) (x5_1 : Int), v0 = .int .u8 x0_1 ∧ v1 = .int .u8 x1_1 ∧ v5 = .int .u8 x5_1 ∧ Aside0 (spec_l3Mul.l0 kq x0_1 x1_1 x5_1 = some r) ∧ Aside0 (kq ≤ k) ∧ Drawn0 w w')
  case atStart => exact ⟨(a0), (a1), (0), (by first | rfl | (simp; done) | (simp [*]; done)), (by first | rfl | (simp; done) | (simp [*]; done)), (by first | rfl | (simp; done) | (simp [*]; done)), H', ⟨Nat.le_refl _⟩, by repeat (first | exact Drawn0.refl _ | apply Drawn0.step)⟩
  case round =>
    clear H'
    try clear p2
    obtain ⟨x0_1, x1_1, x5_1, rfl, rfl, rfl, HA, HK1, ⟨m1, rfl⟩⟩ := hrel
    cases gk with
    | zero => exact absurd HA.out (by simp [spec_l3Mul.l0])
    | succ k1 =>
      have H := HA.out
      clear HA
      simp only [spec_l3Mul.l0] at H
      by_cases c3 : x1_1 > 0
      · rw [if_pos c3] at H
        have c3b0 : decide (0 < x1_1) = true := decide_eq_true c3
        clear c3
        by_cases c4 : (Go.bits .and .u8 x1_1 1) = 1
        · rw [if_pos c4] at H
          have c4b0 : ((Go.bits .and .u8 x1_1 1) == 1) = true := beq_iff_eq.mpr c4
          have c4b1 : ((Go.bits .and .u8 x1_1 1) != 1) = false := bne_eq_false_iff_eq.mpr c4
          clear c4
          by_cases c5 : (Go.bits .and .u8 x0_1 128) = 0
          · rw [if_pos c5] at H
            have c5b0 : ((Go.bits .and .u8 x0_1 128) == 0) = true := beq_iff_eq.mpr c5
            have c5b1 : ((Go.bits .and .u8 x0_1 128) != 0) = false := bne_eq_false_iff_eq.mpr c5
            clear c5
            have H' := Aside0.mk H
            clear H
            go_wp2
            go_roundg k1
            case measure => have := HK1.out; omega
            case rel => exact ⟨((x0_1 * 2) % 256), (x1_1 / 2), (Go.bits .xor .u8 x5_1 x0_1), (by first | rfl | (simp; done) | (simp [*]; done)), (by first | rfl | (simp; done) | (simp [*]; done)), (by first | rfl | (simp; done) | (simp [*]; done)), H', ⟨by have := HK1.out; omega⟩, by repeat (first | exact Drawn0.refl _ | apply Drawn0.step)⟩
          · rw [if_neg c5] at H
            have c5b0 : ((Go.bits .and .u8 x0_1 128) == 0) = false := beq_eq_false_iff_ne.mpr c5
            have c5b1 : ((Go.bits .and .u8 x0_1 128) != 0) = true := bne_iff_ne.mpr c5
            have H' := Aside0.mk H
            clear H
            go_wp2
            go_roundg k1
            case measure => have := HK1.out; omega
            case rel => exact ⟨(Go.bits .xor .u8 ((x0_1 * 2) % 256) 27), (x1_1 / 2), (Go.bits .xor .u8 x5_1 x0_1), (by first | rfl | (simp; done) | (simp [*]; done)), (by first | rfl | (simp; done) | (simp [*]; done)), (by first | rfl | (simp; done) | (simp [*]; done)), H', ⟨by have := HK1.out; omega⟩, by repeat (first | exact Drawn0.refl _ | apply Drawn0.step)⟩
        · rw [if_neg c4] at H
          have c4b0 : ((Go.bits .and .u8 x1_1 1) == 1) = false := beq_eq_false_iff_ne.mpr c4
          have c4b1 : ((Go.bits .and .u8 x1_1 1) != 1) = true := bne_iff_ne.mpr c4
          by_cases c6 : (Go.bits .and .u8 x0_1 128) = 0
          · rw [if_pos c6] at H
            have c6b0 : ((Go.bits .and .u8 x0_1 128) == 0) = true := beq_iff_eq.mpr c6
            have c6b1 : ((Go.bits .and .u8 x0_1 128) != 0) = false := bne_eq_false_iff_eq.mpr c6
            clear c6
            have H' := Aside0.mk H
            clear H
            go_wp2
            go_roundg k1
            case measure => have := HK1.out; omega
            case rel => exact ⟨((x0_1 * 2) % 256), (x1_1 / 2), (x5_1), (by first | rfl | (simp; done) | (simp [*]; done)), (by first | rfl | (simp; done) | (simp [*]; done)), (by first | rfl | (simp; done) | (simp [*]; done)), H', ⟨by have := HK1.out; omega⟩, by repeat (first | exact Drawn0.refl _ | apply Drawn0.step)⟩
          · rw [if_neg c6] at H
            have c6b0 : ((Go.bits .and .u8 x0_1 128) == 0) = false := beq_eq_false_iff_ne.mpr c6
            have c6b1 : ((Go.bits .and .u8 x0_1 128) != 0) = true := bne_iff_ne.mpr c6
            have H' := Aside0.mk H
            clear H
            go_wp2
            go_roundg k1
            case measure => have := HK1.out; omega
            case rel => exact ⟨(Go.bits .xor .u8 ((x0_1 * 2) % 256) 27), (x1_1 / 2), (x5_1), (by first | rfl | (simp; done) | (simp [*]; done)), (by first | rfl | (simp; done) | (simp [*]; done)), (by first | rfl | (simp; done) | (simp [*]; done)), H', ⟨by have := HK1.out; omega⟩, by repeat (first | exact Drawn0.refl _ | apply Drawn0.step)⟩
      · rw [if_neg c3] at H
        have c3b0 : decide (0 < x1_1) = false := decide_eq_false c3
        clear c3
        obtain rfl := Option.some.inj H
        go_wp2
        go_ret
        exact ⟨by first | rfl | (simp; done) | (simp [*]; done), by repeat (first | exact Drawn0.refl _ | apply Drawn0.step)⟩

/-! ### spec_MulGf: function 19 -/
def spec_MulGf.f (k : Nat) (a0 : Int) (a1 : Int) : Option (Int) := (spec_l3Mul.f k ((a0) % 256) ((a1) % 256)).bind fun t169 => (some (wrap64 (t169)))
theorem spec_MulGf.mono : ∀ a0 a1 k, LeO (spec_MulGf.f k a0 a1) (spec_MulGf.f (k + 1) a0 a1) := by
  intro a0 a1 k
  unfold spec_MulGf.f
  repeat' first
      | (with_reducible exact spec_l3Mul.mono _ _ _)
      | (with_reducible exact LeO.refl _)
      | (with_reducible exact LeO.none _)
      | (with_reducible refine LeO.ite ?_ ?_)
      | (with_reducible refine LeO.bind ?_ (fun _ => ?_))
      | exact spec_l3Mul.mono _ _ _
      | exact LeO.none _
      | refine LeO.ite ?_ ?_
      | refine LeO.bind ?_ (fun _ => ?_)
set_option maxHeartbeats 8000000 in
set_option maxRecDepth 100000 in
theorem spec_MulGf.calls (k : Nat) (a0 : Int) (a1 : Int) (r : Int) (w : World) (h : spec_MulGf.f k a0 a1 = some r) :
    Calls Try.prog 19 #[.int .i64 a0, .int .i64 a1] w fun e w' => e = .returned (.int .i64 r) ∧ Drawn0 w w' := by
  have H : ((spec_l3Mul.f k ((a0) % 256) ((a1) % 256)).bind fun t169 => (some (wrap64 (t169)))) = some r := h
  clear h
  replace H := Option.bind_eq_some_iff.mp H
  obtain ⟨t169, A30, H⟩ := H
  replace H : (some (wrap64 (t169))) = some r := H
  have A3 := Aside0.mk A30
  clear A30
  obtain rfl := Option.some.inj H
  go_enter Try.func19, Try.ntmps19
  go_wp2_with (first | ((with_reducible refine gate_callee (f := 45) rfl ?_); refine goesL_ (some 9) rfl rfl Try.func45 (by kernel_rfl) rfl #[.int .u8 ((a0) % 256), .int .u8 ((a1) % 256)] rfl (by (try simp only [List.map_toArray, List.map_cons, List.map_nil]); first | done | rfl | (simp only [List.length_drop, List.length_take]; rfl)) ?_; (with_reducible refine (spec_l3Mul.calls k ((a0) % 256) ((a1) % 256) t169 _ A3.out).mono ?_); rintro e w' ⟨rfl, ⟨nd, rfl⟩⟩; refine ⟨_, rfl, ?_⟩))
  go_ret
  exact ⟨by first | rfl | (simp; done) | (simp [*]; done), by repeat (first | exact Drawn0.refl _ | apply Drawn0.step)⟩

/-! ### spec_l3Inverse: function 46 -/
def spec_l3Inverse.l0 : Nat → Int → Int → Int → Option (Int)
  | 0, _, _, _ => none
  | k + 1, x0, x3, x4 => if x4 > 0 then (if (Go.bits .and .i64 x4 1) = 1 then ((spec_l3Mul.f k x3 x0).bind fun t170 => ((spec_l3Mul.f k x0 x0).bind fun t171 => (spec_l3Inverse.l0 k t171 t170 (x4 / 2)))) else ((spec_l3Mul.f k x0 x0).bind fun t172 => (spec_l3Inverse.l0 k t172 x3 (x4 / 2)))) else (some x3)
def spec_l3Inverse.f (k : Nat) (a0 : Int) : Option (Int) := spec_l3Inverse.l0 k a0 1 254
theorem spec_l3Inverse.mono_l : ∀ k, (∀ y0 y1 y2, LeO (spec_l3Inverse.l0 k y0 y1 y2) (spec_l3Inverse.l0 (k + 1) y0 y1 y2))
  | 0 => fun _ _ _ r h => by simp [spec_l3Inverse.l0] at h
  | k + 1 => by
    have ih0 := spec_l3Inverse.mono_l k
    · intro y0 y1 y2
      unfold spec_l3Inverse.l0
      repeat' first
      | (with_reducible exact ih0 _ _ _)
      | (with_reducible exact spec_l3Mul.mono _ _ _)
      | (with_reducible exact LeO.refl _)
      | (with_reducible exact LeO.none _)
      | (with_reducible refine LeO.ite ?_ ?_)
      | (with_reducible refine LeO.bind ?_ (fun _ => ?_))
      | exact ih0 _ _ _
      | exact spec_l3Mul.mono _ _ _
      | exact LeO.none _
      | refine LeO.ite ?_ ?_
      | refine LeO.bind ?_ (fun _ => ?_)
theorem spec_l3Inverse.mono : ∀ a0 k, LeO (spec_l3Inverse.f k a0) (spec_l3Inverse.f (k + 1) a0) := by
  intro a0 k
  have ih0 := spec_l3Inverse.mono_l k
  unfold spec_l3Inverse.f
  repeat' first
      | (with_reducible exact ih0 _ _ _)
      | (with_reducible exact spec_l3Mul.mono _ _ _)
      | (with_reducible exact LeO.refl _)
      | (with_reducible exact LeO.none _)
      | (with_reducible refine LeO.ite ?_ ?_)
      | (with_reducible refine LeO.bind ?_ (fun _ => ?_))
      | exact ih0 _ _ _
      | exact spec_l3Mul.mono _ _ _
      | exact LeO.none _
      | refine LeO.ite ?_ ?_
      | refine LeO.bind ?_ (fun _ => ?_)
set_option maxHeartbeats 8000000 in
set_option maxRecDepth 100000 in
theorem spec_l3Inverse.calls (k : Nat) (a0 : Int) (r : Int) (w : World) (h : spec_l3Inverse.f k a0 = some r) :
    Calls Try.prog 46 #[.int .u8 a0] w fun e w' => e = .returned (.int .u8 r) ∧ Drawn0 w w' := by
  have H : (spec_l3Inverse.l0 k a0 1 254) = some r := h
  clear h
  have H' := Aside0.mk H
  clear H
  go_enter Try.func46, Try.ntmps46
  go_wp2
  go_loopg [0, 3, 4] k (fun kq v0 v3 v4 w' => ∃ (x0_1 : Int) (x3_1 : Int) (x4_1 : Int), v0 = .int .u8 x0_1 ∧ v3 = .int .u8 x3_1 ∧ v4 = .int .i64 x4_1 ∧ Aside0 (spec_l3Inverse.l0 kq x0_1 x3_1 x4_1 = some r) ∧ Aside0 (kq ≤ k) ∧ Drawn0 w w')
  case atStart => exact ⟨(a0), (1), (254), (by first | rfl | (simp; done) | (simp [*]; done)), (by first | rfl | (simp; done) | (simp [*]; done)), (by first | rfl | (simp; done) | (simp [*]; done)), H', ⟨Nat.le_refl _⟩, by repeat (first | exact Drawn0.refl _ | apply Drawn0.step)⟩
  case round =>
    clear H'
    obtain ⟨x0_1, x3_1, x4_1, rfl, rfl, rfl, HA, HK1, ⟨m1, rfl⟩⟩ := hrel
    cases gk with
    | zero => exact absurd HA.out (by simp [spec_l3Inverse.l0])
    | succ k1 =>
      have H := HA.out
      clear HA
      simp only [spec_l3Inverse.l0] at H
      by_cases c2 : x4_1 > 0
      · rw [if_pos c2] at H
        have c2b0 : decide (0 < x4_1) = true := decide_eq_true c2
        clear c2
        by_cases c3 : (Go.bits .and .i64 x4_1 1) = 1
        · rw [if_pos c3] at H
          have c3b0 : ((Go.bits .and .i64 x4_1 1) == 1) = true := beq_iff_eq.mpr c3
          have c3b1 : ((Go.bits .and .i64 x4_1 1) != 1) = false := bne_eq_false_iff_eq.mpr c3
          clear c3
          replace H := Option.bind_eq_some_iff.mp H
          obtain ⟨t170, A40, H⟩ := H
          replace H : ((spec_l3Mul.f k1 x0_1 x0_1).bind fun t171 => (spec_l3Inverse.l0 k1 t171 t170 (x4_1 / 2))) = some r := H
          have A4 := Aside0.mk A40
          clear A40
          replace H := Option.bind_eq_some_iff.mp H
          obtain ⟨t171, A50, H⟩ := H
          replace H : (spec_l3Inverse.l0 k1 t171 t170 (x4_1 / 2)) = some r := H
          have A5 := Aside0.mk A50
          clear A50
          have H' := Aside0.mk H
          clear H
          go_wp2_with (first | ((with_reducible refine gate_callee (f := 45) rfl ?_); refine goesL_ (some 14) rfl rfl Try.func45 (by kernel_rfl) rfl #[.int .u8 x3_1, .int .u8 x0_1] rfl (by (try simp only [List.map_toArray, List.map_cons, List.map_nil]); first | done | rfl | (simp only [List.length_drop, List.length_take]; rfl)) ?_; (with_reducible refine (spec_l3Mul.calls k1 x3_1 x0_1 t170 _ A4.out).mono ?_); rintro e w' ⟨rfl, ⟨nd, rfl⟩⟩; refine ⟨_, rfl, ?_⟩) | ((with_reducible refine gate_callee (f := 45) rfl ?_); refine goesL_ (some 17) rfl rfl Try.func45 (by kernel_rfl) rfl #[.int .u8 x0_1, .int .u8 x0_1] rfl (by (try simp only [List.map_toArray, List.map_cons, List.map_nil]); first | done | rfl | (simp only [List.length_drop, List.length_take]; rfl)) ?_; (with_reducible refine (spec_l3Mul.calls k1 x0_1 x0_1 t171 _ A5.out).mono ?_); rintro e w' ⟨rfl, ⟨nd, rfl⟩⟩; refine ⟨_, rfl, ?_⟩))
          go_roundg k1
          case measure => have := HK1.out; omega
          case rel => exact ⟨(t171), (t170), (x4_1 / 2), (by first | rfl | (simp; done) | (simp [*]; done)), (by first | rfl | (simp; done) | (simp [*]; done)), (by first | rfl | (simp; done) | (simp [*]; done)), H', ⟨by have := HK1.out; omega⟩, by repeat (first | exact Drawn0.refl _ | apply Drawn0.step)⟩
        · rw [if_neg c3] at H
          have c3b0 : ((Go.bits .and .i64 x4_1 1) == 1) = false := beq_eq_false_iff_ne.mpr c3
          have c3b1 : ((Go.bits .and .i64 x4_1 1) != 1) = true := bne_iff_ne.mpr c3
          replace H := Option.bind_eq_some_iff.mp H
          obtain ⟨t172, A60, H⟩ := H
          replace H : (spec_l3Inverse.l0 k1 t172 x3_1 (x4_1 / 2)) = some r := H
          have A6 := Aside0.mk A60
          clear A60
          have H' := Aside0.mk H
          clear H
          go_wp2_with (first | ((with_reducible refine gate_callee (f := 45) rfl ?_); refine goesL_ (some 17) rfl rfl Try.func45 (by kernel_rfl) rfl #[.int .u8 x0_1, .int .u8 x0_1] rfl (by (try simp only [List.map_toArray, List.map_cons, List.map_nil]); first | done | rfl | (simp only [List.length_drop, List.length_take]; rfl)) ?_; (with_reducible refine (spec_l3Mul.calls k1 x0_1 x0_1 t172 _ A6.out).mono ?_); rintro e w' ⟨rfl, ⟨nd, rfl⟩⟩; refine ⟨_, rfl, ?_⟩))
          go_roundg k1
          case measure => have := HK1.out; omega
          case rel => exact ⟨(t172), (x3_1), (x4_1 / 2), (by first | rfl | (simp; done) | (simp [*]; done)), (by first | rfl | (simp; done) | (simp [*]; done)), (by first | rfl | (simp; done) | (simp [*]; done)), H', ⟨by have := HK1.out; omega⟩, by repeat (first | exact Drawn0.refl _ | apply Drawn0.step)⟩
      · rw [if_neg c2] at H
        have c2b0 : decide (0 < x4_1) = false := decide_eq_false c2
        clear c2
        obtain rfl := Option.some.inj H
        go_wp2
        go_ret
        exact ⟨by first | rfl | (simp; done) | (simp [*]; done), by repeat (first | exact Drawn0.refl _ | apply Drawn0.step)⟩

/-! ### spec_InverseGf: function 20 -/
def spec_InverseGf.f (k : Nat) (a0 : Int) : Option (Int) := (spec_l3Inverse.f k ((a0) % 256)).bind fun t173 => (some (wrap64 (t173)))
theorem spec_InverseGf.mono : ∀ a0 k, LeO (spec_InverseGf.f k a0) (spec_InverseGf.f (k + 1) a0) := by
  intro a0 k
  unfold spec_InverseGf.f
  repeat' first
      | (with_reducible exact spec_l3Inverse.mono _ _)
      | (with_reducible exact LeO.refl _)
      | (with_reducible exact LeO.none _)
      | (with_reducible refine LeO.ite ?_ ?_)
      | (with_reducible refine LeO.bind ?_ (fun _ => ?_))
      | exact spec_l3Inverse.mono _ _
      | exact LeO.none _
      | refine LeO.ite ?_ ?_
      | refine LeO.bind ?_ (fun _ => ?_)
set_option maxHeartbeats 8000000 in
set_option maxRecDepth 100000 in
theorem spec_InverseGf.calls (k : Nat) (a0 : Int) (r : Int) (w : World) (h : spec_InverseGf.f k a0 = some r) :
    Calls Try.prog 20 #[.int .i64 a0] w fun e w' => e = .returned (.int .i64 r) ∧ Drawn0 w w' := by
  have H : ((spec_l3Inverse.f k ((a0) % 256)).bind fun t173 => (some (wrap64 (t173)))) = some r := h
  clear h
  replace H := Option.bind_eq_some_iff.mp H
  obtain ⟨t173, A20, H⟩ := H
  replace H : (some (wrap64 (t173))) = some r := H
  have A2 := Aside0.mk A20
  clear A20
  obtain rfl := Option.some.inj H
  go_enter Try.func20, Try.ntmps20
  go_wp2_with (first | ((with_reducible refine gate_callee (f := 46) rfl ?_); refine goesL_ (some 5) rfl rfl Try.func46 (by kernel_rfl) rfl #[.int .u8 ((a0) % 256)] rfl (by (try simp only [List.map_toArray, List.map_cons, List.map_nil]); first | done | rfl | (simp only [List.length_drop, List.length_take]; rfl)) ?_; (with_reducible refine (spec_l3Inverse.calls k ((a0) % 256) t173 _ A2.out).mono ?_); rintro e w' ⟨rfl, ⟨nd, rfl⟩⟩; refine ⟨_, rfl, ?_⟩))
  go_ret
  exact ⟨by first | rfl | (simp; done) | (simp [*]; done), by repeat (first | exact Drawn0.refl _ | apply Drawn0.step)⟩

/-! ### laws_FnGalois: function 6 -/
mutual
def laws_FnGalois.j0 : Nat → Int → Int → Int → Int → Int → Bool → Option (Bool)
  | 0, _, _, _, _, _, _ => none
  | k + 1, x5, x6, x7, x9, x10, x49 => if x49 = true then (some false) else ((impl_MulGf.f k x9 x7).bind fun t183 => ((impl_MulGf.f k x6 x7).bind fun t184 => ((impl_MulGf.f k x5 t184).bind fun t185 => (if t183 = t185 then ((impl_MulGf.f k x5 (Go.bits .xor .i64 x6 x7)).bind fun t186 => ((impl_MulGf.f k x5 x7).bind fun t187 => (laws_FnGalois.j1 k x5 x10 (t186 != (Go.bits .xor .i64 x9 t187))))) else (laws_FnGalois.j1 k x5 x10 true)))))
def laws_FnGalois.j1 : Nat → Int → Int → Bool → Option (Bool)
  | 0, _, _, _ => none
  | k + 1, x5, x10, x71 => if x71 = true then (some false) else ((impl_MulGf.f k x5 x10).bind fun t188 => ((impl_MulGf.f k x5 1).bind fun t189 => (some ((t188 == 1) == (t189 != 0)))))
end
def laws_FnGalois.f (k : Nat) (l0 : List Int) (l1 : List Int) : Option (Bool) := if (wrap64 ((l0.length : Int) + (l1.length : Int))) > 1048576 then (some true) else ((spec_DrawMulGf.f k l0).bind fun bt174 => ((spec_DrawMulGf.f k l1).bind fun bt176 => ((impl_MulGf.f k bt174.1 bt174.2).bind fun t178 => ((impl_InverseGf.f k bt174.1).bind fun t179 => ((spec_MulGf.f k bt174.1 bt174.2).bind fun t180 => (if t178 = t180 then ((spec_InverseGf.f k bt174.1).bind fun t181 => (if t179 = t181 then ((impl_MulGf.f k bt174.2 bt174.1).bind fun t182 => (laws_FnGalois.j0 k bt174.1 bt174.2 bt176.1 t178 t179 (t178 != t182))) else (laws_FnGalois.j0 k bt174.1 bt174.2 bt176.1 t178 t179 true))) else (laws_FnGalois.j0 k bt174.1 bt174.2 bt176.1 t178 t179 true)))))))
theorem laws_FnGalois.mono_l : ∀ k, (∀ y0 y1 y2 y3 y4 y5, LeO (laws_FnGalois.j0 k y0 y1 y2 y3 y4 y5) (laws_FnGalois.j0 (k + 1) y0 y1 y2 y3 y4 y5)) ∧ (∀ y0 y1 y2, LeO (laws_FnGalois.j1 k y0 y1 y2) (laws_FnGalois.j1 (k + 1) y0 y1 y2))
  | 0 => ⟨fun _ _ _ _ _ _ r h => by simp [laws_FnGalois.j0] at h, fun _ _ _ r h => by simp [laws_FnGalois.j1] at h⟩
  | k + 1 => by
    obtain ⟨ih0, ih1⟩ := laws_FnGalois.mono_l k
    refine ⟨?_, ?_⟩
    · intro y0 y1 y2 y3 y4 y5
      unfold laws_FnGalois.j0
      repeat' first
      | (with_reducible exact ih0 _ _ _ _ _ _)
      | (with_reducible exact ih1 _ _ _)
      | (with_reducible exact impl_InverseGf.mono _ _)
      | (with_reducible exact impl_MulGf.mono _ _ _)
      | (with_reducible exact spec_DrawMulGf.mono _ _)
      | (with_reducible exact spec_InverseGf.mono _ _)
      | (with_reducible exact spec_MulGf.mono _ _ _)
      | (with_reducible exact LeO.refl _)
      | (with_reducible exact LeO.none _)
      | (with_reducible refine LeO.ite ?_ ?_)
      | (with_reducible refine LeO.bind ?_ (fun _ => ?_))
      | exact ih0 _ _ _ _ _ _
      | exact ih1 _ _ _
      | exact impl_InverseGf.mono _ _
      | exact impl_MulGf.mono _ _ _
      | exact spec_DrawMulGf.mono _ _
      | exact spec_InverseGf.mono _ _
      | exact spec_MulGf.mono _ _ _
      | exact LeO.none _
      | refine LeO.ite ?_ ?_
      | refine LeO.bind ?_ (fun _ => ?_)
    · intro y0 y1 y2
      unfold laws_FnGalois.j1
      repeat' first
      | (with_reducible exact ih0 _ _ _ _ _ _)
      | (with_reducible exact ih1 _ _ _)
      | (with_reducible exact impl_InverseGf.mono _ _)
      | (with_reducible exact impl_MulGf.mono _ _ _)
      | (with_reducible exact spec_DrawMulGf.mono _ _)
      | (with_reducible exact spec_InverseGf.mono _ _)
      | (with_reducible exact spec_MulGf.mono _ _ _)
      | (with_reducible exact LeO.refl _)
      | (with_reducible exact LeO.none _)
      | (with_reducible refine LeO.ite ?_ ?_)
      | (with_reducible refine LeO.bind ?_ (fun _ => ?_))
      | exact ih0 _ _ _ _ _ _
      | exact ih1 _ _ _
      | exact impl_InverseGf.mono _ _
      | exact impl_MulGf.mono _ _ _
      | exact spec_DrawMulGf.mono _ _
      | exact spec_InverseGf.mono _ _
      | exact spec_MulGf.mono _ _ _
      | exact LeO.none _
      | refine LeO.ite ?_ ?_
      | refine LeO.bind ?_ (fun _ => ?_)
theorem laws_FnGalois.mono : ∀ a0 a1 k, LeO (laws_FnGalois.f k a0 a1) (laws_FnGalois.f (k + 1) a0 a1) := by
  intro a0 a1 k
  obtain ⟨ih0, ih1⟩ := laws_FnGalois.mono_l k
  unfold laws_FnGalois.f
  repeat' first
      | (with_reducible exact ih0 _ _ _ _ _ _)
      | (with_reducible exact ih1 _ _ _)
      | (with_reducible exact impl_InverseGf.mono _ _)
      | (with_reducible exact impl_MulGf.mono _ _ _)
      | (with_reducible exact spec_DrawMulGf.mono _ _)
      | (with_reducible exact spec_InverseGf.mono _ _)
      | (with_reducible exact spec_MulGf.mono _ _ _)
      | (with_reducible exact LeO.refl _)
      | (with_reducible exact LeO.none _)
      | (with_reducible refine LeO.ite ?_ ?_)
      | (with_reducible refine LeO.bind ?_ (fun _ => ?_))
      | exact ih0 _ _ _ _ _ _
      | exact ih1 _ _ _
      | exact impl_InverseGf.mono _ _
      | exact impl_MulGf.mono _ _ _
      | exact spec_DrawMulGf.mono _ _
      | exact spec_InverseGf.mono _ _
      | exact spec_MulGf.mono _ _ _
      | exact LeO.none _
      | refine LeO.ite ?_ ?_
      | refine LeO.bind ?_ (fun _ => ?_)
set_option maxHeartbeats 8000000 in
set_option maxRecDepth 100000 in
theorem laws_FnGalois.calls (k : Nat) (A0 : Option Addr) (c0 : Nat) (l0 : List Int) (A1 : Option Addr) (c1 : Nat) (l1 : List Int) (r : Bool) (w : World) (hr0 : Kd.C (Kd.int .u8) w A0 l0.length l0) (hc0 : l0.length ≤ c0) (hr1 : Kd.C (Kd.int .u8) w A1 l1.length l1) (hc1 : l1.length ≤ c1) (h : laws_FnGalois.f k l0 l1 = some r) :
    Calls Try.prog 6 #[.slice A0 l0.length c0, .slice A1 l1.length c1] w fun e w' => e = .returned (.bool r) ∧ Below w.heap.size w w' := by
  have HR0 := Aside0.mk hr0
  have HC0 := Aside0.mk hc0
  clear hr0 hc0
  have HR1 := Aside0.mk hr1
  have HC1 := Aside0.mk hc1
  clear hr1 hc1
  have HB := Aside0.mk (Below.refl w.heap.size w)
  have H : (if (wrap64 ((l0.length : Int) + (l1.length : Int))) > 1048576 then (some true) else ((spec_DrawMulGf.f k l0).bind fun bt174 => ((spec_DrawMulGf.f k l1).bind fun bt176 => ((impl_MulGf.f k bt174.1 bt174.2).bind fun t178 => ((impl_InverseGf.f k bt174.1).bind fun t179 => ((spec_MulGf.f k bt174.1 bt174.2).bind fun t180 => (if t178 = t180 then ((spec_InverseGf.f k bt174.1).bind fun t181 => (if t179 = t181 then ((impl_MulGf.f k bt174.2 bt174.1).bind fun t182 => (laws_FnGalois.j0 k bt174.1 bt174.2 bt176.1 t178 t179 (t178 != t182))) else (laws_FnGalois.j0 k bt174.1 bt174.2 bt176.1 t178 t179 true))) else (laws_FnGalois.j0 k bt174.1 bt174.2 bt176.1 t178 t179 true)))))))) = some r := h
  clear h
  by_cases c3 : (wrap64 ((l0.length : Int) + (l1.length : Int))) > 1048576
  · rw [if_pos c3] at H
    have c3b0 : decide (1048576 < (wrap64 ((l0.length : Int) + (l1.length : Int)))) = true := decide_eq_true c3
    clear c3
    obtain rfl := Option.some.inj H
    go_enter Try.func6, Try.ntmps6
    go_wp2
    go_ret
    exact ⟨by first | rfl | (simp [errW_none, errW_some] <;> rfl) | (simp [*, errW_none, errW_some] <;> rfl), by repeat (first | (with_reducible first | exact HB.out | apply below_alloc | apply pw_below_drewN | apply below_drew1) | exact HB.out)⟩
  · rw [if_neg c3] at H
    have c3b0 : decide (1048576 < (wrap64 ((l0.length : Int) + (l1.length : Int)))) = false := decide_eq_false c3
    clear c3
    replace H := Option.bind_eq_some_iff.mp H
    obtain ⟨⟨t174, t175⟩, A40, H⟩ := H
    replace H : ((spec_DrawMulGf.f k l1).bind fun bt176 => ((impl_MulGf.f k t174 t175).bind fun t178 => ((impl_InverseGf.f k t174).bind fun t179 => ((spec_MulGf.f k t174 t175).bind fun t180 => (if t178 = t180 then ((spec_InverseGf.f k t174).bind fun t181 => (if t179 = t181 then ((impl_MulGf.f k t175 t174).bind fun t182 => (laws_FnGalois.j0 k t174 t175 bt176.1 t178 t179 (t178 != t182))) else (laws_FnGalois.j0 k t174 t175 bt176.1 t178 t179 true))) else (laws_FnGalois.j0 k t174 t175 bt176.1 t178 t179 true)))))) = some r := H
    have A4 := Aside0.mk A40
    clear A40
    replace H := Option.bind_eq_some_iff.mp H
    obtain ⟨⟨t176, t177⟩, A50, H⟩ := H
    replace H : ((impl_MulGf.f k t174 t175).bind fun t178 => ((impl_InverseGf.f k t174).bind fun t179 => ((spec_MulGf.f k t174 t175).bind fun t180 => (if t178 = t180 then ((spec_InverseGf.f k t174).bind fun t181 => (if t179 = t181 then ((impl_MulGf.f k t175 t174).bind fun t182 => (laws_FnGalois.j0 k t174 t175 t176 t178 t179 (t178 != t182))) else (laws_FnGalois.j0 k t174 t175 t176 t178 t179 true))) else (laws_FnGalois.j0 k t174 t175 t176 t178 t179 true))))) = some r := H
    have A5 := Aside0.mk A50
    clear A50
    replace H := Option.bind_eq_some_iff.mp H
    obtain ⟨t178, A60, H⟩ := H
    replace H : ((impl_InverseGf.f k t174).bind fun t179 => ((spec_MulGf.f k t174 t175).bind fun t180 => (if t178 = t180 then ((spec_InverseGf.f k t174).bind fun t181 => (if t179 = t181 then ((impl_MulGf.f k t175 t174).bind fun t182 => (laws_FnGalois.j0 k t174 t175 t176 t178 t179 (t178 != t182))) else (laws_FnGalois.j0 k t174 t175 t176 t178 t179 true))) else (laws_FnGalois.j0 k t174 t175 t176 t178 t179 true)))) = some r := H
    have A6 := Aside0.mk A60
    clear A60
    replace H := Option.bind_eq_some_iff.mp H
    obtain ⟨t179, A70, H⟩ := H
    replace H : ((spec_MulGf.f k t174 t175).bind fun t180 => (if t178 = t180 then ((spec_InverseGf.f k t174).bind fun t181 => (if t179 = t181 then ((impl_MulGf.f k t175 t174).bind fun t182 => (laws_FnGalois.j0 k t174 t175 t176 t178 t179 (t178 != t182))) else (laws_FnGalois.j0 k t174 t175 t176 t178 t179 true))) else (laws_FnGalois.j0 k t174 t175 t176 t178 t179 true))) = some r := H
    have A7 := Aside0.mk A70
    clear A70
    have HC8 := Aside0.mk H
    clear H
    go_enter Try.func6, Try.ntmps6
    go_upto_region 7 with (first | ((with_reducible refine gate_callee (f := 16) rfl ?_); refine goesL_ (some 19) rfl rfl Try.func16 (by kernel_rfl) rfl #[.slice A0 l0.length c0] rfl (by (try simp only [List.map_toArray, List.map_cons, List.map_nil]); first | done | rfl | (simp only [List.length_drop, List.length_take]; rfl)) ?_; (with_reducible refine (spec_DrawMulGf.calls k _ _ l0 t174 t175 _ ?side1 ?side2 A4.out).mono ?_); (case side1 => repeat (first | exact HR0.out | (with_reducible refine Kd.C_alloc ?_ _) | (with_reducible refine Kd.C_drewN ?_ _) | (with_reducible refine Kd.C_drew ?_))); (case side2 => exact HC0.out); rintro e w9 ⟨rfl, hb⟩; refine ⟨_, rfl, ?_⟩; have n0_ := Aside0.mk (below_step (by repeat (first | (with_reducible first | exact HB.out | apply below_alloc | apply pw_below_drewN | apply below_drew1) | exact HB.out)) hb); clear HB; have HB := n0_; clear n0_; (try clear hb); (try clear hb2); (try clear hk); (try clear hi)) | ((with_reducible refine gate_callee (f := 16) rfl ?_); refine goesL_ (some 24) rfl rfl Try.func16 (by kernel_rfl) rfl #[.slice A1 l1.length c1] rfl (by (try simp only [List.map_toArray, List.map_cons, List.map_nil]); first | done | rfl | (simp only [List.length_drop, List.length_take]; rfl)) ?_; (with_reducible refine (spec_DrawMulGf.calls k _ _ l1 t176 t177 _ ?side1 ?side2 A5.out).mono ?_); (case side1 => repeat (first | exact (Kd.C_below HR1.out HB.out) | (with_reducible refine Kd.C_alloc ?_ _) | (with_reducible refine Kd.C_drewN ?_ _) | (with_reducible refine Kd.C_drew ?_))); (case side2 => exact HC1.out); rintro e w10 ⟨rfl, hb⟩; refine ⟨_, rfl, ?_⟩; have n0_ := Aside0.mk (below_step (by repeat (first | (with_reducible first | exact HB.out | apply below_alloc | apply pw_below_drewN | apply below_drew1) | exact HB.out)) hb); clear HB; have HB := n0_; clear n0_; (try clear hb); (try clear hb2); (try clear hk); (try clear hi)) | ((with_reducible refine gate_callee (f := 17) rfl ?_); refine goesL_ (some 29) rfl rfl Try.func17 (by kernel_rfl) rfl #[.int .i64 t174, .int .i64 t175] rfl (by (try simp only [List.map_toArray, List.map_cons, List.map_nil]); first | done | rfl | (simp only [List.length_drop, List.length_take]; rfl)) ?_; (with_reducible refine (impl_MulGf.calls k t174 t175 t178 _ A6.out).mono ?_); rintro e w' ⟨rfl, ⟨nd, rfl⟩⟩; refine ⟨_, rfl, ?_⟩) | ((with_reducible refine gate_callee (f := 18) rfl ?_); refine goesL_ (some 31) rfl rfl Try.func18 (by kernel_rfl) rfl #[.int .i64 t174] rfl (by (try simp only [List.map_toArray, List.map_cons, List.map_nil]); first | done | rfl | (simp only [List.length_drop, List.length_take]; rfl)) ?_; (with_reducible refine (impl_InverseGf.calls k t174 t179 _ A7.out).mono ?_); rintro e w' ⟨rfl, ⟨nd, rfl⟩⟩; refine ⟨_, rfl, ?_⟩))
    (try simp only [Act.put, List.setIfInBounds_toArray, List.set_cons_zero, List.set_cons_succ])
    go_cut [49] (fun v49 wc => ∃ (kq : Nat) (x49_7 : Bool), v49 = .bool x49_7 ∧ Aside0 (laws_FnGalois.j0 kq t174 t175 t176 t178 t179 x49_7 = some r) ∧ Aside0 (kq ≤ k) ∧ Aside0 (Below w.heap.size w wc))
    case first =>
      have H := HC8.out
      clear HC8
      replace H := Option.bind_eq_some_iff.mp H
      obtain ⟨t180, A110, H⟩ := H
      replace H : (if t178 = t180 then ((spec_InverseGf.f k t174).bind fun t181 => (if t179 = t181 then ((impl_MulGf.f k t175 t174).bind fun t182 => (laws_FnGalois.j0 k t174 t175 t176 t178 t179 (t178 != t182))) else (laws_FnGalois.j0 k t174 t175 t176 t178 t179 true))) else (laws_FnGalois.j0 k t174 t175 t176 t178 t179 true)) = some r := H
      have A11 := Aside0.mk A110
      clear A110
      by_cases c12 : t178 = t180
      · rw [if_pos c12] at H
        have c12b0 : (t178 == t180) = true := beq_iff_eq.mpr c12
        have c12b1 : (t178 != t180) = false := bne_eq_false_iff_eq.mpr c12
        clear c12
        (first | rw [c12b0] | (simp only [i64_w, i32_w]; rw [c12b0]) | skip)
        replace H := Option.bind_eq_some_iff.mp H
        obtain ⟨t181, A130, H⟩ := H
        replace H : (if t179 = t181 then ((impl_MulGf.f k t175 t174).bind fun t182 => (laws_FnGalois.j0 k t174 t175 t176 t178 t179 (t178 != t182))) else (laws_FnGalois.j0 k t174 t175 t176 t178 t179 true)) = some r := H
        have A13 := Aside0.mk A130
        clear A130
        by_cases c14 : t179 = t181
        · rw [if_pos c14] at H
          have c14b0 : (t179 == t181) = true := beq_iff_eq.mpr c14
          have c14b1 : (t179 != t181) = false := bne_eq_false_iff_eq.mpr c14
          clear c14
          replace H := Option.bind_eq_some_iff.mp H
          obtain ⟨t182, A150, H⟩ := H
          replace H : (laws_FnGalois.j0 k t174 t175 t176 t178 t179 (t178 != t182)) = some r := H
          have A15 := Aside0.mk A150
          clear A150
          have H' := Aside0.mk H
          clear H
          go_wp2_with (first | ((with_reducible refine gate_callee (f := 19) rfl ?_); refine goesL_ (some 35) rfl rfl Try.func19 (by kernel_rfl) rfl #[.int .i64 t174, .int .i64 t175] rfl (by (try simp only [List.map_toArray, List.map_cons, List.map_nil]); first | done | rfl | (simp only [List.length_drop, List.length_take]; rfl)) ?_; (with_reducible refine (spec_MulGf.calls k t174 t175 t180 _ A11.out).mono ?_); rintro e w' ⟨rfl, ⟨nd, rfl⟩⟩; refine ⟨_, rfl, ?_⟩) | (go_at_call 20; (with_reducible refine (spec_InverseGf.calls k t174 t181 _ A13.out).mono ?_); rintro e w' ⟨rfl, ⟨nd, rfl⟩⟩) | (go_at_call 17; (with_reducible refine (impl_MulGf.calls k t175 t174 t182 _ A15.out).mono ?_); rintro e w' ⟨rfl, ⟨nd, rfl⟩⟩))
          go_meet
          case rel => exact ⟨_, ((t178 != t182)), (by first | rfl | (simp; done) | (simp [*]; done)), H', ⟨by first | omega | exact Nat.le_refl _⟩, ⟨by repeat (first | (with_reducible first | exact HB.out | apply below_alloc | apply pw_below_drewN | apply below_drew1) | exact HB.out)⟩⟩
        · rw [if_neg c14] at H
          have c14b0 : (t179 == t181) = false := beq_eq_false_iff_ne.mpr c14
          have c14b1 : (t179 != t181) = true := bne_iff_ne.mpr c14
          have H' := Aside0.mk H
          clear H
          go_wp2_with (first | ((with_reducible refine gate_callee (f := 19) rfl ?_); refine goesL_ (some 35) rfl rfl Try.func19 (by kernel_rfl) rfl #[.int .i64 t174, .int .i64 t175] rfl (by (try simp only [List.map_toArray, List.map_cons, List.map_nil]); first | done | rfl | (simp only [List.length_drop, List.length_take]; rfl)) ?_; (with_reducible refine (spec_MulGf.calls k t174 t175 t180 _ A11.out).mono ?_); rintro e w' ⟨rfl, ⟨nd, rfl⟩⟩; refine ⟨_, rfl, ?_⟩) | (go_at_call 20; (with_reducible refine (spec_InverseGf.calls k t174 t181 _ A13.out).mono ?_); rintro e w' ⟨rfl, ⟨nd, rfl⟩⟩))
          go_meet
          case rel => exact ⟨_, (true), (by first | rfl | (simp; done) | (simp [*]; done)), H', ⟨by first | omega | exact Nat.le_refl _⟩, ⟨by repeat (first | (with_reducible first | exact HB.out | apply below_alloc | apply pw_below_drewN | apply below_drew1) | exact HB.out)⟩⟩
      · rw [if_neg c12] at H
        have c12b0 : (t178 == t180) = false := beq_eq_false_iff_ne.mpr c12
        have c12b1 : (t178 != t180) = true := bne_iff_ne.mpr c12
        (first | rw [c12b0] | (simp only [i64_w, i32_w]; rw [c12b0]) | skip)
        have H' := Aside0.mk H
        clear H
        go_wp2_with (first | ((with_reducible refine gate_callee (f := 19) rfl ?_); refine goesL_ (some 35) rfl rfl Try.func19 (by kernel_rfl) rfl #[.int .i64 t174, .int .i64 t175] rfl (by (try simp only [List.map_toArray, List.map_cons, List.map_nil]); first | done | rfl | (simp only [List.length_drop, List.length_take]; rfl)) ?_; (with_reducible refine (spec_MulGf.calls k t174 t175 t180 _ A11.out).mono ?_); rintro e w' ⟨rfl, ⟨nd, rfl⟩⟩; refine ⟨_, rfl, ?_⟩))
        go_meet
        case rel => exact ⟨_, (true), (by first | rfl | (simp; done) | (simp [*]; done)), H', ⟨by first | omega | exact Nat.le_refl _⟩, ⟨by repeat (first | (with_reducible first | exact HB.out | apply below_alloc | apply pw_below_drewN | apply below_drew1) | exact HB.out)⟩⟩
    case rest =>
      clear HC8
      try clear c1
      try clear p2
      try clear c3
      try clear c3b0
      try clear c6
      try clear p6
      try clear c12
      try clear c12b0
      try clear c12b1
      try clear c14
      try clear c14b0
      try clear c14b1
      obtain ⟨kq, x49_7, rfl, HA, HJ7, HB⟩ := hcut
      cases kq with
      | zero => exact absurd HA.out (by simp [laws_FnGalois.j0])
      | succ kj7 =>
        have H := HA.out
        clear HA
        simp only [laws_FnGalois.j0] at H
        by_cases c16 : x49_7 = true
        · subst c16
          have H1 : (some false) = some r := by rw [if_pos rfl] at H; exact H
          clear H
          have H := H1
          clear H1
          obtain rfl := Option.some.inj H
          go_wp2
          go_ret
          exact ⟨by first | rfl | (simp [errW_none, errW_some] <;> rfl) | (simp [*, errW_none, errW_some] <;> rfl), by repeat (first | (with_reducible first | exact HB.out | apply below_alloc | apply pw_below_drewN | apply below_drew1) | exact HB.out)⟩
        · replace c16 := Bool.eq_false_iff.mpr c16
          subst c16
          have H1 : ((impl_MulGf.f kj7 t178 t176).bind fun t183 => ((impl_MulGf.f kj7 t175 t176).bind fun t184 => ((impl_MulGf.f kj7 t174 t184).bind fun t185 => (if t183 = t185 then ((impl_MulGf.f kj7 t174 (Go.bits .xor .i64 t175 t176)).bind fun t186 => ((impl_MulGf.f kj7 t174 t176).bind fun t187 => (laws_FnGalois.j1 kj7 t174 t179 (t186 != (Go.bits .xor .i64 t178 t187))))) else (laws_FnGalois.j1 kj7 t174 t179 true))))) = some r := by rw [if_neg (show ¬ (false = true) by decide)] at H; exact H
          clear H
          have H := H1
          clear H1
          have HC17 := Aside0.mk H
          clear H
          go_upto_region 9 with (fail)
          go_cut [71] (fun v71 wc => ∃ (kq : Nat) (x71_16 : Bool), v71 = .bool x71_16 ∧ Aside0 (laws_FnGalois.j1 kq t174 t179 x71_16 = some r) ∧ Aside0 (kq ≤ kj7) ∧ Aside0 (Below w.heap.size w wc))
          case first =>
            have H := HC17.out
            clear HC17
            replace H := Option.bind_eq_some_iff.mp H
            obtain ⟨t183, A180, H⟩ := H
            replace H : ((impl_MulGf.f kj7 t175 t176).bind fun t184 => ((impl_MulGf.f kj7 t174 t184).bind fun t185 => (if t183 = t185 then ((impl_MulGf.f kj7 t174 (Go.bits .xor .i64 t175 t176)).bind fun t186 => ((impl_MulGf.f kj7 t174 t176).bind fun t187 => (laws_FnGalois.j1 kj7 t174 t179 (t186 != (Go.bits .xor .i64 t178 t187))))) else (laws_FnGalois.j1 kj7 t174 t179 true)))) = some r := H
            have A18 := Aside0.mk A180
            clear A180
            replace H := Option.bind_eq_some_iff.mp H
            obtain ⟨t184, A190, H⟩ := H
            replace H : ((impl_MulGf.f kj7 t174 t184).bind fun t185 => (if t183 = t185 then ((impl_MulGf.f kj7 t174 (Go.bits .xor .i64 t175 t176)).bind fun t186 => ((impl_MulGf.f kj7 t174 t176).bind fun t187 => (laws_FnGalois.j1 kj7 t174 t179 (t186 != (Go.bits .xor .i64 t178 t187))))) else (laws_FnGalois.j1 kj7 t174 t179 true))) = some r := H
            have A19 := Aside0.mk A190
            clear A190
            replace H := Option.bind_eq_some_iff.mp H
            obtain ⟨t185, A200, H⟩ := H
            replace H : (if t183 = t185 then ((impl_MulGf.f kj7 t174 (Go.bits .xor .i64 t175 t176)).bind fun t186 => ((impl_MulGf.f kj7 t174 t176).bind fun t187 => (laws_FnGalois.j1 kj7 t174 t179 (t186 != (Go.bits .xor .i64 t178 t187))))) else (laws_FnGalois.j1 kj7 t174 t179 true)) = some r := H
            have A20 := Aside0.mk A200
            clear A200
            by_cases c21 : t183 = t185
            · rw [if_pos c21] at H
              have c21b0 : (t183 == t185) = true := beq_iff_eq.mpr c21
              have c21b1 : (t183 != t185) = false := bne_eq_false_iff_eq.mpr c21
              clear c21
              (first | rw [c21b0] | (simp only [i64_w, i32_w]; rw [c21b0]) | skip)
              replace H := Option.bind_eq_some_iff.mp H
              obtain ⟨t186, A220, H⟩ := H
              replace H : ((impl_MulGf.f kj7 t174 t176).bind fun t187 => (laws_FnGalois.j1 kj7 t174 t179 (t186 != (Go.bits .xor .i64 t178 t187)))) = some r := H
              have A22 := Aside0.mk A220
              clear A220
              replace H := Option.bind_eq_some_iff.mp H
              obtain ⟨t187, A230, H⟩ := H
              replace H : (laws_FnGalois.j1 kj7 t174 t179 (t186 != (Go.bits .xor .i64 t178 t187))) = some r := H
              have A23 := Aside0.mk A230
              clear A230
              have H' := Aside0.mk H
              clear H
              go_wp2_with (first | ((with_reducible refine gate_callee (f := 17) rfl ?_); refine goesL_ (some 52) rfl rfl Try.func17 (by kernel_rfl) rfl #[.int .i64 t178, .int .i64 t176] rfl (by (try simp only [List.map_toArray, List.map_cons, List.map_nil]); first | done | rfl | (simp only [List.length_drop, List.length_take]; rfl)) ?_; (with_reducible refine (impl_MulGf.calls kj7 t178 t176 t183 _ A18.out).mono ?_); rintro e w' ⟨rfl, ⟨nd, rfl⟩⟩; refine ⟨_, rfl, ?_⟩) | ((with_reducible refine gate_callee (f := 17) rfl ?_); refine goesL_ (some 56) rfl rfl Try.func17 (by kernel_rfl) rfl #[.int .i64 t175, .int .i64 t176] rfl (by (try simp only [List.map_toArray, List.map_cons, List.map_nil]); first | done | rfl | (simp only [List.length_drop, List.length_take]; rfl)) ?_; (with_reducible refine (impl_MulGf.calls kj7 t175 t176 t184 _ A19.out).mono ?_); rintro e w' ⟨rfl, ⟨nd, rfl⟩⟩; refine ⟨_, rfl, ?_⟩) | ((with_reducible refine gate_callee (f := 17) rfl ?_); refine goesL_ (some 57) rfl rfl Try.func17 (by kernel_rfl) rfl #[.int .i64 t174, .int .i64 t184] rfl (by (try simp only [List.map_toArray, List.map_cons, List.map_nil]); first | done | rfl | (simp only [List.length_drop, List.length_take]; rfl)) ?_; (with_reducible refine (impl_MulGf.calls kj7 t174 t184 t185 _ A20.out).mono ?_); rintro e w' ⟨rfl, ⟨nd, rfl⟩⟩; refine ⟨_, rfl, ?_⟩) | (go_at_call 17; (with_reducible refine (impl_MulGf.calls kj7 t174 (Go.bits .xor .i64 t175 t176) t186 _ A22.out).mono ?_); rintro e w' ⟨rfl, ⟨nd, rfl⟩⟩) | (go_at_call 17; (with_reducible refine (impl_MulGf.calls kj7 t174 t176 t187 _ A23.out).mono ?_); rintro e w' ⟨rfl, ⟨nd, rfl⟩⟩))
              go_meet
              case rel => exact ⟨_, ((t186 != (Go.bits .xor .i64 t178 t187))), (by first | rfl | (simp; done) | (simp [*]; done)), H', ⟨by have := HJ7.out; first | omega | exact Nat.le_refl _⟩, ⟨by repeat (first | (with_reducible first | exact HB.out | apply below_alloc | apply pw_below_drewN | apply below_drew1) | exact HB.out)⟩⟩
            · rw [if_neg c21] at H
              have c21b0 : (t183 == t185) = false := beq_eq_false_iff_ne.mpr c21
              have c21b1 : (t183 != t185) = true := bne_iff_ne.mpr c21
              (first | rw [c21b0] | (simp only [i64_w, i32_w]; rw [c21b0]) | skip)
              have H' := Aside0.mk H
              clear H
              go_wp2_with (first | ((with_reducible refine gate_callee (f := 17) rfl ?_); refine goesL_ (some 52) rfl rfl Try.func17 (by kernel_rfl) rfl #[.int .i64 t178, .int .i64 t176] rfl (by (try simp only [List.map_toArray, List.map_cons, List.map_nil]); first | done | rfl | (simp only [List.length_drop, List.length_take]; rfl)) ?_; (with_reducible refine (impl_MulGf.calls kj7 t178 t176 t183 _ A18.out).mono ?_); rintro e w' ⟨rfl, ⟨nd, rfl⟩⟩; refine ⟨_, rfl, ?_⟩) | ((with_reducible refine gate_callee (f := 17) rfl ?_); refine goesL_ (some 56) rfl rfl Try.func17 (by kernel_rfl) rfl #[.int .i64 t175, .int .i64 t176] rfl (by (try simp only [List.map_toArray, List.map_cons, List.map_nil]); first | done | rfl | (simp only [List.length_drop, List.length_take]; rfl)) ?_; (with_reducible refine (impl_MulGf.calls kj7 t175 t176 t184 _ A19.out).mono ?_); rintro e w' ⟨rfl, ⟨nd, rfl⟩⟩; refine ⟨_, rfl, ?_⟩) | ((with_reducible refine gate_callee (f := 17) rfl ?_); refine goesL_ (some 57) rfl rfl Try.func17 (by kernel_rfl) rfl #[.int .i64 t174, .int .i64 t184] rfl (by (try simp only [List.map_toArray, List.map_cons, List.map_nil]); first | done | rfl | (simp only [List.length_drop, List.length_take]; rfl)) ?_; (with_reducible refine (impl_MulGf.calls kj7 t174 t184 t185 _ A20.out).mono ?_); rintro e w' ⟨rfl, ⟨nd, rfl⟩⟩; refine ⟨_, rfl, ?_⟩))
              go_meet
              case rel => exact ⟨_, (true), (by first | rfl | (simp; done) | (simp [*]; done)), H', ⟨by have := HJ7.out; first | omega | exact Nat.le_refl _⟩, ⟨by repeat (first | (with_reducible first | exact HB.out | apply below_alloc | apply pw_below_drewN | apply below_drew1) | exact HB.out)⟩⟩
          case rest =>
            clear HC17
            try clear c1
            try clear c2
            try clear p2
            try clear c3
            try clear c3b0
            try clear c6
            try clear p6
            try clear c12
            try clear c12b0
            try clear c12b1
            try clear c14
            try clear c14b0
            try clear c14b1
            try clear c16
            try clear c17
            try clear c18
            try clear c19
            try clear c21
            try clear c21b0
            try clear c21b1
            try clear p2
            try clear p6
            obtain ⟨kq, x71_16, rfl, HA, HJ16, HB⟩ := hcut
            cases kq with
            | zero => exact absurd HA.out (by simp [laws_FnGalois.j1])
            | succ kj16 =>
              have H := HA.out
              clear HA
              simp only [laws_FnGalois.j1] at H
              by_cases c24 : x71_16 = true
              · subst c24
                have H1 : (some false) = some r := by rw [if_pos rfl] at H; exact H
                clear H
                have H := H1
                clear H1
                obtain rfl := Option.some.inj H
                go_wp2
                go_ret
                exact ⟨by first | rfl | (simp [errW_none, errW_some] <;> rfl) | (simp [*, errW_none, errW_some] <;> rfl), by repeat (first | (with_reducible first | exact HB.out | apply below_alloc | apply pw_below_drewN | apply below_drew1) | exact HB.out)⟩
              · replace c24 := Bool.eq_false_iff.mpr c24
                subst c24
                have H1 : ((impl_MulGf.f kj16 t174 t179).bind fun t188 => ((impl_MulGf.f kj16 t174 1).bind fun t189 => (some ((t188 == 1) == (t189 != 0))))) = some r := by rw [if_neg (show ¬ (false = true) by decide)] at H; exact H
                clear H
                have H := H1
                clear H1
                replace H := Option.bind_eq_some_iff.mp H
                obtain ⟨t188, A250, H⟩ := H
                replace H : ((impl_MulGf.f kj16 t174 1).bind fun t189 => (some ((t188 == 1) == (t189 != 0)))) = some r := H
                have A25 := Aside0.mk A250
                clear A250
                replace H := Option.bind_eq_some_iff.mp H
                obtain ⟨t189, A260, H⟩ := H
                replace H : (some ((t188 == 1) == (t189 != 0))) = some r := H
                have A26 := Aside0.mk A260
                clear A260
                obtain rfl := Option.some.inj H
                go_wp2_with (first | ((with_reducible refine gate_callee (f := 17) rfl ?_); refine goesL_ (some 74) rfl rfl Try.func17 (by kernel_rfl) rfl #[.int .i64 t174, .int .i64 t179] rfl (by (try simp only [List.map_toArray, List.map_cons, List.map_nil]); first | done | rfl | (simp only [List.length_drop, List.length_take]; rfl)) ?_; (with_reducible refine (impl_MulGf.calls kj16 t174 t179 t188 _ A25.out).mono ?_); rintro e w' ⟨rfl, ⟨nd, rfl⟩⟩; refine ⟨_, rfl, ?_⟩) | ((with_reducible refine gate_callee (f := 17) rfl ?_); refine goesL_ (some 77) rfl rfl Try.func17 (by kernel_rfl) rfl #[.int .i64 t174, .int .i64 1] rfl (by (try simp only [List.map_toArray, List.map_cons, List.map_nil]); first | done | rfl | (simp only [List.length_drop, List.length_take]; rfl)) ?_; (with_reducible refine (impl_MulGf.calls kj16 t174 1 t189 _ A26.out).mono ?_); rintro e w' ⟨rfl, ⟨nd, rfl⟩⟩; refine ⟨_, rfl, ?_⟩))
                go_ret
                exact ⟨by first | rfl | (simp [errW_none, errW_some] <;> rfl) | (simp [*, errW_none, errW_some] <;> rfl), by repeat (first | (with_reducible first | exact HB.out | apply below_alloc | apply pw_below_drewN | apply below_drew1) | exact HB.out)⟩

/-- THE ONE PURE STATEMENT of laws_FnGalois: yours. -/
def laws_FnGalois.Pure : Prop := ∀ (l0 : List Int) (l1 : List Int), l0.length ≤ maxLen → l0.length * 1 ≤ 140737488351232 → (∀ x ∈ l0, (Lit.int .u8 x).wf = true) → l1.length ≤ maxLen → l1.length * 1 ≤ 140737488351232 → (∀ x ∈ l1, (Lit.int .u8 x).wf = true) → ∃ k, laws_FnGalois.f k l0 l1 = some true
theorem laws_FnGalois.walk (P : laws_FnGalois.Pure) (a0 : Option Addr) (len0 cap0 : Nat) (z0 : List Int) (a1 : Option Addr) (len1 cap1 : Nat) (z1 : List Int) (w : World) (w0 : (a0 = none ∧ len0 = 0 ∧ cap0 = 0 ∧ z0 = []) ∨ ∃ x, a0 = some x ∧ len0 ≤ cap0 ∧ cap0 ≤ maxLen ∧ z0.length = cap0 ∧ (∀ i, i < z0.length → w.cell? (x.add i) = some (.int .u8 (z0.getD i 0))) ∧ ∀ n ∈ z0, (Lit.int .u8 n).wf = true) (y0 : len0 * 1 ≤ 140737488351232) (w1 : (a1 = none ∧ len1 = 0 ∧ cap1 = 0 ∧ z1 = []) ∨ ∃ x, a1 = some x ∧ len1 ≤ cap1 ∧ cap1 ≤ maxLen ∧ z1.length = cap1 ∧ (∀ i, i < z1.length → w.cell? (x.add i) = some (.int .u8 (z1.getD i 0))) ∧ ∀ n ∈ z1, (Lit.int .u8 n).wf = true) (y1 : len1 * 1 ≤ 140737488351232) :
    Calls Try.prog 6 #[.slice a0 len0 cap0, .slice a1 len1 cap1] w fun e w' => e = .returned (.bool true) ∧ Below w.heap.size w w' := by
  obtain ⟨l0, rfl, hr0, hm0, hw0, hc0⟩ := ReadsInt.ofRowC w0
  obtain ⟨l1, rfl, hr1, hm1, hw1, hc1⟩ := ReadsInt.ofRowC w1
  obtain ⟨k, h⟩ := P l0 l1 hm0 y0 hw0 hm1 y1 hw1
  refine (laws_FnGalois.calls k _ _ l0 _ _ l1 true w (Kd.C_of_reads (d := (0 : Int)) (h1 := fun _ => rfl) hr0) hc0 (Kd.C_of_reads (d := (0 : Int)) (h1 := fun _ => rfl) hr1) hc1 h).mono ?_
  rintro e w' ⟨rfl, hd⟩
  exact ⟨rfl, hd⟩

end Go.Proofs.Ytcggngmcaicdpaa.PFnGalois
