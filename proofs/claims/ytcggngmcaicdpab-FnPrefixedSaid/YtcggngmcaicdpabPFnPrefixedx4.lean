-- Written by a program of this session out of the translation; Lean checks it.
import Derived.Test.YtcggngmcaicdpabPFnPrefixedx0
import Derived.Test.YtcggngmcaicdpabPFnPrefixedx1
import Derived.Test.YtcggngmcaicdpabPFnPrefixedx2
import Derived.Test.YtcggngmcaicdpabPFnPrefixedx3
namespace Go.Proofs.Ytcggngmcaicdpab.PFnPrefixed
open Go.RowKit Go.Proofs.YtcggngmcaicdpabW.PrintWords Go.Proofs.YtcggngmcaicdpabW.PrintLast Go.Proofs.YtcggngmcaicdpabW.PrintMore
attribute [local go_sem] max2_int min2_int max_two min_two max_three min_three max_four min_four   -- for this text's walks alone
set_option linter.unusedVariables false
set_option linter.unusedSimpArgs false

/-! ### spec_TakePrefix: function 29 -/
mutual
def spec_TakePrefix.j0 : Nat → ByteArray → Int → Bool → Option (Int × Int × Int)
  | 0, _, _, _ => none
  | k + 1, x0, x1, x17 => if x17 = true then (some (0, 0, 0)) else (if 0 ≤ (IntKind.u64.wrap (x1)) then (if 0 < (x0.size : Int) then (if (Go.bits .and .i64 (wrap64 (bt x0 0)) (wrap64 ((shl .i64 1 (IntKind.u64.wrap (x1))) - 1))) < (wrap64 ((shl .i64 1 (IntKind.u64.wrap (x1))) - 1)) then (some (Go.bits .and .i64 (wrap64 (bt x0 0)) (wrap64 ((shl .i64 1 (IntKind.u64.wrap (x1))) - 1)), Go.bits .andNot .i64 (wrap64 (bt x0 0)) (wrap64 ((shl .i64 1 (IntKind.u64.wrap (x1))) - 1)), 1)) else (spec_TakePrefix.l0 k x0 (Go.bits .and .i64 (wrap64 (bt x0 0)) (wrap64 ((shl .i64 1 (IntKind.u64.wrap (x1))) - 1))) (Go.bits .andNot .i64 (wrap64 (bt x0 0)) (wrap64 ((shl .i64 1 (IntKind.u64.wrap (x1))) - 1))) 1)) else (none)) else (none))
def spec_TakePrefix.l0 : Nat → ByteArray → Int → Int → Int → Option (Int × Int × Int)
  | 0, _, _, _, _ => none
  | k + 1, x0, x8, x9, x10 => if x10 < 6 then (spec_TakePrefix.j2 k x0 x8 x9 x10 (decide (x10 < (x0.size : Int)))) else (spec_TakePrefix.j2 k x0 x8 x9 x10 false)
def spec_TakePrefix.j2 : Nat → ByteArray → Int → Int → Int → Bool → Option (Int × Int × Int)
  | 0, _, _, _, _, _ => none
  | k + 1, x0, x8, x9, x10, x44 => if x44 = true then (if 0 ≤ x10 then (if x10 < (x0.size : Int) then (if 0 ≤ (IntKind.u64.wrap (wrap64 (7 * (wrap64 (x10 - 1))))) then (if (wrap64 (x8 + (shl .i64 (wrap64 (Go.bits .and .u8 (bt x0 x10) 127)) (IntKind.u64.wrap (wrap64 (7 * (wrap64 (x10 - 1)))))))) > 1000000000 then (some (0, 0, 0)) else (if (bt x0 x10) < 128 then (some (wrap64 (x8 + (shl .i64 (wrap64 (Go.bits .and .u8 (bt x0 x10) 127)) (IntKind.u64.wrap (wrap64 (7 * (wrap64 (x10 - 1))))))), x9, wrap64 (x10 + 1))) else (spec_TakePrefix.l0 k x0 (wrap64 (x8 + (shl .i64 (wrap64 (Go.bits .and .u8 (bt x0 x10) 127)) (IntKind.u64.wrap (wrap64 (7 * (wrap64 (x10 - 1)))))))) x9 (wrap64 (x10 + 1))))) else (none)) else (none)) else (none)) else (some (0, 0, 0))
end
def spec_TakePrefix.f (k : Nat) (a0 : ByteArray) (a1 : Int) : Option (Int × Int × Int) := if a0.toList = ([] : List UInt8) then (spec_TakePrefix.j0 k a0 a1 true) else ((spec_l1In.f a1 3 8).bind fun t198 => (spec_TakePrefix.j0 k a0 a1 (!t198)))
theorem spec_TakePrefix.mono_l : ∀ k, (∀ y0 y1 y2, LeO (spec_TakePrefix.j0 k y0 y1 y2) (spec_TakePrefix.j0 (k + 1) y0 y1 y2)) ∧ (∀ y0 y1 y2 y3, LeO (spec_TakePrefix.l0 k y0 y1 y2 y3) (spec_TakePrefix.l0 (k + 1) y0 y1 y2 y3)) ∧ (∀ y0 y1 y2 y3 y4, LeO (spec_TakePrefix.j2 k y0 y1 y2 y3 y4) (spec_TakePrefix.j2 (k + 1) y0 y1 y2 y3 y4))
  | 0 => ⟨fun _ _ _ r h => by simp [spec_TakePrefix.j0] at h, fun _ _ _ _ r h => by simp [spec_TakePrefix.l0] at h, fun _ _ _ _ _ r h => by simp [spec_TakePrefix.j2] at h⟩
  | k + 1 => by
    obtain ⟨ih0, ih1, ih2⟩ := spec_TakePrefix.mono_l k
    refine ⟨?_, ?_, ?_⟩
    · intro y0 y1 y2
      unfold spec_TakePrefix.j0
      repeat' first
      | (with_reducible exact ih0 _ _ _)
      | (with_reducible exact ih1 _ _ _ _)
      | (with_reducible exact ih2 _ _ _ _ _)
      | (with_reducible exact LeO.refl _)
      | (with_reducible exact LeO.none _)
      | (with_reducible refine LeO.ite ?_ ?_)
      | (with_reducible refine LeO.bind ?_ (fun _ => ?_))
      | exact ih0 _ _ _
      | exact ih1 _ _ _ _
      | exact ih2 _ _ _ _ _
      | exact LeO.none _
      | refine LeO.ite ?_ ?_
      | refine LeO.bind ?_ (fun _ => ?_)
    · intro y0 y1 y2 y3
      unfold spec_TakePrefix.l0
      repeat' first
      | (with_reducible exact ih0 _ _ _)
      | (with_reducible exact ih1 _ _ _ _)
      | (with_reducible exact ih2 _ _ _ _ _)
      | (with_reducible exact LeO.refl _)
      | (with_reducible exact LeO.none _)
      | (with_reducible refine LeO.ite ?_ ?_)
      | (with_reducible refine LeO.bind ?_ (fun _ => ?_))
      | exact ih0 _ _ _
      | exact ih1 _ _ _ _
      | exact ih2 _ _ _ _ _
      | exact LeO.none _
      | refine LeO.ite ?_ ?_
      | refine LeO.bind ?_ (fun _ => ?_)
    · intro y0 y1 y2 y3 y4
      unfold spec_TakePrefix.j2
      repeat' first
      | (with_reducible exact ih0 _ _ _)
      | (with_reducible exact ih1 _ _ _ _)
      | (with_reducible exact ih2 _ _ _ _ _)
      | (with_reducible exact LeO.refl _)
      | (with_reducible exact LeO.none _)
      | (with_reducible refine LeO.ite ?_ ?_)
      | (with_reducible refine LeO.bind ?_ (fun _ => ?_))
      | exact ih0 _ _ _
      | exact ih1 _ _ _ _
      | exact ih2 _ _ _ _ _
      | exact LeO.none _
      | refine LeO.ite ?_ ?_
      | refine LeO.bind ?_ (fun _ => ?_)
theorem spec_TakePrefix.mono : ∀ a0 a1 k, LeO (spec_TakePrefix.f k a0 a1) (spec_TakePrefix.f (k + 1) a0 a1) := by
  intro a0 a1 k
  obtain ⟨ih0, ih1, ih2⟩ := spec_TakePrefix.mono_l k
  unfold spec_TakePrefix.f
  repeat' first
      | (with_reducible exact ih0 _ _ _)
      | (with_reducible exact ih1 _ _ _ _)
      | (with_reducible exact ih2 _ _ _ _ _)
      | (with_reducible exact LeO.refl _)
      | (with_reducible exact LeO.none _)
      | (with_reducible refine LeO.ite ?_ ?_)
      | (with_reducible refine LeO.bind ?_ (fun _ => ?_))
      | exact ih0 _ _ _
      | exact ih1 _ _ _ _
      | exact ih2 _ _ _ _ _
      | exact LeO.none _
      | refine LeO.ite ?_ ?_
      | refine LeO.bind ?_ (fun _ => ?_)
set_option maxHeartbeats 8000000 in
set_option maxRecDepth 100000 in
theorem spec_TakePrefix.calls (k : Nat) (a0 : ByteArray) (a1 : Int) (r1 : Int) (r2 : Int) (r3 : Int) (w : World) (h : spec_TakePrefix.f k a0 a1 = some (r1, r2, r3)) :
    Calls Try.prog 29 #[.string a0, .int .i64 a1] w fun e w' => e = .returned (.tuple #[.int .i64 r1, .int .i64 r2, .int .i64 r3]) ∧ Drawn0 w w' := by
  have H : (if a0.toList = ([] : List UInt8) then (spec_TakePrefix.j0 k a0 a1 true) else ((spec_l1In.f a1 3 8).bind fun t198 => (spec_TakePrefix.j0 k a0 a1 (!t198)))) = some (r1, r2, r3) := h
  clear h
  have HC3 := Aside0.mk H
  clear H
  go_enter Try.func29, Try.ntmps29
  go_upto_region 1 with (fail)
  go_cut [17] (fun v17 wc => ∃ (kq : Nat) (x17_2 : Bool), v17 = .bool x17_2 ∧ Aside0 (spec_TakePrefix.j0 kq a0 a1 x17_2 = some (r1, r2, r3)) ∧ Aside0 (kq ≤ k) ∧ Drawn0 w wc)
  case first =>
    have H := HC3.out
    clear HC3
    by_cases c4 : a0.toList = ([] : List UInt8)
    · rw [if_pos c4] at H
      have c4b0 : (a0.toList == ([] : List UInt8)) = true := beq_iff_eq.mpr c4
      have c4b1 : (a0.toList != ([] : List UInt8)) = false := bne_eq_false_iff_eq.mpr c4
      clear c4
      (first | rw [c4b0] | (simp only [i64_w, i32_w]; rw [c4b0]) | skip)
      have H' := Aside0.mk H
      clear H
      go_wp2
      go_meet
      case rel => exact ⟨_, (true), (by first | rfl | (simp; done) | (simp [*]; done)), H', ⟨by first | omega | exact Nat.le_refl _⟩, by repeat (first | exact Drawn0.refl _ | apply Drawn0.step)⟩
    · rw [if_neg c4] at H
      have c4b0 : (a0.toList == ([] : List UInt8)) = false := beq_eq_false_iff_ne.mpr c4
      have c4b1 : (a0.toList != ([] : List UInt8)) = true := bne_iff_ne.mpr c4
      (first | rw [c4b0] | (simp only [i64_w, i32_w]; rw [c4b0]) | skip)
      replace H := Option.bind_eq_some_iff.mp H
      obtain ⟨t198, A50, H⟩ := H
      replace H : (spec_TakePrefix.j0 k a0 a1 (!t198)) = some (r1, r2, r3) := H
      have A5 := Aside0.mk A50
      clear A50
      have H' := Aside0.mk H
      clear H
      go_wp2_with (first | (go_at_call 68; (with_reducible refine (spec_l1In.calls a1 3 8 t198 _ A5.out).mono ?_); rintro e w' ⟨rfl, ⟨nd, rfl⟩⟩))
      go_meet
      case rel => exact ⟨_, (!t198), (by first | rfl | (simp; done) | (simp [*]; done)), H', ⟨by first | omega | exact Nat.le_refl _⟩, by repeat (first | exact Drawn0.refl _ | apply Drawn0.step)⟩
  case rest =>
    clear HC3
    try clear c2
    try clear p2
    try clear c4
    try clear c4b0
    try clear c4b1
    obtain ⟨kq, x17_2, rfl, HA, HJ2, ⟨mc2, rfl⟩⟩ := hcut
    cases kq with
    | zero => exact absurd HA.out (by simp [spec_TakePrefix.j0])
    | succ kj2 =>
      have H := HA.out
      clear HA
      simp only [spec_TakePrefix.j0] at H
      by_cases c6 : x17_2 = true
      · subst c6
        have H1 : (some (0, 0, 0)) = some (r1, r2, r3) := by rw [if_pos rfl] at H; exact H
        clear H
        have H := H1
        clear H1
        simp only [Option.some.injEq, Prod.mk.injEq] at H
        obtain ⟨rfl, rfl, rfl⟩ := H
        go_wp2
        go_ret3
        exact ⟨by first | rfl | (simp; done) | (simp [*]; done), by repeat (first | exact Drawn0.refl _ | apply Drawn0.step)⟩
      · replace c6 := Bool.eq_false_iff.mpr c6
        subst c6
        have H1 : (if 0 ≤ (IntKind.u64.wrap (a1)) then (if 0 < (a0.size : Int) then (if (Go.bits .and .i64 (wrap64 (bt a0 0)) (wrap64 ((shl .i64 1 (IntKind.u64.wrap (a1))) - 1))) < (wrap64 ((shl .i64 1 (IntKind.u64.wrap (a1))) - 1)) then (some (Go.bits .and .i64 (wrap64 (bt a0 0)) (wrap64 ((shl .i64 1 (IntKind.u64.wrap (a1))) - 1)), Go.bits .andNot .i64 (wrap64 (bt a0 0)) (wrap64 ((shl .i64 1 (IntKind.u64.wrap (a1))) - 1)), 1)) else (spec_TakePrefix.l0 kj2 a0 (Go.bits .and .i64 (wrap64 (bt a0 0)) (wrap64 ((shl .i64 1 (IntKind.u64.wrap (a1))) - 1))) (Go.bits .andNot .i64 (wrap64 (bt a0 0)) (wrap64 ((shl .i64 1 (IntKind.u64.wrap (a1))) - 1))) 1)) else (none)) else (none)) = some (r1, r2, r3) := by rw [if_neg (show ¬ (false = true) by decide)] at H; exact H
        clear H
        have H := H1
        clear H1
        obtain ⟨ji7, hji7⟩ : ∃ j_ : Int, (IntKind.u64.wrap (a1)) = j_ := ⟨_, rfl⟩
        replace H : (if 0 ≤ (ji7) then (if 0 < (a0.size : Int) then (if (Go.bits .and .i64 (wrap64 (bt a0 0)) (wrap64 ((shl .i64 1 (ji7)) - 1))) < (wrap64 ((shl .i64 1 (ji7)) - 1)) then (some (Go.bits .and .i64 (wrap64 (bt a0 0)) (wrap64 ((shl .i64 1 (ji7)) - 1)), Go.bits .andNot .i64 (wrap64 (bt a0 0)) (wrap64 ((shl .i64 1 (ji7)) - 1)), 1)) else (spec_TakePrefix.l0 kj2 a0 (Go.bits .and .i64 (wrap64 (bt a0 0)) (wrap64 ((shl .i64 1 (ji7)) - 1))) (Go.bits .andNot .i64 (wrap64 (bt a0 0)) (wrap64 ((shl .i64 1 (ji7)) - 1))) 1)) else (none)) else (none)) = some (r1, r2, r3) := by first | (rw [hji7] at H; exact H) | (simp only [hji7] at H ⊢; exact H)
        by_cases c8 : 0 ≤ (ji7)
        · rw [if_pos c8] at H
          have c8b0 := eq_true c8
          have c8b1 : decide (0 ≤ (ji7)) = true := decide_eq_true c8
          clear c8
          obtain ⟨ji9, hji9⟩ : ∃ j_ : Int, (shl .i64 1 (ji7)) = j_ := ⟨_, rfl⟩
          replace H : (if 0 < (a0.size : Int) then (if (Go.bits .and .i64 (wrap64 (bt a0 0)) (wrap64 ((ji9) - 1))) < (wrap64 ((ji9) - 1)) then (some (Go.bits .and .i64 (wrap64 (bt a0 0)) (wrap64 ((ji9) - 1)), Go.bits .andNot .i64 (wrap64 (bt a0 0)) (wrap64 ((ji9) - 1)), 1)) else (spec_TakePrefix.l0 kj2 a0 (Go.bits .and .i64 (wrap64 (bt a0 0)) (wrap64 ((ji9) - 1))) (Go.bits .andNot .i64 (wrap64 (bt a0 0)) (wrap64 ((ji9) - 1))) 1)) else (none)) = some (r1, r2, r3) := by first | (rw [hji9] at H; exact H) | (simp only [hji9] at H ⊢; exact H)
          have hji9_ : (IntKind.i64.wrap (1 * 2 ^ min (ji7).toNat 64)) = ji9 := hji9
          have hji9z : (ji7) ≤ 64 → (IntKind.i64.wrap (1 * 2 ^ (ji7).toNat)) = ji9 := shl_small hji9
          have hji9u : (IntKind.i64.wrap (2 ^ min (ji7).toNat 64)) = ji9 := by have h_ := hji9_; rw [Int.one_mul] at h_; exact h_
          have hji9v : (ji7) ≤ 64 → (IntKind.i64.wrap (2 ^ (ji7).toNat)) = ji9 := fun hle_ => by have h_ := hji9z hle_; rw [Int.one_mul] at h_; exact h_
          have hji9y : (wrap64 (1 * 2 ^ min (ji7).toNat 64)) = ji9 := (i64_w _).symm.trans hji9_
          have hji9x : (ji7) ≤ 64 → (wrap64 (1 * 2 ^ (ji7).toNat)) = ji9 := fun h_ => (i64_w _).symm.trans (hji9z h_)
          by_cases c10 : 0 < (a0.size : Int)
          · rw [if_pos c10] at H
            have c10b0 : decide (0 < (a0.size : Int)) = true := decide_eq_true c10
            have c10b1 : decide (0 < a0.size) = true := decide_eq_true (by omega)
            clear c10
            by_cases c13 : (Go.bits .and .i64 (wrap64 (bt a0 0)) (wrap64 ((ji9) - 1))) < (wrap64 ((ji9) - 1))
            · rw [if_pos c13] at H
              have c13b0 : decide ((Go.bits .and .i64 (wrap64 (bt a0 0)) (wrap64 ((ji9) - 1))) < (wrap64 ((ji9) - 1))) = true := decide_eq_true c13
              clear c13
              simp only [Option.some.injEq, Prod.mk.injEq] at H
              obtain ⟨rfl, rfl, rfl⟩ := H
              have p11 : 0 ≤ (0 : Int) := (by omega)
              have q11 : 0 < a0.size := (by have : (0 : Int) < (a0.size : Int) := of_decide_eq_true (by first | (with_reducible assumption) | assumption); omega)
              have hx11 : ∀ h : 0 < a0.size, ((a0[0]'h).toNat : Int) = bt a0 0 := bt_at a0 0
              clear p11
              have qi11 : (0 < (a0.size : Int)) = True := eq_true (of_decide_eq_true (by first | (with_reducible assumption) | assumption))
              replace q11 := eq_true q11
              have p12 : 0 ≤ (0 : Int) := (by omega)
              have q12 : 0 < a0.size := (by have : (0 : Int) < (a0.size : Int) := of_decide_eq_true (by first | (with_reducible assumption) | assumption); omega)
              have hx12 : ∀ h : 0 < a0.size, ((a0[0]'h).toNat : Int) = bt a0 0 := bt_at a0 0
              clear p12
              have qi12 : (0 < (a0.size : Int)) = True := eq_true (of_decide_eq_true (by first | (with_reducible assumption) | assumption))
              replace q12 := eq_true q12
              go_wp2
              go_ret3
              exact ⟨by first | rfl | (simp; done) | (simp only [← hji7, ← hji9] <;> (first | rfl | simp)) | (simp [*]; done), by repeat (first | exact Drawn0.refl _ | apply Drawn0.step)⟩
            · rw [if_neg c13] at H
              have c13b0 : decide ((Go.bits .and .i64 (wrap64 (bt a0 0)) (wrap64 ((ji9) - 1))) < (wrap64 ((ji9) - 1))) = false := decide_eq_false c13
              clear c13
              have H' := Aside0.mk H
              clear H
              have p11 : 0 ≤ (0 : Int) := (by omega)
              have q11 : 0 < a0.size := (by have : (0 : Int) < (a0.size : Int) := of_decide_eq_true (by first | (with_reducible assumption) | assumption); omega)
              have hx11 : ∀ h : 0 < a0.size, ((a0[0]'h).toNat : Int) = bt a0 0 := bt_at a0 0
              clear p11
              have qi11 : (0 < (a0.size : Int)) = True := eq_true (of_decide_eq_true (by first | (with_reducible assumption) | assumption))
              replace q11 := eq_true q11
              have p12 : 0 ≤ (0 : Int) := (by omega)
              have q12 : 0 < a0.size := (by have : (0 : Int) < (a0.size : Int) := of_decide_eq_true (by first | (with_reducible assumption) | assumption); omega)
              have hx12 : ∀ h : 0 < a0.size, ((a0[0]'h).toNat : Int) = bt a0 0 := bt_at a0 0
              clear p12
              have qi12 : (0 < (a0.size : Int)) = True := eq_true (of_decide_eq_true (by first | (with_reducible assumption) | assumption))
              replace q12 := eq_true q12
              go_wp2
              go_loopg [8, 10] kj2 (fun kq v8 v10 w' => ∃ (x8_2 : Int) (x10_2 : Int), v8 = .int .i64 x8_2 ∧ v10 = .int .i64 x10_2 ∧ Aside0 (spec_TakePrefix.l0 kq a0 x8_2 (Go.bits .andNot .i64 (wrap64 (bt a0 0)) (wrap64 ((ji9) - 1))) x10_2 = some (r1, r2, r3)) ∧ Aside0 (kq ≤ kj2) ∧ Drawn0 w w')
              case atStart => exact ⟨(Go.bits .and .i64 (wrap64 (bt a0 0)) (wrap64 ((ji9) - 1))), (1), (by first | rfl | (simp; done) | (simp only [← hji9] <;> (first | rfl | simp)) | (simp [*]; done)), (by first | rfl | (simp; done) | (simp [*]; done)), H', ⟨Nat.le_refl _⟩, by repeat (first | exact Drawn0.refl _ | apply Drawn0.step)⟩
              case round =>
                clear H'
                try clear c1
                try clear p1
                try clear q1
                try clear hx1
                try clear qi1
                try clear c2
                try clear p2
                try clear c4
                try clear c4b0
                try clear c4b1
                try clear c6
                try clear p6
                try clear c8
                try clear c8b0
                try clear c8b1
                try clear c10
                try clear c10b0
                try clear c10b1
                try clear p11
                try clear q11
                try clear hx11
                try clear qi11
                try clear p12
                try clear q12
                try clear hx12
                try clear qi12
                try clear c13
                try clear c13b0
                try clear p11
                try clear p12
                try clear p2
                try clear q11
                try clear q12
                obtain ⟨x8_2, x10_2, rfl, rfl, HA, HK2, ⟨m2, rfl⟩⟩ := hrel
                cases gk with
                | zero => exact absurd HA.out (by simp [spec_TakePrefix.l0])
                | succ k2 =>
                  have H := HA.out
                  clear HA
                  simp only [spec_TakePrefix.l0] at H
                  have HC14 := Aside0.mk H
                  clear H
                  go_upto_region 9 with (fail)
                  go_cut [44] (fun v44 wc => ∃ (kq : Nat) (x44_13 : Bool), v44 = .bool x44_13 ∧ Aside0 (spec_TakePrefix.j2 kq a0 x8_2 (Go.bits .andNot .i64 (wrap64 (bt a0 0)) (wrap64 ((ji9) - 1))) x10_2 x44_13 = some (r1, r2, r3)) ∧ Aside0 (kq ≤ k2) ∧ Drawn0 w wc)
                  case first =>
                    have H := HC14.out
                    clear HC14
                    by_cases c15 : x10_2 < 6
                    · rw [if_pos c15] at H
                      have c15b0 : decide (x10_2 < 6) = true := decide_eq_true c15
                      clear c15
                      (first | rw [c15b0] | (simp only [i64_w, i32_w]; rw [c15b0]) | skip)
                      have H' := Aside0.mk H
                      clear H
                      go_wp2
                      go_meet
                      case rel => exact ⟨_, (decide (x10_2 < (a0.size : Int))), (by first | rfl | (simp; done) | (simp [*]; done)), H', ⟨by have := HJ2.out; have := HK2.out; first | omega | exact Nat.le_refl _⟩, by repeat (first | exact Drawn0.refl _ | apply Drawn0.step)⟩
                    · rw [if_neg c15] at H
                      have c15b0 : decide (x10_2 < 6) = false := decide_eq_false c15
                      clear c15
                      (first | rw [c15b0] | (simp only [i64_w, i32_w]; rw [c15b0]) | skip)
                      have H' := Aside0.mk H
                      clear H
                      go_wp2
                      go_meet
                      case rel => exact ⟨_, (false), (by first | rfl | (simp; done) | (simp [*]; done)), H', ⟨by have := HJ2.out; have := HK2.out; first | omega | exact Nat.le_refl _⟩, by repeat (first | exact Drawn0.refl _ | apply Drawn0.step)⟩
                  case rest =>
                    clear HC14
                    try clear c1
                    try clear p1
                    try clear q1
                    try clear hx1
                    try clear qi1
                    try clear c2
                    try clear p2
                    try clear c4
                    try clear c4b0
                    try clear c4b1
                    try clear c6
                    try clear p6
                    try clear c8
                    try clear c8b0
                    try clear c8b1
                    try clear c10
                    try clear c10b0
                    try clear c10b1
                    try clear p11
                    try clear q11
                    try clear hx11
                    try clear qi11
                    try clear p12
                    try clear q12
                    try clear hx12
                    try clear qi12
                    try clear c13
                    try clear c13b0
                    try clear c15
                    try clear c15b0
                    try clear p1
                    try clear p11
                    try clear p12
                    try clear p2
                    try clear p6
                    try clear q1
                    try clear q11
                    try clear q12
                    obtain ⟨kq, x44_13, rfl, HA, HJ13, ⟨mc13, rfl⟩⟩ := hcut
                    cases kq with
                    | zero => exact absurd HA.out (by simp [spec_TakePrefix.j2])
                    | succ kj13 =>
                      have H := HA.out
                      clear HA
                      simp only [spec_TakePrefix.j2] at H
                      by_cases c16 : x44_13 = true
                      · subst c16
                        have H1 : (if 0 ≤ x10_2 then (if x10_2 < (a0.size : Int) then (if 0 ≤ (IntKind.u64.wrap (wrap64 (7 * (wrap64 (x10_2 - 1))))) then (if (wrap64 (x8_2 + (shl .i64 (wrap64 (Go.bits .and .u8 (bt a0 x10_2) 127)) (IntKind.u64.wrap (wrap64 (7 * (wrap64 (x10_2 - 1)))))))) > 1000000000 then (some (0, 0, 0)) else (if (bt a0 x10_2) < 128 then (some (wrap64 (x8_2 + (shl .i64 (wrap64 (Go.bits .and .u8 (bt a0 x10_2) 127)) (IntKind.u64.wrap (wrap64 (7 * (wrap64 (x10_2 - 1))))))), (Go.bits .andNot .i64 (wrap64 (bt a0 0)) (wrap64 ((ji9) - 1))), wrap64 (x10_2 + 1))) else (spec_TakePrefix.l0 kj13 a0 (wrap64 (x8_2 + (shl .i64 (wrap64 (Go.bits .and .u8 (bt a0 x10_2) 127)) (IntKind.u64.wrap (wrap64 (7 * (wrap64 (x10_2 - 1)))))))) (Go.bits .andNot .i64 (wrap64 (bt a0 0)) (wrap64 ((ji9) - 1))) (wrap64 (x10_2 + 1))))) else (none)) else (none)) else (none)) = some (r1, r2, r3) := by rw [if_pos rfl] at H; exact H
                        clear H
                        have H := H1
                        clear H1
                        by_cases c17 : 0 ≤ x10_2
                        · rw [if_pos c17] at H
                          have c17b0 : decide (0 ≤ x10_2) = true := decide_eq_true c17
                          clear c17
                          by_cases c18 : x10_2 < (a0.size : Int)
                          · rw [if_pos c18] at H
                            have c18b0 : decide (x10_2 < (a0.size : Int)) = true := decide_eq_true c18
                            clear c18
                            obtain ⟨ji20, hji20⟩ : ∃ j_ : Int, (IntKind.u64.wrap (wrap64 (7 * (wrap64 (x10_2 - 1))))) = j_ := ⟨_, rfl⟩
                            replace H : (if 0 ≤ (ji20) then (if (wrap64 (x8_2 + (shl .i64 (wrap64 (Go.bits .and .u8 (bt a0 x10_2) 127)) (ji20)))) > 1000000000 then (some (0, 0, 0)) else (if (bt a0 x10_2) < 128 then (some (wrap64 (x8_2 + (shl .i64 (wrap64 (Go.bits .and .u8 (bt a0 x10_2) 127)) (ji20))), (Go.bits .andNot .i64 (wrap64 (bt a0 0)) (wrap64 ((ji9) - 1))), wrap64 (x10_2 + 1))) else (spec_TakePrefix.l0 kj13 a0 (wrap64 (x8_2 + (shl .i64 (wrap64 (Go.bits .and .u8 (bt a0 x10_2) 127)) (ji20)))) (Go.bits .andNot .i64 (wrap64 (bt a0 0)) (wrap64 ((ji9) - 1))) (wrap64 (x10_2 + 1))))) else (none)) = some (r1, r2, r3) := by first | (rw [hji20] at H; exact H) | (simp only [hji20] at H ⊢; exact H)
                            by_cases c21 : 0 ≤ (ji20)
                            · rw [if_pos c21] at H
                              have c21b0 := eq_true c21
                              have c21b1 : decide (0 ≤ (ji20)) = true := decide_eq_true c21
                              clear c21
                              obtain ⟨ji22, hji22⟩ : ∃ j_ : Int, (shl .i64 (wrap64 (Go.bits .and .u8 (bt a0 x10_2) 127)) (ji20)) = j_ := ⟨_, rfl⟩
                              replace H : (if (wrap64 (x8_2 + (ji22))) > 1000000000 then (some (0, 0, 0)) else (if (bt a0 x10_2) < 128 then (some (wrap64 (x8_2 + (ji22)), (Go.bits .andNot .i64 (wrap64 (bt a0 0)) (wrap64 ((ji9) - 1))), wrap64 (x10_2 + 1))) else (spec_TakePrefix.l0 kj13 a0 (wrap64 (x8_2 + (ji22))) (Go.bits .andNot .i64 (wrap64 (bt a0 0)) (wrap64 ((ji9) - 1))) (wrap64 (x10_2 + 1))))) = some (r1, r2, r3) := by first | (rw [hji22] at H; exact H) | (simp only [hji22] at H ⊢; exact H)
                              have hji22_ : (IntKind.i64.wrap ((wrap64 (Go.bits .and .u8 (bt a0 x10_2) 127)) * 2 ^ min (ji20).toNat 64)) = ji22 := hji22
                              have hji22z : (ji20) ≤ 64 → (IntKind.i64.wrap ((wrap64 (Go.bits .and .u8 (bt a0 x10_2) 127)) * 2 ^ (ji20).toNat)) = ji22 := shl_small hji22
                              have hji22y : (wrap64 ((wrap64 (Go.bits .and .u8 (bt a0 x10_2) 127)) * 2 ^ min (ji20).toNat 64)) = ji22 := (i64_w _).symm.trans hji22_
                              have hji22x : (ji20) ≤ 64 → (wrap64 ((wrap64 (Go.bits .and .u8 (bt a0 x10_2) 127)) * 2 ^ (ji20).toNat)) = ji22 := fun h_ => (i64_w _).symm.trans (hji22z h_)
                              by_cases c23 : (wrap64 (x8_2 + (ji22))) > 1000000000
                              · rw [if_pos c23] at H
                                have c23b0 : decide (1000000000 < (wrap64 (x8_2 + (ji22)))) = true := decide_eq_true c23
                                clear c23
                                simp only [Option.some.injEq, Prod.mk.injEq] at H
                                obtain ⟨rfl, rfl, rfl⟩ := H
                                have p19 : 0 ≤ (x10_2 : Int) := of_decide_eq_true (by first | (with_reducible assumption) | assumption)
                                have q19 : x10_2 < (a0.size : Int) := of_decide_eq_true (by first | (with_reducible assumption) | assumption)
                                have hx19 := bt_at a0 x10_2
                                replace p19 := eq_true p19
                                replace q19 := eq_true q19
                                go_wp2
                                go_ret3
                                exact ⟨by first | rfl | (simp; done) | (simp only [← hji7, ← hji9, ← hji20, ← hji22] <;> (first | rfl | simp)) | (simp [*]; done), by repeat (first | exact Drawn0.refl _ | apply Drawn0.step)⟩
                              · rw [if_neg c23] at H
                                have c23b0 : decide (1000000000 < (wrap64 (x8_2 + (ji22)))) = false := decide_eq_false c23
                                clear c23
                                by_cases c25 : (bt a0 x10_2) < 128
                                · rw [if_pos c25] at H
                                  have c25b0 : decide ((bt a0 x10_2) < 128) = true := decide_eq_true c25
                                  clear c25
                                  simp only [Option.some.injEq, Prod.mk.injEq] at H
                                  obtain ⟨rfl, rfl, rfl⟩ := H
                                  have p19 : 0 ≤ (x10_2 : Int) := of_decide_eq_true (by first | (with_reducible assumption) | assumption)
                                  have q19 : x10_2 < (a0.size : Int) := of_decide_eq_true (by first | (with_reducible assumption) | assumption)
                                  have hx19 := bt_at a0 x10_2
                                  replace p19 := eq_true p19
                                  replace q19 := eq_true q19
                                  have p24 : 0 ≤ (x10_2 : Int) := of_decide_eq_true (by first | (with_reducible assumption) | assumption)
                                  have q24 : x10_2 < (a0.size : Int) := of_decide_eq_true (by first | (with_reducible assumption) | assumption)
                                  have hx24 := bt_at a0 x10_2
                                  replace p24 := eq_true p24
                                  replace q24 := eq_true q24
                                  go_wp2
                                  go_ret3
                                  exact ⟨by first | rfl | (simp; done) | (simp only [← hji7, ← hji9, ← hji20, ← hji22] <;> (first | rfl | simp)) | (simp [*]; done), by repeat (first | exact Drawn0.refl _ | apply Drawn0.step)⟩
                                · rw [if_neg c25] at H
                                  have c25b0 : decide ((bt a0 x10_2) < 128) = false := decide_eq_false c25
                                  clear c25
                                  have H' := Aside0.mk H
                                  clear H
                                  have p19 : 0 ≤ (x10_2 : Int) := of_decide_eq_true (by first | (with_reducible assumption) | assumption)
                                  have q19 : x10_2 < (a0.size : Int) := of_decide_eq_true (by first | (with_reducible assumption) | assumption)
                                  have hx19 := bt_at a0 x10_2
                                  replace p19 := eq_true p19
                                  replace q19 := eq_true q19
                                  have p24 : 0 ≤ (x10_2 : Int) := of_decide_eq_true (by first | (with_reducible assumption) | assumption)
                                  have q24 : x10_2 < (a0.size : Int) := of_decide_eq_true (by first | (with_reducible assumption) | assumption)
                                  have hx24 := bt_at a0 x10_2
                                  replace p24 := eq_true p24
                                  replace q24 := eq_true q24
                                  go_wp2
                                  go_roundg kj13
                                  case measure => have := HJ2.out; have := HK2.out; have := HJ13.out; omega
                                  case rel => exact ⟨(wrap64 (x8_2 + (ji22))), (wrap64 (x10_2 + 1)), (by first | rfl | (simp; done) | (simp only [← hji22] <;> (first | rfl | simp)) | (simp [*]; done)), (by first | rfl | (simp; done) | (simp [*]; done)), H', ⟨by have := HJ2.out; have := HK2.out; have := HJ13.out; omega⟩, by repeat (first | exact Drawn0.refl _ | apply Drawn0.step)⟩
                            · rw [if_neg c21] at H
                              exact absurd H (by simp)
                          · rw [if_neg c18] at H
                            exact absurd H (by simp)
                        · rw [if_neg c17] at H
                          exact absurd H (by simp)
                      · replace c16 := Bool.eq_false_iff.mpr c16
                        subst c16
                        have H1 : (some (0, 0, 0)) = some (r1, r2, r3) := by rw [if_neg (show ¬ (false = true) by decide)] at H; exact H
                        clear H
                        have H := H1
                        clear H1
                        simp only [Option.some.injEq, Prod.mk.injEq] at H
                        obtain ⟨rfl, rfl, rfl⟩ := H
                        go_wp2
                        go_ret3
                        exact ⟨by first | rfl | (simp; done) | (simp only [← hji7, ← hji9] <;> (first | rfl | simp)) | (simp [*]; done), by repeat (first | exact Drawn0.refl _ | apply Drawn0.step)⟩
          · rw [if_neg c10] at H
            exact absurd H (by simp)
        · rw [if_neg c8] at H
          exact absurd H (by simp)

/-! ### laws_FnPrefixed: function 6 -/
mutual
def laws_FnPrefixed.j0 : Nat → List Int → Int → Int → Int → ByteArray → Bool → Bool → Option (Bool)
  | 0, _, _, _, _, _, _, _ => none
  | k + 1, x1, x5, x6, x7, x8, x9, x56 => if x56 = true then (some false) else (if x9 = true then (if x8.size + 4 ≤ 9223372036854775807 then ((impl_TakePrefix.f k (x8 ++ (⟨#[109, 111, 114, 101]⟩ : ByteArray)) x6).bind fun bt206 => (if bt206.1 = x5 then (if bt206.2.1 = x7 then (laws_FnPrefixed.j1 k x1 (bt206.2.2 != (x8.size : Int))) else (laws_FnPrefixed.j1 k x1 true)) else (laws_FnPrefixed.j1 k x1 true))) else (none)) else ((spec_DrawTakePrefix.f k x1).bind fun bt217 => ((impl_TakePrefix.f k bt217.1 bt217.2).bind fun bt219 => ((spec_TakePrefix.f k bt217.1 bt217.2).bind fun bt222 => (if bt219.1 = bt222.1 then (if bt219.2.1 = bt222.2.1 then (some (bt219.2.2 == bt222.2.2)) else (some false)) else (some false))))))
def laws_FnPrefixed.j1 : Nat → List Int → Bool → Option (Bool)
  | 0, _, _ => none
  | k + 1, x1, x79 => if x79 = true then (some false) else ((spec_DrawTakePrefix.f k x1).bind fun bt209 => ((impl_TakePrefix.f k bt209.1 bt209.2).bind fun bt211 => ((spec_TakePrefix.f k bt209.1 bt209.2).bind fun bt214 => (if bt211.1 = bt214.1 then (if bt211.2.1 = bt214.2.1 then (some (bt211.2.2 == bt214.2.2)) else (some false)) else (some false)))))
end
def laws_FnPrefixed.f (k : Nat) (l0 : List Int) (l1 : List Int) : Option (Bool) := if (wrap64 ((l0.length : Int) + (l1.length : Int))) > 1048576 then (some true) else ((spec_DrawPrefixBytes.f k l0).bind fun bt199 => ((impl_PrefixBytes.f k bt199.1 bt199.2.1 bt199.2.2).bind fun bt202 => ((spec_PrefixBytes.f k bt199.1 bt199.2.1 bt199.2.2).bind fun bt204 => (if (bt202.2 != bt204.2) = true then (laws_FnPrefixed.j0 k l1 bt199.1 bt199.2.1 bt199.2.2 bt202.1 bt202.2 true) else (laws_FnPrefixed.j0 k l1 bt199.1 bt199.2.1 bt199.2.2 bt202.1 bt202.2 (bt202.1.toList != bt204.1.toList))))))
theorem laws_FnPrefixed.mono_l : ∀ k, (∀ y0 y1 y2 y3 y4 y5 y6, LeO (laws_FnPrefixed.j0 k y0 y1 y2 y3 y4 y5 y6) (laws_FnPrefixed.j0 (k + 1) y0 y1 y2 y3 y4 y5 y6)) ∧ (∀ y0 y1, LeO (laws_FnPrefixed.j1 k y0 y1) (laws_FnPrefixed.j1 (k + 1) y0 y1))
  | 0 => ⟨fun _ _ _ _ _ _ _ r h => by simp [laws_FnPrefixed.j0] at h, fun _ _ r h => by simp [laws_FnPrefixed.j1] at h⟩
  | k + 1 => by
    obtain ⟨ih0, ih1⟩ := laws_FnPrefixed.mono_l k
    refine ⟨?_, ?_⟩
    · intro y0 y1 y2 y3 y4 y5 y6
      unfold laws_FnPrefixed.j0
      repeat' first
      | (with_reducible exact ih0 _ _ _ _ _ _ _)
      | (with_reducible exact ih1 _ _)
      | (with_reducible exact impl_PrefixBytes.mono _ _ _ _)
      | (with_reducible exact impl_TakePrefix.mono _ _ _)
      | (with_reducible exact spec_DrawPrefixBytes.mono _ _)
      | (with_reducible exact spec_DrawTakePrefix.mono _ _)
      | (with_reducible exact spec_PrefixBytes.mono _ _ _ _)
      | (with_reducible exact spec_TakePrefix.mono _ _ _)
      | (with_reducible exact LeO.refl _)
      | (with_reducible exact LeO.none _)
      | (with_reducible refine LeO.ite ?_ ?_)
      | (with_reducible refine LeO.bind ?_ (fun _ => ?_))
      | exact ih0 _ _ _ _ _ _ _
      | exact ih1 _ _
      | exact impl_PrefixBytes.mono _ _ _ _
      | exact impl_TakePrefix.mono _ _ _
      | exact spec_DrawPrefixBytes.mono _ _
      | exact spec_DrawTakePrefix.mono _ _
      | exact spec_PrefixBytes.mono _ _ _ _
      | exact spec_TakePrefix.mono _ _ _
      | exact LeO.none _
      | refine LeO.ite ?_ ?_
      | refine LeO.bind ?_ (fun _ => ?_)
    · intro y0 y1
      unfold laws_FnPrefixed.j1
      repeat' first
      | (with_reducible exact ih0 _ _ _ _ _ _ _)
      | (with_reducible exact ih1 _ _)
      | (with_reducible exact impl_PrefixBytes.mono _ _ _ _)
      | (with_reducible exact impl_TakePrefix.mono _ _ _)
      | (with_reducible exact spec_DrawPrefixBytes.mono _ _)
      | (with_reducible exact spec_DrawTakePrefix.mono _ _)
      | (with_reducible exact spec_PrefixBytes.mono _ _ _ _)
      | (with_reducible exact spec_TakePrefix.mono _ _ _)
      | (with_reducible exact LeO.refl _)
      | (with_reducible exact LeO.none _)
      | (with_reducible refine LeO.ite ?_ ?_)
      | (with_reducible refine LeO.bind ?_ (fun _ => ?_))
      | exact ih0 _ _ _ _ _ _ _
      | exact ih1 _ _
      | exact impl_PrefixBytes.mono _ _ _ _
      | exact impl_TakePrefix.mono _ _ _
      | exact spec_DrawPrefixBytes.mono _ _
      | exact spec_DrawTakePrefix.mono _ _
      | exact spec_PrefixBytes.mono _ _ _ _
      | exact spec_TakePrefix.mono _ _ _
      | exact LeO.none _
      | refine LeO.ite ?_ ?_
      | refine LeO.bind ?_ (fun _ => ?_)
theorem laws_FnPrefixed.mono : ∀ a0 a1 k, LeO (laws_FnPrefixed.f k a0 a1) (laws_FnPrefixed.f (k + 1) a0 a1) := by
  intro a0 a1 k
  obtain ⟨ih0, ih1⟩ := laws_FnPrefixed.mono_l k
  unfold laws_FnPrefixed.f
  repeat' first
      | (with_reducible exact ih0 _ _ _ _ _ _ _)
      | (with_reducible exact ih1 _ _)
      | (with_reducible exact impl_PrefixBytes.mono _ _ _ _)
      | (with_reducible exact impl_TakePrefix.mono _ _ _)
      | (with_reducible exact spec_DrawPrefixBytes.mono _ _)
      | (with_reducible exact spec_DrawTakePrefix.mono _ _)
      | (with_reducible exact spec_PrefixBytes.mono _ _ _ _)
      | (with_reducible exact spec_TakePrefix.mono _ _ _)
      | (with_reducible exact LeO.refl _)
      | (with_reducible exact LeO.none _)
      | (with_reducible refine LeO.ite ?_ ?_)
      | (with_reducible refine LeO.bind ?_ (fun _ => ?_))
      | exact ih0 _ _ _ _ _ _ _
      | exact ih1 _ _
      | exact impl_PrefixBytes.mono _ _ _ _
      | exact impl_TakePrefix.mono _ _ _
      | exact spec_DrawPrefixBytes.mono _ _
      | exact spec_DrawTakePrefix.mono _ _
      | exact spec_PrefixBytes.mono _ _ _ _
      | exact spec_TakePrefix.mono _ _ _
      | exact LeO.none _
      | refine LeO.ite ?_ ?_
      | refine LeO.bind ?_ (fun _ => ?_)
set_option maxHeartbeats 8000000 in
set_option maxRecDepth 100000 in
theorem laws_FnPrefixed.calls (k : Nat) (A0 : Option Addr) (c0 : Nat) (l0 : List Int) (A1 : Option Addr) (c1 : Nat) (l1 : List Int) (r : Bool) (w : World) (hr0 : Kd.C (Kd.int .u8) w A0 l0.length l0) (hc0 : l0.length ≤ c0) (hr1 : Kd.C (Kd.int .u8) w A1 l1.length l1) (hc1 : l1.length ≤ c1) (h : laws_FnPrefixed.f k l0 l1 = some r) :
    Calls Try.prog 6 #[.slice A0 l0.length c0, .slice A1 l1.length c1] w fun e w' => e = .returned (.bool r) ∧ Below w.heap.size w w' := by
  have HR0 := Aside0.mk hr0
  have HC0 := Aside0.mk hc0
  clear hr0 hc0
  have HR1 := Aside0.mk hr1
  have HC1 := Aside0.mk hc1
  clear hr1 hc1
  have HB := Aside0.mk (Below.refl w.heap.size w)
  have H : (if (wrap64 ((l0.length : Int) + (l1.length : Int))) > 1048576 then (some true) else ((spec_DrawPrefixBytes.f k l0).bind fun bt199 => ((impl_PrefixBytes.f k bt199.1 bt199.2.1 bt199.2.2).bind fun bt202 => ((spec_PrefixBytes.f k bt199.1 bt199.2.1 bt199.2.2).bind fun bt204 => (if (bt202.2 != bt204.2) = true then (laws_FnPrefixed.j0 k l1 bt199.1 bt199.2.1 bt199.2.2 bt202.1 bt202.2 true) else (laws_FnPrefixed.j0 k l1 bt199.1 bt199.2.1 bt199.2.2 bt202.1 bt202.2 (bt202.1.toList != bt204.1.toList))))))) = some r := h
  clear h
  by_cases c3 : (wrap64 ((l0.length : Int) + (l1.length : Int))) > 1048576
  · rw [if_pos c3] at H
    have c3b0 : decide (1048576 < (wrap64 ((l0.length : Int) + (l1.length : Int)))) = true := decide_eq_true c3
    clear c3
    obtain rfl := Option.some.inj H
    go_enter Try.func6, Try.ntmps6
    go_wp2
    go_ret
    exact ⟨by first | rfl | (simp [errW_none, errW_some] <;> rfl) | (simp [*, errW_none, errW_some] <;> rfl), by repeat (first | (with_reducible first | exact HB.out | apply below_alloc | apply pw_below_drewN | apply below_drew1) | exact HB.out)⟩
  · rw [if_neg c3] at H
    have c3b0 : decide (1048576 < (wrap64 ((l0.length : Int) + (l1.length : Int)))) = false := decide_eq_false c3
    clear c3
    replace H := Option.bind_eq_some_iff.mp H
    obtain ⟨⟨t199, t200, t201⟩, A40, H⟩ := H
    replace H : ((impl_PrefixBytes.f k t199 t200 t201).bind fun bt202 => ((spec_PrefixBytes.f k t199 t200 t201).bind fun bt204 => (if (bt202.2 != bt204.2) = true then (laws_FnPrefixed.j0 k l1 t199 t200 t201 bt202.1 bt202.2 true) else (laws_FnPrefixed.j0 k l1 t199 t200 t201 bt202.1 bt202.2 (bt202.1.toList != bt204.1.toList))))) = some r := H
    have A4 := Aside0.mk A40
    clear A40
    replace H := Option.bind_eq_some_iff.mp H
    obtain ⟨⟨t202, t203⟩, A50, H⟩ := H
    replace H : ((spec_PrefixBytes.f k t199 t200 t201).bind fun bt204 => (if (t203 != bt204.2) = true then (laws_FnPrefixed.j0 k l1 t199 t200 t201 t202 t203 true) else (laws_FnPrefixed.j0 k l1 t199 t200 t201 t202 t203 (t202.toList != bt204.1.toList)))) = some r := H
    have A5 := Aside0.mk A50
    clear A50
    replace H := Option.bind_eq_some_iff.mp H
    obtain ⟨⟨t204, t205⟩, A60, H⟩ := H
    replace H : (if (t203 != t205) = true then (laws_FnPrefixed.j0 k l1 t199 t200 t201 t202 t203 true) else (laws_FnPrefixed.j0 k l1 t199 t200 t201 t202 t203 (t202.toList != t204.toList))) = some r := H
    have A6 := Aside0.mk A60
    clear A60
    have HC7 := Aside0.mk H
    clear H
    go_enter Try.func6, Try.ntmps6
    go_upto_region 6 with (first | ((with_reducible refine gate_callee (f := 24) rfl ?_); refine goesL_ (some 31) rfl rfl Try.func24 (by kernel_rfl) rfl #[.slice A0 l0.length c0] rfl (by (try simp only [List.map_toArray, List.map_cons, List.map_nil]); first | done | rfl | (simp only [List.length_drop, List.length_take]; rfl)) ?_; (with_reducible refine (spec_DrawPrefixBytes.calls k _ _ l0 t199 t200 t201 _ ?side1 ?side2 A4.out).mono ?_); (case side1 => repeat (first | exact HR0.out | (with_reducible refine Kd.C_alloc ?_ _) | (with_reducible refine Kd.C_drewN ?_ _) | (with_reducible refine Kd.C_drew ?_))); (case side2 => exact HC0.out); rintro e w8 ⟨rfl, hb⟩; refine ⟨_, rfl, ?_⟩; have n0_ := Aside0.mk (below_step (by repeat (first | (with_reducible first | exact HB.out | apply below_alloc | apply pw_below_drewN | apply below_drew1) | exact HB.out)) hb); clear HB; have HB := n0_; clear n0_; (try clear hb); (try clear hb2); (try clear hk); (try clear hi)) | ((with_reducible refine gate_callee (f := 25) rfl ?_); refine goesL_ (some 39) rfl rfl Try.func25 (by kernel_rfl) rfl #[.int .i64 t199, .int .i64 t200, .int .i64 t201] rfl (by (try simp only [List.map_toArray, List.map_cons, List.map_nil]); first | done | rfl | (simp only [List.length_drop, List.length_take]; rfl)) ?_; (with_reducible refine (impl_PrefixBytes.calls k t199 t200 t201 t202 t203 _ A5.out).mono ?_); rintro e w9 ⟨rfl, hb⟩; refine ⟨_, rfl, ?_⟩; have n0_ := Aside0.mk (below_step (by repeat (first | (with_reducible first | exact HB.out | apply below_alloc | apply pw_below_drewN | apply below_drew1) | exact HB.out)) hb); clear HB; have HB := n0_; clear n0_; (try clear hb); (try clear hb2); (try clear hk); (try clear hi)) | ((with_reducible refine gate_callee (f := 26) rfl ?_); refine goesL_ (some 46) rfl rfl Try.func26 (by kernel_rfl) rfl #[.int .i64 t199, .int .i64 t200, .int .i64 t201] rfl (by (try simp only [List.map_toArray, List.map_cons, List.map_nil]); first | done | rfl | (simp only [List.length_drop, List.length_take]; rfl)) ?_; (with_reducible refine (spec_PrefixBytes.calls k t199 t200 t201 t204 t205 _ A6.out).mono ?_); rintro e w10 ⟨rfl, hb⟩; refine ⟨_, rfl, ?_⟩; have n0_ := Aside0.mk (below_step (by repeat (first | (with_reducible first | exact HB.out | apply below_alloc | apply pw_below_drewN | apply below_drew1) | exact HB.out)) hb); clear HB; have HB := n0_; clear n0_; (try clear hb); (try clear hb2); (try clear hk); (try clear hi)))
    (try simp only [Act.put, List.setIfInBounds_toArray, List.set_cons_zero, List.set_cons_succ])
    go_cut [56] (fun v56 wc => ∃ (kq : Nat) (x56_6 : Bool), v56 = .bool x56_6 ∧ Aside0 (laws_FnPrefixed.j0 kq l1 t199 t200 t201 t202 t203 x56_6 = some r) ∧ Aside0 (kq ≤ k) ∧ Aside0 (Below w.heap.size w wc))
    case first =>
      have H := HC7.out
      clear HC7
      by_cases c11 : (t203 != t205) = true
      · rw [if_pos c11] at H
        have c11b0 : (t203 != t205) = true := c11
        (try (have c11b1 : decide (t203 = t205) = false := by simpa using c11))
        (try (have c11b2 : (t203 == t205) = false := by simpa using c11))
        (try (have c11b3 : ¬ (t203 = t205) := by simpa using c11))
        clear c11
        (first | rw [c11b0] | (simp only [i64_w, i32_w]; rw [c11b0]) | skip)
        have H' := Aside0.mk H
        clear H
        go_wp2
        go_meet
        case rel => exact ⟨_, (true), (by first | rfl | (simp; done) | (simp [*]; done)), H', ⟨by first | omega | exact Nat.le_refl _⟩, ⟨by repeat (first | (with_reducible first | exact HB.out | apply below_alloc | apply pw_below_drewN | apply below_drew1) | exact HB.out)⟩⟩
      · rw [if_neg c11] at H
        have c11b0 : (t203 != t205) = false := by simpa using c11
        (try (have c11b1 : decide (t203 = t205) = true := by simpa using c11))
        (try (have c11b2 : (t203 == t205) = true := by simpa using c11))
        clear c11
        (first | rw [c11b0] | (simp only [i64_w, i32_w]; rw [c11b0]) | skip)
        have H' := Aside0.mk H
        clear H
        go_wp2
        go_meet
        case rel => exact ⟨_, ((t202.toList != t204.toList)), (by first | rfl | (simp; done) | (simp [*]; done)), H', ⟨by first | omega | exact Nat.le_refl _⟩, ⟨by repeat (first | (with_reducible first | exact HB.out | apply below_alloc | apply pw_below_drewN | apply below_drew1) | exact HB.out)⟩⟩
    case rest =>
      clear HC7
      try clear c1
      try clear c2
      try clear p2
      try clear c3
      try clear c3b0
      try clear c6
      try clear p6
      try clear c11
      try clear c11b0
      try clear c11b1
      try clear c11b2
      obtain ⟨kq, x56_6, rfl, HA, HJ6, HB⟩ := hcut
      cases kq with
      | zero => exact absurd HA.out (by simp [laws_FnPrefixed.j0])
      | succ kj6 =>
        have H := HA.out
        clear HA
        simp only [laws_FnPrefixed.j0] at H
        by_cases c12 : x56_6 = true
        · subst c12
          have H1 : (some false) = some r := by rw [if_pos rfl] at H; exact H
          clear H
          have H := H1
          clear H1
          obtain rfl := Option.some.inj H
          go_wp2
          go_ret
          exact ⟨by first | rfl | (simp [errW_none, errW_some] <;> rfl) | (simp [*, errW_none, errW_some] <;> rfl), by repeat (first | (with_reducible first | exact HB.out | apply below_alloc | apply pw_below_drewN | apply below_drew1) | exact HB.out)⟩
        · replace c12 := Bool.eq_false_iff.mpr c12
          subst c12
          have H1 : (if t203 = true then (if t202.size + 4 ≤ 9223372036854775807 then ((impl_TakePrefix.f kj6 (t202 ++ (⟨#[109, 111, 114, 101]⟩ : ByteArray)) t200).bind fun bt206 => (if bt206.1 = t199 then (if bt206.2.1 = t201 then (laws_FnPrefixed.j1 kj6 l1 (bt206.2.2 != (t202.size : Int))) else (laws_FnPrefixed.j1 kj6 l1 true)) else (laws_FnPrefixed.j1 kj6 l1 true))) else (none)) else ((spec_DrawTakePrefix.f kj6 l1).bind fun bt217 => ((impl_TakePrefix.f kj6 bt217.1 bt217.2).bind fun bt219 => ((spec_TakePrefix.f kj6 bt217.1 bt217.2).bind fun bt222 => (if bt219.1 = bt222.1 then (if bt219.2.1 = bt222.2.1 then (some (bt219.2.2 == bt222.2.2)) else (some false)) else (some false)))))) = some r := by rw [if_neg (show ¬ (false = true) by decide)] at H; exact H
          clear H
          have H := H1
          clear H1
          by_cases c13 : t203 = true
          · subst c13
            have H1 : (if t202.size + 4 ≤ 9223372036854775807 then ((impl_TakePrefix.f kj6 (t202 ++ (⟨#[109, 111, 114, 101]⟩ : ByteArray)) t200).bind fun bt206 => (if bt206.1 = t199 then (if bt206.2.1 = t201 then (laws_FnPrefixed.j1 kj6 l1 (bt206.2.2 != (t202.size : Int))) else (laws_FnPrefixed.j1 kj6 l1 true)) else (laws_FnPrefixed.j1 kj6 l1 true))) else (none)) = some r := by rw [if_pos rfl] at H; exact H
            clear H
            have H := H1
            clear H1
            by_cases c14 : t202.size + 4 ≤ 9223372036854775807
            · rw [if_pos c14] at H
              have c14b0 := eq_true c14
              have c14b1 : decide (t202.size + 4 ≤ 9223372036854775807) = true := decide_eq_true c14
              try have c14b2 : (9223372036854775807 < t202.size + 4) = False := eq_false (Nat.not_lt.2 c14)
              replace H := Option.bind_eq_some_iff.mp H
              obtain ⟨⟨t206, t207, t208⟩, A150, H⟩ := H
              replace H : (if t206 = t199 then (if t207 = t201 then (laws_FnPrefixed.j1 kj6 l1 (t208 != (t202.size : Int))) else (laws_FnPrefixed.j1 kj6 l1 true)) else (laws_FnPrefixed.j1 kj6 l1 true)) = some r := H
              have A15 := Aside0.mk A150
              clear A150
              have HC16 := Aside0.mk H
              clear H
              go_upto_region 10 with (first | ((with_reducible refine gate_callee (f := 27) rfl ?_); refine goesL_ (some 62) rfl rfl Try.func27 (by kernel_rfl) rfl #[.string (t202 ++ (⟨#[109, 111, 114, 101]⟩ : ByteArray)), .int .i64 t200] rfl (by (try simp only [List.map_toArray, List.map_cons, List.map_nil]); first | done | rfl | (simp only [List.length_drop, List.length_take]; rfl)) ?_; (with_reducible refine (impl_TakePrefix.calls kj6 (t202 ++ (⟨#[109, 111, 114, 101]⟩ : ByteArray)) t200 t206 t207 t208 _ A15.out).mono ?_); rintro e w' ⟨rfl, ⟨nd, rfl⟩⟩; refine ⟨_, rfl, ?_⟩))
              (try simp only [Act.put, List.setIfInBounds_toArray, List.set_cons_zero, List.set_cons_succ])
              go_cut [79] (fun v79 wc => ∃ (kq : Nat) (x79_15 : Bool), v79 = .bool x79_15 ∧ Aside0 (laws_FnPrefixed.j1 kq l1 x79_15 = some r) ∧ Aside0 (kq ≤ kj6) ∧ Aside0 (Below w.heap.size w wc))
              case first =>
                have H := HC16.out
                clear HC16
                by_cases c17 : t206 = t199
                · rw [if_pos c17] at H
                  have c17b0 : (t206 == t199) = true := beq_iff_eq.mpr c17
                  have c17b1 : (t206 != t199) = false := bne_eq_false_iff_eq.mpr c17
                  clear c17
                  (first | rw [c17b0] | (simp only [i64_w, i32_w]; rw [c17b0]) | skip)
                  by_cases c18 : t207 = t201
                  · rw [if_pos c18] at H
                    have c18b0 : (t207 == t201) = true := beq_iff_eq.mpr c18
                    have c18b1 : (t207 != t201) = false := bne_eq_false_iff_eq.mpr c18
                    clear c18
                    have H' := Aside0.mk H
                    clear H
                    go_wp2
                    go_meet
                    case rel => exact ⟨_, ((t208 != (t202.size : Int))), (by first | rfl | (simp; done) | (simp [*]; done)), H', ⟨by have := HJ6.out; first | omega | exact Nat.le_refl _⟩, ⟨by repeat (first | (with_reducible first | exact HB.out | apply below_alloc | apply pw_below_drewN | apply below_drew1) | exact HB.out)⟩⟩
                  · rw [if_neg c18] at H
                    have c18b0 : (t207 == t201) = false := beq_eq_false_iff_ne.mpr c18
                    have c18b1 : (t207 != t201) = true := bne_iff_ne.mpr c18
                    have H' := Aside0.mk H
                    clear H
                    go_wp2
                    go_meet
                    case rel => exact ⟨_, (true), (by first | rfl | (simp; done) | (simp [*]; done)), H', ⟨by have := HJ6.out; first | omega | exact Nat.le_refl _⟩, ⟨by repeat (first | (with_reducible first | exact HB.out | apply below_alloc | apply pw_below_drewN | apply below_drew1) | exact HB.out)⟩⟩
                · rw [if_neg c17] at H
                  have c17b0 : (t206 == t199) = false := beq_eq_false_iff_ne.mpr c17
                  have c17b1 : (t206 != t199) = true := bne_iff_ne.mpr c17
                  (first | rw [c17b0] | (simp only [i64_w, i32_w]; rw [c17b0]) | skip)
                  have H' := Aside0.mk H
                  clear H
                  go_wp2
                  go_meet
                  case rel => exact ⟨_, (true), (by first | rfl | (simp; done) | (simp [*]; done)), H', ⟨by have := HJ6.out; first | omega | exact Nat.le_refl _⟩, ⟨by repeat (first | (with_reducible first | exact HB.out | apply below_alloc | apply pw_below_drewN | apply below_drew1) | exact HB.out)⟩⟩
              case rest =>
                clear HC16
                try clear c1
                try clear c2
                try clear p2
                try clear c3
                try clear c3b0
                try clear c6
                try clear p6
                try clear c11
                try clear c11b0
                try clear c11b1
                try clear c11b2
                try clear c12
                try clear c13
                try clear c14
                try clear c14b0
                try clear c14b1
                try clear c14b2
                try clear c17
                try clear c17b0
                try clear c17b1
                try clear c18
                try clear c18b0
                try clear c18b1
                try clear p2
                try clear p6
                obtain ⟨kq, x79_15, rfl, HA, HJ15, HB⟩ := hcut
                cases kq with
                | zero => exact absurd HA.out (by simp [laws_FnPrefixed.j1])
                | succ kj15 =>
                  have H := HA.out
                  clear HA
                  simp only [laws_FnPrefixed.j1] at H
                  by_cases c19 : x79_15 = true
                  · subst c19
                    have H1 : (some false) = some r := by rw [if_pos rfl] at H; exact H
                    clear H
                    have H := H1
                    clear H1
                    obtain rfl := Option.some.inj H
                    go_wp2
                    go_ret
                    exact ⟨by first | rfl | (simp [errW_none, errW_some] <;> rfl) | (simp [*, errW_none, errW_some] <;> rfl), by repeat (first | (with_reducible first | exact HB.out | apply below_alloc | apply pw_below_drewN | apply below_drew1) | exact HB.out)⟩
                  · replace c19 := Bool.eq_false_iff.mpr c19
                    subst c19
                    have H1 : ((spec_DrawTakePrefix.f kj15 l1).bind fun bt209 => ((impl_TakePrefix.f kj15 bt209.1 bt209.2).bind fun bt211 => ((spec_TakePrefix.f kj15 bt209.1 bt209.2).bind fun bt214 => (if bt211.1 = bt214.1 then (if bt211.2.1 = bt214.2.1 then (some (bt211.2.2 == bt214.2.2)) else (some false)) else (some false))))) = some r := by rw [if_neg (show ¬ (false = true) by decide)] at H; exact H
                    clear H
                    have H := H1
                    clear H1
                    replace H := Option.bind_eq_some_iff.mp H
                    obtain ⟨⟨t209, t210⟩, A200, H⟩ := H
                    replace H : ((impl_TakePrefix.f kj15 t209 t210).bind fun bt211 => ((spec_TakePrefix.f kj15 t209 t210).bind fun bt214 => (if bt211.1 = bt214.1 then (if bt211.2.1 = bt214.2.1 then (some (bt211.2.2 == bt214.2.2)) else (some false)) else (some false)))) = some r := H
                    have A20 := Aside0.mk A200
                    clear A200
                    replace H := Option.bind_eq_some_iff.mp H
                    obtain ⟨⟨t211, t212, t213⟩, A210, H⟩ := H
                    replace H : ((spec_TakePrefix.f kj15 t209 t210).bind fun bt214 => (if t211 = bt214.1 then (if t212 = bt214.2.1 then (some (t213 == bt214.2.2)) else (some false)) else (some false))) = some r := H
                    have A21 := Aside0.mk A210
                    clear A210
                    replace H := Option.bind_eq_some_iff.mp H
                    obtain ⟨⟨t214, t215, t216⟩, A220, H⟩ := H
                    replace H : (if t211 = t214 then (if t212 = t215 then (some (t213 == t216)) else (some false)) else (some false)) = some r := H
                    have A22 := Aside0.mk A220
                    clear A220
                    by_cases c23 : t211 = t214
                    · rw [if_pos c23] at H
                      have c23b0 : (t211 == t214) = true := beq_iff_eq.mpr c23
                      have c23b1 : (t211 != t214) = false := bne_eq_false_iff_eq.mpr c23
                      clear c23
                      by_cases c24 : t212 = t215
                      · rw [if_pos c24] at H
                        have c24b0 : (t212 == t215) = true := beq_iff_eq.mpr c24
                        have c24b1 : (t212 != t215) = false := bne_eq_false_iff_eq.mpr c24
                        clear c24
                        obtain rfl := Option.some.inj H
                        go_wp2_with (first | ((with_reducible refine gate_callee (f := 28) rfl ?_); refine goesL_ (some 82) rfl rfl Try.func28 (by kernel_rfl) rfl #[.slice A1 l1.length c1] rfl (by (try simp only [List.map_toArray, List.map_cons, List.map_nil]); first | done | rfl | (simp only [List.length_drop, List.length_take]; rfl)) ?_; (with_reducible refine (spec_DrawTakePrefix.calls kj15 _ _ l1 t209 t210 _ ?side1 ?side2 A20.out).mono ?_); (case side1 => repeat (first | exact (Kd.C_below HR1.out HB.out) | (with_reducible refine Kd.C_alloc ?_ _) | (with_reducible refine Kd.C_drewN ?_ _) | (with_reducible refine Kd.C_drew ?_))); (case side2 => exact HC1.out); rintro e w25 ⟨rfl, hb⟩; refine ⟨_, rfl, ?_⟩; have n0_ := Aside0.mk (below_step (by repeat (first | (with_reducible first | exact HB.out | apply below_alloc | apply pw_below_drewN | apply below_drew1) | exact HB.out)) hb); clear HB; have HB := n0_; clear n0_; (try clear hb); (try clear hb2); (try clear hk); (try clear hi)) | ((with_reducible refine gate_callee (f := 27) rfl ?_); refine goesL_ (some 88) rfl rfl Try.func27 (by kernel_rfl) rfl #[.string t209, .int .i64 t210] rfl (by (try simp only [List.map_toArray, List.map_cons, List.map_nil]); first | done | rfl | (simp only [List.length_drop, List.length_take]; rfl)) ?_; (with_reducible refine (impl_TakePrefix.calls kj15 t209 t210 t211 t212 t213 _ A21.out).mono ?_); rintro e w' ⟨rfl, ⟨nd, rfl⟩⟩; refine ⟨_, rfl, ?_⟩) | ((with_reducible refine gate_callee (f := 29) rfl ?_); refine goesL_ (some 95) rfl rfl Try.func29 (by kernel_rfl) rfl #[.string t209, .int .i64 t210] rfl (by (try simp only [List.map_toArray, List.map_cons, List.map_nil]); first | done | rfl | (simp only [List.length_drop, List.length_take]; rfl)) ?_; (with_reducible refine (spec_TakePrefix.calls kj15 t209 t210 t214 t215 t216 _ A22.out).mono ?_); rintro e w' ⟨rfl, ⟨nd, rfl⟩⟩; refine ⟨_, rfl, ?_⟩))
                        go_ret
                        exact ⟨by first | rfl | (simp [errW_none, errW_some] <;> rfl) | (simp [*, errW_none, errW_some] <;> rfl), by repeat (first | (with_reducible first | exact HB.out | apply below_alloc | apply pw_below_drewN | apply below_drew1) | exact HB.out)⟩
                      · rw [if_neg c24] at H
                        have c24b0 : (t212 == t215) = false := beq_eq_false_iff_ne.mpr c24
                        have c24b1 : (t212 != t215) = true := bne_iff_ne.mpr c24
                        obtain rfl := Option.some.inj H
                        go_wp2_with (first | ((with_reducible refine gate_callee (f := 28) rfl ?_); refine goesL_ (some 82) rfl rfl Try.func28 (by kernel_rfl) rfl #[.slice A1 l1.length c1] rfl (by (try simp only [List.map_toArray, List.map_cons, List.map_nil]); first | done | rfl | (simp only [List.length_drop, List.length_take]; rfl)) ?_; (with_reducible refine (spec_DrawTakePrefix.calls kj15 _ _ l1 t209 t210 _ ?side1 ?side2 A20.out).mono ?_); (case side1 => repeat (first | exact (Kd.C_below HR1.out HB.out) | (with_reducible refine Kd.C_alloc ?_ _) | (with_reducible refine Kd.C_drewN ?_ _) | (with_reducible refine Kd.C_drew ?_))); (case side2 => exact HC1.out); rintro e w26 ⟨rfl, hb⟩; refine ⟨_, rfl, ?_⟩; have n0_ := Aside0.mk (below_step (by repeat (first | (with_reducible first | exact HB.out | apply below_alloc | apply pw_below_drewN | apply below_drew1) | exact HB.out)) hb); clear HB; have HB := n0_; clear n0_; (try clear hb); (try clear hb2); (try clear hk); (try clear hi)) | ((with_reducible refine gate_callee (f := 27) rfl ?_); refine goesL_ (some 88) rfl rfl Try.func27 (by kernel_rfl) rfl #[.string t209, .int .i64 t210] rfl (by (try simp only [List.map_toArray, List.map_cons, List.map_nil]); first | done | rfl | (simp only [List.length_drop, List.length_take]; rfl)) ?_; (with_reducible refine (impl_TakePrefix.calls kj15 t209 t210 t211 t212 t213 _ A21.out).mono ?_); rintro e w' ⟨rfl, ⟨nd, rfl⟩⟩; refine ⟨_, rfl, ?_⟩) | ((with_reducible refine gate_callee (f := 29) rfl ?_); refine goesL_ (some 95) rfl rfl Try.func29 (by kernel_rfl) rfl #[.string t209, .int .i64 t210] rfl (by (try simp only [List.map_toArray, List.map_cons, List.map_nil]); first | done | rfl | (simp only [List.length_drop, List.length_take]; rfl)) ?_; (with_reducible refine (spec_TakePrefix.calls kj15 t209 t210 t214 t215 t216 _ A22.out).mono ?_); rintro e w' ⟨rfl, ⟨nd, rfl⟩⟩; refine ⟨_, rfl, ?_⟩))
                        go_ret
                        exact ⟨by first | rfl | (simp [errW_none, errW_some] <;> rfl) | (simp [*, errW_none, errW_some] <;> rfl), by repeat (first | (with_reducible first | exact HB.out | apply below_alloc | apply pw_below_drewN | apply below_drew1) | exact HB.out)⟩
                    · rw [if_neg c23] at H
                      have c23b0 : (t211 == t214) = false := beq_eq_false_iff_ne.mpr c23
                      have c23b1 : (t211 != t214) = true := bne_iff_ne.mpr c23
                      obtain rfl := Option.some.inj H
                      go_wp2_with (first | ((with_reducible refine gate_callee (f := 28) rfl ?_); refine goesL_ (some 82) rfl rfl Try.func28 (by kernel_rfl) rfl #[.slice A1 l1.length c1] rfl (by (try simp only [List.map_toArray, List.map_cons, List.map_nil]); first | done | rfl | (simp only [List.length_drop, List.length_take]; rfl)) ?_; (with_reducible refine (spec_DrawTakePrefix.calls kj15 _ _ l1 t209 t210 _ ?side1 ?side2 A20.out).mono ?_); (case side1 => repeat (first | exact (Kd.C_below HR1.out HB.out) | (with_reducible refine Kd.C_alloc ?_ _) | (with_reducible refine Kd.C_drewN ?_ _) | (with_reducible refine Kd.C_drew ?_))); (case side2 => exact HC1.out); rintro e w27 ⟨rfl, hb⟩; refine ⟨_, rfl, ?_⟩; have n0_ := Aside0.mk (below_step (by repeat (first | (with_reducible first | exact HB.out | apply below_alloc | apply pw_below_drewN | apply below_drew1) | exact HB.out)) hb); clear HB; have HB := n0_; clear n0_; (try clear hb); (try clear hb2); (try clear hk); (try clear hi)) | ((with_reducible refine gate_callee (f := 27) rfl ?_); refine goesL_ (some 88) rfl rfl Try.func27 (by kernel_rfl) rfl #[.string t209, .int .i64 t210] rfl (by (try simp only [List.map_toArray, List.map_cons, List.map_nil]); first | done | rfl | (simp only [List.length_drop, List.length_take]; rfl)) ?_; (with_reducible refine (impl_TakePrefix.calls kj15 t209 t210 t211 t212 t213 _ A21.out).mono ?_); rintro e w' ⟨rfl, ⟨nd, rfl⟩⟩; refine ⟨_, rfl, ?_⟩) | ((with_reducible refine gate_callee (f := 29) rfl ?_); refine goesL_ (some 95) rfl rfl Try.func29 (by kernel_rfl) rfl #[.string t209, .int .i64 t210] rfl (by (try simp only [List.map_toArray, List.map_cons, List.map_nil]); first | done | rfl | (simp only [List.length_drop, List.length_take]; rfl)) ?_; (with_reducible refine (spec_TakePrefix.calls kj15 t209 t210 t214 t215 t216 _ A22.out).mono ?_); rintro e w' ⟨rfl, ⟨nd, rfl⟩⟩; refine ⟨_, rfl, ?_⟩))
                      go_ret
                      exact ⟨by first | rfl | (simp [errW_none, errW_some] <;> rfl) | (simp [*, errW_none, errW_some] <;> rfl), by repeat (first | (with_reducible first | exact HB.out | apply below_alloc | apply pw_below_drewN | apply below_drew1) | exact HB.out)⟩
            · rw [if_neg c14] at H
              exact absurd H (by simp)
          · replace c13 := Bool.eq_false_iff.mpr c13
            subst c13
            have H1 : ((spec_DrawTakePrefix.f kj6 l1).bind fun bt217 => ((impl_TakePrefix.f kj6 bt217.1 bt217.2).bind fun bt219 => ((spec_TakePrefix.f kj6 bt217.1 bt217.2).bind fun bt222 => (if bt219.1 = bt222.1 then (if bt219.2.1 = bt222.2.1 then (some (bt219.2.2 == bt222.2.2)) else (some false)) else (some false))))) = some r := by rw [if_neg (show ¬ (false = true) by decide)] at H; exact H
            clear H
            have H := H1
            clear H1
            replace H := Option.bind_eq_some_iff.mp H
            obtain ⟨⟨t217, t218⟩, A280, H⟩ := H
            replace H : ((impl_TakePrefix.f kj6 t217 t218).bind fun bt219 => ((spec_TakePrefix.f kj6 t217 t218).bind fun bt222 => (if bt219.1 = bt222.1 then (if bt219.2.1 = bt222.2.1 then (some (bt219.2.2 == bt222.2.2)) else (some false)) else (some false)))) = some r := H
            have A28 := Aside0.mk A280
            clear A280
            replace H := Option.bind_eq_some_iff.mp H
            obtain ⟨⟨t219, t220, t221⟩, A290, H⟩ := H
            replace H : ((spec_TakePrefix.f kj6 t217 t218).bind fun bt222 => (if t219 = bt222.1 then (if t220 = bt222.2.1 then (some (t221 == bt222.2.2)) else (some false)) else (some false))) = some r := H
            have A29 := Aside0.mk A290
            clear A290
            replace H := Option.bind_eq_some_iff.mp H
            obtain ⟨⟨t222, t223, t224⟩, A300, H⟩ := H
            replace H : (if t219 = t222 then (if t220 = t223 then (some (t221 == t224)) else (some false)) else (some false)) = some r := H
            have A30 := Aside0.mk A300
            clear A300
            by_cases c31 : t219 = t222
            · rw [if_pos c31] at H
              have c31b0 : (t219 == t222) = true := beq_iff_eq.mpr c31
              have c31b1 : (t219 != t222) = false := bne_eq_false_iff_eq.mpr c31
              clear c31
              by_cases c32 : t220 = t223
              · rw [if_pos c32] at H
                have c32b0 : (t220 == t223) = true := beq_iff_eq.mpr c32
                have c32b1 : (t220 != t223) = false := bne_eq_false_iff_eq.mpr c32
                clear c32
                obtain rfl := Option.some.inj H
                go_wp2_with (first | ((with_reducible refine gate_callee (f := 28) rfl ?_); refine goesL_ (some 82) rfl rfl Try.func28 (by kernel_rfl) rfl #[.slice A1 l1.length c1] rfl (by (try simp only [List.map_toArray, List.map_cons, List.map_nil]); first | done | rfl | (simp only [List.length_drop, List.length_take]; rfl)) ?_; (with_reducible refine (spec_DrawTakePrefix.calls kj6 _ _ l1 t217 t218 _ ?side1 ?side2 A28.out).mono ?_); (case side1 => repeat (first | exact (Kd.C_below HR1.out HB.out) | (with_reducible refine Kd.C_alloc ?_ _) | (with_reducible refine Kd.C_drewN ?_ _) | (with_reducible refine Kd.C_drew ?_))); (case side2 => exact HC1.out); rintro e w33 ⟨rfl, hb⟩; refine ⟨_, rfl, ?_⟩; have n0_ := Aside0.mk (below_step (by repeat (first | (with_reducible first | exact HB.out | apply below_alloc | apply pw_below_drewN | apply below_drew1) | exact HB.out)) hb); clear HB; have HB := n0_; clear n0_; (try clear hb); (try clear hb2); (try clear hk); (try clear hi)) | ((with_reducible refine gate_callee (f := 27) rfl ?_); refine goesL_ (some 88) rfl rfl Try.func27 (by kernel_rfl) rfl #[.string t217, .int .i64 t218] rfl (by (try simp only [List.map_toArray, List.map_cons, List.map_nil]); first | done | rfl | (simp only [List.length_drop, List.length_take]; rfl)) ?_; (with_reducible refine (impl_TakePrefix.calls kj6 t217 t218 t219 t220 t221 _ A29.out).mono ?_); rintro e w' ⟨rfl, ⟨nd, rfl⟩⟩; refine ⟨_, rfl, ?_⟩) | ((with_reducible refine gate_callee (f := 29) rfl ?_); refine goesL_ (some 95) rfl rfl Try.func29 (by kernel_rfl) rfl #[.string t217, .int .i64 t218] rfl (by (try simp only [List.map_toArray, List.map_cons, List.map_nil]); first | done | rfl | (simp only [List.length_drop, List.length_take]; rfl)) ?_; (with_reducible refine (spec_TakePrefix.calls kj6 t217 t218 t222 t223 t224 _ A30.out).mono ?_); rintro e w' ⟨rfl, ⟨nd, rfl⟩⟩; refine ⟨_, rfl, ?_⟩))
                go_ret
                exact ⟨by first | rfl | (simp [errW_none, errW_some] <;> rfl) | (simp [*, errW_none, errW_some] <;> rfl), by repeat (first | (with_reducible first | exact HB.out | apply below_alloc | apply pw_below_drewN | apply below_drew1) | exact HB.out)⟩
              · rw [if_neg c32] at H
                have c32b0 : (t220 == t223) = false := beq_eq_false_iff_ne.mpr c32
                have c32b1 : (t220 != t223) = true := bne_iff_ne.mpr c32
                obtain rfl := Option.some.inj H
                go_wp2_with (first | ((with_reducible refine gate_callee (f := 28) rfl ?_); refine goesL_ (some 82) rfl rfl Try.func28 (by kernel_rfl) rfl #[.slice A1 l1.length c1] rfl (by (try simp only [List.map_toArray, List.map_cons, List.map_nil]); first | done | rfl | (simp only [List.length_drop, List.length_take]; rfl)) ?_; (with_reducible refine (spec_DrawTakePrefix.calls kj6 _ _ l1 t217 t218 _ ?side1 ?side2 A28.out).mono ?_); (case side1 => repeat (first | exact (Kd.C_below HR1.out HB.out) | (with_reducible refine Kd.C_alloc ?_ _) | (with_reducible refine Kd.C_drewN ?_ _) | (with_reducible refine Kd.C_drew ?_))); (case side2 => exact HC1.out); rintro e w34 ⟨rfl, hb⟩; refine ⟨_, rfl, ?_⟩; have n0_ := Aside0.mk (below_step (by repeat (first | (with_reducible first | exact HB.out | apply below_alloc | apply pw_below_drewN | apply below_drew1) | exact HB.out)) hb); clear HB; have HB := n0_; clear n0_; (try clear hb); (try clear hb2); (try clear hk); (try clear hi)) | ((with_reducible refine gate_callee (f := 27) rfl ?_); refine goesL_ (some 88) rfl rfl Try.func27 (by kernel_rfl) rfl #[.string t217, .int .i64 t218] rfl (by (try simp only [List.map_toArray, List.map_cons, List.map_nil]); first | done | rfl | (simp only [List.length_drop, List.length_take]; rfl)) ?_; (with_reducible refine (impl_TakePrefix.calls kj6 t217 t218 t219 t220 t221 _ A29.out).mono ?_); rintro e w' ⟨rfl, ⟨nd, rfl⟩⟩; refine ⟨_, rfl, ?_⟩) | ((with_reducible refine gate_callee (f := 29) rfl ?_); refine goesL_ (some 95) rfl rfl Try.func29 (by kernel_rfl) rfl #[.string t217, .int .i64 t218] rfl (by (try simp only [List.map_toArray, List.map_cons, List.map_nil]); first | done | rfl | (simp only [List.length_drop, List.length_take]; rfl)) ?_; (with_reducible refine (spec_TakePrefix.calls kj6 t217 t218 t222 t223 t224 _ A30.out).mono ?_); rintro e w' ⟨rfl, ⟨nd, rfl⟩⟩; refine ⟨_, rfl, ?_⟩))
                go_ret
                exact ⟨by first | rfl | (simp [errW_none, errW_some] <;> rfl) | (simp [*, errW_none, errW_some] <;> rfl), by repeat (first | (with_reducible first | exact HB.out | apply below_alloc | apply pw_below_drewN | apply below_drew1) | exact HB.out)⟩
            · rw [if_neg c31] at H
              have c31b0 : (t219 == t222) = false := beq_eq_false_iff_ne.mpr c31
              have c31b1 : (t219 != t222) = true := bne_iff_ne.mpr c31
              obtain rfl := Option.some.inj H
              go_wp2_with (first | ((with_reducible refine gate_callee (f := 28) rfl ?_); refine goesL_ (some 82) rfl rfl Try.func28 (by kernel_rfl) rfl #[.slice A1 l1.length c1] rfl (by (try simp only [List.map_toArray, List.map_cons, List.map_nil]); first | done | rfl | (simp only [List.length_drop, List.length_take]; rfl)) ?_; (with_reducible refine (spec_DrawTakePrefix.calls kj6 _ _ l1 t217 t218 _ ?side1 ?side2 A28.out).mono ?_); (case side1 => repeat (first | exact (Kd.C_below HR1.out HB.out) | (with_reducible refine Kd.C_alloc ?_ _) | (with_reducible refine Kd.C_drewN ?_ _) | (with_reducible refine Kd.C_drew ?_))); (case side2 => exact HC1.out); rintro e w35 ⟨rfl, hb⟩; refine ⟨_, rfl, ?_⟩; have n0_ := Aside0.mk (below_step (by repeat (first | (with_reducible first | exact HB.out | apply below_alloc | apply pw_below_drewN | apply below_drew1) | exact HB.out)) hb); clear HB; have HB := n0_; clear n0_; (try clear hb); (try clear hb2); (try clear hk); (try clear hi)) | ((with_reducible refine gate_callee (f := 27) rfl ?_); refine goesL_ (some 88) rfl rfl Try.func27 (by kernel_rfl) rfl #[.string t217, .int .i64 t218] rfl (by (try simp only [List.map_toArray, List.map_cons, List.map_nil]); first | done | rfl | (simp only [List.length_drop, List.length_take]; rfl)) ?_; (with_reducible refine (impl_TakePrefix.calls kj6 t217 t218 t219 t220 t221 _ A29.out).mono ?_); rintro e w' ⟨rfl, ⟨nd, rfl⟩⟩; refine ⟨_, rfl, ?_⟩) | ((with_reducible refine gate_callee (f := 29) rfl ?_); refine goesL_ (some 95) rfl rfl Try.func29 (by kernel_rfl) rfl #[.string t217, .int .i64 t218] rfl (by (try simp only [List.map_toArray, List.map_cons, List.map_nil]); first | done | rfl | (simp only [List.length_drop, List.length_take]; rfl)) ?_; (with_reducible refine (spec_TakePrefix.calls kj6 t217 t218 t222 t223 t224 _ A30.out).mono ?_); rintro e w' ⟨rfl, ⟨nd, rfl⟩⟩; refine ⟨_, rfl, ?_⟩))
              go_ret
              exact ⟨by first | rfl | (simp [errW_none, errW_some] <;> rfl) | (simp [*, errW_none, errW_some] <;> rfl), by repeat (first | (with_reducible first | exact HB.out | apply below_alloc | apply pw_below_drewN | apply below_drew1) | exact HB.out)⟩

/-- THE ONE PURE STATEMENT of laws_FnPrefixed: yours. -/
def laws_FnPrefixed.Pure : Prop := ∀ (l0 : List Int) (l1 : List Int), l0.length ≤ maxLen → l0.length * 1 ≤ 140737488351232 → (∀ x ∈ l0, (Lit.int .u8 x).wf = true) → l1.length ≤ maxLen → l1.length * 1 ≤ 140737488351232 → (∀ x ∈ l1, (Lit.int .u8 x).wf = true) → ∃ k, laws_FnPrefixed.f k l0 l1 = some true
theorem laws_FnPrefixed.walk (P : laws_FnPrefixed.Pure) (a0 : Option Addr) (len0 cap0 : Nat) (z0 : List Int) (a1 : Option Addr) (len1 cap1 : Nat) (z1 : List Int) (w : World) (w0 : (a0 = none ∧ len0 = 0 ∧ cap0 = 0 ∧ z0 = []) ∨ ∃ x, a0 = some x ∧ len0 ≤ cap0 ∧ cap0 ≤ maxLen ∧ z0.length = cap0 ∧ (∀ i, i < z0.length → w.cell? (x.add i) = some (.int .u8 (z0.getD i 0))) ∧ ∀ n ∈ z0, (Lit.int .u8 n).wf = true) (y0 : len0 * 1 ≤ 140737488351232) (w1 : (a1 = none ∧ len1 = 0 ∧ cap1 = 0 ∧ z1 = []) ∨ ∃ x, a1 = some x ∧ len1 ≤ cap1 ∧ cap1 ≤ maxLen ∧ z1.length = cap1 ∧ (∀ i, i < z1.length → w.cell? (x.add i) = some (.int .u8 (z1.getD i 0))) ∧ ∀ n ∈ z1, (Lit.int .u8 n).wf = true) (y1 : len1 * 1 ≤ 140737488351232) :
    Calls Try.prog 6 #[.slice a0 len0 cap0, .slice a1 len1 cap1] w fun e w' => e = .returned (.bool true) ∧ Below w.heap.size w w' := by
  obtain ⟨l0, rfl, hr0, hm0, hw0, hc0⟩ := ReadsInt.ofRowC w0
  obtain ⟨l1, rfl, hr1, hm1, hw1, hc1⟩ := ReadsInt.ofRowC w1
  obtain ⟨k, h⟩ := P l0 l1 hm0 y0 hw0 hm1 y1 hw1
  refine (laws_FnPrefixed.calls k _ _ l0 _ _ l1 true w (Kd.C_of_reads (d := (0 : Int)) (h1 := fun _ => rfl) hr0) hc0 (Kd.C_of_reads (d := (0 : Int)) (h1 := fun _ => rfl) hr1) hc1 h).mono ?_
  rintro e w' ⟨rfl, hd⟩
  exact ⟨rfl, hd⟩

end Go.Proofs.Ytcggngmcaicdpab.PFnPrefixed
