-- Written by a program of this session out of the translation; Lean checks it.
import Derived.Test.YtcggngmcaicdpaaPFnRttx0
import Derived.Test.YtcggngmcaicdpaaPFnRttx2
import Derived.Test.YtcggngmcaicdpaaPFnRttx3
namespace Go.Proofs.Ytcggngmcaicdpaa.PFnRtt
open Go.RowKit Go.Proofs.YtcggngmcaicdpaaW.PrintWords Go.Proofs.YtcggngmcaicdpaaW.PrintLast Go.Proofs.YtcggngmcaicdpaaW.PrintMore
attribute [local go_sem] max2_int min2_int max_two min_two max_three min_three max_four min_four   -- for this text's walks alone
set_option linter.unusedVariables false
set_option linter.unusedSimpArgs false

/-! ### impl_ProbeTime: function 29 -/
def impl_ProbeTime.j0 : Nat → Int → Int → Bool → Bool → Int → Int → Int → Int → Option (Int × Bool)
  | 0, _, _, _, _, _, _, _, _ => none
  | k + 1, x1, x2, x20, x226000, x226001, x226002, x226003, x226004 => if x20 = true then (some (0, false)) else (if x226000 = true then (if 0 ≤ x2 then (some (shl .i64 (wrap64 ((wrap64 (x226003 + (mx (wrap64 (4 * x226004)) 1))) + x1)) x2, true)) else (none)) else (if 0 ≤ x2 then (some (shl .i64 1000 x2, true)) else (none)))
def impl_ProbeTime.f (k : Nat) (a0_0 : Bool) (a0_1 : Int) (a0_2 : Int) (a0_3 : Int) (a0_4 : Int) (a1 : Int) (a2 : Int) : Option (Int × Bool) := (impl_goodRtt.f a0_0 a0_1 a0_2 a0_3 a0_4).bind fun t226 => (if t226 = true then ((impl_isTick.f a1).bind fun t227 => (if t227 = true then ((impl_in.f a2 0 10).bind fun t228 => (impl_ProbeTime.j0 k a1 a2 (!t228) a0_0 a0_1 a0_2 a0_3 a0_4)) else (impl_ProbeTime.j0 k a1 a2 true a0_0 a0_1 a0_2 a0_3 a0_4))) else (impl_ProbeTime.j0 k a1 a2 true a0_0 a0_1 a0_2 a0_3 a0_4))
theorem impl_ProbeTime.mono_l : ∀ k, (∀ y0 y1 y2 y3 y4 y5 y6 y7, LeO (impl_ProbeTime.j0 k y0 y1 y2 y3 y4 y5 y6 y7) (impl_ProbeTime.j0 (k + 1) y0 y1 y2 y3 y4 y5 y6 y7))
  | 0 => fun _ _ _ _ _ _ _ _ r h => by simp [impl_ProbeTime.j0] at h
  | k + 1 => by
    have ih0 := impl_ProbeTime.mono_l k
    · intro y0 y1 y2 y3 y4 y5 y6 y7
      unfold impl_ProbeTime.j0
      repeat' first
      | (with_reducible exact ih0 _ _ _ _ _ _ _ _)
      | (with_reducible exact LeO.refl _)
      | (with_reducible exact LeO.none _)
      | (with_reducible refine LeO.ite ?_ ?_)
      | (with_reducible refine LeO.bind ?_ (fun _ => ?_))
      | exact ih0 _ _ _ _ _ _ _ _
      | exact LeO.none _
      | refine LeO.ite ?_ ?_
      | refine LeO.bind ?_ (fun _ => ?_)
theorem impl_ProbeTime.mono : ∀ a0 a1 a2 a3 a4 a5 a6 k, LeO (impl_ProbeTime.f k a0 a1 a2 a3 a4 a5 a6) (impl_ProbeTime.f (k + 1) a0 a1 a2 a3 a4 a5 a6) := by
  intro a0 a1 a2 a3 a4 a5 a6 k
  have ih0 := impl_ProbeTime.mono_l k
  unfold impl_ProbeTime.f
  repeat' first
      | (with_reducible exact ih0 _ _ _ _ _ _ _ _)
      | (with_reducible exact LeO.refl _)
      | (with_reducible exact LeO.none _)
      | (with_reducible refine LeO.ite ?_ ?_)
      | (with_reducible refine LeO.bind ?_ (fun _ => ?_))
      | exact ih0 _ _ _ _ _ _ _ _
      | exact LeO.none _
      | refine LeO.ite ?_ ?_
      | refine LeO.bind ?_ (fun _ => ?_)
set_option maxHeartbeats 8000000 in
set_option maxRecDepth 100000 in
theorem impl_ProbeTime.calls (k : Nat) (a0_0 : Bool) (a0_1 : Int) (a0_2 : Int) (a0_3 : Int) (a0_4 : Int) (a1 : Int) (a2 : Int) (r1 : Int) (r2 : Bool) (w : World) (h : impl_ProbeTime.f k a0_0 a0_1 a0_2 a0_3 a0_4 a1 a2 = some (r1, r2)) :
    Calls Try.prog 29 #[.agg #[.bool a0_0, .int .i64 a0_1, .int .i64 a0_2, .int .i64 a0_3, .int .i64 a0_4], .int .i64 a1, .int .i64 a2] w fun e w' => e = .returned (.tuple #[.int .i64 r1, .bool r2]) ∧ Below w.heap.size w w' := by
  have hu39 := Try.underlying39
  have HB := Aside0.mk (Below.refl w.heap.size w)
  have H : ((impl_goodRtt.f a0_0 a0_1 a0_2 a0_3 a0_4).bind fun t226 => (if t226 = true then ((impl_isTick.f a1).bind fun t227 => (if t227 = true then ((impl_in.f a2 0 10).bind fun t228 => (impl_ProbeTime.j0 k a1 a2 (!t228) a0_0 a0_1 a0_2 a0_3 a0_4)) else (impl_ProbeTime.j0 k a1 a2 true a0_0 a0_1 a0_2 a0_3 a0_4))) else (impl_ProbeTime.j0 k a1 a2 true a0_0 a0_1 a0_2 a0_3 a0_4))) = some (r1, r2) := h
  clear h
  have HC4 := Aside0.mk H
  clear H
  go_enter Try.func29, Try.ntmps29
  go_upto_region 1 with (first | ((with_reducible refine gate_dst (N := 3) rfl ?_); refine box_event ?hg (N := 3) ?hd (cs := #[.bool a0_0, .int .i64 a0_1, .int .i64 a0_2, .int .i64 a0_3, .int .i64 a0_4]) (t := 39) ?hr ?_; (case hd => rfl); (case hg => rfl); (case hr => first | (go_simp; done) | (go_simp; rfl)); intro gb225 hg w5 hbox hb; have n0_ := Aside0.mk (below_step (by repeat (first | (with_reducible first | exact HB.out | apply below_alloc | apply pw_below_drewN | apply below_drew1) | exact HB.out)) hb); have n1_ := Aside0.mk (hbox); have n2_ := Aside0.mk ((by rw [hg]; exact (below_size (by repeat (first | (with_reducible first | exact HB.out | apply below_alloc | apply pw_below_drewN | apply below_drew1) | exact HB.out))) : w.heap.size ≤ gb225)); have n3_ := Aside0.mk ((by rw [hg]; exact (below_size (by repeat (first | (with_reducible first | exact HB.out | apply below_alloc | apply pw_below_drewN | apply below_drew1) | exact HB.out))) : w.heap.size ≤ gb225)); clear HB; have HB := n0_; have BK225 := n1_; have GW225 := n2_; have GE225 := n3_; clear n0_ n1_ n2_ n3_; clear hb hbox hg))
  (try simp only [Act.put, List.setIfInBounds_toArray, List.set_cons_zero, List.set_cons_succ])
  go_cut [20] (fun v20 wc => ∃ (kq : Nat) (x20_3 : Bool), v20 = .bool x20_3 ∧ Aside0 (impl_ProbeTime.j0 kq a1 a2 x20_3 a0_0 a0_1 a0_2 a0_3 a0_4 = some (r1, r2)) ∧ Aside0 (kq ≤ k) ∧ Aside0 (wc.heap[gb225]? = some (.cells #[.bool a0_0, .int .i64 a0_1, .int .i64 a0_2, .int .i64 a0_3, .int .i64 a0_4] 39 (0, 0))) ∧ Aside0 (Below w.heap.size w wc))
  case first =>
    have H := HC4.out
    clear HC4
    replace H := Option.bind_eq_some_iff.mp H
    obtain ⟨t226, A60, H⟩ := H
    replace H : (if t226 = true then ((impl_isTick.f a1).bind fun t227 => (if t227 = true then ((impl_in.f a2 0 10).bind fun t228 => (impl_ProbeTime.j0 k a1 a2 (!t228) a0_0 a0_1 a0_2 a0_3 a0_4)) else (impl_ProbeTime.j0 k a1 a2 true a0_0 a0_1 a0_2 a0_3 a0_4))) else (impl_ProbeTime.j0 k a1 a2 true a0_0 a0_1 a0_2 a0_3 a0_4)) = some (r1, r2) := H
    have A6 := Aside0.mk A60
    clear A60
    by_cases c7 : t226 = true
    · subst c7
      have H1 : ((impl_isTick.f a1).bind fun t227 => (if t227 = true then ((impl_in.f a2 0 10).bind fun t228 => (impl_ProbeTime.j0 k a1 a2 (!t228) a0_0 a0_1 a0_2 a0_3 a0_4)) else (impl_ProbeTime.j0 k a1 a2 true a0_0 a0_1 a0_2 a0_3 a0_4))) = some (r1, r2) := by rw [if_pos rfl] at H; exact H
      clear H
      have H := H1
      clear H1
      replace H := Option.bind_eq_some_iff.mp H
      obtain ⟨t227, A80, H⟩ := H
      replace H : (if t227 = true then ((impl_in.f a2 0 10).bind fun t228 => (impl_ProbeTime.j0 k a1 a2 (!t228) a0_0 a0_1 a0_2 a0_3 a0_4)) else (impl_ProbeTime.j0 k a1 a2 true a0_0 a0_1 a0_2 a0_3 a0_4)) = some (r1, r2) := H
      have A8 := Aside0.mk A80
      clear A80
      by_cases c9 : t227 = true
      · subst c9
        have H1 : ((impl_in.f a2 0 10).bind fun t228 => (impl_ProbeTime.j0 k a1 a2 (!t228) a0_0 a0_1 a0_2 a0_3 a0_4)) = some (r1, r2) := by rw [if_pos rfl] at H; exact H
        clear H
        have H := H1
        clear H1
        replace H := Option.bind_eq_some_iff.mp H
        obtain ⟨t228, A100, H⟩ := H
        replace H : (impl_ProbeTime.j0 k a1 a2 (!t228) a0_0 a0_1 a0_2 a0_3 a0_4) = some (r1, r2) := H
        have A10 := Aside0.mk A100
        clear A100
        have H' := Aside0.mk H
        clear H
        have hcz11_0 : w5.cell? ⟨gb225, 0, none⟩ = some (.bool a0_0) := (blk_cell BK225.out 0).trans rfl
        have hcz11_1 : w5.cell? ⟨gb225, 1, none⟩ = some (.int .i64 a0_1) := (blk_cell BK225.out 1).trans rfl
        have hcz11_2 : w5.cell? ⟨gb225, 2, none⟩ = some (.int .i64 a0_2) := (blk_cell BK225.out 2).trans rfl
        have hcz11_3 : w5.cell? ⟨gb225, 3, none⟩ = some (.int .i64 a0_3) := (blk_cell BK225.out 3).trans rfl
        have hcz11_4 : w5.cell? ⟨gb225, 4, none⟩ = some (.int .i64 a0_4) := (blk_cell BK225.out 4).trans rfl
        have hfz11_0 := blk_frozen BK225.out 0
        have hfz11_1 := blk_frozen BK225.out 1
        have hfz11_2 := blk_frozen BK225.out 2
        have hfz11_3 := blk_frozen BK225.out 3
        have hfz11_4 := blk_frozen BK225.out 4
        go_wp2_with (first | ((with_reducible refine gate_callee (f := 53) rfl ?_); refine goesL_ (some 9) rfl rfl Try.func53 (by kernel_rfl) rfl #[.agg #[.bool a0_0, .int .i64 a0_1, .int .i64 a0_2, .int .i64 a0_3, .int .i64 a0_4]] rfl (by (try simp only [List.map_toArray, List.map_cons, List.map_nil]); first | done | rfl | (simp only [List.length_drop, List.length_take]; rfl)) ?_; (with_reducible refine (impl_goodRtt.calls a0_0 a0_1 a0_2 a0_3 a0_4 true _ A6.out).mono ?_); rintro e w12 ⟨rfl, hb⟩; refine ⟨_, rfl, ?_⟩; have n0_ := Aside0.mk (blk_below (g := gb225) (o := .cells #[.bool a0_0, .int .i64 a0_1, .int .i64 a0_2, .int .i64 a0_3, .int .i64 a0_4] 39 (0, 0)) (by (with_reducible repeat (first | refine blk_drewN ?_ _ | refine blk_drew ?_ | refine blk_alloc ?_ _)); exact BK225.out) hb); have n1_ := Aside0.mk (below_step (by repeat (first | (with_reducible first | exact HB.out | apply below_alloc | apply pw_below_drewN | apply below_drew1 | refine below_set ?_ GE225.out) | exact HB.out)) hb); clear BK225; clear HB; have BK225 := n0_; have HB := n1_; clear n0_ n1_; (try clear hb); (try clear hb2); (try clear hk); (try clear hi)) | (go_at_call 54; (with_reducible refine (impl_isTick.calls a1 true _ A8.out).mono ?_); rintro e w' ⟨rfl, ⟨nd, rfl⟩⟩) | (go_at_call 59; (with_reducible refine (impl_in.calls a2 0 10 t228 _ A10.out).mono ?_); rintro e w' ⟨rfl, ⟨nd, rfl⟩⟩))
        go_meet
        case rel => exact ⟨_, (!t228), (by first | rfl | (simp; done) | (simp [*]; done)), H', ⟨by first | omega | exact Nat.le_refl _⟩, ⟨by (with_reducible repeat (first | refine blk_drewN ?_ _ | refine blk_drew ?_ | refine blk_alloc ?_ _)); exact BK225.out⟩, ⟨by repeat (first | (with_reducible first | exact HB.out | apply below_alloc | apply pw_below_drewN | apply below_drew1 | refine below_set ?_ GE225.out) | exact HB.out)⟩⟩
      · replace c9 := Bool.eq_false_iff.mpr c9
        subst c9
        have H1 : (impl_ProbeTime.j0 k a1 a2 true a0_0 a0_1 a0_2 a0_3 a0_4) = some (r1, r2) := by rw [if_neg (show ¬ (false = true) by decide)] at H; exact H
        clear H
        have H := H1
        clear H1
        have H' := Aside0.mk H
        clear H
        have hcz13_0 : w5.cell? ⟨gb225, 0, none⟩ = some (.bool a0_0) := (blk_cell BK225.out 0).trans rfl
        have hcz13_1 : w5.cell? ⟨gb225, 1, none⟩ = some (.int .i64 a0_1) := (blk_cell BK225.out 1).trans rfl
        have hcz13_2 : w5.cell? ⟨gb225, 2, none⟩ = some (.int .i64 a0_2) := (blk_cell BK225.out 2).trans rfl
        have hcz13_3 : w5.cell? ⟨gb225, 3, none⟩ = some (.int .i64 a0_3) := (blk_cell BK225.out 3).trans rfl
        have hcz13_4 : w5.cell? ⟨gb225, 4, none⟩ = some (.int .i64 a0_4) := (blk_cell BK225.out 4).trans rfl
        have hfz13_0 := blk_frozen BK225.out 0
        have hfz13_1 := blk_frozen BK225.out 1
        have hfz13_2 := blk_frozen BK225.out 2
        have hfz13_3 := blk_frozen BK225.out 3
        have hfz13_4 := blk_frozen BK225.out 4
        go_wp2_with (first | ((with_reducible refine gate_callee (f := 53) rfl ?_); refine goesL_ (some 9) rfl rfl Try.func53 (by kernel_rfl) rfl #[.agg #[.bool a0_0, .int .i64 a0_1, .int .i64 a0_2, .int .i64 a0_3, .int .i64 a0_4]] rfl (by (try simp only [List.map_toArray, List.map_cons, List.map_nil]); first | done | rfl | (simp only [List.length_drop, List.length_take]; rfl)) ?_; (with_reducible refine (impl_goodRtt.calls a0_0 a0_1 a0_2 a0_3 a0_4 true _ A6.out).mono ?_); rintro e w14 ⟨rfl, hb⟩; refine ⟨_, rfl, ?_⟩; have n0_ := Aside0.mk (blk_below (g := gb225) (o := .cells #[.bool a0_0, .int .i64 a0_1, .int .i64 a0_2, .int .i64 a0_3, .int .i64 a0_4] 39 (0, 0)) (by (with_reducible repeat (first | refine blk_drewN ?_ _ | refine blk_drew ?_ | refine blk_alloc ?_ _)); exact BK225.out) hb); have n1_ := Aside0.mk (below_step (by repeat (first | (with_reducible first | exact HB.out | apply below_alloc | apply pw_below_drewN | apply below_drew1 | refine below_set ?_ GE225.out) | exact HB.out)) hb); clear BK225; clear HB; have BK225 := n0_; have HB := n1_; clear n0_ n1_; (try clear hb); (try clear hb2); (try clear hk); (try clear hi)) | (go_at_call 54; (with_reducible refine (impl_isTick.calls a1 false _ A8.out).mono ?_); rintro e w' ⟨rfl, ⟨nd, rfl⟩⟩))
        go_meet
        case rel => exact ⟨_, (true), (by first | rfl | (simp; done) | (simp [*]; done)), H', ⟨by first | omega | exact Nat.le_refl _⟩, ⟨by (with_reducible repeat (first | refine blk_drewN ?_ _ | refine blk_drew ?_ | refine blk_alloc ?_ _)); exact BK225.out⟩, ⟨by repeat (first | (with_reducible first | exact HB.out | apply below_alloc | apply pw_below_drewN | apply below_drew1 | refine below_set ?_ GE225.out) | exact HB.out)⟩⟩
    · replace c7 := Bool.eq_false_iff.mpr c7
      subst c7
      have H1 : (impl_ProbeTime.j0 k a1 a2 true a0_0 a0_1 a0_2 a0_3 a0_4) = some (r1, r2) := by rw [if_neg (show ¬ (false = true) by decide)] at H; exact H
      clear H
      have H := H1
      clear H1
      have H' := Aside0.mk H
      clear H
      have hcz15_0 : w5.cell? ⟨gb225, 0, none⟩ = some (.bool a0_0) := (blk_cell BK225.out 0).trans rfl
      have hcz15_1 : w5.cell? ⟨gb225, 1, none⟩ = some (.int .i64 a0_1) := (blk_cell BK225.out 1).trans rfl
      have hcz15_2 : w5.cell? ⟨gb225, 2, none⟩ = some (.int .i64 a0_2) := (blk_cell BK225.out 2).trans rfl
      have hcz15_3 : w5.cell? ⟨gb225, 3, none⟩ = some (.int .i64 a0_3) := (blk_cell BK225.out 3).trans rfl
      have hcz15_4 : w5.cell? ⟨gb225, 4, none⟩ = some (.int .i64 a0_4) := (blk_cell BK225.out 4).trans rfl
      have hfz15_0 := blk_frozen BK225.out 0
      have hfz15_1 := blk_frozen BK225.out 1
      have hfz15_2 := blk_frozen BK225.out 2
      have hfz15_3 := blk_frozen BK225.out 3
      have hfz15_4 := blk_frozen BK225.out 4
      go_wp2_with (first | ((with_reducible refine gate_callee (f := 53) rfl ?_); refine goesL_ (some 9) rfl rfl Try.func53 (by kernel_rfl) rfl #[.agg #[.bool a0_0, .int .i64 a0_1, .int .i64 a0_2, .int .i64 a0_3, .int .i64 a0_4]] rfl (by (try simp only [List.map_toArray, List.map_cons, List.map_nil]); first | done | rfl | (simp only [List.length_drop, List.length_take]; rfl)) ?_; (with_reducible refine (impl_goodRtt.calls a0_0 a0_1 a0_2 a0_3 a0_4 false _ A6.out).mono ?_); rintro e w16 ⟨rfl, hb⟩; refine ⟨_, rfl, ?_⟩; have n0_ := Aside0.mk (blk_below (g := gb225) (o := .cells #[.bool a0_0, .int .i64 a0_1, .int .i64 a0_2, .int .i64 a0_3, .int .i64 a0_4] 39 (0, 0)) (by (with_reducible repeat (first | refine blk_drewN ?_ _ | refine blk_drew ?_ | refine blk_alloc ?_ _)); exact BK225.out) hb); have n1_ := Aside0.mk (below_step (by repeat (first | (with_reducible first | exact HB.out | apply below_alloc | apply pw_below_drewN | apply below_drew1 | refine below_set ?_ GE225.out) | exact HB.out)) hb); clear BK225; clear HB; have BK225 := n0_; have HB := n1_; clear n0_ n1_; (try clear hb); (try clear hb2); (try clear hk); (try clear hi)))
      go_meet
      case rel => exact ⟨_, (true), (by first | rfl | (simp; done) | (simp [*]; done)), H', ⟨by first | omega | exact Nat.le_refl _⟩, ⟨by (with_reducible repeat (first | refine blk_drewN ?_ _ | refine blk_drew ?_ | refine blk_alloc ?_ _)); exact BK225.out⟩, ⟨by repeat (first | (with_reducible first | exact HB.out | apply below_alloc | apply pw_below_drewN | apply below_drew1 | refine below_set ?_ GE225.out) | exact HB.out)⟩⟩
  case rest =>
    clear HC4
    try clear c2
    try clear p2
    try clear c5
    try clear c7
    try clear c9
    try clear hcz11_0
    try clear hcz11_1
    try clear hcz11_2
    try clear hcz11_3
    try clear hcz11_4
    try clear hcz13_0
    try clear hcz13_1
    try clear hcz13_2
    try clear hcz13_3
    try clear hcz13_4
    try clear hcz15_0
    try clear hcz15_1
    try clear hcz15_2
    try clear hcz15_3
    try clear hcz15_4
    try clear hfz11_0
    try clear hfz11_1
    try clear hfz11_2
    try clear hfz11_3
    try clear hfz11_4
    try clear hfz13_0
    try clear hfz13_1
    try clear hfz13_2
    try clear hfz13_3
    try clear hfz13_4
    try clear hfz15_0
    try clear hfz15_1
    try clear hfz15_2
    try clear hfz15_3
    try clear hfz15_4
    obtain ⟨kq, x20_3, rfl, HA, HJ3, BK225, HB⟩ := hcut
    cases kq with
    | zero => exact absurd HA.out (by simp [impl_ProbeTime.j0])
    | succ kj3 =>
      have H := HA.out
      clear HA
      simp only [impl_ProbeTime.j0] at H
      by_cases c17 : x20_3 = true
      · subst c17
        have H1 : (some (0, false)) = some (r1, r2) := by rw [if_pos rfl] at H; exact H
        clear H
        have H := H1
        clear H1
        simp only [Option.some.injEq, Prod.mk.injEq] at H
        obtain ⟨rfl, rfl⟩ := H
        go_wp2
        go_ret2
        exact ⟨by first | rfl | (simp [errW_none, errW_some] <;> rfl) | (simp [*, errW_none, errW_some] <;> rfl), by repeat (first | (with_reducible first | exact HB.out | apply below_alloc | apply pw_below_drewN | apply below_drew1 | refine below_set ?_ GE225.out) | exact HB.out)⟩
      · replace c17 := Bool.eq_false_iff.mpr c17
        subst c17
        have H1 : (if a0_0 = true then (if 0 ≤ a2 then (some (shl .i64 (wrap64 ((wrap64 (a0_3 + (mx (wrap64 (4 * a0_4)) 1))) + a1)) a2, true)) else (none)) else (if 0 ≤ a2 then (some (shl .i64 1000 a2, true)) else (none))) = some (r1, r2) := by rw [if_neg (show ¬ (false = true) by decide)] at H; exact H
        clear H
        have H := H1
        clear H1
        by_cases c18 : a0_0 = true
        · subst c18
          have H1 : (if 0 ≤ a2 then (some (shl .i64 (wrap64 ((wrap64 (a0_3 + (mx (wrap64 (4 * a0_4)) 1))) + a1)) a2, true)) else (none)) = some (r1, r2) := by rw [if_pos rfl] at H; exact H
          clear H
          have H := H1
          clear H1
          obtain ⟨ji19, hji19⟩ : ∃ j_ : Int, (mx (wrap64 (4 * a0_4)) 1) = j_ := ⟨_, rfl⟩
          replace H : (if 0 ≤ a2 then (some (shl .i64 (wrap64 ((wrap64 (a0_3 + (ji19))) + a1)) a2, true)) else (none)) = some (r1, r2) := by first | (rw [hji19] at H; exact H) | (simp only [hji19] at H ⊢; exact H)
          have hji19_ : (if (wrap64 (4 * a0_4)) < 1 then 1 else (wrap64 (4 * a0_4))) = ji19 := hji19
          by_cases c20 : 0 ≤ a2
          · rw [if_pos c20] at H
            have c20b0 := eq_true c20
            have c20b1 : decide (0 ≤ a2) = true := decide_eq_true c20
            clear c20
            obtain ⟨ji21, hji21⟩ : ∃ j_ : Int, (shl .i64 (wrap64 ((wrap64 (a0_3 + (ji19))) + a1)) a2) = j_ := ⟨_, rfl⟩
            replace H : (some (ji21, true)) = some (r1, r2) := by first | (rw [hji21] at H; exact H) | (simp only [hji21] at H ⊢; exact H)
            have hji21_ : (IntKind.i64.wrap ((wrap64 ((wrap64 (a0_3 + (ji19))) + a1)) * 2 ^ min a2.toNat 64)) = ji21 := hji21
            have hji21z : a2 ≤ 64 → (IntKind.i64.wrap ((wrap64 ((wrap64 (a0_3 + (ji19))) + a1)) * 2 ^ a2.toNat)) = ji21 := shl_small hji21
            have hji21y : (wrap64 ((wrap64 ((wrap64 (a0_3 + (ji19))) + a1)) * 2 ^ min a2.toNat 64)) = ji21 := (i64_w _).symm.trans hji21_
            have hji21x : a2 ≤ 64 → (wrap64 ((wrap64 ((wrap64 (a0_3 + (ji19))) + a1)) * 2 ^ a2.toNat)) = ji21 := fun h_ => (i64_w _).symm.trans (hji21z h_)
            simp only [Option.some.injEq, Prod.mk.injEq] at H
            obtain ⟨rfl, rfl⟩ := H
            have hcz22_0 : wc.cell? ⟨gb225, 0, none⟩ = some (.bool true) := (blk_cell BK225.out 0).trans rfl
            have hcz22_1 : wc.cell? ⟨gb225, 1, none⟩ = some (.int .i64 a0_1) := (blk_cell BK225.out 1).trans rfl
            have hcz22_2 : wc.cell? ⟨gb225, 2, none⟩ = some (.int .i64 a0_2) := (blk_cell BK225.out 2).trans rfl
            have hcz22_3 : wc.cell? ⟨gb225, 3, none⟩ = some (.int .i64 a0_3) := (blk_cell BK225.out 3).trans rfl
            have hcz22_4 : wc.cell? ⟨gb225, 4, none⟩ = some (.int .i64 a0_4) := (blk_cell BK225.out 4).trans rfl
            have hfz22_0 := blk_frozen BK225.out 0
            have hfz22_1 := blk_frozen BK225.out 1
            have hfz22_2 := blk_frozen BK225.out 2
            have hfz22_3 := blk_frozen BK225.out 3
            have hfz22_4 := blk_frozen BK225.out 4
            go_wp2
            go_ret2
            exact ⟨by first | rfl | (simp [errW_none, errW_some] <;> rfl) | (simp only [← hji19, ← hji21]; first | rfl | (simp [errW_none, errW_some] <;> rfl)) | (simp [*, errW_none, errW_some] <;> rfl), by repeat (first | (with_reducible first | exact HB.out | apply below_alloc | apply pw_below_drewN | apply below_drew1 | refine below_set ?_ GE225.out) | exact HB.out)⟩
          · rw [if_neg c20] at H
            exact absurd H (by simp)
        · replace c18 := Bool.eq_false_iff.mpr c18
          subst c18
          have H1 : (if 0 ≤ a2 then (some (shl .i64 1000 a2, true)) else (none)) = some (r1, r2) := by rw [if_neg (show ¬ (false = true) by decide)] at H; exact H
          clear H
          have H := H1
          clear H1
          by_cases c23 : 0 ≤ a2
          · rw [if_pos c23] at H
            have c23b0 := eq_true c23
            have c23b1 : decide (0 ≤ a2) = true := decide_eq_true c23
            clear c23
            obtain ⟨ji24, hji24⟩ : ∃ j_ : Int, (shl .i64 1000 a2) = j_ := ⟨_, rfl⟩
            replace H : (some (ji24, true)) = some (r1, r2) := by first | (rw [hji24] at H; exact H) | (simp only [hji24] at H ⊢; exact H)
            have hji24_ : (IntKind.i64.wrap (1000 * 2 ^ min a2.toNat 64)) = ji24 := hji24
            have hji24z : a2 ≤ 64 → (IntKind.i64.wrap (1000 * 2 ^ a2.toNat)) = ji24 := shl_small hji24
            have hji24y : (wrap64 (1000 * 2 ^ min a2.toNat 64)) = ji24 := (i64_w _).symm.trans hji24_
            have hji24x : a2 ≤ 64 → (wrap64 (1000 * 2 ^ a2.toNat)) = ji24 := fun h_ => (i64_w _).symm.trans (hji24z h_)
            simp only [Option.some.injEq, Prod.mk.injEq] at H
            obtain ⟨rfl, rfl⟩ := H
            have hcz25_0 : wc.cell? ⟨gb225, 0, none⟩ = some (.bool false) := (blk_cell BK225.out 0).trans rfl
            have hcz25_1 : wc.cell? ⟨gb225, 1, none⟩ = some (.int .i64 a0_1) := (blk_cell BK225.out 1).trans rfl
            have hcz25_2 : wc.cell? ⟨gb225, 2, none⟩ = some (.int .i64 a0_2) := (blk_cell BK225.out 2).trans rfl
            have hcz25_3 : wc.cell? ⟨gb225, 3, none⟩ = some (.int .i64 a0_3) := (blk_cell BK225.out 3).trans rfl
            have hcz25_4 : wc.cell? ⟨gb225, 4, none⟩ = some (.int .i64 a0_4) := (blk_cell BK225.out 4).trans rfl
            have hfz25_0 := blk_frozen BK225.out 0
            have hfz25_1 := blk_frozen BK225.out 1
            have hfz25_2 := blk_frozen BK225.out 2
            have hfz25_3 := blk_frozen BK225.out 3
            have hfz25_4 := blk_frozen BK225.out 4
            go_wp2
            go_ret2
            exact ⟨by first | rfl | (simp [errW_none, errW_some] <;> rfl) | (simp only [← hji24]; first | rfl | (simp [errW_none, errW_some] <;> rfl)) | (simp [*, errW_none, errW_some] <;> rfl), by repeat (first | (with_reducible first | exact HB.out | apply below_alloc | apply pw_below_drewN | apply below_drew1 | refine below_set ?_ GE225.out) | exact HB.out)⟩
          · rw [if_neg c23] at H
            exact absurd H (by simp)

/-! ### spec_ProbeTime: function 30 -/
def spec_ProbeTime.j0 : Nat → Int → Int → Bool → Bool → Int → Int → Int → Int → Option (Int × Bool)
  | 0, _, _, _, _, _, _, _, _ => none
  | k + 1, x1, x2, x22, x230000, x230001, x230002, x230003, x230004 => if x22 = true then (some (0, false)) else (if x230000 = true then (if (wrap64 (4 * x230004)) < 1 then (if 0 ≤ (IntKind.u64.wrap (x2)) then (some (shl .i64 (wrap64 ((wrap64 (x230003 + 1)) + x1)) (IntKind.u64.wrap (x2)), true)) else (none)) else (if 0 ≤ (IntKind.u64.wrap (x2)) then (some (shl .i64 (wrap64 ((wrap64 (x230003 + (wrap64 (4 * x230004)))) + x1)) (IntKind.u64.wrap (x2)), true)) else (none))) else (if 0 ≤ (IntKind.u64.wrap (x2)) then (some (shl .i64 1000 (IntKind.u64.wrap (x2)), true)) else (none)))
def spec_ProbeTime.f (k : Nat) (a0_0 : Bool) (a0_1 : Int) (a0_2 : Int) (a0_3 : Int) (a0_4 : Int) (a1 : Int) (a2 : Int) : Option (Int × Bool) := (spec_l12Rtt.f a0_0 a0_1 a0_2 a0_3 a0_4).bind fun t230 => (if t230 = true then ((spec_l12Tick.f a1).bind fun t231 => (if t231 = true then ((spec_l1In.f a2 0 10).bind fun t232 => (spec_ProbeTime.j0 k a1 a2 (!t232) a0_0 a0_1 a0_2 a0_3 a0_4)) else (spec_ProbeTime.j0 k a1 a2 true a0_0 a0_1 a0_2 a0_3 a0_4))) else (spec_ProbeTime.j0 k a1 a2 true a0_0 a0_1 a0_2 a0_3 a0_4))
theorem spec_ProbeTime.mono_l : ∀ k, (∀ y0 y1 y2 y3 y4 y5 y6 y7, LeO (spec_ProbeTime.j0 k y0 y1 y2 y3 y4 y5 y6 y7) (spec_ProbeTime.j0 (k + 1) y0 y1 y2 y3 y4 y5 y6 y7))
  | 0 => fun _ _ _ _ _ _ _ _ r h => by simp [spec_ProbeTime.j0] at h
  | k + 1 => by
    have ih0 := spec_ProbeTime.mono_l k
    · intro y0 y1 y2 y3 y4 y5 y6 y7
      unfold spec_ProbeTime.j0
      repeat' first
      | (with_reducible exact ih0 _ _ _ _ _ _ _ _)
      | (with_reducible exact LeO.refl _)
      | (with_reducible exact LeO.none _)
      | (with_reducible refine LeO.ite ?_ ?_)
      | (with_reducible refine LeO.bind ?_ (fun _ => ?_))
      | exact ih0 _ _ _ _ _ _ _ _
      | exact LeO.none _
      | refine LeO.ite ?_ ?_
      | refine LeO.bind ?_ (fun _ => ?_)
theorem spec_ProbeTime.mono : ∀ a0 a1 a2 a3 a4 a5 a6 k, LeO (spec_ProbeTime.f k a0 a1 a2 a3 a4 a5 a6) (spec_ProbeTime.f (k + 1) a0 a1 a2 a3 a4 a5 a6) := by
  intro a0 a1 a2 a3 a4 a5 a6 k
  have ih0 := spec_ProbeTime.mono_l k
  unfold spec_ProbeTime.f
  repeat' first
      | (with_reducible exact ih0 _ _ _ _ _ _ _ _)
      | (with_reducible exact LeO.refl _)
      | (with_reducible exact LeO.none _)
      | (with_reducible refine LeO.ite ?_ ?_)
      | (with_reducible refine LeO.bind ?_ (fun _ => ?_))
      | exact ih0 _ _ _ _ _ _ _ _
      | exact LeO.none _
      | refine LeO.ite ?_ ?_
      | refine LeO.bind ?_ (fun _ => ?_)
set_option maxHeartbeats 8000000 in
set_option maxRecDepth 100000 in
theorem spec_ProbeTime.calls (k : Nat) (a0_0 : Bool) (a0_1 : Int) (a0_2 : Int) (a0_3 : Int) (a0_4 : Int) (a1 : Int) (a2 : Int) (r1 : Int) (r2 : Bool) (w : World) (h : spec_ProbeTime.f k a0_0 a0_1 a0_2 a0_3 a0_4 a1 a2 = some (r1, r2)) :
    Calls Try.prog 30 #[.agg #[.bool a0_0, .int .i64 a0_1, .int .i64 a0_2, .int .i64 a0_3, .int .i64 a0_4], .int .i64 a1, .int .i64 a2] w fun e w' => e = .returned (.tuple #[.int .i64 r1, .bool r2]) ∧ Below w.heap.size w w' := by
  have hu39 := Try.underlying39
  have HB := Aside0.mk (Below.refl w.heap.size w)
  have H : ((spec_l12Rtt.f a0_0 a0_1 a0_2 a0_3 a0_4).bind fun t230 => (if t230 = true then ((spec_l12Tick.f a1).bind fun t231 => (if t231 = true then ((spec_l1In.f a2 0 10).bind fun t232 => (spec_ProbeTime.j0 k a1 a2 (!t232) a0_0 a0_1 a0_2 a0_3 a0_4)) else (spec_ProbeTime.j0 k a1 a2 true a0_0 a0_1 a0_2 a0_3 a0_4))) else (spec_ProbeTime.j0 k a1 a2 true a0_0 a0_1 a0_2 a0_3 a0_4))) = some (r1, r2) := h
  clear h
  have HC4 := Aside0.mk H
  clear H
  go_enter Try.func30, Try.ntmps30
  go_upto_region 1 with (first | ((with_reducible refine gate_dst (N := 3) rfl ?_); refine box_event ?hg (N := 3) ?hd (cs := #[.bool a0_0, .int .i64 a0_1, .int .i64 a0_2, .int .i64 a0_3, .int .i64 a0_4]) (t := 39) ?hr ?_; (case hd => rfl); (case hg => rfl); (case hr => first | (go_simp; done) | (go_simp; rfl)); intro gb229 hg w5 hbox hb; have n0_ := Aside0.mk (below_step (by repeat (first | (with_reducible first | exact HB.out | apply below_alloc | apply pw_below_drewN | apply below_drew1) | exact HB.out)) hb); have n1_ := Aside0.mk (hbox); have n2_ := Aside0.mk ((by rw [hg]; exact (below_size (by repeat (first | (with_reducible first | exact HB.out | apply below_alloc | apply pw_below_drewN | apply below_drew1) | exact HB.out))) : w.heap.size ≤ gb229)); have n3_ := Aside0.mk ((by rw [hg]; exact (below_size (by repeat (first | (with_reducible first | exact HB.out | apply below_alloc | apply pw_below_drewN | apply below_drew1) | exact HB.out))) : w.heap.size ≤ gb229)); clear HB; have HB := n0_; have BK229 := n1_; have GW229 := n2_; have GE229 := n3_; clear n0_ n1_ n2_ n3_; clear hb hbox hg))
  (try simp only [Act.put, List.setIfInBounds_toArray, List.set_cons_zero, List.set_cons_succ])
  go_cut [22] (fun v22 wc => ∃ (kq : Nat) (x22_3 : Bool), v22 = .bool x22_3 ∧ Aside0 (spec_ProbeTime.j0 kq a1 a2 x22_3 a0_0 a0_1 a0_2 a0_3 a0_4 = some (r1, r2)) ∧ Aside0 (kq ≤ k) ∧ Aside0 (wc.heap[gb229]? = some (.cells #[.bool a0_0, .int .i64 a0_1, .int .i64 a0_2, .int .i64 a0_3, .int .i64 a0_4] 39 (0, 0))) ∧ Aside0 (Below w.heap.size w wc))
  case first =>
    have H := HC4.out
    clear HC4
    replace H := Option.bind_eq_some_iff.mp H
    obtain ⟨t230, A60, H⟩ := H
    replace H : (if t230 = true then ((spec_l12Tick.f a1).bind fun t231 => (if t231 = true then ((spec_l1In.f a2 0 10).bind fun t232 => (spec_ProbeTime.j0 k a1 a2 (!t232) a0_0 a0_1 a0_2 a0_3 a0_4)) else (spec_ProbeTime.j0 k a1 a2 true a0_0 a0_1 a0_2 a0_3 a0_4))) else (spec_ProbeTime.j0 k a1 a2 true a0_0 a0_1 a0_2 a0_3 a0_4)) = some (r1, r2) := H
    have A6 := Aside0.mk A60
    clear A60
    by_cases c7 : t230 = true
    · subst c7
      have H1 : ((spec_l12Tick.f a1).bind fun t231 => (if t231 = true then ((spec_l1In.f a2 0 10).bind fun t232 => (spec_ProbeTime.j0 k a1 a2 (!t232) a0_0 a0_1 a0_2 a0_3 a0_4)) else (spec_ProbeTime.j0 k a1 a2 true a0_0 a0_1 a0_2 a0_3 a0_4))) = some (r1, r2) := by rw [if_pos rfl] at H; exact H
      clear H
      have H := H1
      clear H1
      replace H := Option.bind_eq_some_iff.mp H
      obtain ⟨t231, A80, H⟩ := H
      replace H : (if t231 = true then ((spec_l1In.f a2 0 10).bind fun t232 => (spec_ProbeTime.j0 k a1 a2 (!t232) a0_0 a0_1 a0_2 a0_3 a0_4)) else (spec_ProbeTime.j0 k a1 a2 true a0_0 a0_1 a0_2 a0_3 a0_4)) = some (r1, r2) := H
      have A8 := Aside0.mk A80
      clear A80
      by_cases c9 : t231 = true
      · subst c9
        have H1 : ((spec_l1In.f a2 0 10).bind fun t232 => (spec_ProbeTime.j0 k a1 a2 (!t232) a0_0 a0_1 a0_2 a0_3 a0_4)) = some (r1, r2) := by rw [if_pos rfl] at H; exact H
        clear H
        have H := H1
        clear H1
        replace H := Option.bind_eq_some_iff.mp H
        obtain ⟨t232, A100, H⟩ := H
        replace H : (spec_ProbeTime.j0 k a1 a2 (!t232) a0_0 a0_1 a0_2 a0_3 a0_4) = some (r1, r2) := H
        have A10 := Aside0.mk A100
        clear A100
        have H' := Aside0.mk H
        clear H
        have hcz11_0 : w5.cell? ⟨gb229, 0, none⟩ = some (.bool a0_0) := (blk_cell BK229.out 0).trans rfl
        have hcz11_1 : w5.cell? ⟨gb229, 1, none⟩ = some (.int .i64 a0_1) := (blk_cell BK229.out 1).trans rfl
        have hcz11_2 : w5.cell? ⟨gb229, 2, none⟩ = some (.int .i64 a0_2) := (blk_cell BK229.out 2).trans rfl
        have hcz11_3 : w5.cell? ⟨gb229, 3, none⟩ = some (.int .i64 a0_3) := (blk_cell BK229.out 3).trans rfl
        have hcz11_4 : w5.cell? ⟨gb229, 4, none⟩ = some (.int .i64 a0_4) := (blk_cell BK229.out 4).trans rfl
        have hfz11_0 := blk_frozen BK229.out 0
        have hfz11_1 := blk_frozen BK229.out 1
        have hfz11_2 := blk_frozen BK229.out 2
        have hfz11_3 := blk_frozen BK229.out 3
        have hfz11_4 := blk_frozen BK229.out 4
        go_wp2_with (first | ((with_reducible refine gate_callee (f := 56) rfl ?_); refine goesL_ (some 11) rfl rfl Try.func56 (by kernel_rfl) rfl #[.agg #[.bool a0_0, .int .i64 a0_1, .int .i64 a0_2, .int .i64 a0_3, .int .i64 a0_4]] rfl (by (try simp only [List.map_toArray, List.map_cons, List.map_nil]); first | done | rfl | (simp only [List.length_drop, List.length_take]; rfl)) ?_; (with_reducible refine (spec_l12Rtt.calls a0_0 a0_1 a0_2 a0_3 a0_4 true _ A6.out).mono ?_); rintro e w12 ⟨rfl, hb⟩; refine ⟨_, rfl, ?_⟩; have n0_ := Aside0.mk (blk_below (g := gb229) (o := .cells #[.bool a0_0, .int .i64 a0_1, .int .i64 a0_2, .int .i64 a0_3, .int .i64 a0_4] 39 (0, 0)) (by (with_reducible repeat (first | refine blk_drewN ?_ _ | refine blk_drew ?_ | refine blk_alloc ?_ _)); exact BK229.out) hb); have n1_ := Aside0.mk (below_step (by repeat (first | (with_reducible first | exact HB.out | apply below_alloc | apply pw_below_drewN | apply below_drew1 | refine below_set ?_ GE229.out) | exact HB.out)) hb); clear BK229; clear HB; have BK229 := n0_; have HB := n1_; clear n0_ n1_; (try clear hb); (try clear hb2); (try clear hk); (try clear hi)) | (go_at_call 57; (with_reducible refine (spec_l12Tick.calls a1 true _ A8.out).mono ?_); rintro e w' ⟨rfl, ⟨nd, rfl⟩⟩) | (go_at_call 60; (with_reducible refine (spec_l1In.calls a2 0 10 t232 _ A10.out).mono ?_); rintro e w' ⟨rfl, ⟨nd, rfl⟩⟩))
        go_meet
        case rel => exact ⟨_, (!t232), (by first | rfl | (simp; done) | (simp [*]; done)), H', ⟨by first | omega | exact Nat.le_refl _⟩, ⟨by (with_reducible repeat (first | refine blk_drewN ?_ _ | refine blk_drew ?_ | refine blk_alloc ?_ _)); exact BK229.out⟩, ⟨by repeat (first | (with_reducible first | exact HB.out | apply below_alloc | apply pw_below_drewN | apply below_drew1 | refine below_set ?_ GE229.out) | exact HB.out)⟩⟩
      · replace c9 := Bool.eq_false_iff.mpr c9
        subst c9
        have H1 : (spec_ProbeTime.j0 k a1 a2 true a0_0 a0_1 a0_2 a0_3 a0_4) = some (r1, r2) := by rw [if_neg (show ¬ (false = true) by decide)] at H; exact H
        clear H
        have H := H1
        clear H1
        have H' := Aside0.mk H
        clear H
        have hcz13_0 : w5.cell? ⟨gb229, 0, none⟩ = some (.bool a0_0) := (blk_cell BK229.out 0).trans rfl
        have hcz13_1 : w5.cell? ⟨gb229, 1, none⟩ = some (.int .i64 a0_1) := (blk_cell BK229.out 1).trans rfl
        have hcz13_2 : w5.cell? ⟨gb229, 2, none⟩ = some (.int .i64 a0_2) := (blk_cell BK229.out 2).trans rfl
        have hcz13_3 : w5.cell? ⟨gb229, 3, none⟩ = some (.int .i64 a0_3) := (blk_cell BK229.out 3).trans rfl
        have hcz13_4 : w5.cell? ⟨gb229, 4, none⟩ = some (.int .i64 a0_4) := (blk_cell BK229.out 4).trans rfl
        have hfz13_0 := blk_frozen BK229.out 0
        have hfz13_1 := blk_frozen BK229.out 1
        have hfz13_2 := blk_frozen BK229.out 2
        have hfz13_3 := blk_frozen BK229.out 3
        have hfz13_4 := blk_frozen BK229.out 4
        go_wp2_with (first | ((with_reducible refine gate_callee (f := 56) rfl ?_); refine goesL_ (some 11) rfl rfl Try.func56 (by kernel_rfl) rfl #[.agg #[.bool a0_0, .int .i64 a0_1, .int .i64 a0_2, .int .i64 a0_3, .int .i64 a0_4]] rfl (by (try simp only [List.map_toArray, List.map_cons, List.map_nil]); first | done | rfl | (simp only [List.length_drop, List.length_take]; rfl)) ?_; (with_reducible refine (spec_l12Rtt.calls a0_0 a0_1 a0_2 a0_3 a0_4 true _ A6.out).mono ?_); rintro e w14 ⟨rfl, hb⟩; refine ⟨_, rfl, ?_⟩; have n0_ := Aside0.mk (blk_below (g := gb229) (o := .cells #[.bool a0_0, .int .i64 a0_1, .int .i64 a0_2, .int .i64 a0_3, .int .i64 a0_4] 39 (0, 0)) (by (with_reducible repeat (first | refine blk_drewN ?_ _ | refine blk_drew ?_ | refine blk_alloc ?_ _)); exact BK229.out) hb); have n1_ := Aside0.mk (below_step (by repeat (first | (with_reducible first | exact HB.out | apply below_alloc | apply pw_below_drewN | apply below_drew1 | refine below_set ?_ GE229.out) | exact HB.out)) hb); clear BK229; clear HB; have BK229 := n0_; have HB := n1_; clear n0_ n1_; (try clear hb); (try clear hb2); (try clear hk); (try clear hi)) | (go_at_call 57; (with_reducible refine (spec_l12Tick.calls a1 false _ A8.out).mono ?_); rintro e w' ⟨rfl, ⟨nd, rfl⟩⟩))
        go_meet
        case rel => exact ⟨_, (true), (by first | rfl | (simp; done) | (simp [*]; done)), H', ⟨by first | omega | exact Nat.le_refl _⟩, ⟨by (with_reducible repeat (first | refine blk_drewN ?_ _ | refine blk_drew ?_ | refine blk_alloc ?_ _)); exact BK229.out⟩, ⟨by repeat (first | (with_reducible first | exact HB.out | apply below_alloc | apply pw_below_drewN | apply below_drew1 | refine below_set ?_ GE229.out) | exact HB.out)⟩⟩
    · replace c7 := Bool.eq_false_iff.mpr c7
      subst c7
      have H1 : (spec_ProbeTime.j0 k a1 a2 true a0_0 a0_1 a0_2 a0_3 a0_4) = some (r1, r2) := by rw [if_neg (show ¬ (false = true) by decide)] at H; exact H
      clear H
      have H := H1
      clear H1
      have H' := Aside0.mk H
      clear H
      have hcz15_0 : w5.cell? ⟨gb229, 0, none⟩ = some (.bool a0_0) := (blk_cell BK229.out 0).trans rfl
      have hcz15_1 : w5.cell? ⟨gb229, 1, none⟩ = some (.int .i64 a0_1) := (blk_cell BK229.out 1).trans rfl
      have hcz15_2 : w5.cell? ⟨gb229, 2, none⟩ = some (.int .i64 a0_2) := (blk_cell BK229.out 2).trans rfl
      have hcz15_3 : w5.cell? ⟨gb229, 3, none⟩ = some (.int .i64 a0_3) := (blk_cell BK229.out 3).trans rfl
      have hcz15_4 : w5.cell? ⟨gb229, 4, none⟩ = some (.int .i64 a0_4) := (blk_cell BK229.out 4).trans rfl
      have hfz15_0 := blk_frozen BK229.out 0
      have hfz15_1 := blk_frozen BK229.out 1
      have hfz15_2 := blk_frozen BK229.out 2
      have hfz15_3 := blk_frozen BK229.out 3
      have hfz15_4 := blk_frozen BK229.out 4
      go_wp2_with (first | ((with_reducible refine gate_callee (f := 56) rfl ?_); refine goesL_ (some 11) rfl rfl Try.func56 (by kernel_rfl) rfl #[.agg #[.bool a0_0, .int .i64 a0_1, .int .i64 a0_2, .int .i64 a0_3, .int .i64 a0_4]] rfl (by (try simp only [List.map_toArray, List.map_cons, List.map_nil]); first | done | rfl | (simp only [List.length_drop, List.length_take]; rfl)) ?_; (with_reducible refine (spec_l12Rtt.calls a0_0 a0_1 a0_2 a0_3 a0_4 false _ A6.out).mono ?_); rintro e w16 ⟨rfl, hb⟩; refine ⟨_, rfl, ?_⟩; have n0_ := Aside0.mk (blk_below (g := gb229) (o := .cells #[.bool a0_0, .int .i64 a0_1, .int .i64 a0_2, .int .i64 a0_3, .int .i64 a0_4] 39 (0, 0)) (by (with_reducible repeat (first | refine blk_drewN ?_ _ | refine blk_drew ?_ | refine blk_alloc ?_ _)); exact BK229.out) hb); have n1_ := Aside0.mk (below_step (by repeat (first | (with_reducible first | exact HB.out | apply below_alloc | apply pw_below_drewN | apply below_drew1 | refine below_set ?_ GE229.out) | exact HB.out)) hb); clear BK229; clear HB; have BK229 := n0_; have HB := n1_; clear n0_ n1_; (try clear hb); (try clear hb2); (try clear hk); (try clear hi)))
      go_meet
      case rel => exact ⟨_, (true), (by first | rfl | (simp; done) | (simp [*]; done)), H', ⟨by first | omega | exact Nat.le_refl _⟩, ⟨by (with_reducible repeat (first | refine blk_drewN ?_ _ | refine blk_drew ?_ | refine blk_alloc ?_ _)); exact BK229.out⟩, ⟨by repeat (first | (with_reducible first | exact HB.out | apply below_alloc | apply pw_below_drewN | apply below_drew1 | refine below_set ?_ GE229.out) | exact HB.out)⟩⟩
  case rest =>
    clear HC4
    try clear p2
    try clear c3
    try clear c5
    try clear c7
    try clear c9
    try clear hcz11_0
    try clear hcz11_1
    try clear hcz11_2
    try clear hcz11_3
    try clear hcz11_4
    try clear hcz13_0
    try clear hcz13_1
    try clear hcz13_2
    try clear hcz13_3
    try clear hcz13_4
    try clear hcz15_0
    try clear hcz15_1
    try clear hcz15_2
    try clear hcz15_3
    try clear hcz15_4
    try clear hfz11_0
    try clear hfz11_1
    try clear hfz11_2
    try clear hfz11_3
    try clear hfz11_4
    try clear hfz13_0
    try clear hfz13_1
    try clear hfz13_2
    try clear hfz13_3
    try clear hfz13_4
    try clear hfz15_0
    try clear hfz15_1
    try clear hfz15_2
    try clear hfz15_3
    try clear hfz15_4
    obtain ⟨kq, x22_3, rfl, HA, HJ3, BK229, HB⟩ := hcut
    cases kq with
    | zero => exact absurd HA.out (by simp [spec_ProbeTime.j0])
    | succ kj3 =>
      have H := HA.out
      clear HA
      simp only [spec_ProbeTime.j0] at H
      by_cases c17 : x22_3 = true
      · subst c17
        have H1 : (some (0, false)) = some (r1, r2) := by rw [if_pos rfl] at H; exact H
        clear H
        have H := H1
        clear H1
        simp only [Option.some.injEq, Prod.mk.injEq] at H
        obtain ⟨rfl, rfl⟩ := H
        go_wp2
        go_ret2
        exact ⟨by first | rfl | (simp [errW_none, errW_some] <;> rfl) | (simp [*, errW_none, errW_some] <;> rfl), by repeat (first | (with_reducible first | exact HB.out | apply below_alloc | apply pw_below_drewN | apply below_drew1 | refine below_set ?_ GE229.out) | exact HB.out)⟩
      · replace c17 := Bool.eq_false_iff.mpr c17
        subst c17
        have H1 : (if a0_0 = true then (if (wrap64 (4 * a0_4)) < 1 then (if 0 ≤ (IntKind.u64.wrap (a2)) then (some (shl .i64 (wrap64 ((wrap64 (a0_3 + 1)) + a1)) (IntKind.u64.wrap (a2)), true)) else (none)) else (if 0 ≤ (IntKind.u64.wrap (a2)) then (some (shl .i64 (wrap64 ((wrap64 (a0_3 + (wrap64 (4 * a0_4)))) + a1)) (IntKind.u64.wrap (a2)), true)) else (none))) else (if 0 ≤ (IntKind.u64.wrap (a2)) then (some (shl .i64 1000 (IntKind.u64.wrap (a2)), true)) else (none))) = some (r1, r2) := by rw [if_neg (show ¬ (false = true) by decide)] at H; exact H
        clear H
        have H := H1
        clear H1
        by_cases c18 : a0_0 = true
        · subst c18
          have H1 : (if (wrap64 (4 * a0_4)) < 1 then (if 0 ≤ (IntKind.u64.wrap (a2)) then (some (shl .i64 (wrap64 ((wrap64 (a0_3 + 1)) + a1)) (IntKind.u64.wrap (a2)), true)) else (none)) else (if 0 ≤ (IntKind.u64.wrap (a2)) then (some (shl .i64 (wrap64 ((wrap64 (a0_3 + (wrap64 (4 * a0_4)))) + a1)) (IntKind.u64.wrap (a2)), true)) else (none))) = some (r1, r2) := by rw [if_pos rfl] at H; exact H
          clear H
          have H := H1
          clear H1
          by_cases c19 : (wrap64 (4 * a0_4)) < 1
          · rw [if_pos c19] at H
            have c19b0 : decide ((wrap64 (4 * a0_4)) < 1) = true := decide_eq_true c19
            clear c19
            obtain ⟨ji20, hji20⟩ : ∃ j_ : Int, (IntKind.u64.wrap (a2)) = j_ := ⟨_, rfl⟩
            replace H : (if 0 ≤ (ji20) then (some (shl .i64 (wrap64 ((wrap64 (a0_3 + 1)) + a1)) (ji20), true)) else (none)) = some (r1, r2) := by first | (rw [hji20] at H; exact H) | (simp only [hji20] at H ⊢; exact H)
            by_cases c21 : 0 ≤ (ji20)
            · rw [if_pos c21] at H
              have c21b0 := eq_true c21
              have c21b1 : decide (0 ≤ (ji20)) = true := decide_eq_true c21
              clear c21
              obtain ⟨ji22, hji22⟩ : ∃ j_ : Int, (shl .i64 (wrap64 ((wrap64 (a0_3 + 1)) + a1)) (ji20)) = j_ := ⟨_, rfl⟩
              replace H : (some (ji22, true)) = some (r1, r2) := by first | (rw [hji22] at H; exact H) | (simp only [hji22] at H ⊢; exact H)
              have hji22_ : (IntKind.i64.wrap ((wrap64 ((wrap64 (a0_3 + 1)) + a1)) * 2 ^ min (ji20).toNat 64)) = ji22 := hji22
              have hji22z : (ji20) ≤ 64 → (IntKind.i64.wrap ((wrap64 ((wrap64 (a0_3 + 1)) + a1)) * 2 ^ (ji20).toNat)) = ji22 := shl_small hji22
              have hji22y : (wrap64 ((wrap64 ((wrap64 (a0_3 + 1)) + a1)) * 2 ^ min (ji20).toNat 64)) = ji22 := (i64_w _).symm.trans hji22_
              have hji22x : (ji20) ≤ 64 → (wrap64 ((wrap64 ((wrap64 (a0_3 + 1)) + a1)) * 2 ^ (ji20).toNat)) = ji22 := fun h_ => (i64_w _).symm.trans (hji22z h_)
              simp only [Option.some.injEq, Prod.mk.injEq] at H
              obtain ⟨rfl, rfl⟩ := H
              have hcz23_0 : wc.cell? ⟨gb229, 0, none⟩ = some (.bool true) := (blk_cell BK229.out 0).trans rfl
              have hcz23_1 : wc.cell? ⟨gb229, 1, none⟩ = some (.int .i64 a0_1) := (blk_cell BK229.out 1).trans rfl
              have hcz23_2 : wc.cell? ⟨gb229, 2, none⟩ = some (.int .i64 a0_2) := (blk_cell BK229.out 2).trans rfl
              have hcz23_3 : wc.cell? ⟨gb229, 3, none⟩ = some (.int .i64 a0_3) := (blk_cell BK229.out 3).trans rfl
              have hcz23_4 : wc.cell? ⟨gb229, 4, none⟩ = some (.int .i64 a0_4) := (blk_cell BK229.out 4).trans rfl
              have hfz23_0 := blk_frozen BK229.out 0
              have hfz23_1 := blk_frozen BK229.out 1
              have hfz23_2 := blk_frozen BK229.out 2
              have hfz23_3 := blk_frozen BK229.out 3
              have hfz23_4 := blk_frozen BK229.out 4
              go_wp2
              go_ret2
              exact ⟨by first | rfl | (simp [errW_none, errW_some] <;> rfl) | (simp only [← hji20, ← hji22]; first | rfl | (simp [errW_none, errW_some] <;> rfl)) | (simp [*, errW_none, errW_some] <;> rfl), by repeat (first | (with_reducible first | exact HB.out | apply below_alloc | apply pw_below_drewN | apply below_drew1 | refine below_set ?_ GE229.out) | exact HB.out)⟩
            · rw [if_neg c21] at H
              exact absurd H (by simp)
          · rw [if_neg c19] at H
            have c19b0 : decide ((wrap64 (4 * a0_4)) < 1) = false := decide_eq_false c19
            clear c19
            obtain ⟨ji24, hji24⟩ : ∃ j_ : Int, (IntKind.u64.wrap (a2)) = j_ := ⟨_, rfl⟩
            replace H : (if 0 ≤ (ji24) then (some (shl .i64 (wrap64 ((wrap64 (a0_3 + (wrap64 (4 * a0_4)))) + a1)) (ji24), true)) else (none)) = some (r1, r2) := by first | (rw [hji24] at H; exact H) | (simp only [hji24] at H ⊢; exact H)
            by_cases c25 : 0 ≤ (ji24)
            · rw [if_pos c25] at H
              have c25b0 := eq_true c25
              have c25b1 : decide (0 ≤ (ji24)) = true := decide_eq_true c25
              clear c25
              obtain ⟨ji26, hji26⟩ : ∃ j_ : Int, (shl .i64 (wrap64 ((wrap64 (a0_3 + (wrap64 (4 * a0_4)))) + a1)) (ji24)) = j_ := ⟨_, rfl⟩
              replace H : (some (ji26, true)) = some (r1, r2) := by first | (rw [hji26] at H; exact H) | (simp only [hji26] at H ⊢; exact H)
              have hji26_ : (IntKind.i64.wrap ((wrap64 ((wrap64 (a0_3 + (wrap64 (4 * a0_4)))) + a1)) * 2 ^ min (ji24).toNat 64)) = ji26 := hji26
              have hji26z : (ji24) ≤ 64 → (IntKind.i64.wrap ((wrap64 ((wrap64 (a0_3 + (wrap64 (4 * a0_4)))) + a1)) * 2 ^ (ji24).toNat)) = ji26 := shl_small hji26
              have hji26y : (wrap64 ((wrap64 ((wrap64 (a0_3 + (wrap64 (4 * a0_4)))) + a1)) * 2 ^ min (ji24).toNat 64)) = ji26 := (i64_w _).symm.trans hji26_
              have hji26x : (ji24) ≤ 64 → (wrap64 ((wrap64 ((wrap64 (a0_3 + (wrap64 (4 * a0_4)))) + a1)) * 2 ^ (ji24).toNat)) = ji26 := fun h_ => (i64_w _).symm.trans (hji26z h_)
              simp only [Option.some.injEq, Prod.mk.injEq] at H
              obtain ⟨rfl, rfl⟩ := H
              have hcz27_0 : wc.cell? ⟨gb229, 0, none⟩ = some (.bool true) := (blk_cell BK229.out 0).trans rfl
              have hcz27_1 : wc.cell? ⟨gb229, 1, none⟩ = some (.int .i64 a0_1) := (blk_cell BK229.out 1).trans rfl
              have hcz27_2 : wc.cell? ⟨gb229, 2, none⟩ = some (.int .i64 a0_2) := (blk_cell BK229.out 2).trans rfl
              have hcz27_3 : wc.cell? ⟨gb229, 3, none⟩ = some (.int .i64 a0_3) := (blk_cell BK229.out 3).trans rfl
              have hcz27_4 : wc.cell? ⟨gb229, 4, none⟩ = some (.int .i64 a0_4) := (blk_cell BK229.out 4).trans rfl
              have hfz27_0 := blk_frozen BK229.out 0
              have hfz27_1 := blk_frozen BK229.out 1
              have hfz27_2 := blk_frozen BK229.out 2
              have hfz27_3 := blk_frozen BK229.out 3
              have hfz27_4 := blk_frozen BK229.out 4
              go_wp2
              go_ret2
              exact ⟨by first | rfl | (simp [errW_none, errW_some] <;> rfl) | (simp only [← hji24, ← hji26]; first | rfl | (simp [errW_none, errW_some] <;> rfl)) | (simp [*, errW_none, errW_some] <;> rfl), by repeat (first | (with_reducible first | exact HB.out | apply below_alloc | apply pw_below_drewN | apply below_drew1 | refine below_set ?_ GE229.out) | exact HB.out)⟩
            · rw [if_neg c25] at H
              exact absurd H (by simp)
        · replace c18 := Bool.eq_false_iff.mpr c18
          subst c18
          have H1 : (if 0 ≤ (IntKind.u64.wrap (a2)) then (some (shl .i64 1000 (IntKind.u64.wrap (a2)), true)) else (none)) = some (r1, r2) := by rw [if_neg (show ¬ (false = true) by decide)] at H; exact H
          clear H
          have H := H1
          clear H1
          obtain ⟨ji28, hji28⟩ : ∃ j_ : Int, (IntKind.u64.wrap (a2)) = j_ := ⟨_, rfl⟩
          replace H : (if 0 ≤ (ji28) then (some (shl .i64 1000 (ji28), true)) else (none)) = some (r1, r2) := by first | (rw [hji28] at H; exact H) | (simp only [hji28] at H ⊢; exact H)
          by_cases c29 : 0 ≤ (ji28)
          · rw [if_pos c29] at H
            have c29b0 := eq_true c29
            have c29b1 : decide (0 ≤ (ji28)) = true := decide_eq_true c29
            clear c29
            obtain ⟨ji30, hji30⟩ : ∃ j_ : Int, (shl .i64 1000 (ji28)) = j_ := ⟨_, rfl⟩
            replace H : (some (ji30, true)) = some (r1, r2) := by first | (rw [hji30] at H; exact H) | (simp only [hji30] at H ⊢; exact H)
            have hji30_ : (IntKind.i64.wrap (1000 * 2 ^ min (ji28).toNat 64)) = ji30 := hji30
            have hji30z : (ji28) ≤ 64 → (IntKind.i64.wrap (1000 * 2 ^ (ji28).toNat)) = ji30 := shl_small hji30
            have hji30y : (wrap64 (1000 * 2 ^ min (ji28).toNat 64)) = ji30 := (i64_w _).symm.trans hji30_
            have hji30x : (ji28) ≤ 64 → (wrap64 (1000 * 2 ^ (ji28).toNat)) = ji30 := fun h_ => (i64_w _).symm.trans (hji30z h_)
            simp only [Option.some.injEq, Prod.mk.injEq] at H
            obtain ⟨rfl, rfl⟩ := H
            have hcz31_0 : wc.cell? ⟨gb229, 0, none⟩ = some (.bool false) := (blk_cell BK229.out 0).trans rfl
            have hcz31_1 : wc.cell? ⟨gb229, 1, none⟩ = some (.int .i64 a0_1) := (blk_cell BK229.out 1).trans rfl
            have hcz31_2 : wc.cell? ⟨gb229, 2, none⟩ = some (.int .i64 a0_2) := (blk_cell BK229.out 2).trans rfl
            have hcz31_3 : wc.cell? ⟨gb229, 3, none⟩ = some (.int .i64 a0_3) := (blk_cell BK229.out 3).trans rfl
            have hcz31_4 : wc.cell? ⟨gb229, 4, none⟩ = some (.int .i64 a0_4) := (blk_cell BK229.out 4).trans rfl
            have hfz31_0 := blk_frozen BK229.out 0
            have hfz31_1 := blk_frozen BK229.out 1
            have hfz31_2 := blk_frozen BK229.out 2
            have hfz31_3 := blk_frozen BK229.out 3
            have hfz31_4 := blk_frozen BK229.out 4
            go_wp2
            go_ret2
            exact ⟨by first | rfl | (simp [errW_none, errW_some] <;> rfl) | (simp only [← hji28, ← hji30]; first | rfl | (simp [errW_none, errW_some] <;> rfl)) | (simp [*, errW_none, errW_some] <;> rfl), by repeat (first | (with_reducible first | exact HB.out | apply below_alloc | apply pw_below_drewN | apply below_drew1 | refine below_set ?_ GE229.out) | exact HB.out)⟩
          · rw [if_neg c29] at H
            exact absurd H (by simp)

end Go.Proofs.Ytcggngmcaicdpaa.PFnRtt
