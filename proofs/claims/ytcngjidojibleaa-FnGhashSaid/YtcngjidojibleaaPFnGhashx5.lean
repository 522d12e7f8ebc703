-- Written by a program of this session out of the translation; Lean checks it.
import Derived.Test.YtcngjidojibleaaPFnGhashx0
import Derived.Test.YtcngjidojibleaaPFnGhashx4
namespace Go.Proofs.Ytcngjidojibleaa.PFnGhash
open Go.RowKit Go.Proofs.YtcngjidojibleaaW.PrintWords Go.Proofs.YtcngjidojibleaaW.PrintLast Go.Proofs.YtcngjidojibleaaW.PrintMore
attribute [local go_sem] max2_int min2_int max_two min_two max_three min_three max_four min_four   -- for this text's walks alone
set_option linter.unusedVariables false
set_option linter.unusedSimpArgs false

/-! ### spec_l5Mul: function 98 -/
mutual
def spec_l5Mul.l0 : Nat → Int → Int → Int → Int → Int → Int → Int → Option (Int × Int)
 | 0, _, _, _, _, _, _, _ => none
 | k + 1, x6, x227000, x227001, x228000, x228001, x230000, x230001 => if x6 < 128 then (if 0 ≤ (IntKind.u64.wrap (wrap64 (63 - x6))) then (if x6 > 63 then (if 0 ≤ (IntKind.u64.wrap (wrap64 (127 - x6))) then (spec_l5Mul.j1 k x6 (shr .u64 x227001 (IntKind.u64.wrap (wrap64 (127 - x6)))) x227000 x227001 x228000 x228001 x230000 x230001) else (none)) else (spec_l5Mul.j1 k x6 (shr .u64 x227000 (IntKind.u64.wrap (wrap64 (63 - x6)))) x227000 x227001 x228000 x228001 x230000 x230001)) else (none)) else (some (x230000, x230001))
def spec_l5Mul.j1 : Nat → Int → Int → Int → Int → Int → Int → Int → Int → Option (Int × Int)
 | 0, _, _, _, _, _, _, _, _ => none
 | k + 1, x6, x7, x227000, x227001, x228000, x228001, x230000, x230001 => if (Go.bits .and .u64 x7 1) = 1 then (if (Go.bits .and .u64 x228001 1) = 1 then (spec_l5Mul.l0 k (wrap64 (x6 + 1)) x227000 x227001 (Go.bits .xor .u64 (x228000 / 2) 16212958658533785600) (Go.bits .or .u64 (x228001 / 2) (IntKind.u64.wrap (x228000 * 9223372036854775808))) (Go.bits .xor .u64 x230000 x228000) (Go.bits .xor .u64 x230001 x228001)) else (spec_l5Mul.l0 k (wrap64 (x6 + 1)) x227000 x227001 (x228000 / 2) (Go.bits .or .u64 (x228001 / 2) (IntKind.u64.wrap (x228000 * 9223372036854775808))) (Go.bits .xor .u64 x230000 x228000) (Go.bits .xor .u64 x230001 x228001))) else (if (Go.bits .and .u64 x228001 1) = 1 then (spec_l5Mul.l0 k (wrap64 (x6 + 1)) x227000 x227001 (Go.bits .xor .u64 (x228000 / 2) 16212958658533785600) (Go.bits .or .u64 (x228001 / 2) (IntKind.u64.wrap (x228000 * 9223372036854775808))) x230000 x230001) else (spec_l5Mul.l0 k (wrap64 (x6 + 1)) x227000 x227001 (x228000 / 2) (Go.bits .or .u64 (x228001 / 2) (IntKind.u64.wrap (x228000 * 9223372036854775808))) x230000 x230001))
end
def spec_l5Mul.f (k : Nat) (a0_0 : Int) (a0_1 : Int) (a1_0 : Int) (a1_1 : Int) : Option (Int × Int) := spec_l5Mul.l0 k 0 a0_0 a0_1 a1_0 a1_1 0 0
theorem spec_l5Mul.mono_l : ∀ k, (∀ y0 y1 y2 y3 y4 y5 y6, LeO (spec_l5Mul.l0 k y0 y1 y2 y3 y4 y5 y6) (spec_l5Mul.l0 (k + 1) y0 y1 y2 y3 y4 y5 y6)) ∧ (∀ y0 y1 y2 y3 y4 y5 y6 y7, LeO (spec_l5Mul.j1 k y0 y1 y2 y3 y4 y5 y6 y7) (spec_l5Mul.j1 (k + 1) y0 y1 y2 y3 y4 y5 y6 y7))
 | 0 => ⟨fun _ _ _ _ _ _ _ r h => by simp [spec_l5Mul.l0] at h, fun _ _ _ _ _ _ _ _ r h => by simp [spec_l5Mul.j1] at h⟩
 | k + 1 => by
  obtain ⟨ih0, ih1⟩ := spec_l5Mul.mono_l k
  refine ⟨?_, ?_⟩
  ·intro y0 y1 y2 y3 y4 y5 y6
   unfold spec_l5Mul.l0
   repeat' first
   | (with_reducible exact ih0 _ _ _ _ _ _ _)
   | (with_reducible exact ih1 _ _ _ _ _ _ _ _)
   | (with_reducible exact LeO.refl _)
   | (with_reducible exact LeO.none _)
   | (with_reducible refine LeO.ite ?_ ?_)
   | (with_reducible refine LeO.bind ?_ (fun _ => ?_))
   | exact ih0 _ _ _ _ _ _ _
   | exact ih1 _ _ _ _ _ _ _ _
   | exact LeO.none _
   | refine LeO.ite ?_ ?_
   | refine LeO.bind ?_ (fun _ => ?_)
  ·intro y0 y1 y2 y3 y4 y5 y6 y7
   unfold spec_l5Mul.j1
   repeat' first
   | (with_reducible exact ih0 _ _ _ _ _ _ _)
   | (with_reducible exact ih1 _ _ _ _ _ _ _ _)
   | (with_reducible exact LeO.refl _)
   | (with_reducible exact LeO.none _)
   | (with_reducible refine LeO.ite ?_ ?_)
   | (with_reducible refine LeO.bind ?_ (fun _ => ?_))
   | exact ih0 _ _ _ _ _ _ _
   | exact ih1 _ _ _ _ _ _ _ _
   | exact LeO.none _
   | refine LeO.ite ?_ ?_
   | refine LeO.bind ?_ (fun _ => ?_)
theorem spec_l5Mul.mono : ∀ a0 a1 a2 a3 k, LeO (spec_l5Mul.f k a0 a1 a2 a3) (spec_l5Mul.f (k + 1) a0 a1 a2 a3) := by
 intro a0 a1 a2 a3 k
 obtain ⟨ih0, ih1⟩ := spec_l5Mul.mono_l k
 unfold spec_l5Mul.f
 repeat' first
   | (with_reducible exact ih0 _ _ _ _ _ _ _)
   | (with_reducible exact ih1 _ _ _ _ _ _ _ _)
   | (with_reducible exact LeO.refl _)
   | (with_reducible exact LeO.none _)
   | (with_reducible refine LeO.ite ?_ ?_)
   | (with_reducible refine LeO.bind ?_ (fun _ => ?_))
   | exact ih0 _ _ _ _ _ _ _
   | exact ih1 _ _ _ _ _ _ _ _
   | exact LeO.none _
   | refine LeO.ite ?_ ?_
   | refine LeO.bind ?_ (fun _ => ?_)
set_option maxHeartbeats 8000000 in
set_option maxRecDepth 100000 in
theorem spec_l5Mul.calls (k : Nat) (a0_0 : Int) (a0_1 : Int) (a1_0 : Int) (a1_1 : Int) (r1 : Int) (r2 : Int) (w : World) (h : spec_l5Mul.f k a0_0 a0_1 a1_0 a1_1 = some (r1, r2)) :
  Calls Try.prog 98 #[.agg #[.int .u64 a0_0, .int .u64 a0_1], .agg #[.int .u64 a1_0, .int .u64 a1_1]] w fun e w' => e = .returned (.agg #[.int .u64 r1, .int .u64 r2]) ∧ Below w.heap.size w w' := by
 have hu87 := Try.underlying87
 have HB := Aside0.mk (Below.refl w.heap.size w)
 have H : (spec_l5Mul.l0 k 0 a0_0 a0_1 a1_0 a1_1 0 0) = some (r1, r2) := h
 clear h
 have H' := Aside0.mk H
 clear H
 go_enter Try.func98, Try.ntmps98
 go_wp2_with (first | ((with_reducible refine gate_dst (N := 2) rfl ?_); refine box_event ?hg (N := 2) ?hd (cs := #[.int .u64 a0_0, .int .u64 a0_1]) (t := 87) ?hr ?_; (case hd => rfl); (case hg => rfl); (case hr => first | (go_simp; done) | (go_simp; rfl)); intro gb226 hg w3 hbox hb; have n0_ := Aside0.mk (below_step (by repeat (first | (with_reducible first | exact HB.out | apply below_alloc | apply pw_below_drewN | apply below_drew1) | exact HB.out)) hb); have n1_ := Aside0.mk (hbox); have n2_ := Aside0.mk ((by rw [hg]; exact (below_size (by repeat (first | (with_reducible first | exact HB.out | apply below_alloc | apply pw_below_drewN | apply below_drew1) | exact HB.out))) : w.heap.size ≤ gb226)); have n3_ := Aside0.mk ((by rw [hg]; exact (below_size (by repeat (first | (with_reducible first | exact HB.out | apply below_alloc | apply pw_below_drewN | apply below_drew1) | exact HB.out))) : w.heap.size ≤ gb226)); clear HB; have HB := n0_; have BK226 := n1_; have GW226 := n2_; have GE226 := n3_; clear n0_ n1_ n2_ n3_; clear hb hbox hg) | ((with_reducible refine gate_dst (N := 3) rfl ?_); refine box_event ?hg (N := 3) ?hd (cs := #[.int .u64 a1_0, .int .u64 a1_1]) (t := 87) ?hr ?_; (case hd => rfl); (case hg => rfl); (case hr => first | (go_simp; done) | (go_simp; rfl)); intro gb227 hg w4 hbox hb; have n0_ := Aside0.mk (blk_below (g := gb226) (o := .cells #[.int .u64 a0_0, .int .u64 a0_1] 87 (0, 0)) (by (with_reducible repeat (first | refine blk_drewN ?_ _ | refine blk_drew ?_ | refine blk_alloc ?_ _)); exact BK226.out) hb); have n1_ := Aside0.mk (below_step (by repeat (first | (with_reducible first | exact HB.out | apply below_alloc | apply pw_below_drewN | apply below_drew1 | refine below_set ?_ GE226.out) | exact HB.out)) hb); have n2_ := Aside0.mk (hbox); have n3_ := Aside0.mk ((by rw [hg]; exact (below_size (by repeat (first | (with_reducible first | exact HB.out | apply below_alloc | apply pw_below_drewN | apply below_drew1 | refine below_set ?_ GE226.out) | exact HB.out))) : w.heap.size ≤ gb227)); have n4_ := Aside0.mk ((by rw [hg]; exact (below_size (by repeat (first | (with_reducible first | exact HB.out | apply below_alloc | apply pw_below_drewN | apply below_drew1 | refine below_set ?_ GE226.out) | exact HB.out))) : w.heap.size ≤ gb227)); have n5_ := Aside0.mk ((by rw [hg]; exact Nat.ne_of_lt (blk_lt (g := gb226) (o := .cells #[.int .u64 a0_0, .int .u64 a0_1] 87 (0, 0)) (by (with_reducible repeat (first | refine blk_drewN ?_ _ | refine blk_drew ?_ | refine blk_alloc ?_ _)); exact BK226.out)) : gb226 ≠ gb227)); have n6_ := Aside0.mk ((by rw [hg]; exact Nat.ne_of_gt (blk_lt (g := gb226) (o := .cells #[.int .u64 a0_0, .int .u64 a0_1] 87 (0, 0)) (by (with_reducible repeat (first | refine blk_drewN ?_ _ | refine blk_drew ?_ | refine blk_alloc ?_ _)); exact BK226.out)) : gb227 ≠ gb226)); clear BK226; clear HB; have BK226 := n0_; have HB := n1_; have BK227 := n2_; have GW227 := n3_; have GE227 := n4_; have NB226_227 := n5_; have NB227_226 := n6_; clear n0_ n1_ n2_ n3_ n4_ n5_ n6_; clear hb hbox hg) | ((with_reducible refine gate_dst (N := 4) rfl ?_); refine box_event ?hg (N := 4) ?hd (cs := #[.int .u64 0, .int .u64 0]) (t := 87) ?hr ?_; (case hd => rfl); (case hg => rfl); (case hr => first | (go_simp; done) | (go_simp; rfl)); intro gb228 hg w5 hbox hb; have n0_ := Aside0.mk (blk_below (g := gb226) (o := .cells #[.int .u64 a0_0, .int .u64 a0_1] 87 (0, 0)) (by (with_reducible repeat (first | refine blk_drewN ?_ _ | refine blk_drew ?_ | refine blk_alloc ?_ _)); exact BK226.out) hb); have n1_ := Aside0.mk (blk_below (g := gb227) (o := .cells #[.int .u64 a1_0, .int .u64 a1_1] 87 (0, 0)) (by (with_reducible repeat (first | refine blk_drewN ?_ _ | refine blk_drew ?_ | refine blk_alloc ?_ _)); exact BK227.out) hb); have n2_ := Aside0.mk (below_step (by repeat (first | (with_reducible first | exact HB.out | apply below_alloc | apply pw_below_drewN | apply below_drew1 | refine below_set ?_ GE226.out | refine below_set ?_ GE227.out) | exact HB.out)) hb); have n3_ := Aside0.mk (hbox); have n4_ := Aside0.mk ((by rw [hg]; exact (below_size (by repeat (first | (with_reducible first | exact HB.out | apply below_alloc | apply pw_below_drewN | apply below_drew1 | refine below_set ?_ GE226.out | refine below_set ?_ GE227.out) | exact HB.out))) : w.heap.size ≤ gb228)); have n5_ := Aside0.mk ((by rw [hg]; exact (below_size (by repeat (first | (with_reducible first | exact HB.out | apply below_alloc | apply pw_below_drewN | apply below_drew1 | refine below_set ?_ GE226.out | refine below_set ?_ GE227.out) | exact HB.out))) : w.heap.size ≤ gb228)); have n6_ := Aside0.mk ((by rw [hg]; exact Nat.ne_of_lt (blk_lt (g := gb226) (o := .cells #[.int .u64 a0_0, .int .u64 a0_1] 87 (0, 0)) (by (with_reducible repeat (first | refine blk_drewN ?_ _ | refine blk_drew ?_ | refine blk_alloc ?_ _)); exact BK226.out)) : gb226 ≠ gb228)); have n7_ := Aside0.mk ((by rw [hg]; exact Nat.ne_of_gt (blk_lt (g := gb226) (o := .cells #[.int .u64 a0_0, .int .u64 a0_1] 87 (0, 0)) (by (with_reducible repeat (first | refine blk_drewN ?_ _ | refine blk_drew ?_ | refine blk_alloc ?_ _)); exact BK226.out)) : gb228 ≠ gb226)); have n8_ := Aside0.mk ((by rw [hg]; exact Nat.ne_of_lt (blk_lt (g := gb227) (o := .cells #[.int .u64 a1_0, .int .u64 a1_1] 87 (0, 0)) (by (with_reducible repeat (first | refine blk_drewN ?_ _ | refine blk_drew ?_ | refine blk_alloc ?_ _)); exact BK227.out)) : gb227 ≠ gb228)); have n9_ := Aside0.mk ((by rw [hg]; exact Nat.ne_of_gt (blk_lt (g := gb227) (o := .cells #[.int .u64 a1_0, .int .u64 a1_1] 87 (0, 0)) (by (with_reducible repeat (first | refine blk_drewN ?_ _ | refine blk_drew ?_ | refine blk_alloc ?_ _)); exact BK227.out)) : gb228 ≠ gb227)); clear BK226; clear BK227; clear HB; have BK226 := n0_; have BK227 := n1_; have HB := n2_; have BK228 := n3_; have GW228 := n4_; have GE228 := n5_; have NB226_228 := n6_; have NB228_226 := n7_; have NB227_228 := n8_; have NB228_227 := n9_; clear n0_ n1_ n2_ n3_ n4_ n5_ n6_ n7_ n8_ n9_; clear hb hbox hg) | ((with_reducible refine gate_dst (N := 5) rfl ?_); refine box_event ?hg (N := 5) ?hd (cs := #[.int .u64 0, .int .u64 0]) (t := 87) ?hr ?_; (case hd => rfl); (case hg => rfl); (case hr => first | (go_simp; done) | (go_simp; rfl)); intro gb229 hg w6 hbox hb; have n0_ := Aside0.mk (blk_below (g := gb226) (o := .cells #[.int .u64 a0_0, .int .u64 a0_1] 87 (0, 0)) (by (with_reducible repeat (first | refine blk_drewN ?_ _ | refine blk_drew ?_ | refine blk_alloc ?_ _)); exact BK226.out) hb); have n1_ := Aside0.mk (blk_below (g := gb227) (o := .cells #[.int .u64 a1_0, .int .u64 a1_1] 87 (0, 0)) (by (with_reducible repeat (first | refine blk_drewN ?_ _ | refine blk_drew ?_ | refine blk_alloc ?_ _)); exact BK227.out) hb); have n2_ := Aside0.mk (blk_below (g := gb228) (o := .cells #[.int .u64 0, .int .u64 0] 87 (0, 0)) (by (with_reducible repeat (first | refine blk_drewN ?_ _ | refine blk_drew ?_ | refine blk_alloc ?_ _)); exact BK228.out) hb); have n3_ := Aside0.mk (below_step (by repeat (first | (with_reducible first | exact HB.out | apply below_alloc | apply pw_below_drewN | apply below_drew1 | refine below_set ?_ GE226.out | refine below_set ?_ GE227.out | refine below_set ?_ GE228.out) | exact HB.out)) hb); have n4_ := Aside0.mk (hbox); have n5_ := Aside0.mk ((by rw [hg]; exact (below_size (by repeat (first | (with_reducible first | exact HB.out | apply below_alloc | apply pw_below_drewN | apply below_drew1 | refine below_set ?_ GE226.out | refine below_set ?_ GE227.out | refine below_set ?_ GE228.out) | exact HB.out))) : w.heap.size ≤ gb229)); have n6_ := Aside0.mk ((by rw [hg]; exact (below_size (by repeat (first | (with_reducible first | exact HB.out | apply below_alloc | apply pw_below_drewN | apply below_drew1 | refine below_set ?_ GE226.out | refine below_set ?_ GE227.out | refine below_set ?_ GE228.out) | exact HB.out))) : w.heap.size ≤ gb229)); have n7_ := Aside0.mk ((by rw [hg]; exact Nat.ne_of_lt (blk_lt (g := gb226) (o := .cells #[.int .u64 a0_0, .int .u64 a0_1] 87 (0, 0)) (by (with_reducible repeat (first | refine blk_drewN ?_ _ | refine blk_drew ?_ | refine blk_alloc ?_ _)); exact BK226.out)) : gb226 ≠ gb229)); have n8_ := Aside0.mk ((by rw [hg]; exact Nat.ne_of_gt (blk_lt (g := gb226) (o := .cells #[.int .u64 a0_0, .int .u64 a0_1] 87 (0, 0)) (by (with_reducible repeat (first | refine blk_drewN ?_ _ | refine blk_drew ?_ | refine blk_alloc ?_ _)); exact BK226.out)) : gb229 ≠ gb226)); have n9_ := Aside0.mk ((by rw [hg]; exact Nat.ne_of_lt (blk_lt (g := gb227) (o := .cells #[.int .u64 a1_0, .int .u64 a1_1] 87 (0, 0)) (by (with_reducible repeat (first | refine blk_drewN ?_ _ | refine blk_drew ?_ | refine blk_alloc ?_ _)); exact BK227.out)) : gb227 ≠ gb229)); have n10_ := Aside0.mk ((by rw [hg]; exact Nat.ne_of_gt (blk_lt (g := gb227) (o := .cells #[.int .u64 a1_0, .int .u64 a1_1] 87 (0, 0)) (by (with_reducible repeat (first | refine blk_drewN ?_ _ | refine blk_drew ?_ | refine blk_alloc ?_ _)); exact BK227.out)) : gb229 ≠ gb227)); have n11_ := Aside0.mk ((by rw [hg]; exact Nat.ne_of_lt (blk_lt (g := gb228) (o := .cells #[.int .u64 0, .int .u64 0] 87 (0, 0)) (by (with_reducible repeat (first | refine blk_drewN ?_ _ | refine blk_drew ?_ | refine blk_alloc ?_ _)); exact BK228.out)) : gb228 ≠ gb229)); have n12_ := Aside0.mk ((by rw [hg]; exact Nat.ne_of_gt (blk_lt (g := gb228) (o := .cells #[.int .u64 0, .int .u64 0] 87 (0, 0)) (by (with_reducible repeat (first | refine blk_drewN ?_ _ | refine blk_drew ?_ | refine blk_alloc ?_ _)); exact BK228.out)) : gb229 ≠ gb228)); clear BK226; clear BK227; clear BK228; clear HB; have BK226 := n0_; have BK227 := n1_; have BK228 := n2_; have HB := n3_; have BK229 := n4_; have GW229 := n5_; have GE229 := n6_; have NB226_229 := n7_; have NB229_226 := n8_; have NB227_229 := n9_; have NB229_227 := n10_; have NB228_229 := n11_; have NB229_228 := n12_; clear n0_ n1_ n2_ n3_ n4_ n5_ n6_ n7_ n8_ n9_ n10_ n11_ n12_; clear hb hbox hg; have hnb7 := NB229_226.out; have hnc7 := NB226_229.out; have hnb8 := NB229_227.out; have hnc8 := NB227_229.out; have hnb9 := NB229_228.out; have hnc9 := NB228_229.out; have hcz10_0 : w6.cell? ⟨gb229, 0, none⟩ = some (.int .u64 0) := (blk_cell BK229.out 0).trans rfl; have hcz10_1 : w6.cell? ⟨gb229, 1, none⟩ = some (.int .u64 0) := (blk_cell BK229.out 1).trans rfl; have hfz10_0 := blk_frozen BK229.out 0; have hfz10_1 := blk_frozen BK229.out 1))
 go_loopg [6] k (fun kq v6 w' => ∃ (x6_1 : Int) (x228000_1 : Int) (x228001_1 : Int) (x230000_1 : Int) (x230001_1 : Int), v6 = .int .i64 x6_1 ∧ Aside0 (spec_l5Mul.l0 kq x6_1 a0_0 a0_1 x228000_1 x228001_1 x230000_1 x230001_1 = some (r1, r2)) ∧ Aside0 (kq ≤ k) ∧ Aside0 (w'.heap[gb226]? = some (.cells #[.int .u64 a0_0, .int .u64 a0_1] 87 (0, 0))) ∧ Aside0 (w'.heap[gb227]? = some (.cells #[.int .u64 x228000_1, .int .u64 x228001_1] 87 (0, 0))) ∧ Aside0 (w'.heap[gb228]? = some (.cells #[.int .u64 0, .int .u64 0] 87 (0, 0))) ∧ Aside0 (w'.heap[gb229]? = some (.cells #[.int .u64 x230000_1, .int .u64 x230001_1] 87 (0, 0))) ∧ Aside0 (Below w.heap.size w w'))
 case atStart => exact ⟨(0), (a1_0), (a1_1), (0), (0), (by first | rfl | (simp; done) | (simp [*]; done)), H', ⟨Nat.le_refl _⟩, ⟨by (with_reducible repeat (first | refine blk_drewN ?_ _ | refine blk_drew ?_ | refine blk_alloc ?_ _)); refine blk_far ?_ NB226_229.out _; (with_reducible repeat (first | refine blk_drewN ?_ _ | refine blk_drew ?_ | refine blk_alloc ?_ _)); refine blk_far ?_ NB226_229.out _; (with_reducible repeat (first | refine blk_drewN ?_ _ | refine blk_drew ?_ | refine blk_alloc ?_ _)); exact BK226.out⟩, ⟨by (with_reducible repeat (first | refine blk_drewN ?_ _ | refine blk_drew ?_ | refine blk_alloc ?_ _)); refine blk_far ?_ NB227_229.out _; (with_reducible repeat (first | refine blk_drewN ?_ _ | refine blk_drew ?_ | refine blk_alloc ?_ _)); refine blk_far ?_ NB227_229.out _; (with_reducible repeat (first | refine blk_drewN ?_ _ | refine blk_drew ?_ | refine blk_alloc ?_ _)); exact BK227.out⟩, ⟨by (with_reducible repeat (first | refine blk_drewN ?_ _ | refine blk_drew ?_ | refine blk_alloc ?_ _)); refine blk_far ?_ NB228_229.out _; (with_reducible repeat (first | refine blk_drewN ?_ _ | refine blk_drew ?_ | refine blk_alloc ?_ _)); refine blk_far ?_ NB228_229.out _; (with_reducible repeat (first | refine blk_drewN ?_ _ | refine blk_drew ?_ | refine blk_alloc ?_ _)); exact BK228.out⟩, ⟨by (with_reducible repeat (first | refine blk_drewN ?_ _ | refine blk_drew ?_ | refine blk_alloc ?_ _)); refine blk_put (cs := #[.int .u64 0, .int .u64 0]) ?_ 1 _ rfl; (with_reducible repeat (first | refine blk_drewN ?_ _ | refine blk_drew ?_ | refine blk_alloc ?_ _)); refine blk_put (cs := #[.int .u64 0, .int .u64 0]) ?_ 0 _ rfl; (with_reducible repeat (first | refine blk_drewN ?_ _ | refine blk_drew ?_ | refine blk_alloc ?_ _)); exact BK229.out⟩, ⟨by repeat (first | (with_reducible first | exact HB.out | apply below_alloc | apply pw_below_drewN | apply below_drew1 | refine below_set ?_ GE226.out | refine below_set ?_ GE227.out | refine below_set ?_ GE228.out | refine below_set ?_ GE229.out) | exact HB.out)⟩⟩
 case round =>
  clear H'
  try clear p2; try clear c7; try clear c8; try clear c9; try clear hcz10_0; try clear hcz10_1; try clear hfz10_0; try clear hfz10_1
  obtain ⟨x6_1, x228000_1, x228001_1, x230000_1, x230001_1, rfl, HA, HK1, BK226, BK227, BK228, BK229, HB⟩ := hrel
  cases gk with
  | zero => exact absurd HA.out (by simp [spec_l5Mul.l0])
  | succ k1 =>
   have H := HA.out
   clear HA
   simp only [spec_l5Mul.l0] at H
   by_cases c11 : x6_1 < 128
   ·rw [if_pos c11] at H
    have c11b0 : decide (x6_1 < 128) = true := decide_eq_true c11
    clear c11
    obtain ⟨ji12, hji12⟩ : ∃ j_ : Int, (IntKind.u64.wrap (wrap64 (63 - x6_1))) = j_ := ⟨_, rfl⟩
    replace H : (if 0 ≤ (ji12) then (if x6_1 > 63 then (if 0 ≤ (IntKind.u64.wrap (wrap64 (127 - x6_1))) then (spec_l5Mul.j1 k1 x6_1 (shr .u64 a0_1 (IntKind.u64.wrap (wrap64 (127 - x6_1)))) a0_0 a0_1 x228000_1 x228001_1 x230000_1 x230001_1) else (none)) else (spec_l5Mul.j1 k1 x6_1 (shr .u64 a0_0 (ji12)) a0_0 a0_1 x228000_1 x228001_1 x230000_1 x230001_1)) else (none)) = some (r1, r2) := by first | (rw [hji12] at H; exact H) | (simp only [hji12] at H ⊢; exact H)
    by_cases c13 : 0 ≤ (ji12)
    ·rw [if_pos c13] at H
     have c13b0 := eq_true c13
     have c13b1 : decide (0 ≤ (ji12)) = true := decide_eq_true c13
     clear c13
     obtain ⟨ji14, hji14⟩ : ∃ j_ : Int, (shr .u64 a0_0 (ji12)) = j_ := ⟨_, rfl⟩
     replace H : (if x6_1 > 63 then (if 0 ≤ (IntKind.u64.wrap (wrap64 (127 - x6_1))) then (spec_l5Mul.j1 k1 x6_1 (shr .u64 a0_1 (IntKind.u64.wrap (wrap64 (127 - x6_1)))) a0_0 a0_1 x228000_1 x228001_1 x230000_1 x230001_1) else (none)) else (spec_l5Mul.j1 k1 x6_1 ji14 a0_0 a0_1 x228000_1 x228001_1 x230000_1 x230001_1)) = some (r1, r2) := by first | (rw [hji14] at H; exact H) | (simp only [hji14] at H ⊢; exact H)
     have hji14_ : (a0_0 / 2 ^ min (ji12).toNat 64) = ji14 := hji14
     have hji14z : (ji12) ≤ 64 → (a0_0 / 2 ^ (ji12).toNat) = ji14 := shr_small hji14
     have HC15 := Aside0.mk H
     clear H
     have hnb16 := NB226_227.out
     have hnc16 := NB227_226.out
     have hnb17 := NB226_228.out
     have hnc17 := NB228_226.out
     have hnb18 := NB226_229.out
     have hnc18 := NB229_226.out
     have hcz19_0 : wr.cell? ⟨gb226, 0, none⟩ = some (.int .u64 a0_0) := (blk_cell BK226.out 0).trans rfl
     have hcz19_1 : wr.cell? ⟨gb226, 1, none⟩ = some (.int .u64 a0_1) := (blk_cell BK226.out 1).trans rfl
     have hfz19_0 := blk_frozen BK226.out 0
     have hfz19_1 := blk_frozen BK226.out 1
     go_upto_if 21 with (fail)
     go_cut [7] (fun v7 wc => ∃ (kq : Nat) (x7_14 : Int), v7 = .int .u64 x7_14 ∧ Aside0 (spec_l5Mul.j1 kq x6_1 x7_14 a0_0 a0_1 x228000_1 x228001_1 x230000_1 x230001_1 = some (r1, r2)) ∧ Aside0 (kq ≤ k1) ∧ Aside0 (wc.heap[gb226]? = some (.cells #[.int .u64 a0_0, .int .u64 a0_1] 87 (0, 0))) ∧ Aside0 (wc.heap[gb227]? = some (.cells #[.int .u64 x228000_1, .int .u64 x228001_1] 87 (0, 0))) ∧ Aside0 (wc.heap[gb228]? = some (.cells #[.int .u64 0, .int .u64 0] 87 (0, 0))) ∧ Aside0 (wc.heap[gb229]? = some (.cells #[.int .u64 x230000_1, .int .u64 x230001_1] 87 (0, 0))) ∧ Aside0 (Below w.heap.size w wc))
     case first =>
      have H := HC15.out
      clear HC15
      by_cases c20 : x6_1 > 63
      ·rw [if_pos c20] at H
       have c20b0 : decide (63 < x6_1) = true := decide_eq_true c20
       clear c20
       (first | rw [c20b0] | (simp only [i64_w, i32_w]; rw [c20b0]) | skip)
       obtain ⟨ji21, hji21⟩ : ∃ j_ : Int, (IntKind.u64.wrap (wrap64 (127 - x6_1))) = j_ := ⟨_, rfl⟩
       replace H : (if 0 ≤ (ji21) then (spec_l5Mul.j1 k1 x6_1 (shr .u64 a0_1 (ji21)) a0_0 a0_1 x228000_1 x228001_1 x230000_1 x230001_1) else (none)) = some (r1, r2) := by first | (rw [hji21] at H; exact H) | (simp only [hji21] at H ⊢; exact H)
       by_cases c22 : 0 ≤ (ji21)
       ·rw [if_pos c22] at H
        have c22b0 := eq_true c22
        have c22b1 : decide (0 ≤ (ji21)) = true := decide_eq_true c22
        clear c22
        obtain ⟨ji23, hji23⟩ : ∃ j_ : Int, (shr .u64 a0_1 (ji21)) = j_ := ⟨_, rfl⟩
        replace H : (spec_l5Mul.j1 k1 x6_1 ji23 a0_0 a0_1 x228000_1 x228001_1 x230000_1 x230001_1) = some (r1, r2) := by first | (rw [hji23] at H; exact H) | (simp only [hji23] at H ⊢; exact H)
        have hji23_ : (a0_1 / 2 ^ min (ji21).toNat 64) = ji23 := hji23
        have hji23z : (ji21) ≤ 64 → (a0_1 / 2 ^ (ji21).toNat) = ji23 := shr_small hji23
        have H' := Aside0.mk H
        clear H
        have hnb24 := NB226_227.out
        have hnc24 := NB227_226.out
        have hnb25 := NB226_228.out
        have hnc25 := NB228_226.out
        have hnb26 := NB226_229.out
        have hnc26 := NB229_226.out
        have hcz27_0 : wr.cell? ⟨gb226, 0, none⟩ = some (.int .u64 a0_0) := (blk_cell BK226.out 0).trans rfl
        have hcz27_1 : wr.cell? ⟨gb226, 1, none⟩ = some (.int .u64 a0_1) := (blk_cell BK226.out 1).trans rfl
        have hfz27_0 := blk_frozen BK226.out 0
        have hfz27_1 := blk_frozen BK226.out 1
        go_wp2
        go_meet
        case rel => exact ⟨_, (ji23), (by first | rfl | (simp; done) | (simp only [← hji23] <;> (first | rfl | simp)) | (simp [*]; done)), H', ⟨by have := HK1.out; first | omega | exact Nat.le_refl _⟩, ⟨by (with_reducible repeat (first | refine blk_drewN ?_ _ | refine blk_drew ?_ | refine blk_alloc ?_ _)); exact BK226.out⟩, ⟨by (with_reducible repeat (first | refine blk_drewN ?_ _ | refine blk_drew ?_ | refine blk_alloc ?_ _)); exact BK227.out⟩, ⟨by (with_reducible repeat (first | refine blk_drewN ?_ _ | refine blk_drew ?_ | refine blk_alloc ?_ _)); exact BK228.out⟩, ⟨by (with_reducible repeat (first | refine blk_drewN ?_ _ | refine blk_drew ?_ | refine blk_alloc ?_ _)); exact BK229.out⟩, ⟨by repeat (first | (with_reducible first | exact HB.out | apply below_alloc | apply pw_below_drewN | apply below_drew1 | refine below_set ?_ GE226.out | refine below_set ?_ GE227.out | refine below_set ?_ GE228.out | refine below_set ?_ GE229.out) | exact HB.out)⟩⟩
       ·rw [if_neg c22] at H
        exact absurd H (by simp)
      ·rw [if_neg c20] at H
       have c20b0 : decide (63 < x6_1) = false := decide_eq_false c20
       clear c20
       (first | rw [c20b0] | (simp only [i64_w, i32_w]; rw [c20b0]) | skip)
       have H' := Aside0.mk H
       clear H
       go_wp2
       go_meet
       case rel => exact ⟨_, (ji14), (by first | rfl | (simp; done) | (simp only [← hji14] <;> (first | rfl | simp)) | (simp [*]; done)), H', ⟨by have := HK1.out; first | omega | exact Nat.le_refl _⟩, ⟨by (with_reducible repeat (first | refine blk_drewN ?_ _ | refine blk_drew ?_ | refine blk_alloc ?_ _)); exact BK226.out⟩, ⟨by (with_reducible repeat (first | refine blk_drewN ?_ _ | refine blk_drew ?_ | refine blk_alloc ?_ _)); exact BK227.out⟩, ⟨by (with_reducible repeat (first | refine blk_drewN ?_ _ | refine blk_drew ?_ | refine blk_alloc ?_ _)); exact BK228.out⟩, ⟨by (with_reducible repeat (first | refine blk_drewN ?_ _ | refine blk_drew ?_ | refine blk_alloc ?_ _)); exact BK229.out⟩, ⟨by repeat (first | (with_reducible first | exact HB.out | apply below_alloc | apply pw_below_drewN | apply below_drew1 | refine below_set ?_ GE226.out | refine below_set ?_ GE227.out | refine below_set ?_ GE228.out | refine below_set ?_ GE229.out) | exact HB.out)⟩⟩
     case rest =>
      clear HC15
      try clear c1; try clear c2; try clear p2; try clear p6; try clear c7; try clear c8; try clear c9; try clear c11; try clear c11b0; try clear c13; try clear c13b0; try clear c13b1; try clear c16; try clear c17; try clear c18; try clear c20; try clear c20b0; try clear c22; try clear c22b0; try clear c22b1; try clear c24; try clear c25; try clear c26; try clear hcz10_0; try clear hcz10_1; try clear hcz19_0; try clear hcz19_1; try clear hcz27_0; try clear hcz27_1; try clear hfz10_0; try clear hfz10_1; try clear hfz19_0; try clear hfz19_1; try clear hfz27_0; try clear hfz27_1; try clear p2
      obtain ⟨kq, x7_14, rfl, HA, HJ14, BK226, BK227, BK228, BK229, HB⟩ := hcut
      cases kq with
      | zero => exact absurd HA.out (by simp [spec_l5Mul.j1])
      | succ kj14 =>
       have H := HA.out
       clear HA
       simp only [spec_l5Mul.j1] at H
       by_cases c28 : (Go.bits .and .u64 x7_14 1) = 1
       ·rw [if_pos c28] at H
        have c28b0 : ((Go.bits .and .u64 x7_14 1) == 1) = true := beq_iff_eq.mpr c28
        have c28b1 : ((Go.bits .and .u64 x7_14 1) != 1) = false := bne_eq_false_iff_eq.mpr c28
        clear c28
        by_cases c29 : (Go.bits .and .u64 x228001_1 1) = 1
        ·rw [if_pos c29] at H
         have c29b0 : ((Go.bits .and .u64 x228001_1 1) == 1) = true := beq_iff_eq.mpr c29
         have c29b1 : ((Go.bits .and .u64 x228001_1 1) != 1) = false := bne_eq_false_iff_eq.mpr c29
         clear c29
         have H' := Aside0.mk H
         clear H
         have hnb30 := NB229_226.out
         have hnc30 := NB226_229.out
         have hnb31 := NB229_227.out
         have hnc31 := NB227_229.out
         have hnb32 := NB229_228.out
         have hnc32 := NB228_229.out
         have hcz33_0 : wc.cell? ⟨gb229, 0, none⟩ = some (.int .u64 x230000_1) := (blk_cell BK229.out 0).trans rfl
         have hcz33_1 : wc.cell? ⟨gb229, 1, none⟩ = some (.int .u64 x230001_1) := (blk_cell BK229.out 1).trans rfl
         have hfz33_0 := blk_frozen BK229.out 0
         have hfz33_1 := blk_frozen BK229.out 1
         have hnb34 := NB227_226.out
         have hnc34 := NB226_227.out
         have hnb35 := NB227_228.out
         have hnc35 := NB228_227.out
         have hcz36_0 : wc.cell? ⟨gb227, 0, none⟩ = some (.int .u64 x228000_1) := (blk_cell BK227.out 0).trans rfl
         have hcz36_1 : wc.cell? ⟨gb227, 1, none⟩ = some (.int .u64 x228001_1) := (blk_cell BK227.out 1).trans rfl
         have hfz36_0 := blk_frozen BK227.out 0
         have hfz36_1 := blk_frozen BK227.out 1
         go_wp2
         go_roundg kj14
         case measure => have := HK1.out; have := HJ14.out; omega
         case rel => exact ⟨(wrap64 (x6_1 + 1)), (Go.bits .xor .u64 (x228000_1 / 2) 16212958658533785600), (Go.bits .or .u64 (x228001_1 / 2) (IntKind.u64.wrap (x228000_1 * 9223372036854775808))), (Go.bits .xor .u64 x230000_1 x228000_1), (Go.bits .xor .u64 x230001_1 x228001_1), (by first | rfl | (simp; done) | (simp [*]; done)), H', ⟨by have := HK1.out; have := HJ14.out; omega⟩, ⟨by (with_reducible repeat (first | refine blk_drewN ?_ _ | refine blk_drew ?_ | refine blk_alloc ?_ _)); refine blk_far ?_ NB226_227.out _; (with_reducible repeat (first | refine blk_drewN ?_ _ | refine blk_drew ?_ | refine blk_alloc ?_ _)); refine blk_far ?_ NB226_227.out _; (with_reducible repeat (first | refine blk_drewN ?_ _ | refine blk_drew ?_ | refine blk_alloc ?_ _)); refine blk_far ?_ NB226_227.out _; (with_reducible repeat (first | refine blk_drewN ?_ _ | refine blk_drew ?_ | refine blk_alloc ?_ _)); refine blk_far ?_ NB226_229.out _; (with_reducible repeat (first | refine blk_drewN ?_ _ | refine blk_drew ?_ | refine blk_alloc ?_ _)); refine blk_far ?_ NB226_229.out _; (with_reducible repeat (first | refine blk_drewN ?_ _ | refine blk_drew ?_ | refine blk_alloc ?_ _)); exact BK226.out⟩, ⟨by (with_reducible repeat (first | refine blk_drewN ?_ _ | refine blk_drew ?_ | refine blk_alloc ?_ _)); refine blk_put (cs := #[.int .u64 (x228000_1 / 2), .int .u64 (Go.bits .or .u64 (x228001_1 / 2) (IntKind.u64.wrap (x228000_1 * 9223372036854775808)))]) ?_ 0 _ rfl; (with_reducible repeat (first | refine blk_drewN ?_ _ | refine blk_drew ?_ | refine blk_alloc ?_ _)); refine blk_put (cs := #[.int .u64 x228000_1, .int .u64 (Go.bits .or .u64 (x228001_1 / 2) (IntKind.u64.wrap (x228000_1 * 9223372036854775808)))]) ?_ 0 _ rfl; (with_reducible repeat (first | refine blk_drewN ?_ _ | refine blk_drew ?_ | refine blk_alloc ?_ _)); refine blk_put (cs := #[.int .u64 x228000_1, .int .u64 x228001_1]) ?_ 1 _ rfl; (with_reducible repeat (first | refine blk_drewN ?_ _ | refine blk_drew ?_ | refine blk_alloc ?_ _)); refine blk_far ?_ NB227_229.out _; (with_reducible repeat (first | refine blk_drewN ?_ _ | refine blk_drew ?_ | refine blk_alloc ?_ _)); refine blk_far ?_ NB227_229.out _; (with_reducible repeat (first | refine blk_drewN ?_ _ | refine blk_drew ?_ | refine blk_alloc ?_ _)); exact BK227.out⟩, ⟨by (with_reducible repeat (first | refine blk_drewN ?_ _ | refine blk_drew ?_ | refine blk_alloc ?_ _)); refine blk_far ?_ NB228_227.out _; (with_reducible repeat (first | refine blk_drewN ?_ _ | refine blk_drew ?_ | refine blk_alloc ?_ _)); refine blk_far ?_ NB228_227.out _; (with_reducible repeat (first | refine blk_drewN ?_ _ | refine blk_drew ?_ | refine blk_alloc ?_ _)); refine blk_far ?_ NB228_227.out _; (with_reducible repeat (first | refine blk_drewN ?_ _ | refine blk_drew ?_ | refine blk_alloc ?_ _)); refine blk_far ?_ NB228_229.out _; (with_reducible repeat (first | refine blk_drewN ?_ _ | refine blk_drew ?_ | refine blk_alloc ?_ _)); refine blk_far ?_ NB228_229.out _; (with_reducible repeat (first | refine blk_drewN ?_ _ | refine blk_drew ?_ | refine blk_alloc ?_ _)); exact BK228.out⟩, ⟨by (with_reducible repeat (first | refine blk_drewN ?_ _ | refine blk_drew ?_ | refine blk_alloc ?_ _)); refine blk_far ?_ NB229_227.out _; (with_reducible repeat (first | refine blk_drewN ?_ _ | refine blk_drew ?_ | refine blk_alloc ?_ _)); refine blk_far ?_ NB229_227.out _; (with_reducible repeat (first | refine blk_drewN ?_ _ | refine blk_drew ?_ | refine blk_alloc ?_ _)); refine blk_far ?_ NB229_227.out _; (with_reducible repeat (first | refine blk_drewN ?_ _ | refine blk_drew ?_ | refine blk_alloc ?_ _)); refine blk_put (cs := #[.int .u64 (Go.bits .xor .u64 x230000_1 x228000_1), .int .u64 x230001_1]) ?_ 1 _ rfl; (with_reducible repeat (first | refine blk_drewN ?_ _ | refine blk_drew ?_ | refine blk_alloc ?_ _)); refine blk_put (cs := #[.int .u64 x230000_1, .int .u64 x230001_1]) ?_ 0 _ rfl; (with_reducible repeat (first | refine blk_drewN ?_ _ | refine blk_drew ?_ | refine blk_alloc ?_ _)); exact BK229.out⟩, ⟨by repeat (first | (with_reducible first | exact HB.out | apply below_alloc | apply pw_below_drewN | apply below_drew1 | refine below_set ?_ GE226.out | refine below_set ?_ GE227.out | refine below_set ?_ GE228.out | refine below_set ?_ GE229.out) | exact HB.out)⟩⟩
        ·rw [if_neg c29] at H
         have c29b0 : ((Go.bits .and .u64 x228001_1 1) == 1) = false := beq_eq_false_iff_ne.mpr c29
         have c29b1 : ((Go.bits .and .u64 x228001_1 1) != 1) = true := bne_iff_ne.mpr c29
         have H' := Aside0.mk H
         clear H
         have hnb37 := NB229_226.out
         have hnc37 := NB226_229.out
         have hnb38 := NB229_227.out
         have hnc38 := NB227_229.out
         have hnb39 := NB229_228.out
         have hnc39 := NB228_229.out
         have hcz40_0 : wc.cell? ⟨gb229, 0, none⟩ = some (.int .u64 x230000_1) := (blk_cell BK229.out 0).trans rfl
         have hcz40_1 : wc.cell? ⟨gb229, 1, none⟩ = some (.int .u64 x230001_1) := (blk_cell BK229.out 1).trans rfl
         have hfz40_0 := blk_frozen BK229.out 0
         have hfz40_1 := blk_frozen BK229.out 1
         have hnb41 := NB227_226.out
         have hnc41 := NB226_227.out
         have hnb42 := NB227_228.out
         have hnc42 := NB228_227.out
         have hcz43_0 : wc.cell? ⟨gb227, 0, none⟩ = some (.int .u64 x228000_1) := (blk_cell BK227.out 0).trans rfl
         have hcz43_1 : wc.cell? ⟨gb227, 1, none⟩ = some (.int .u64 x228001_1) := (blk_cell BK227.out 1).trans rfl
         have hfz43_0 := blk_frozen BK227.out 0
         have hfz43_1 := blk_frozen BK227.out 1
         go_wp2
         go_roundg kj14
         case measure => have := HK1.out; have := HJ14.out; omega
         case rel => exact ⟨(wrap64 (x6_1 + 1)), (x228000_1 / 2), (Go.bits .or .u64 (x228001_1 / 2) (IntKind.u64.wrap (x228000_1 * 9223372036854775808))), (Go.bits .xor .u64 x230000_1 x228000_1), (Go.bits .xor .u64 x230001_1 x228001_1), (by first | rfl | (simp; done) | (simp [*]; done)), H', ⟨by have := HK1.out; have := HJ14.out; omega⟩, ⟨by (with_reducible repeat (first | refine blk_drewN ?_ _ | refine blk_drew ?_ | refine blk_alloc ?_ _)); refine blk_far ?_ NB226_227.out _; (with_reducible repeat (first | refine blk_drewN ?_ _ | refine blk_drew ?_ | refine blk_alloc ?_ _)); refine blk_far ?_ NB226_227.out _; (with_reducible repeat (first | refine blk_drewN ?_ _ | refine blk_drew ?_ | refine blk_alloc ?_ _)); refine blk_far ?_ NB226_229.out _; (with_reducible repeat (first | refine blk_drewN ?_ _ | refine blk_drew ?_ | refine blk_alloc ?_ _)); refine blk_far ?_ NB226_229.out _; (with_reducible repeat (first | refine blk_drewN ?_ _ | refine blk_drew ?_ | refine blk_alloc ?_ _)); exact BK226.out⟩, ⟨by (with_reducible repeat (first | refine blk_drewN ?_ _ | refine blk_drew ?_ | refine blk_alloc ?_ _)); refine blk_put (cs := #[.int .u64 x228000_1, .int .u64 (Go.bits .or .u64 (x228001_1 / 2) (IntKind.u64.wrap (x228000_1 * 9223372036854775808)))]) ?_ 0 _ rfl; (with_reducible repeat (first | refine blk_drewN ?_ _ | refine blk_drew ?_ | refine blk_alloc ?_ _)); refine blk_put (cs := #[.int .u64 x228000_1, .int .u64 x228001_1]) ?_ 1 _ rfl; (with_reducible repeat (first | refine blk_drewN ?_ _ | refine blk_drew ?_ | refine blk_alloc ?_ _)); refine blk_far ?_ NB227_229.out _; (with_reducible repeat (first | refine blk_drewN ?_ _ | refine blk_drew ?_ | refine blk_alloc ?_ _)); refine blk_far ?_ NB227_229.out _; (with_reducible repeat (first | refine blk_drewN ?_ _ | refine blk_drew ?_ | refine blk_alloc ?_ _)); exact BK227.out⟩, ⟨by (with_reducible repeat (first | refine blk_drewN ?_ _ | refine blk_drew ?_ | refine blk_alloc ?_ _)); refine blk_far ?_ NB228_227.out _; (with_reducible repeat (first | refine blk_drewN ?_ _ | refine blk_drew ?_ | refine blk_alloc ?_ _)); refine blk_far ?_ NB228_227.out _; (with_reducible repeat (first | refine blk_drewN ?_ _ | refine blk_drew ?_ | refine blk_alloc ?_ _)); refine blk_far ?_ NB228_229.out _; (with_reducible repeat (first | refine blk_drewN ?_ _ | refine blk_drew ?_ | refine blk_alloc ?_ _)); refine blk_far ?_ NB228_229.out _; (with_reducible repeat (first | refine blk_drewN ?_ _ | refine blk_drew ?_ | refine blk_alloc ?_ _)); exact BK228.out⟩, ⟨by (with_reducible repeat (first | refine blk_drewN ?_ _ | refine blk_drew ?_ | refine blk_alloc ?_ _)); refine blk_far ?_ NB229_227.out _; (with_reducible repeat (first | refine blk_drewN ?_ _ | refine blk_drew ?_ | refine blk_alloc ?_ _)); refine blk_far ?_ NB229_227.out _; (with_reducible repeat (first | refine blk_drewN ?_ _ | refine blk_drew ?_ | refine blk_alloc ?_ _)); refine blk_put (cs := #[.int .u64 (Go.bits .xor .u64 x230000_1 x228000_1), .int .u64 x230001_1]) ?_ 1 _ rfl; (with_reducible repeat (first | refine blk_drewN ?_ _ | refine blk_drew ?_ | refine blk_alloc ?_ _)); refine blk_put (cs := #[.int .u64 x230000_1, .int .u64 x230001_1]) ?_ 0 _ rfl; (with_reducible repeat (first | refine blk_drewN ?_ _ | refine blk_drew ?_ | refine blk_alloc ?_ _)); exact BK229.out⟩, ⟨by repeat (first | (with_reducible first | exact HB.out | apply below_alloc | apply pw_below_drewN | apply below_drew1 | refine below_set ?_ GE226.out | refine below_set ?_ GE227.out | refine below_set ?_ GE228.out | refine below_set ?_ GE229.out) | exact HB.out)⟩⟩
       ·rw [if_neg c28] at H
        have c28b0 : ((Go.bits .and .u64 x7_14 1) == 1) = false := beq_eq_false_iff_ne.mpr c28
        have c28b1 : ((Go.bits .and .u64 x7_14 1) != 1) = true := bne_iff_ne.mpr c28
        by_cases c44 : (Go.bits .and .u64 x228001_1 1) = 1
        ·rw [if_pos c44] at H
         have c44b0 : ((Go.bits .and .u64 x228001_1 1) == 1) = true := beq_iff_eq.mpr c44
         have c44b1 : ((Go.bits .and .u64 x228001_1 1) != 1) = false := bne_eq_false_iff_eq.mpr c44
         clear c44
         have H' := Aside0.mk H
         clear H
         have hnb45 := NB227_226.out
         have hnc45 := NB226_227.out
         have hnb46 := NB227_228.out
         have hnc46 := NB228_227.out
         have hnb47 := NB227_229.out
         have hnc47 := NB229_227.out
         have hcz48_0 : wc.cell? ⟨gb227, 0, none⟩ = some (.int .u64 x228000_1) := (blk_cell BK227.out 0).trans rfl
         have hcz48_1 : wc.cell? ⟨gb227, 1, none⟩ = some (.int .u64 x228001_1) := (blk_cell BK227.out 1).trans rfl
         have hfz48_0 := blk_frozen BK227.out 0
         have hfz48_1 := blk_frozen BK227.out 1
         go_wp2
         go_roundg kj14
         case measure => have := HK1.out; have := HJ14.out; omega
         case rel => exact ⟨(wrap64 (x6_1 + 1)), (Go.bits .xor .u64 (x228000_1 / 2) 16212958658533785600), (Go.bits .or .u64 (x228001_1 / 2) (IntKind.u64.wrap (x228000_1 * 9223372036854775808))), (x230000_1), (x230001_1), (by first | rfl | (simp; done) | (simp [*]; done)), H', ⟨by have := HK1.out; have := HJ14.out; omega⟩, ⟨by (with_reducible repeat (first | refine blk_drewN ?_ _ | refine blk_drew ?_ | refine blk_alloc ?_ _)); refine blk_far ?_ NB226_227.out _; (with_reducible repeat (first | refine blk_drewN ?_ _ | refine blk_drew ?_ | refine blk_alloc ?_ _)); refine blk_far ?_ NB226_227.out _; (with_reducible repeat (first | refine blk_drewN ?_ _ | refine blk_drew ?_ | refine blk_alloc ?_ _)); refine blk_far ?_ NB226_227.out _; (with_reducible repeat (first | refine blk_drewN ?_ _ | refine blk_drew ?_ | refine blk_alloc ?_ _)); exact BK226.out⟩, ⟨by (with_reducible repeat (first | refine blk_drewN ?_ _ | refine blk_drew ?_ | refine blk_alloc ?_ _)); refine blk_put (cs := #[.int .u64 (x228000_1 / 2), .int .u64 (Go.bits .or .u64 (x228001_1 / 2) (IntKind.u64.wrap (x228000_1 * 9223372036854775808)))]) ?_ 0 _ rfl; (with_reducible repeat (first | refine blk_drewN ?_ _ | refine blk_drew ?_ | refine blk_alloc ?_ _)); refine blk_put (cs := #[.int .u64 x228000_1, .int .u64 (Go.bits .or .u64 (x228001_1 / 2) (IntKind.u64.wrap (x228000_1 * 9223372036854775808)))]) ?_ 0 _ rfl; (with_reducible repeat (first | refine blk_drewN ?_ _ | refine blk_drew ?_ | refine blk_alloc ?_ _)); refine blk_put (cs := #[.int .u64 x228000_1, .int .u64 x228001_1]) ?_ 1 _ rfl; (with_reducible repeat (first | refine blk_drewN ?_ _ | refine blk_drew ?_ | refine blk_alloc ?_ _)); exact BK227.out⟩, ⟨by (with_reducible repeat (first | refine blk_drewN ?_ _ | refine blk_drew ?_ | refine blk_alloc ?_ _)); refine blk_far ?_ NB228_227.out _; (with_reducible repeat (first | refine blk_drewN ?_ _ | refine blk_drew ?_ | refine blk_alloc ?_ _)); refine blk_far ?_ NB228_227.out _; (with_reducible repeat (first | refine blk_drewN ?_ _ | refine blk_drew ?_ | refine blk_alloc ?_ _)); refine blk_far ?_ NB228_227.out _; (with_reducible repeat (first | refine blk_drewN ?_ _ | refine blk_drew ?_ | refine blk_alloc ?_ _)); exact BK228.out⟩, ⟨by (with_reducible repeat (first | refine blk_drewN ?_ _ | refine blk_drew ?_ | refine blk_alloc ?_ _)); refine blk_far ?_ NB229_227.out _; (with_reducible repeat (first | refine blk_drewN ?_ _ | refine blk_drew ?_ | refine blk_alloc ?_ _)); refine blk_far ?_ NB229_227.out _; (with_reducible repeat (first | refine blk_drewN ?_ _ | refine blk_drew ?_ | refine blk_alloc ?_ _)); refine blk_far ?_ NB229_227.out _; (with_reducible repeat (first | refine blk_drewN ?_ _ | refine blk_drew ?_ | refine blk_alloc ?_ _)); exact BK229.out⟩, ⟨by repeat (first | (with_reducible first | exact HB.out | apply below_alloc | apply pw_below_drewN | apply below_drew1 | refine below_set ?_ GE226.out | refine below_set ?_ GE227.out | refine below_set ?_ GE228.out | refine below_set ?_ GE229.out) | exact HB.out)⟩⟩
        ·rw [if_neg c44] at H
         have c44b0 : ((Go.bits .and .u64 x228001_1 1) == 1) = false := beq_eq_false_iff_ne.mpr c44
         have c44b1 : ((Go.bits .and .u64 x228001_1 1) != 1) = true := bne_iff_ne.mpr c44
         have H' := Aside0.mk H
         clear H
         have hnb49 := NB227_226.out
         have hnc49 := NB226_227.out
         have hnb50 := NB227_228.out
         have hnc50 := NB228_227.out
         have hnb51 := NB227_229.out
         have hnc51 := NB229_227.out
         have hcz52_0 : wc.cell? ⟨gb227, 0, none⟩ = some (.int .u64 x228000_1) := (blk_cell BK227.out 0).trans rfl
         have hcz52_1 : wc.cell? ⟨gb227, 1, none⟩ = some (.int .u64 x228001_1) := (blk_cell BK227.out 1).trans rfl
         have hfz52_0 := blk_frozen BK227.out 0
         have hfz52_1 := blk_frozen BK227.out 1
         go_wp2
         go_roundg kj14
         case measure => have := HK1.out; have := HJ14.out; omega
         case rel => exact ⟨(wrap64 (x6_1 + 1)), (x228000_1 / 2), (Go.bits .or .u64 (x228001_1 / 2) (IntKind.u64.wrap (x228000_1 * 9223372036854775808))), (x230000_1), (x230001_1), (by first | rfl | (simp; done) | (simp [*]; done)), H', ⟨by have := HK1.out; have := HJ14.out; omega⟩, ⟨by (with_reducible repeat (first | refine blk_drewN ?_ _ | refine blk_drew ?_ | refine blk_alloc ?_ _)); refine blk_far ?_ NB226_227.out _; (with_reducible repeat (first | refine blk_drewN ?_ _ | refine blk_drew ?_ | refine blk_alloc ?_ _)); refine blk_far ?_ NB226_227.out _; (with_reducible repeat (first | refine blk_drewN ?_ _ | refine blk_drew ?_ | refine blk_alloc ?_ _)); exact BK226.out⟩, ⟨by (with_reducible repeat (first | refine blk_drewN ?_ _ | refine blk_drew ?_ | refine blk_alloc ?_ _)); refine blk_put (cs := #[.int .u64 x228000_1, .int .u64 (Go.bits .or .u64 (x228001_1 / 2) (IntKind.u64.wrap (x228000_1 * 9223372036854775808)))]) ?_ 0 _ rfl; (with_reducible repeat (first | refine blk_drewN ?_ _ | refine blk_drew ?_ | refine blk_alloc ?_ _)); refine blk_put (cs := #[.int .u64 x228000_1, .int .u64 x228001_1]) ?_ 1 _ rfl; (with_reducible repeat (first | refine blk_drewN ?_ _ | refine blk_drew ?_ | refine blk_alloc ?_ _)); exact BK227.out⟩, ⟨by (with_reducible repeat (first | refine blk_drewN ?_ _ | refine blk_drew ?_ | refine blk_alloc ?_ _)); refine blk_far ?_ NB228_227.out _; (with_reducible repeat (first | refine blk_drewN ?_ _ | refine blk_drew ?_ | refine blk_alloc ?_ _)); refine blk_far ?_ NB228_227.out _; (with_reducible repeat (first | refine blk_drewN ?_ _ | refine blk_drew ?_ | refine blk_alloc ?_ _)); exact BK228.out⟩, ⟨by (with_reducible repeat (first | refine blk_drewN ?_ _ | refine blk_drew ?_ | refine blk_alloc ?_ _)); refine blk_far ?_ NB229_227.out _; (with_reducible repeat (first | refine blk_drewN ?_ _ | refine blk_drew ?_ | refine blk_alloc ?_ _)); refine blk_far ?_ NB229_227.out _; (with_reducible repeat (first | refine blk_drewN ?_ _ | refine blk_drew ?_ | refine blk_alloc ?_ _)); exact BK229.out⟩, ⟨by repeat (first | (with_reducible first | exact HB.out | apply below_alloc | apply pw_below_drewN | apply below_drew1 | refine below_set ?_ GE226.out | refine below_set ?_ GE227.out | refine below_set ?_ GE228.out | refine below_set ?_ GE229.out) | exact HB.out)⟩⟩
    ·rw [if_neg c13] at H
     exact absurd H (by simp)
   ·rw [if_neg c11] at H
    have c11b0 : decide (x6_1 < 128) = false := decide_eq_false c11
    clear c11
    simp only [Option.some.injEq, Prod.mk.injEq] at H
    obtain ⟨rfl, rfl⟩ := H
    have hnb53 := NB229_226.out
    have hnc53 := NB226_229.out
    have hnb54 := NB229_227.out
    have hnc54 := NB227_229.out
    have hnb55 := NB229_228.out
    have hnc55 := NB228_229.out
    have hcz56_0 : wr.cell? ⟨gb229, 0, none⟩ = some (.int .u64 x230000_1) := (blk_cell BK229.out 0).trans rfl
    have hcz56_1 : wr.cell? ⟨gb229, 1, none⟩ = some (.int .u64 x230001_1) := (blk_cell BK229.out 1).trans rfl
    have hfz56_0 := blk_frozen BK229.out 0
    have hfz56_1 := blk_frozen BK229.out 1
    have hnb57 := NB228_226.out
    have hnc57 := NB226_228.out
    have hnb58 := NB228_227.out
    have hnc58 := NB227_228.out
    have hcz59_0 : wr.cell? ⟨gb228, 0, none⟩ = some (.int .u64 0) := (blk_cell BK228.out 0).trans rfl
    have hcz59_1 : wr.cell? ⟨gb228, 1, none⟩ = some (.int .u64 0) := (blk_cell BK228.out 1).trans rfl
    have hfz59_0 := blk_frozen BK228.out 0
    have hfz59_1 := blk_frozen BK228.out 1
    go_wp2
    refine bodyPost_ret (results_cell_row rfl _ _ gb228 87 #[.int .u64 x230000_1, .int .u64 x230001_1] (0, 0) _ rfl (by (with_reducible repeat (first | refine blk_drewN ?_ _ | refine blk_drew ?_ | refine blk_alloc ?_ _)); refine blk_put (cs := #[.int .u64 x230000_1, .int .u64 0]) ?_ 1 _ rfl; (with_reducible repeat (first | refine blk_drewN ?_ _ | refine blk_drew ?_ | refine blk_alloc ?_ _)); refine blk_put (cs := #[.int .u64 0, .int .u64 0]) ?_ 0 _ rfl; (with_reducible repeat (first | refine blk_drewN ?_ _ | refine blk_drew ?_ | refine blk_alloc ?_ _)); exact BK228.out) Try.underlying87 rfl (by kernel_rfl)) rfl ?_
    exact ⟨by first | rfl | (simp [errW_none, errW_some] <;> rfl) | (simp [*, errW_none, errW_some] <;> rfl), by repeat (first | (with_reducible first | exact HB.out | apply below_alloc | apply pw_below_drewN | apply below_drew1 | refine below_set ?_ GE226.out | refine below_set ?_ GE227.out | refine below_set ?_ GE228.out | refine below_set ?_ GE229.out) | exact HB.out)⟩

/-! ### spec_l5Ghash: function 60 -/
def spec_l5Ghash.l0 : Nat → ByteArray → Int → Int → Int → Int → Int → Option (Int × Int)
 | 0, _, _, _, _, _, _ => none
 | k + 1, x1, x7, x232000, x232001, x235000, x235001 => if x7 < (x1.size : Int) then (if 0 ≤ x7 then (if x7 ≤ (wrap64 (x7 + 16)) then (if (wrap64 (x7 + 16)) ≤ (x1.size : Int) then ((spec_l5Of.f k (x1.extract (x7 : Int).toNat ((wrap64 (x7 + 16)) : Int).toNat)).bind fun bt235 => ((spec_l5Mul.f k (Go.bits .xor .u64 x232000 bt235.1) (Go.bits .xor .u64 x232001 bt235.2) x235000 x235001).bind fun bt238 => (spec_l5Ghash.l0 k x1 (wrap64 (x7 + 16)) bt238.1 bt238.2 x235000 x235001))) else (none)) else (none)) else (none)) else (some (x232000, x232001))
def spec_l5Ghash.f (k : Nat) (a0 : ByteArray) (a1 : ByteArray) : Option (Int × Int) := (spec_l5Of.f k a0).bind fun bt232 => (spec_l5Ghash.l0 k a1 0 0 0 bt232.1 bt232.2)
theorem spec_l5Ghash.mono_l : ∀ k, (∀ y0 y1 y2 y3 y4 y5, LeO (spec_l5Ghash.l0 k y0 y1 y2 y3 y4 y5) (spec_l5Ghash.l0 (k + 1) y0 y1 y2 y3 y4 y5))
 | 0 => fun _ _ _ _ _ _ r h => by simp [spec_l5Ghash.l0] at h
 | k + 1 => by
  have ih0 := spec_l5Ghash.mono_l k
  ·intro y0 y1 y2 y3 y4 y5
   unfold spec_l5Ghash.l0
   repeat' first
   | (with_reducible exact ih0 _ _ _ _ _ _)
   | (with_reducible exact spec_l5Mul.mono _ _ _ _ _)
   | (with_reducible exact spec_l5Of.mono _ _)
   | (with_reducible exact LeO.refl _)
   | (with_reducible exact LeO.none _)
   | (with_reducible refine LeO.ite ?_ ?_)
   | (with_reducible refine LeO.bind ?_ (fun _ => ?_))
   | exact ih0 _ _ _ _ _ _
   | exact spec_l5Mul.mono _ _ _ _ _
   | exact spec_l5Of.mono _ _
   | exact LeO.none _
   | refine LeO.ite ?_ ?_
   | refine LeO.bind ?_ (fun _ => ?_)
theorem spec_l5Ghash.mono : ∀ a0 a1 k, LeO (spec_l5Ghash.f k a0 a1) (spec_l5Ghash.f (k + 1) a0 a1) := by
 intro a0 a1 k
 have ih0 := spec_l5Ghash.mono_l k
 unfold spec_l5Ghash.f
 repeat' first
   | (with_reducible exact ih0 _ _ _ _ _ _)
   | (with_reducible exact spec_l5Mul.mono _ _ _ _ _)
   | (with_reducible exact spec_l5Of.mono _ _)
   | (with_reducible exact LeO.refl _)
   | (with_reducible exact LeO.none _)
   | (with_reducible refine LeO.ite ?_ ?_)
   | (with_reducible refine LeO.bind ?_ (fun _ => ?_))
   | exact ih0 _ _ _ _ _ _
   | exact spec_l5Mul.mono _ _ _ _ _
   | exact spec_l5Of.mono _ _
   | exact LeO.none _
   | refine LeO.ite ?_ ?_
   | refine LeO.bind ?_ (fun _ => ?_)
set_option maxHeartbeats 8000000 in
set_option maxRecDepth 100000 in
theorem spec_l5Ghash.calls (k : Nat) (a0 : ByteArray) (a1 : ByteArray) (r1 : Int) (r2 : Int) (w : World) (h : spec_l5Ghash.f k a0 a1 = some (r1, r2)) :
  Calls Try.prog 60 #[.string a0, .string a1] w fun e w' => e = .returned (.agg #[.int .u64 r1, .int .u64 r2]) ∧ Below w.heap.size w w' := by
 have hu87 := Try.underlying87
 have HB := Aside0.mk (Below.refl w.heap.size w)
 have H : ((spec_l5Of.f k a0).bind fun bt232 => (spec_l5Ghash.l0 k a1 0 0 0 bt232.1 bt232.2)) = some (r1, r2) := h
 clear h
 replace H := Option.bind_eq_some_iff.mp H
 obtain ⟨⟨t232, t233⟩, A30, H⟩ := H
 replace H : (spec_l5Ghash.l0 k a1 0 0 0 t232 t233) = some (r1, r2) := H
 have A3 := Aside0.mk A30
 clear A30
 have H' := Aside0.mk H
 clear H
 go_enter Try.func60, Try.ntmps60
 go_wp2_with (first | ((with_reducible refine gate_dst (N := 4) rfl ?_); refine box_event ?hg (N := 4) ?hd (cs := #[.int .u64 0, .int .u64 0]) (t := 87) ?hr ?_; (case hd => rfl); (case hg => rfl); (case hr => first | (go_simp; done) | (go_simp; rfl)); intro gb230 hg w4 hbox hb; have n0_ := Aside0.mk (below_step (by repeat (first | (with_reducible first | exact HB.out | apply below_alloc | apply pw_below_drewN | apply below_drew1) | exact HB.out)) hb); have n1_ := Aside0.mk (hbox); have n2_ := Aside0.mk ((by rw [hg]; exact (below_size (by repeat (first | (with_reducible first | exact HB.out | apply below_alloc | apply pw_below_drewN | apply below_drew1) | exact HB.out))) : w.heap.size ≤ gb230)); have n3_ := Aside0.mk ((by rw [hg]; exact (below_size (by repeat (first | (with_reducible first | exact HB.out | apply below_alloc | apply pw_below_drewN | apply below_drew1) | exact HB.out))) : w.heap.size ≤ gb230)); clear HB; have HB := n0_; have BK230 := n1_; have GW230 := n2_; have GE230 := n3_; clear n0_ n1_ n2_ n3_; clear hb hbox hg) | ((with_reducible refine gate_dst (N := 5) rfl ?_); refine box_event ?hg (N := 5) ?hd (cs := #[.int .u64 0, .int .u64 0]) (t := 87) ?hr ?_; (case hd => rfl); (case hg => rfl); (case hr => first | (go_simp; done) | (go_simp; rfl)); intro gb231 hg w5 hbox hb; have n0_ := Aside0.mk (blk_below (g := gb230) (o := .cells #[.int .u64 0, .int .u64 0] 87 (0, 0)) (by (with_reducible repeat (first | refine blk_drewN ?_ _ | refine blk_drew ?_ | refine blk_alloc ?_ _)); exact BK230.out) hb); have n1_ := Aside0.mk (below_step (by repeat (first | (with_reducible first | exact HB.out | apply below_alloc | apply pw_below_drewN | apply below_drew1 | refine below_set ?_ GE230.out) | exact HB.out)) hb); have n2_ := Aside0.mk (hbox); have n3_ := Aside0.mk ((by rw [hg]; exact (below_size (by repeat (first | (with_reducible first | exact HB.out | apply below_alloc | apply pw_below_drewN | apply below_drew1 | refine below_set ?_ GE230.out) | exact HB.out))) : w.heap.size ≤ gb231)); have n4_ := Aside0.mk ((by rw [hg]; exact (below_size (by repeat (first | (with_reducible first | exact HB.out | apply below_alloc | apply pw_below_drewN | apply below_drew1 | refine below_set ?_ GE230.out) | exact HB.out))) : w.heap.size ≤ gb231)); have n5_ := Aside0.mk ((by rw [hg]; exact Nat.ne_of_lt (blk_lt (g := gb230) (o := .cells #[.int .u64 0, .int .u64 0] 87 (0, 0)) (by (with_reducible repeat (first | refine blk_drewN ?_ _ | refine blk_drew ?_ | refine blk_alloc ?_ _)); exact BK230.out)) : gb230 ≠ gb231)); have n6_ := Aside0.mk ((by rw [hg]; exact Nat.ne_of_gt (blk_lt (g := gb230) (o := .cells #[.int .u64 0, .int .u64 0] 87 (0, 0)) (by (with_reducible repeat (first | refine blk_drewN ?_ _ | refine blk_drew ?_ | refine blk_alloc ?_ _)); exact BK230.out)) : gb231 ≠ gb230)); clear BK230; clear HB; have BK230 := n0_; have HB := n1_; have BK231 := n2_; have GW231 := n3_; have GE231 := n4_; have NB230_231 := n5_; have NB231_230 := n6_; clear n0_ n1_ n2_ n3_ n4_ n5_ n6_; clear hb hbox hg; have hnb6 := NB231_230.out; have hnc6 := NB230_231.out; have hcz7_0 : w5.cell? ⟨gb231, 0, none⟩ = some (.int .u64 0) := (blk_cell BK231.out 0).trans rfl; have hcz7_1 : w5.cell? ⟨gb231, 1, none⟩ = some (.int .u64 0) := (blk_cell BK231.out 1).trans rfl; have hfz7_0 := blk_frozen BK231.out 0; have hfz7_1 := blk_frozen BK231.out 1) | ((with_reducible refine gate_callee (f := 97) rfl ?_); refine goesL_ (some 11) rfl rfl Try.func97 (by kernel_rfl) rfl #[.string a0] rfl (by (try simp only [List.map_toArray, List.map_cons, List.map_nil]); first | done | rfl | (simp only [List.length_drop, List.length_take]; rfl)) ?_; (with_reducible refine (spec_l5Of.calls k a0 t232 t233 _ A3.out).mono ?_); rintro e w8 ⟨rfl, hb⟩; refine ⟨_, rfl, ?_⟩; have n0_ := Aside0.mk (blk_below (g := gb230) (o := .cells #[.int .u64 0, .int .u64 0] 87 (0, 0)) (by (with_reducible repeat (first | refine blk_drewN ?_ _ | refine blk_drew ?_ | refine blk_alloc ?_ _)); refine blk_far ?_ NB230_231.out _; (with_reducible repeat (first | refine blk_drewN ?_ _ | refine blk_drew ?_ | refine blk_alloc ?_ _)); refine blk_far ?_ NB230_231.out _; (with_reducible repeat (first | refine blk_drewN ?_ _ | refine blk_drew ?_ | refine blk_alloc ?_ _)); exact BK230.out) hb); have n1_ := Aside0.mk (blk_below (g := gb231) (o := .cells #[.int .u64 0, .int .u64 0] 87 (0, 0)) (by (with_reducible repeat (first | refine blk_drewN ?_ _ | refine blk_drew ?_ | refine blk_alloc ?_ _)); refine blk_put (cs := #[.int .u64 0, .int .u64 0]) ?_ 1 _ rfl; (with_reducible repeat (first | refine blk_drewN ?_ _ | refine blk_drew ?_ | refine blk_alloc ?_ _)); refine blk_put (cs := #[.int .u64 0, .int .u64 0]) ?_ 0 _ rfl; (with_reducible repeat (first | refine blk_drewN ?_ _ | refine blk_drew ?_ | refine blk_alloc ?_ _)); exact BK231.out) hb); have n2_ := Aside0.mk (below_step (by repeat (first | (with_reducible first | exact HB.out | apply below_alloc | apply pw_below_drewN | apply below_drew1 | refine below_set ?_ GE230.out | refine below_set ?_ GE231.out) | exact HB.out)) hb); clear BK230; clear BK231; clear HB; have BK230 := n0_; have BK231 := n1_; have HB := n2_; clear n0_ n1_ n2_; (try clear hb); (try clear hb2); (try clear hk); (try clear hi)) | ((with_reducible refine gate_dst (N := 6) rfl ?_); refine box_event ?hg (N := 6) ?hd (cs := #[.int .u64 0, .int .u64 0]) (t := 87) ?hr ?_; (case hd => rfl); (case hg => rfl); (case hr => first | (go_simp; done) | (go_simp; rfl)); intro gb234 hg w9 hbox hb; have n0_ := Aside0.mk (blk_below (g := gb230) (o := .cells #[.int .u64 0, .int .u64 0] 87 (0, 0)) (by (with_reducible repeat (first | refine blk_drewN ?_ _ | refine blk_drew ?_ | refine blk_alloc ?_ _)); exact BK230.out) hb); have n1_ := Aside0.mk (blk_below (g := gb231) (o := .cells #[.int .u64 0, .int .u64 0] 87 (0, 0)) (by (with_reducible repeat (first | refine blk_drewN ?_ _ | refine blk_drew ?_ | refine blk_alloc ?_ _)); exact BK231.out) hb); have n2_ := Aside0.mk (below_step (by repeat (first | (with_reducible first | exact HB.out | apply below_alloc | apply pw_below_drewN | apply below_drew1 | refine below_set ?_ GE230.out | refine below_set ?_ GE231.out) | exact HB.out)) hb); have n3_ := Aside0.mk (hbox); have n4_ := Aside0.mk ((by rw [hg]; exact (below_size (by repeat (first | (with_reducible first | exact HB.out | apply below_alloc | apply pw_below_drewN | apply below_drew1 | refine below_set ?_ GE230.out | refine below_set ?_ GE231.out) | exact HB.out))) : w.heap.size ≤ gb234)); have n5_ := Aside0.mk ((by rw [hg]; exact (below_size (by repeat (first | (with_reducible first | exact HB.out | apply below_alloc | apply pw_below_drewN | apply below_drew1 | refine below_set ?_ GE230.out | refine below_set ?_ GE231.out) | exact HB.out))) : w.heap.size ≤ gb234)); have n6_ := Aside0.mk ((by rw [hg]; exact Nat.ne_of_lt (blk_lt (g := gb230) (o := .cells #[.int .u64 0, .int .u64 0] 87 (0, 0)) (by (with_reducible repeat (first | refine blk_drewN ?_ _ | refine blk_drew ?_ | refine blk_alloc ?_ _)); exact BK230.out)) : gb230 ≠ gb234)); have n7_ := Aside0.mk ((by rw [hg]; exact Nat.ne_of_gt (blk_lt (g := gb230) (o := .cells #[.int .u64 0, .int .u64 0] 87 (0, 0)) (by (with_reducible repeat (first | refine blk_drewN ?_ _ | refine blk_drew ?_ | refine blk_alloc ?_ _)); exact BK230.out)) : gb234 ≠ gb230)); have n8_ := Aside0.mk ((by rw [hg]; exact Nat.ne_of_lt (blk_lt (g := gb231) (o := .cells #[.int .u64 0, .int .u64 0] 87 (0, 0)) (by (with_reducible repeat (first | refine blk_drewN ?_ _ | refine blk_drew ?_ | refine blk_alloc ?_ _)); exact BK231.out)) : gb231 ≠ gb234)); have n9_ := Aside0.mk ((by rw [hg]; exact Nat.ne_of_gt (blk_lt (g := gb231) (o := .cells #[.int .u64 0, .int .u64 0] 87 (0, 0)) (by (with_reducible repeat (first | refine blk_drewN ?_ _ | refine blk_drew ?_ | refine blk_alloc ?_ _)); exact BK231.out)) : gb234 ≠ gb231)); clear BK230; clear BK231; clear HB; have BK230 := n0_; have BK231 := n1_; have HB := n2_; have BK234 := n3_; have GW234 := n4_; have GE234 := n5_; have NB230_234 := n6_; have NB234_230 := n7_; have NB231_234 := n8_; have NB234_231 := n9_; clear n0_ n1_ n2_ n3_ n4_ n5_ n6_ n7_ n8_ n9_; clear hb hbox hg; have hnb10 := NB234_230.out; have hnc10 := NB230_234.out; have hnb11 := NB234_231.out; have hnc11 := NB231_234.out; have hcz12_0 : w9.cell? ⟨gb234, 0, none⟩ = some (.int .u64 0) := (blk_cell BK234.out 0).trans rfl; have hcz12_1 : w9.cell? ⟨gb234, 1, none⟩ = some (.int .u64 0) := (blk_cell BK234.out 1).trans rfl; have hfz12_0 := blk_frozen BK234.out 0; have hfz12_1 := blk_frozen BK234.out 1))
 go_loopg [7] k (fun kq v7 w' => ∃ (x7_1 : Int) (x232000_1 : Int) (x232001_1 : Int), v7 = .int .i64 x7_1 ∧ Aside0 (spec_l5Ghash.l0 kq a1 x7_1 x232000_1 x232001_1 t232 t233 = some (r1, r2)) ∧ Aside0 (kq ≤ k) ∧ Aside0 (w'.heap[gb230]? = some (.cells #[.int .u64 0, .int .u64 0] 87 (0, 0))) ∧ Aside0 (w'.heap[gb231]? = some (.cells #[.int .u64 x232000_1, .int .u64 x232001_1] 87 (0, 0))) ∧ Aside0 (w'.heap[gb234]? = some (.cells #[.int .u64 t232, .int .u64 t233] 87 (0, 0))) ∧ Aside0 (Below w.heap.size w w'))
 case atStart => exact ⟨(0), (0), (0), (by first | rfl | (simp; done) | (simp [*]; done)), H', ⟨Nat.le_refl _⟩, ⟨by (with_reducible repeat (first | refine blk_drewN ?_ _ | refine blk_drew ?_ | refine blk_alloc ?_ _)); refine blk_far ?_ NB230_234.out _; (with_reducible repeat (first | refine blk_drewN ?_ _ | refine blk_drew ?_ | refine blk_alloc ?_ _)); refine blk_far ?_ NB230_234.out _; (with_reducible repeat (first | refine blk_drewN ?_ _ | refine blk_drew ?_ | refine blk_alloc ?_ _)); exact BK230.out⟩, ⟨by (with_reducible repeat (first | refine blk_drewN ?_ _ | refine blk_drew ?_ | refine blk_alloc ?_ _)); refine blk_far ?_ NB231_234.out _; (with_reducible repeat (first | refine blk_drewN ?_ _ | refine blk_drew ?_ | refine blk_alloc ?_ _)); refine blk_far ?_ NB231_234.out _; (with_reducible repeat (first | refine blk_drewN ?_ _ | refine blk_drew ?_ | refine blk_alloc ?_ _)); exact BK231.out⟩, ⟨by (with_reducible repeat (first | refine blk_drewN ?_ _ | refine blk_drew ?_ | refine blk_alloc ?_ _)); refine blk_put (cs := #[.int .u64 t232, .int .u64 0]) ?_ 1 _ rfl; (with_reducible repeat (first | refine blk_drewN ?_ _ | refine blk_drew ?_ | refine blk_alloc ?_ _)); refine blk_put (cs := #[.int .u64 0, .int .u64 0]) ?_ 0 _ rfl; (with_reducible repeat (first | refine blk_drewN ?_ _ | refine blk_drew ?_ | refine blk_alloc ?_ _)); exact BK234.out⟩, ⟨by repeat (first | (with_reducible first | exact HB.out | apply below_alloc | apply pw_below_drewN | apply below_drew1 | refine below_set ?_ GE230.out | refine below_set ?_ GE231.out | refine below_set ?_ GE234.out) | exact HB.out)⟩⟩
 case round =>
  clear H'
  try clear c1; try clear p2; try clear c6; try clear c9; try clear c10; try clear c11; try clear hcz12_0; try clear hcz12_1; try clear hcz7_0; try clear hcz7_1; try clear hfz12_0; try clear hfz12_1; try clear hfz7_0; try clear hfz7_1
  obtain ⟨x7_1, x232000_1, x232001_1, rfl, HA, HK1, BK230, BK231, BK234, HB⟩ := hrel
  cases gk with
  | zero => exact absurd HA.out (by simp [spec_l5Ghash.l0])
  | succ k1 =>
   have H := HA.out
   clear HA
   simp only [spec_l5Ghash.l0] at H
   by_cases c13 : x7_1 < (a1.size : Int)
   ·rw [if_pos c13] at H
    have c13b0 : decide (x7_1 < (a1.size : Int)) = true := decide_eq_true c13
    clear c13
    by_cases c14 : 0 ≤ x7_1
    ·rw [if_pos c14] at H
     have c14b0 := eq_true c14
     have c14b1 : decide (0 ≤ x7_1) = true := decide_eq_true c14
     clear c14
     by_cases c15 : x7_1 ≤ (wrap64 (x7_1 + 16))
     ·rw [if_pos c15] at H
      have c15b0 := eq_true c15
      have c15b1 : decide (x7_1 ≤ (wrap64 (x7_1 + 16))) = true := decide_eq_true c15
      by_cases c16 : (wrap64 (x7_1 + 16)) ≤ (a1.size : Int)
      ·rw [if_pos c16] at H
       have c16b0 := eq_true c16
       have c16b1 : decide ((wrap64 (x7_1 + 16)) ≤ (a1.size : Int)) = true := decide_eq_true c16
       replace H := Option.bind_eq_some_iff.mp H
       obtain ⟨⟨t235, t236⟩, A170, H⟩ := H
       replace H : ((spec_l5Mul.f k1 (Go.bits .xor .u64 x232000_1 t235) (Go.bits .xor .u64 x232001_1 t236) t232 t233).bind fun bt238 => (spec_l5Ghash.l0 k1 a1 (wrap64 (x7_1 + 16)) bt238.1 bt238.2 t232 t233)) = some (r1, r2) := H
       have A17 := Aside0.mk A170
       clear A170
       replace H := Option.bind_eq_some_iff.mp H
       obtain ⟨⟨t238, t239⟩, A180, H⟩ := H
       replace H : (spec_l5Ghash.l0 k1 a1 (wrap64 (x7_1 + 16)) t238 t239 t232 t233) = some (r1, r2) := H
       have A18 := Aside0.mk A180
       clear A180
       have H' := Aside0.mk H
       clear H
       go_wp2_with (first | ((with_reducible refine gate_callee (f := 97) rfl ?_); refine goesL_ (some 23) rfl rfl Try.func97 (by kernel_rfl) rfl #[.string (a1.extract (x7_1 : Int).toNat ((wrap64 (x7_1 + 16)) : Int).toNat)] rfl (by (try simp only [List.map_toArray, List.map_cons, List.map_nil]); first | done | rfl | (simp only [List.length_drop, List.length_take]; rfl)) ?_; (with_reducible refine (spec_l5Of.calls k1 (a1.extract (x7_1 : Int).toNat ((wrap64 (x7_1 + 16)) : Int).toNat) t235 t236 _ A17.out).mono ?_); rintro e w19 ⟨rfl, hb⟩; refine ⟨_, rfl, ?_⟩; have n0_ := Aside0.mk (blk_below (g := gb230) (o := .cells #[.int .u64 0, .int .u64 0] 87 (0, 0)) (by (with_reducible repeat (first | refine blk_drewN ?_ _ | refine blk_drew ?_ | refine blk_alloc ?_ _)); exact BK230.out) hb); have n1_ := Aside0.mk (blk_below (g := gb231) (o := .cells #[.int .u64 x232000_1, .int .u64 x232001_1] 87 (0, 0)) (by (with_reducible repeat (first | refine blk_drewN ?_ _ | refine blk_drew ?_ | refine blk_alloc ?_ _)); exact BK231.out) hb); have n2_ := Aside0.mk (blk_below (g := gb234) (o := .cells #[.int .u64 t232, .int .u64 t233] 87 (0, 0)) (by (with_reducible repeat (first | refine blk_drewN ?_ _ | refine blk_drew ?_ | refine blk_alloc ?_ _)); exact BK234.out) hb); have n3_ := Aside0.mk (below_step (by repeat (first | (with_reducible first | exact HB.out | apply below_alloc | apply pw_below_drewN | apply below_drew1 | refine below_set ?_ GE230.out | refine below_set ?_ GE231.out | refine below_set ?_ GE234.out) | exact HB.out)) hb); clear BK230; clear BK231; clear BK234; clear HB; have BK230 := n0_; have BK231 := n1_; have BK234 := n2_; have HB := n3_; clear n0_ n1_ n2_ n3_; (try clear hb); (try clear hb2); (try clear hk); (try clear hi)) | ((with_reducible refine gate_dst (N := 8) rfl ?_); refine box_event ?hg (N := 8) ?hd (cs := #[.int .u64 0, .int .u64 0]) (t := 87) ?hr ?_; (case hd => rfl); (case hg => rfl); (case hr => first | (go_simp; done) | (go_simp; rfl)); intro gb237 hg w20 hbox hb; have n0_ := Aside0.mk (blk_below (g := gb230) (o := .cells #[.int .u64 0, .int .u64 0] 87 (0, 0)) (by (with_reducible repeat (first | refine blk_drewN ?_ _ | refine blk_drew ?_ | refine blk_alloc ?_ _)); exact BK230.out) hb); have n1_ := Aside0.mk (blk_below (g := gb231) (o := .cells #[.int .u64 x232000_1, .int .u64 x232001_1] 87 (0, 0)) (by (with_reducible repeat (first | refine blk_drewN ?_ _ | refine blk_drew ?_ | refine blk_alloc ?_ _)); exact BK231.out) hb); have n2_ := Aside0.mk (blk_below (g := gb234) (o := .cells #[.int .u64 t232, .int .u64 t233] 87 (0, 0)) (by (with_reducible repeat (first | refine blk_drewN ?_ _ | refine blk_drew ?_ | refine blk_alloc ?_ _)); exact BK234.out) hb); have n3_ := Aside0.mk (below_step (by repeat (first | (with_reducible first | exact HB.out | apply below_alloc | apply pw_below_drewN | apply below_drew1 | refine below_set ?_ GE230.out | refine below_set ?_ GE231.out | refine below_set ?_ GE234.out) | exact HB.out)) hb); have n4_ := Aside0.mk (hbox); have n5_ := Aside0.mk ((by rw [hg]; exact (below_size (by repeat (first | (with_reducible first | exact HB.out | apply below_alloc | apply pw_below_drewN | apply below_drew1 | refine below_set ?_ GE230.out | refine below_set ?_ GE231.out | refine below_set ?_ GE234.out) | exact HB.out))) : w.heap.size ≤ gb237)); have n6_ := Aside0.mk ((by rw [hg]; exact (below_size (by repeat (first | (with_reducible first | exact HB.out | apply below_alloc | apply pw_below_drewN | apply below_drew1 | refine below_set ?_ GE230.out | refine below_set ?_ GE231.out | refine below_set ?_ GE234.out) | exact HB.out))) : w.heap.size ≤ gb237)); have n7_ := Aside0.mk ((by rw [hg]; exact Nat.ne_of_lt (blk_lt (g := gb230) (o := .cells #[.int .u64 0, .int .u64 0] 87 (0, 0)) (by (with_reducible repeat (first | refine blk_drewN ?_ _ | refine blk_drew ?_ | refine blk_alloc ?_ _)); exact BK230.out)) : gb230 ≠ gb237)); have n8_ := Aside0.mk ((by rw [hg]; exact Nat.ne_of_gt (blk_lt (g := gb230) (o := .cells #[.int .u64 0, .int .u64 0] 87 (0, 0)) (by (with_reducible repeat (first | refine blk_drewN ?_ _ | refine blk_drew ?_ | refine blk_alloc ?_ _)); exact BK230.out)) : gb237 ≠ gb230)); have n9_ := Aside0.mk ((by rw [hg]; exact Nat.ne_of_lt (blk_lt (g := gb231) (o := .cells #[.int .u64 x232000_1, .int .u64 x232001_1] 87 (0, 0)) (by (with_reducible repeat (first | refine blk_drewN ?_ _ | refine blk_drew ?_ | refine blk_alloc ?_ _)); exact BK231.out)) : gb231 ≠ gb237)); have n10_ := Aside0.mk ((by rw [hg]; exact Nat.ne_of_gt (blk_lt (g := gb231) (o := .cells #[.int .u64 x232000_1, .int .u64 x232001_1] 87 (0, 0)) (by (with_reducible repeat (first | refine blk_drewN ?_ _ | refine blk_drew ?_ | refine blk_alloc ?_ _)); exact BK231.out)) : gb237 ≠ gb231)); have n11_ := Aside0.mk ((by rw [hg]; exact Nat.ne_of_lt (blk_lt (g := gb234) (o := .cells #[.int .u64 t232, .int .u64 t233] 87 (0, 0)) (by (with_reducible repeat (first | refine blk_drewN ?_ _ | refine blk_drew ?_ | refine blk_alloc ?_ _)); exact BK234.out)) : gb234 ≠ gb237)); have n12_ := Aside0.mk ((by rw [hg]; exact Nat.ne_of_gt (blk_lt (g := gb234) (o := .cells #[.int .u64 t232, .int .u64 t233] 87 (0, 0)) (by (with_reducible repeat (first | refine blk_drewN ?_ _ | refine blk_drew ?_ | refine blk_alloc ?_ _)); exact BK234.out)) : gb237 ≠ gb234)); clear BK230; clear BK231; clear BK234; clear HB; have BK230 := n0_; have BK231 := n1_; have BK234 := n2_; have HB := n3_; have BK237 := n4_; have GW237 := n5_; have GE237 := n6_; have NB230_237 := n7_; have NB237_230 := n8_; have NB231_237 := n9_; have NB237_231 := n10_; have NB234_237 := n11_; have NB237_234 := n12_; clear n0_ n1_ n2_ n3_ n4_ n5_ n6_ n7_ n8_ n9_ n10_ n11_ n12_; clear hb hbox hg; have hnb21 := NB237_230.out; have hnc21 := NB230_237.out; have hnb22 := NB237_231.out; have hnc22 := NB231_237.out; have hnb23 := NB237_234.out; have hnc23 := NB234_237.out; have hcz24_0 : w20.cell? ⟨gb237, 0, none⟩ = some (.int .u64 0) := (blk_cell BK237.out 0).trans rfl; have hcz24_1 : w20.cell? ⟨gb237, 1, none⟩ = some (.int .u64 0) := (blk_cell BK237.out 1).trans rfl; have hfz24_0 := blk_frozen BK237.out 0; have hfz24_1 := blk_frozen BK237.out 1; have hnb25 := NB231_230.out; have hnc25 := NB230_231.out; have hnb26 := NB231_234.out; have hnc26 := NB234_231.out; have hcz27_0 : w20.cell? ⟨gb231, 0, none⟩ = some (.int .u64 x232000_1) := (blk_cell BK231.out 0).trans rfl; have hcz27_1 : w20.cell? ⟨gb231, 1, none⟩ = some (.int .u64 x232001_1) := (blk_cell BK231.out 1).trans rfl; have hfz27_0 := blk_frozen BK231.out 0; have hfz27_1 := blk_frozen BK231.out 1; have hnb28 := NB234_230.out; have hnc28 := NB230_234.out; have hcz29_0 : w20.cell? ⟨gb234, 0, none⟩ = some (.int .u64 t232) := (blk_cell BK234.out 0).trans rfl; have hcz29_1 : w20.cell? ⟨gb234, 1, none⟩ = some (.int .u64 t233) := (blk_cell BK234.out 1).trans rfl; have hfz29_0 := blk_frozen BK234.out 0; have hfz29_1 := blk_frozen BK234.out 1) | ((with_reducible refine gate_callee (f := 98) rfl ?_); refine goesL_ (some 38) rfl rfl Try.func98 (by kernel_rfl) rfl #[.agg #[.int .u64 (Go.bits .xor .u64 x232000_1 t235), .int .u64 (Go.bits .xor .u64 x232001_1 t236)], .agg #[.int .u64 t232, .int .u64 t233]] rfl (by (try simp only [List.map_toArray, List.map_cons, List.map_nil]); first | done | rfl | (simp only [List.length_drop, List.length_take]; rfl)) ?_; (with_reducible refine (spec_l5Mul.calls k1 (Go.bits .xor .u64 x232000_1 t235) (Go.bits .xor .u64 x232001_1 t236) t232 t233 t238 t239 _ A18.out).mono ?_); rintro e w30 ⟨rfl, hb⟩; refine ⟨_, rfl, ?_⟩; have n0_ := Aside0.mk (blk_below (g := gb230) (o := .cells #[.int .u64 0, .int .u64 0] 87 (0, 0)) (by (with_reducible repeat (first | refine blk_drewN ?_ _ | refine blk_drew ?_ | refine blk_alloc ?_ _)); refine blk_far ?_ NB230_231.out _; (with_reducible repeat (first | refine blk_drewN ?_ _ | refine blk_drew ?_ | refine blk_alloc ?_ _)); refine blk_far ?_ NB230_231.out _; (with_reducible repeat (first | refine blk_drewN ?_ _ | refine blk_drew ?_ | refine blk_alloc ?_ _)); refine blk_far ?_ NB230_237.out _; (with_reducible repeat (first | refine blk_drewN ?_ _ | refine blk_drew ?_ | refine blk_alloc ?_ _)); refine blk_far ?_ NB230_237.out _; (with_reducible repeat (first | refine blk_drewN ?_ _ | refine blk_drew ?_ | refine blk_alloc ?_ _)); exact BK230.out) hb); have n1_ := Aside0.mk (blk_below (g := gb231) (o := .cells #[.int .u64 (Go.bits .xor .u64 x232000_1 t235), .int .u64 (Go.bits .xor .u64 x232001_1 t236)] 87 (0, 0)) (by (with_reducible repeat (first | refine blk_drewN ?_ _ | refine blk_drew ?_ | refine blk_alloc ?_ _)); refine blk_put (cs := #[.int .u64 (Go.bits .xor .u64 x232000_1 t235), .int .u64 x232001_1]) ?_ 1 _ rfl; (with_reducible repeat (first | refine blk_drewN ?_ _ | refine blk_drew ?_ | refine blk_alloc ?_ _)); refine blk_put (cs := #[.int .u64 x232000_1, .int .u64 x232001_1]) ?_ 0 _ rfl; (with_reducible repeat (first | refine blk_drewN ?_ _ | refine blk_drew ?_ | refine blk_alloc ?_ _)); refine blk_far ?_ NB231_237.out _; (with_reducible repeat (first | refine blk_drewN ?_ _ | refine blk_drew ?_ | refine blk_alloc ?_ _)); refine blk_far ?_ NB231_237.out _; (with_reducible repeat (first | refine blk_drewN ?_ _ | refine blk_drew ?_ | refine blk_alloc ?_ _)); exact BK231.out) hb); have n2_ := Aside0.mk (blk_below (g := gb234) (o := .cells #[.int .u64 t232, .int .u64 t233] 87 (0, 0)) (by (with_reducible repeat (first | refine blk_drewN ?_ _ | refine blk_drew ?_ | refine blk_alloc ?_ _)); refine blk_far ?_ NB234_231.out _; (with_reducible repeat (first | refine blk_drewN ?_ _ | refine blk_drew ?_ | refine blk_alloc ?_ _)); refine blk_far ?_ NB234_231.out _; (with_reducible repeat (first | refine blk_drewN ?_ _ | refine blk_drew ?_ | refine blk_alloc ?_ _)); refine blk_far ?_ NB234_237.out _; (with_reducible repeat (first | refine blk_drewN ?_ _ | refine blk_drew ?_ | refine blk_alloc ?_ _)); refine blk_far ?_ NB234_237.out _; (with_reducible repeat (first | refine blk_drewN ?_ _ | refine blk_drew ?_ | refine blk_alloc ?_ _)); exact BK234.out) hb); have n3_ := Aside0.mk (blk_below (g := gb237) (o := .cells #[.int .u64 t235, .int .u64 t236] 87 (0, 0)) (by (with_reducible repeat (first | refine blk_drewN ?_ _ | refine blk_drew ?_ | refine blk_alloc ?_ _)); refine blk_far ?_ NB237_231.out _; (with_reducible repeat (first | refine blk_drewN ?_ _ | refine blk_drew ?_ | refine blk_alloc ?_ _)); refine blk_far ?_ NB237_231.out _; (with_reducible repeat (first | refine blk_drewN ?_ _ | refine blk_drew ?_ | refine blk_alloc ?_ _)); refine blk_put (cs := #[.int .u64 t235, .int .u64 0]) ?_ 1 _ rfl; (with_reducible repeat (first | refine blk_drewN ?_ _ | refine blk_drew ?_ | refine blk_alloc ?_ _)); refine blk_put (cs := #[.int .u64 0, .int .u64 0]) ?_ 0 _ rfl; (with_reducible repeat (first | refine blk_drewN ?_ _ | refine blk_drew ?_ | refine blk_alloc ?_ _)); exact BK237.out) hb); have n4_ := Aside0.mk (below_step (by repeat (first | (with_reducible first | exact HB.out | apply below_alloc | apply pw_below_drewN | apply below_drew1 | refine below_set ?_ GE230.out | refine below_set ?_ GE231.out | refine below_set ?_ GE234.out | refine below_set ?_ GE237.out) | exact HB.out)) hb); clear BK230; clear BK231; clear BK234; clear BK237; clear HB; have BK230 := n0_; have BK231 := n1_; have BK234 := n2_; have BK237 := n3_; have HB := n4_; clear n0_ n1_ n2_ n3_ n4_; (try clear hb); (try clear hb2); (try clear hk); (try clear hi); have hcz31_0 : w30.cell? ⟨gb231, 0, none⟩ = some (.int .u64 (Go.bits .xor .u64 x232000_1 t235)) := (blk_cell BK231.out 0).trans rfl; have hcz31_1 : w30.cell? ⟨gb231, 1, none⟩ = some (.int .u64 (Go.bits .xor .u64 x232001_1 t236)) := (blk_cell BK231.out 1).trans rfl; have hfz31_0 := blk_frozen BK231.out 0; have hfz31_1 := blk_frozen BK231.out 1))
       go_roundg k1
       case measure => have := HK1.out; omega
       case rel => exact ⟨(wrap64 (x7_1 + 16)), (t238), (t239), (by first | rfl | (simp; done) | (simp [*]; done)), H', ⟨by have := HK1.out; omega⟩, ⟨by (with_reducible repeat (first | refine blk_drewN ?_ _ | refine blk_drew ?_ | refine blk_alloc ?_ _)); refine blk_far ?_ NB230_231.out _; (with_reducible repeat (first | refine blk_drewN ?_ _ | refine blk_drew ?_ | refine blk_alloc ?_ _)); refine blk_far ?_ NB230_231.out _; (with_reducible repeat (first | refine blk_drewN ?_ _ | refine blk_drew ?_ | refine blk_alloc ?_ _)); exact BK230.out⟩, ⟨by (with_reducible repeat (first | refine blk_drewN ?_ _ | refine blk_drew ?_ | refine blk_alloc ?_ _)); refine blk_put (cs := #[.int .u64 t238, .int .u64 (Go.bits .xor .u64 x232001_1 t236)]) ?_ 1 _ rfl; (with_reducible repeat (first | refine blk_drewN ?_ _ | refine blk_drew ?_ | refine blk_alloc ?_ _)); refine blk_put (cs := #[.int .u64 (Go.bits .xor .u64 x232000_1 t235), .int .u64 (Go.bits .xor .u64 x232001_1 t236)]) ?_ 0 _ rfl; (with_reducible repeat (first | refine blk_drewN ?_ _ | refine blk_drew ?_ | refine blk_alloc ?_ _)); exact BK231.out⟩, ⟨by (with_reducible repeat (first | refine blk_drewN ?_ _ | refine blk_drew ?_ | refine blk_alloc ?_ _)); refine blk_far ?_ NB234_231.out _; (with_reducible repeat (first | refine blk_drewN ?_ _ | refine blk_drew ?_ | refine blk_alloc ?_ _)); refine blk_far ?_ NB234_231.out _; (with_reducible repeat (first | refine blk_drewN ?_ _ | refine blk_drew ?_ | refine blk_alloc ?_ _)); exact BK234.out⟩, ⟨by repeat (first | (with_reducible first | exact HB.out | apply below_alloc | apply pw_below_drewN | apply below_drew1 | refine below_set ?_ GE230.out | refine below_set ?_ GE231.out | refine below_set ?_ GE234.out | refine below_set ?_ GE237.out) | exact HB.out)⟩⟩
      ·rw [if_neg c16] at H
       exact absurd H (by simp)
     ·rw [if_neg c15] at H
      exact absurd H (by simp)
    ·rw [if_neg c14] at H
     exact absurd H (by simp)
   ·rw [if_neg c13] at H
    have c13b0 : decide (x7_1 < (a1.size : Int)) = false := decide_eq_false c13
    clear c13
    simp only [Option.some.injEq, Prod.mk.injEq] at H
    obtain ⟨rfl, rfl⟩ := H
    have hnb32 := NB231_230.out
    have hnc32 := NB230_231.out
    have hnb33 := NB231_234.out
    have hnc33 := NB234_231.out
    have hcz34_0 : wr.cell? ⟨gb231, 0, none⟩ = some (.int .u64 x232000_1) := (blk_cell BK231.out 0).trans rfl
    have hcz34_1 : wr.cell? ⟨gb231, 1, none⟩ = some (.int .u64 x232001_1) := (blk_cell BK231.out 1).trans rfl
    have hfz34_0 := blk_frozen BK231.out 0
    have hfz34_1 := blk_frozen BK231.out 1
    have hnb35 := NB230_234.out
    have hnc35 := NB234_230.out
    have hcz36_0 : wr.cell? ⟨gb230, 0, none⟩ = some (.int .u64 0) := (blk_cell BK230.out 0).trans rfl
    have hcz36_1 : wr.cell? ⟨gb230, 1, none⟩ = some (.int .u64 0) := (blk_cell BK230.out 1).trans rfl
    have hfz36_0 := blk_frozen BK230.out 0
    have hfz36_1 := blk_frozen BK230.out 1
    go_wp2
    refine bodyPost_ret (results_cell_row rfl _ _ gb230 87 #[.int .u64 x232000_1, .int .u64 x232001_1] (0, 0) _ rfl (by (with_reducible repeat (first | refine blk_drewN ?_ _ | refine blk_drew ?_ | refine blk_alloc ?_ _)); refine blk_put (cs := #[.int .u64 x232000_1, .int .u64 0]) ?_ 1 _ rfl; (with_reducible repeat (first | refine blk_drewN ?_ _ | refine blk_drew ?_ | refine blk_alloc ?_ _)); refine blk_put (cs := #[.int .u64 0, .int .u64 0]) ?_ 0 _ rfl; (with_reducible repeat (first | refine blk_drewN ?_ _ | refine blk_drew ?_ | refine blk_alloc ?_ _)); exact BK230.out) Try.underlying87 rfl (by kernel_rfl)) rfl ?_
    exact ⟨by first | rfl | (simp [errW_none, errW_some] <;> rfl) | (simp [*, errW_none, errW_some] <;> rfl), by repeat (first | (with_reducible first | exact HB.out | apply below_alloc | apply pw_below_drewN | apply below_drew1 | refine below_set ?_ GE230.out | refine below_set ?_ GE231.out | refine below_set ?_ GE234.out) | exact HB.out)⟩

/-! ### spec_Ghash: function 11 -/
def spec_Ghash.j0 : Nat → ByteArray → ByteArray → Bool → Option (ByteArray × Bool)
 | 0, _, _, _ => none
 | k + 1, x0, x1, x19 => if x19 = true then (some ((⟨#[]⟩ : ByteArray), false)) else ((spec_l5Ghash.f k x0 x1).bind fun bt240 => ((spec_l5Told.f k bt240.1 bt240.2).bind fun t242 => (some (t242, true))))
def spec_Ghash.f (k : Nat) (a0 : ByteArray) (a1 : ByteArray) : Option (ByteArray × Bool) := if (a0.size : Int) = 16 then (if ((a1.size : Int) % 16) = 0 then (spec_Ghash.j0 k a0 a1 (decide ((a1.size : Int) > 3200))) else (spec_Ghash.j0 k a0 a1 true)) else (spec_Ghash.j0 k a0 a1 true)
theorem spec_Ghash.mono_l : ∀ k, (∀ y0 y1 y2, LeO (spec_Ghash.j0 k y0 y1 y2) (spec_Ghash.j0 (k + 1) y0 y1 y2))
 | 0 => fun _ _ _ r h => by simp [spec_Ghash.j0] at h
 | k + 1 => by
  have ih0 := spec_Ghash.mono_l k
  ·intro y0 y1 y2
   unfold spec_Ghash.j0
   repeat' first
   | (with_reducible exact ih0 _ _ _)
   | (with_reducible exact spec_l5Ghash.mono _ _ _)
   | (with_reducible exact spec_l5Told.mono _ _ _)
   | (with_reducible exact LeO.refl _)
   | (with_reducible exact LeO.none _)
   | (with_reducible refine LeO.ite ?_ ?_)
   | (with_reducible refine LeO.bind ?_ (fun _ => ?_))
   | exact ih0 _ _ _
   | exact spec_l5Ghash.mono _ _ _
   | exact spec_l5Told.mono _ _ _
   | exact LeO.none _
   | refine LeO.ite ?_ ?_
   | refine LeO.bind ?_ (fun _ => ?_)
theorem spec_Ghash.mono : ∀ a0 a1 k, LeO (spec_Ghash.f k a0 a1) (spec_Ghash.f (k + 1) a0 a1) := by
 intro a0 a1 k
 have ih0 := spec_Ghash.mono_l k
 unfold spec_Ghash.f
 repeat' first
   | (with_reducible exact ih0 _ _ _)
   | (with_reducible exact spec_l5Ghash.mono _ _ _)
   | (with_reducible exact spec_l5Told.mono _ _ _)
   | (with_reducible exact LeO.refl _)
   | (with_reducible exact LeO.none _)
   | (with_reducible refine LeO.ite ?_ ?_)
   | (with_reducible refine LeO.bind ?_ (fun _ => ?_))
   | exact ih0 _ _ _
   | exact spec_l5Ghash.mono _ _ _
   | exact spec_l5Told.mono _ _ _
   | exact LeO.none _
   | refine LeO.ite ?_ ?_
   | refine LeO.bind ?_ (fun _ => ?_)
set_option maxHeartbeats 8000000 in
set_option maxRecDepth 100000 in
theorem spec_Ghash.calls (k : Nat) (a0 : ByteArray) (a1 : ByteArray) (r1 : ByteArray) (r2 : Bool) (w : World) (h : spec_Ghash.f k a0 a1 = some (r1, r2)) :
  Calls Try.prog 11 #[.string a0, .string a1] w fun e w' => e = .returned (.tuple #[.string r1, .bool r2]) ∧ Below w.heap.size w w' := by
 have HB := Aside0.mk (Below.refl w.heap.size w)
 have H : (if (a0.size : Int) = 16 then (if ((a1.size : Int) % 16) = 0 then (spec_Ghash.j0 k a0 a1 (decide ((a1.size : Int) > 3200))) else (spec_Ghash.j0 k a0 a1 true)) else (spec_Ghash.j0 k a0 a1 true)) = some (r1, r2) := h
 clear h
 have HC3 := Aside0.mk H
 clear H
 go_enter Try.func11, Try.ntmps11
 go_upto_region 1 with (fail)
 go_cut [19] (fun v19 wc => ∃ (kq : Nat) (x19_2 : Bool), v19 = .bool x19_2 ∧ Aside0 (spec_Ghash.j0 kq a0 a1 x19_2 = some (r1, r2)) ∧ Aside0 (kq ≤ k) ∧ Aside0 (Below w.heap.size w wc))
 case first =>
  have H := HC3.out
  clear HC3
  by_cases c4 : (a0.size : Int) = 16
  ·rw [if_pos c4] at H
   have c4b0 : ((a0.size : Int) == 16) = true := beq_iff_eq.mpr c4
   have c4b1 : ((a0.size : Int) != 16) = false := bne_eq_false_iff_eq.mpr c4
   clear c4
   (first | rw [c4b0] | (simp only [i64_w, i32_w]; rw [c4b0]) | skip)
   by_cases c5 : ((a1.size : Int) % 16) = 0
   ·rw [if_pos c5] at H
    have c5b0 : (((a1.size : Int) % 16) == 0) = true := beq_iff_eq.mpr c5
    have c5b1 : (((a1.size : Int) % 16) != 0) = false := bne_eq_false_iff_eq.mpr c5
    clear c5
    have H' := Aside0.mk H
    clear H
    go_wp2
    go_meet
    case rel => exact ⟨_, (decide ((a1.size : Int) > 3200)), (by first | rfl | (simp; done) | (simp [*]; done)), H', ⟨by first | omega | exact Nat.le_refl _⟩, ⟨by repeat (first | (with_reducible first | exact HB.out | apply below_alloc | apply pw_below_drewN | apply below_drew1) | exact HB.out)⟩⟩
   ·rw [if_neg c5] at H
    have c5b0 : (((a1.size : Int) % 16) == 0) = false := beq_eq_false_iff_ne.mpr c5
    have c5b1 : (((a1.size : Int) % 16) != 0) = true := bne_iff_ne.mpr c5
    have H' := Aside0.mk H
    clear H
    go_wp2
    go_meet
    case rel => exact ⟨_, (true), (by first | rfl | (simp; done) | (simp [*]; done)), H', ⟨by first | omega | exact Nat.le_refl _⟩, ⟨by repeat (first | (with_reducible first | exact HB.out | apply below_alloc | apply pw_below_drewN | apply below_drew1) | exact HB.out)⟩⟩
  ·rw [if_neg c4] at H
   have c4b0 : ((a0.size : Int) == 16) = false := beq_eq_false_iff_ne.mpr c4
   have c4b1 : ((a0.size : Int) != 16) = true := bne_iff_ne.mpr c4
   (first | rw [c4b0] | (simp only [i64_w, i32_w]; rw [c4b0]) | skip)
   have H' := Aside0.mk H
   clear H
   go_wp2
   go_meet
   case rel => exact ⟨_, (true), (by first | rfl | (simp; done) | (simp [*]; done)), H', ⟨by first | omega | exact Nat.le_refl _⟩, ⟨by repeat (first | (with_reducible first | exact HB.out | apply below_alloc | apply pw_below_drewN | apply below_drew1) | exact HB.out)⟩⟩
 case rest =>
  clear HC3
  try clear c1; try clear p2; try clear c4; try clear c4b0; try clear c4b1; try clear c5; try clear c5b0; try clear c5b1
  obtain ⟨kq, x19_2, rfl, HA, HJ2, HB⟩ := hcut
  cases kq with
  | zero => exact absurd HA.out (by simp [spec_Ghash.j0])
  | succ kj2 =>
   have H := HA.out
   clear HA
   simp only [spec_Ghash.j0] at H
   by_cases c6 : x19_2 = true
   ·subst c6
    have H1 : (some ((⟨#[]⟩ : ByteArray), false)) = some (r1, r2) := by rw [if_pos rfl] at H; exact H
    clear H
    have H := H1
    clear H1
    simp only [Option.some.injEq, Prod.mk.injEq] at H
    obtain ⟨rfl, rfl⟩ := H
    go_wp2
    go_ret2
    exact ⟨by first | rfl | (simp [errW_none, errW_some] <;> rfl) | (simp [*, errW_none, errW_some] <;> rfl), by repeat (first | (with_reducible first | exact HB.out | apply below_alloc | apply pw_below_drewN | apply below_drew1) | exact HB.out)⟩
   ·replace c6 := Bool.eq_false_iff.mpr c6
    subst c6
    have H1 : ((spec_l5Ghash.f kj2 a0 a1).bind fun bt240 => ((spec_l5Told.f kj2 bt240.1 bt240.2).bind fun t242 => (some (t242, true)))) = some (r1, r2) := by rw [if_neg (show ¬ (false = true) by decide)] at H; exact H
    clear H
    have H := H1
    clear H1
    replace H := Option.bind_eq_some_iff.mp H
    obtain ⟨⟨t240, t241⟩, A70, H⟩ := H
    replace H : ((spec_l5Told.f kj2 t240 t241).bind fun t242 => (some (t242, true))) = some (r1, r2) := H
    have A7 := Aside0.mk A70
    clear A70
    replace H := Option.bind_eq_some_iff.mp H
    obtain ⟨t242, A80, H⟩ := H
    replace H : (some (t242, true)) = some (r1, r2) := H
    have A8 := Aside0.mk A80
    clear A80
    simp only [Option.some.injEq, Prod.mk.injEq] at H
    obtain ⟨rfl, rfl⟩ := H
    go_wp2_with (first | ((with_reducible refine gate_callee (f := 60) rfl ?_); refine goesL_ (some 22) rfl rfl Try.func60 (by kernel_rfl) rfl #[.string a0, .string a1] rfl (by (try simp only [List.map_toArray, List.map_cons, List.map_nil]); first | done | rfl | (simp only [List.length_drop, List.length_take]; rfl)) ?_; (with_reducible refine (spec_l5Ghash.calls kj2 a0 a1 t240 t241 _ A7.out).mono ?_); rintro e w9 ⟨rfl, hb⟩; refine ⟨_, rfl, ?_⟩; have n0_ := Aside0.mk (below_step (by repeat (first | (with_reducible first | exact HB.out | apply below_alloc | apply pw_below_drewN | apply below_drew1) | exact HB.out)) hb); clear HB; have HB := n0_; clear n0_; (try clear hb); (try clear hb2); (try clear hk); (try clear hi)) | ((with_reducible refine gate_callee (f := 59) rfl ?_); refine goesL_ (some 23) rfl rfl Try.func59 (by kernel_rfl) rfl #[.agg #[.int .u64 t240, .int .u64 t241]] rfl (by (try simp only [List.map_toArray, List.map_cons, List.map_nil]); first | done | rfl | (simp only [List.length_drop, List.length_take]; rfl)) ?_; (with_reducible refine (spec_l5Told.calls kj2 t240 t241 t242 _ A8.out).mono ?_); rintro e w10 ⟨rfl, hb⟩; refine ⟨_, rfl, ?_⟩; have n0_ := Aside0.mk (below_step (by repeat (first | (with_reducible first | exact HB.out | apply below_alloc | apply pw_below_drewN | apply below_drew1) | exact HB.out)) hb); clear HB; have HB := n0_; clear n0_; (try clear hb); (try clear hb2); (try clear hk); (try clear hi)))
    go_ret2
    exact ⟨by first | rfl | (simp [errW_none, errW_some] <;> rfl) | (simp [*, errW_none, errW_some] <;> rfl), by repeat (first | (with_reducible first | exact HB.out | apply below_alloc | apply pw_below_drewN | apply below_drew1) | exact HB.out)⟩

/-! ### laws_xored: function 12 -/
/-- Both texts xored: the second must be as long as the first. -/
def laws_xored.x (a0 a1 : ByteArray) : List Int := List.zipWith (fun x y => bits .xor .u8 x y) (Go.Proofs.Ytcngjidojibleaa.B.B a0) (Go.Proofs.Ytcngjidojibleaa.B.B a1)
theorem laws_xored.x_get (a0 a1 : ByteArray) (j : Nat) (h0 : j < (Go.Proofs.Ytcngjidojibleaa.B.B a0).length) (h1 : j < (Go.Proofs.Ytcngjidojibleaa.B.B a1).length) :
  (laws_xored.x a0 a1)[j]? = some (bits .xor .u8 ((Go.Proofs.Ytcngjidojibleaa.B.B a0).getD j 0) ((Go.Proofs.Ytcngjidojibleaa.B.B a1).getD j 0)) := by
 unfold laws_xored.x
 rw [List.getElem?_zipWith, List.getElem?_eq_getElem h0, List.getElem?_eq_getElem h1]
 simp [List.getD_eq_getElem?_getD, h0, h1]
def laws_xored.f (a0 a1 : ByteArray) : Option ByteArray := if a0.size ≤ a1.size ∧ a0.size ≤ 1000000000 then some (strOfNums (laws_xored.x a0 a1)) else none
set_option maxHeartbeats 8000000 in
set_option maxRecDepth 100000 in
theorem laws_xored.calls (a0 a1 r : ByteArray) (w : World) (h : laws_xored.f a0 a1 = some r) :
  Calls Try.prog 12 #[.string a0, .string a1] w fun e w' => e = .returned (.string r) ∧ Below w.heap.size w w' := by
 unfold laws_xored.f at h
 by_cases c1 : a0.size ≤ a1.size ∧ a0.size ≤ 1000000000
 ·rw [if_pos c1] at h
  obtain rfl := Option.some.inj h
  obtain ⟨c2, c3⟩ := c1
  have hl0 := Go.Proofs.Ytcngjidojibleaa.B.B_length a0
  have hl1 := Go.Proofs.Ytcngjidojibleaa.B.B_length a1
  go_enter Try.func12, Try.ntmps12
  go_wp2_with (first | ((with_reducible refine gate_dst (N := 8) rfl ?_); refine Go.Proofs.Ytcngjidojibleaa.CR.conv_event ?hg (N := 8) ?hd 9 22 5 (.tmp 7) a0 ?ho ?hx ?h1 ?h2 ?h3 ?_; (case hd => rfl); (case hg => rfl); (case ho => rfl); (case h1 => kernel_rfl); (case h2 => kernel_rfl); (case h3 => kernel_rfl); (case hx => first | (go_simp; done) | (go_simp; rfl)); intro g cap w1 hg hrow hb; have hgl : w.heap.size ≤ g := (by omega); clear hg; refine Aside0.out ?_))
  refine ⟨?_⟩
  generalize hn : a0.size = n at *
  have Hrow := Aside0.mk hrow
  have Hb := Aside0.mk hb
  clear hrow hb
  go_wp2
  go_loopg [11] n (fun kq v11 w' => ∃ (i : Nat) (cur : List Int), v11 = .int .i64 (i : Int) ∧ Aside0 (i + kq = n) ∧ Aside0 (Go.Proofs.Ytcngjidojibleaa.CR.BRow w' g 5 cur ∧ cur.length = n ∧ ∀ j, j < n → cur.getD j 0 = if j < i then bits .xor .u8 ((Go.Proofs.Ytcngjidojibleaa.B.B a0).getD j 0) ((Go.Proofs.Ytcngjidojibleaa.B.B a1).getD j 0) else (Go.Proofs.Ytcngjidojibleaa.B.B a0).getD j 0) ∧ Aside0 (Below w.heap.size w w'))
  case atStart => exact ⟨0, Go.Proofs.Ytcngjidojibleaa.B.B a0, rfl, ⟨by omega⟩, ⟨Hrow.out, hl0, fun j _ => by rw [if_neg (by omega)]⟩, Hb⟩
  case round =>
   clear Hrow Hb
   obtain ⟨i, cur, rfl, HI, HR, HB⟩ := hrel
   cases gk with
   | zero =>
    have hi := HI.out
    have c2b0 : decide ((i : Int) < (n : Int)) = false := decide_eq_false (by omega)
    go_wp2_with (first | ((with_reducible refine gate_dst (N := 25) rfl ?_); refine Aside0.out ?_))
    obtain ⟨hrow, hlen, hcur⟩ := HR.out
    have hx : cur = laws_xored.x a0 a1 := by
     have hxl : (laws_xored.x a0 a1).length = n := by rw [laws_xored.x, List.length_zipWith]; omega
     refine List.ext_getElem? (fun j => ?_)
     rcases Nat.lt_or_ge j n with hj | hj
     ·have h1 := hcur j hj
      rw [if_pos (by omega), List.getD_eq_getElem?_getD, List.getElem?_eq_getElem (show j < cur.length by omega), Option.getD_some] at h1
      rw [laws_xored.x_get a0 a1 j (by omega) (by omega), List.getElem?_eq_getElem (show j < cur.length by omega), h1]
     ·rw [List.getElem?_eq_none (by omega), List.getElem?_eq_none (by omega)]
    refine ⟨?_⟩
    refine Go.Proofs.Ytcngjidojibleaa.CR.string_event ?hg (N := 25) ?hd 22 9 5 5 (.tmp 24) (n := n) (cap := cap) hrow hlen (by omega) ?ho ?hx ?h1 ?h2 ?h3 ?_
    case hd => rfl
    case hg => rfl
    case ho => rfl
    case h1 => kernel_rfl
    case h2 => kernel_rfl
    case h3 => kernel_rfl
    case hx => first | rfl | (go_simp; done) | (go_simp; rfl)
    rw [hx]
    clear hrow hcur hx
    have hB := HB.out
    go_wp2
    go_ret
    exact ⟨rfl, hB⟩
   | succ k1 =>
    have hi := HI.out
    have c2b0 : decide ((i : Int) < (n : Int)) = true := decide_eq_true (by omega)
    obtain ⟨hrow, hlen, hcur⟩ := HR.out
    have hc := hrow.cell i (by omega)
    obtain ⟨hc1, hc2⟩ := hc
    rw [hcur i (by omega), if_neg (by omega)] at hc1
    have hb1 : ∀ h : i < a1.size, ((a1[i]'h).toNat : Int) = (Go.Proofs.Ytcngjidojibleaa.B.B a1).getD i 0 := by
     intro h
     have e1 := bt_at a1 (i : Int) h
     have e2 := Go.Proofs.Ytcngjidojibleaa.B.bt_B a1 (i : Int) h
     exact e1.trans e2
    generalize hv1 : (Go.Proofs.Ytcngjidojibleaa.B.B a1).getD i 0 = v1 at hb1
    generalize hv0 : (Go.Proofs.Ytcngjidojibleaa.B.B a0).getD i 0 = v0 at hc1
    have p1 : (0 ≤ (i : Int)) = True := eq_true (by omega)
    have p2 : ((i : Int) < (n : Int)) = True := eq_true (by omega)
    have p3 : ((i : Int) < (a1.size : Int)) = True := eq_true (by omega)
    have p4 : (i < n) = True := eq_true (by omega)
    have p5 : (i < a1.size) = True := eq_true (by omega)
    go_wp2
    go_region
    go_wp2
    go_roundg k1
    case measure => omega
    case rel =>
     have hs := hrow.set i (bits .xor .u8 v0 v1)
     refine ⟨i + 1, cur.set i (bits .xor .u8 v0 v1), ?_, ⟨by omega⟩, ⟨hs, by rw [List.length_set]; exact hlen, fun j hj => ?_⟩, ⟨below_drew1 (below_set HB.out hgl)⟩⟩
     ·have e : wrap64 ((i : Int) + 1) = ((i + 1 : Nat) : Int) := by unfold wrap64; omega
      first | (rw [e]; done) | (simp only [e]; done) | (rw [e]) | (simp [e])
     ·rw [List.getD_eq_getElem?_getD, List.getElem?_set]
      by_cases hj2 : i = j
      ·subst hj2
       rw [if_pos rfl, if_pos (by omega), if_pos (by omega), hv0, hv1]
       rfl
      ·rw [if_neg hj2, ← List.getD_eq_getElem?_getD, hcur j hj]
       by_cases hj3 : j < i
       ·rw [if_pos hj3, if_pos (by omega)]
       ·rw [if_neg hj3, if_neg (by omega)]
 ·rw [if_neg c1] at h; cases h

/-! ### impl_xored: function 61 -/
/-- Both texts xored: the second must be as long as the first. -/
def impl_xored.x (a0 a1 : ByteArray) : List Int := List.zipWith (fun x y => bits .xor .u8 x y) (Go.Proofs.Ytcngjidojibleaa.B.B a0) (Go.Proofs.Ytcngjidojibleaa.B.B a1)
theorem impl_xored.x_get (a0 a1 : ByteArray) (j : Nat) (h0 : j < (Go.Proofs.Ytcngjidojibleaa.B.B a0).length) (h1 : j < (Go.Proofs.Ytcngjidojibleaa.B.B a1).length) :
  (impl_xored.x a0 a1)[j]? = some (bits .xor .u8 ((Go.Proofs.Ytcngjidojibleaa.B.B a0).getD j 0) ((Go.Proofs.Ytcngjidojibleaa.B.B a1).getD j 0)) := by
 unfold impl_xored.x
 rw [List.getElem?_zipWith, List.getElem?_eq_getElem h0, List.getElem?_eq_getElem h1]
 simp [List.getD_eq_getElem?_getD, h0, h1]
def impl_xored.f (a0 a1 : ByteArray) : Option ByteArray := if a0.size ≤ a1.size ∧ a0.size ≤ 1000000000 then some (strOfNums (impl_xored.x a0 a1)) else none
set_option maxHeartbeats 8000000 in
set_option maxRecDepth 100000 in
theorem impl_xored.calls (a0 a1 r : ByteArray) (w : World) (h : impl_xored.f a0 a1 = some r) :
  Calls Try.prog 61 #[.string a0, .string a1] w fun e w' => e = .returned (.string r) ∧ Below w.heap.size w w' := by
 unfold impl_xored.f at h
 by_cases c1 : a0.size ≤ a1.size ∧ a0.size ≤ 1000000000
 ·rw [if_pos c1] at h
  obtain rfl := Option.some.inj h
  obtain ⟨c2, c3⟩ := c1
  have hl0 := Go.Proofs.Ytcngjidojibleaa.B.B_length a0
  have hl1 := Go.Proofs.Ytcngjidojibleaa.B.B_length a1
  go_enter Try.func61, Try.ntmps61
  go_wp2_with (first | ((with_reducible refine gate_dst (N := 8) rfl ?_); refine Go.Proofs.Ytcngjidojibleaa.CR.conv_event ?hg (N := 8) ?hd 9 22 5 (.tmp 7) a0 ?ho ?hx ?h1 ?h2 ?h3 ?_; (case hd => rfl); (case hg => rfl); (case ho => rfl); (case h1 => kernel_rfl); (case h2 => kernel_rfl); (case h3 => kernel_rfl); (case hx => first | (go_simp; done) | (go_simp; rfl)); intro g cap w1 hg hrow hb; have hgl : w.heap.size ≤ g := (by omega); clear hg; refine Aside0.out ?_))
  refine ⟨?_⟩
  generalize hn : a0.size = n at *
  have Hrow := Aside0.mk hrow
  have Hb := Aside0.mk hb
  clear hrow hb
  go_wp2
  go_loopg [11] n (fun kq v11 w' => ∃ (i : Nat) (cur : List Int), v11 = .int .i64 (i : Int) ∧ Aside0 (i + kq = n) ∧ Aside0 (Go.Proofs.Ytcngjidojibleaa.CR.BRow w' g 5 cur ∧ cur.length = n ∧ ∀ j, j < n → cur.getD j 0 = if j < i then bits .xor .u8 ((Go.Proofs.Ytcngjidojibleaa.B.B a0).getD j 0) ((Go.Proofs.Ytcngjidojibleaa.B.B a1).getD j 0) else (Go.Proofs.Ytcngjidojibleaa.B.B a0).getD j 0) ∧ Aside0 (Below w.heap.size w w'))
  case atStart => exact ⟨0, Go.Proofs.Ytcngjidojibleaa.B.B a0, rfl, ⟨by omega⟩, ⟨Hrow.out, hl0, fun j _ => by rw [if_neg (by omega)]⟩, Hb⟩
  case round =>
   clear Hrow Hb
   obtain ⟨i, cur, rfl, HI, HR, HB⟩ := hrel
   cases gk with
   | zero =>
    have hi := HI.out
    have c2b0 : decide ((i : Int) < (n : Int)) = false := decide_eq_false (by omega)
    go_wp2_with (first | ((with_reducible refine gate_dst (N := 25) rfl ?_); refine Aside0.out ?_))
    obtain ⟨hrow, hlen, hcur⟩ := HR.out
    have hx : cur = impl_xored.x a0 a1 := by
     have hxl : (impl_xored.x a0 a1).length = n := by rw [impl_xored.x, List.length_zipWith]; omega
     refine List.ext_getElem? (fun j => ?_)
     rcases Nat.lt_or_ge j n with hj | hj
     ·have h1 := hcur j hj
      rw [if_pos (by omega), List.getD_eq_getElem?_getD, List.getElem?_eq_getElem (show j < cur.length by omega), Option.getD_some] at h1
      rw [impl_xored.x_get a0 a1 j (by omega) (by omega), List.getElem?_eq_getElem (show j < cur.length by omega), h1]
     ·rw [List.getElem?_eq_none (by omega), List.getElem?_eq_none (by omega)]
    refine ⟨?_⟩
    refine Go.Proofs.Ytcngjidojibleaa.CR.string_event ?hg (N := 25) ?hd 22 9 5 5 (.tmp 24) (n := n) (cap := cap) hrow hlen (by omega) ?ho ?hx ?h1 ?h2 ?h3 ?_
    case hd => rfl
    case hg => rfl
    case ho => rfl
    case h1 => kernel_rfl
    case h2 => kernel_rfl
    case h3 => kernel_rfl
    case hx => first | rfl | (go_simp; done) | (go_simp; rfl)
    rw [hx]
    clear hrow hcur hx
    have hB := HB.out
    go_wp2
    go_ret
    exact ⟨rfl, hB⟩
   | succ k1 =>
    have hi := HI.out
    have c2b0 : decide ((i : Int) < (n : Int)) = true := decide_eq_true (by omega)
    obtain ⟨hrow, hlen, hcur⟩ := HR.out
    have hc := hrow.cell i (by omega)
    obtain ⟨hc1, hc2⟩ := hc
    rw [hcur i (by omega), if_neg (by omega)] at hc1
    have hb1 : ∀ h : i < a1.size, ((a1[i]'h).toNat : Int) = (Go.Proofs.Ytcngjidojibleaa.B.B a1).getD i 0 := by
     intro h
     have e1 := bt_at a1 (i : Int) h
     have e2 := Go.Proofs.Ytcngjidojibleaa.B.bt_B a1 (i : Int) h
     exact e1.trans e2
    generalize hv1 : (Go.Proofs.Ytcngjidojibleaa.B.B a1).getD i 0 = v1 at hb1
    generalize hv0 : (Go.Proofs.Ytcngjidojibleaa.B.B a0).getD i 0 = v0 at hc1
    have p1 : (0 ≤ (i : Int)) = True := eq_true (by omega)
    have p2 : ((i : Int) < (n : Int)) = True := eq_true (by omega)
    have p3 : ((i : Int) < (a1.size : Int)) = True := eq_true (by omega)
    have p4 : (i < n) = True := eq_true (by omega)
    have p5 : (i < a1.size) = True := eq_true (by omega)
    go_wp2
    go_region
    go_wp2
    go_roundg k1
    case measure => omega
    case rel =>
     have hs := hrow.set i (bits .xor .u8 v0 v1)
     refine ⟨i + 1, cur.set i (bits .xor .u8 v0 v1), ?_, ⟨by omega⟩, ⟨hs, by rw [List.length_set]; exact hlen, fun j hj => ?_⟩, ⟨below_drew1 (below_set HB.out hgl)⟩⟩
     ·have e : wrap64 ((i : Int) + 1) = ((i + 1 : Nat) : Int) := by unfold wrap64; omega
      first | (rw [e]; done) | (simp only [e]; done) | (rw [e]) | (simp [e])
     ·rw [List.getD_eq_getElem?_getD, List.getElem?_set]
      by_cases hj2 : i = j
      ·subst hj2
       rw [if_pos rfl, if_pos (by omega), if_pos (by omega), hv0, hv1]
       rfl
      ·rw [if_neg hj2, ← List.getD_eq_getElem?_getD, hcur j hj]
       by_cases hj3 : j < i
       ·rw [if_pos hj3, if_pos (by omega)]
       ·rw [if_neg hj3, if_neg (by omega)]
 ·rw [if_neg c1] at h; cases h

/-! ### impl_XorText: function 13 -/
def impl_XorText.f (a0 : ByteArray) (a1 : ByteArray) : Option (ByteArray × Bool) := if (a0.size : Int) = (a1.size : Int) then ((impl_xored.f a0 a1).bind fun t243 => (some (t243, true))) else (some ((⟨#[]⟩ : ByteArray), false))
set_option maxHeartbeats 8000000 in
set_option maxRecDepth 100000 in
theorem impl_XorText.calls (a0 : ByteArray) (a1 : ByteArray) (r1 : ByteArray) (r2 : Bool) (w : World) (h : impl_XorText.f a0 a1 = some (r1, r2)) :
  Calls Try.prog 13 #[.string a0, .string a1] w fun e w' => e = .returned (.tuple #[.string r1, .bool r2]) ∧ Below w.heap.size w w' := by
 have HB := Aside0.mk (Below.refl w.heap.size w)
 have H : (if (a0.size : Int) = (a1.size : Int) then ((impl_xored.f a0 a1).bind fun t243 => (some (t243, true))) else (some ((⟨#[]⟩ : ByteArray), false))) = some (r1, r2) := h
 clear h
 by_cases c3 : (a0.size : Int) = (a1.size : Int)
 ·rw [if_pos c3] at H
  have c3b0 : ((a0.size : Int) == (a1.size : Int)) = true := beq_iff_eq.mpr c3
  have c3b1 : ((a0.size : Int) != (a1.size : Int)) = false := bne_eq_false_iff_eq.mpr c3
  have c3b2 : (a0.size == a1.size) = true := by first | simpa using c3 | (simp at c3 ⊢; omega)
  clear c3
  replace H := Option.bind_eq_some_iff.mp H
  obtain ⟨t243, A40, H⟩ := H
  replace H : (some (t243, true)) = some (r1, r2) := H
  have A4 := Aside0.mk A40
  clear A40
  simp only [Option.some.injEq, Prod.mk.injEq] at H
  obtain ⟨rfl, rfl⟩ := H
  go_enter Try.func13, Try.ntmps13
  go_wp2_with (first | ((with_reducible refine gate_callee (f := 61) rfl ?_); refine goesL_ (some 13) rfl rfl Try.func61 (by kernel_rfl) rfl #[.string a0, .string a1] rfl (by (try simp only [List.map_toArray, List.map_cons, List.map_nil]); first | done | rfl | (simp only [List.length_drop, List.length_take]; rfl)) ?_; (with_reducible refine (impl_xored.calls a0 a1 t243 _ A4.out).mono ?_); rintro e w5 ⟨rfl, hb⟩; refine ⟨_, rfl, ?_⟩; have n0_ := Aside0.mk (below_step (by repeat (first | (with_reducible first | exact HB.out | apply below_alloc | apply pw_below_drewN | apply below_drew1) | exact HB.out)) hb); clear HB; have HB := n0_; clear n0_; (try clear hb); (try clear hb2); (try clear hk); (try clear hi)))
  go_ret2
  exact ⟨by first | rfl | (simp [errW_none, errW_some] <;> rfl) | (simp [*, errW_none, errW_some] <;> rfl), by repeat (first | (with_reducible first | exact HB.out | apply below_alloc | apply pw_below_drewN | apply below_drew1) | exact HB.out)⟩
 ·rw [if_neg c3] at H
  have c3b0 : ((a0.size : Int) == (a1.size : Int)) = false := beq_eq_false_iff_ne.mpr c3
  have c3b1 : ((a0.size : Int) != (a1.size : Int)) = true := bne_iff_ne.mpr c3
  have c3b2 : (a0.size == a1.size) = false := by first | simpa using c3 | (simp at c3 ⊢; omega)
  simp only [Option.some.injEq, Prod.mk.injEq] at H
  obtain ⟨rfl, rfl⟩ := H
  go_enter Try.func13, Try.ntmps13
  go_wp2
  go_ret2
  exact ⟨by first | rfl | (simp [errW_none, errW_some] <;> rfl) | (simp [*, errW_none, errW_some] <;> rfl), by repeat (first | (with_reducible first | exact HB.out | apply below_alloc | apply pw_below_drewN | apply below_drew1) | exact HB.out)⟩

end Go.Proofs.Ytcngjidojibleaa.PFnGhash
