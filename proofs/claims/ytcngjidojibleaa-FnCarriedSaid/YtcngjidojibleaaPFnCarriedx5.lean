-- Written by a program of this session out of the translation; Lean checks it.
import Derived.Test.YtcngjidojibleaaPFnCarriedx0
import Derived.Test.YtcngjidojibleaaPFnCarriedx1
import Derived.Test.YtcngjidojibleaaPFnCarriedx2
import Derived.Test.YtcngjidojibleaaPFnCarriedx3
import Derived.Test.YtcngjidojibleaaPFnCarriedx4
namespace Go.Proofs.Ytcngjidojibleaa.PFnCarried
open Go.RowKit Go.Proofs.YtcngjidojibleaaW.PrintWords Go.Proofs.YtcngjidojibleaaW.PrintLast Go.Proofs.YtcngjidojibleaaW.PrintMore
attribute [local go_sem] max2_int min2_int max_two min_two max_three min_three max_four min_four   -- for this text's walks alone
set_option linter.unusedVariables false
set_option linter.unusedSimpArgs false

attribute [local go_sem high] eqA30
/-! ### impl_ReadCarried: function 17 -/
def impl_ReadCarried.j0 : Nat → Int → Int → ByteArray → Bool → Option (Int × Int × ByteArray × Bool)
 | 0, _, _, _, _ => none
 | k + 1, x5, x6, x7, x30 => if x30 = true then (some (0, 0, (⟨#[]⟩ : ByteArray), false)) else ((impl_GoodCarried.f (wrap64 (x5 * 4)) x6 x7).bind fun t233 => (if t233 = true then (some (wrap64 (x5 * 4), x6, x7, true)) else (some (0, 0, (⟨#[]⟩ : ByteArray), false))))
def impl_ReadCarried.f (k : Nat) (a0 : ByteArray) : Option (Int × Int × ByteArray × Bool) := (impl_cursor_number.f k a0 false).bind fun bt223 => ((impl_cursor_number.f k bt223.2.1 bt223.2.2).bind fun bt226 => ((impl_cursor_rest.f bt226.2.1 bt226.2.2).bind fun bt229 => (if (a0.size : Int) > 1500 then (impl_ReadCarried.j0 k bt223.1 bt226.1 bt229.1 true) else (if bt229.2.2 = true then (impl_ReadCarried.j0 k bt223.1 bt226.1 bt229.1 true) else (impl_ReadCarried.j0 k bt223.1 bt226.1 bt229.1 (decide (bt223.1 > 1152921504606846975)))))))
theorem impl_ReadCarried.mono_l : ∀ k, (∀ y0 y1 y2 y3, LeO (impl_ReadCarried.j0 k y0 y1 y2 y3) (impl_ReadCarried.j0 (k + 1) y0 y1 y2 y3))
 | 0 => fun _ _ _ _ r h => by simp [impl_ReadCarried.j0] at h
 | k + 1 => by
  have ih0 := impl_ReadCarried.mono_l k
  ·intro y0 y1 y2 y3
   unfold impl_ReadCarried.j0
   repeat' first
   | (with_reducible exact ih0 _ _ _ _)
   | (with_reducible exact impl_cursor_number.mono _ _ _)
   | (with_reducible exact LeO.refl _)
   | (with_reducible exact LeO.none _)
   | (with_reducible refine LeO.ite ?_ ?_)
   | (with_reducible refine LeO.bind ?_ (fun _ => ?_))
   | exact ih0 _ _ _ _
   | exact impl_cursor_number.mono _ _ _
   | exact LeO.none _
   | refine LeO.ite ?_ ?_
   | refine LeO.bind ?_ (fun _ => ?_)
theorem impl_ReadCarried.mono : ∀ a0 k, LeO (impl_ReadCarried.f k a0) (impl_ReadCarried.f (k + 1) a0) := by
 intro a0 k
 have ih0 := impl_ReadCarried.mono_l k
 unfold impl_ReadCarried.f
 repeat' first
   | (with_reducible exact ih0 _ _ _ _)
   | (with_reducible exact impl_cursor_number.mono _ _ _)
   | (with_reducible exact LeO.refl _)
   | (with_reducible exact LeO.none _)
   | (with_reducible refine LeO.ite ?_ ?_)
   | (with_reducible refine LeO.bind ?_ (fun _ => ?_))
   | exact ih0 _ _ _ _
   | exact impl_cursor_number.mono _ _ _
   | exact LeO.none _
   | refine LeO.ite ?_ ?_
   | refine LeO.bind ?_ (fun _ => ?_)
set_option maxHeartbeats 8000000 in
set_option maxRecDepth 100000 in
theorem impl_ReadCarried.calls (k : Nat) (a0 : ByteArray) (r1 : Int) (r2 : Int) (r3 : ByteArray) (r4 : Bool) (w : World) (h : impl_ReadCarried.f k a0 = some (r1, r2, r3, r4)) :
  Calls Try.prog 17 #[.string a0] w fun e w' => e = .returned (.tuple #[.agg #[.int .i64 r1, .int .i64 r2, .string r3], .bool r4]) ∧ Below w.heap.size w w' := by
 have hu30 := Try.underlying30
 have hu94 := Try.underlying94
 have HB := Aside0.mk (Below.refl w.heap.size w)
 have H : ((impl_cursor_number.f k a0 false).bind fun bt223 => ((impl_cursor_number.f k bt223.2.1 bt223.2.2).bind fun bt226 => ((impl_cursor_rest.f bt226.2.1 bt226.2.2).bind fun bt229 => (if (a0.size : Int) > 1500 then (impl_ReadCarried.j0 k bt223.1 bt226.1 bt229.1 true) else (if bt229.2.2 = true then (impl_ReadCarried.j0 k bt223.1 bt226.1 bt229.1 true) else (impl_ReadCarried.j0 k bt223.1 bt226.1 bt229.1 (decide (bt223.1 > 1152921504606846975)))))))) = some (r1, r2, r3, r4) := h
 clear h
 replace H := Option.bind_eq_some_iff.mp H
 obtain ⟨⟨t223, t224, t225⟩, A20, H⟩ := H
 replace H : ((impl_cursor_number.f k t224 t225).bind fun bt226 => ((impl_cursor_rest.f bt226.2.1 bt226.2.2).bind fun bt229 => (if (a0.size : Int) > 1500 then (impl_ReadCarried.j0 k t223 bt226.1 bt229.1 true) else (if bt229.2.2 = true then (impl_ReadCarried.j0 k t223 bt226.1 bt229.1 true) else (impl_ReadCarried.j0 k t223 bt226.1 bt229.1 (decide (t223 > 1152921504606846975))))))) = some (r1, r2, r3, r4) := H
 have A2 := Aside0.mk A20
 clear A20
 replace H := Option.bind_eq_some_iff.mp H
 obtain ⟨⟨t226, t227, t228⟩, A30, H⟩ := H
 replace H : ((impl_cursor_rest.f t227 t228).bind fun bt229 => (if (a0.size : Int) > 1500 then (impl_ReadCarried.j0 k t223 t226 bt229.1 true) else (if bt229.2.2 = true then (impl_ReadCarried.j0 k t223 t226 bt229.1 true) else (impl_ReadCarried.j0 k t223 t226 bt229.1 (decide (t223 > 1152921504606846975)))))) = some (r1, r2, r3, r4) := H
 have A3 := Aside0.mk A30
 clear A30
 replace H := Option.bind_eq_some_iff.mp H
 obtain ⟨⟨t229, t230, t231⟩, A40, H⟩ := H
 replace H : (if (a0.size : Int) > 1500 then (impl_ReadCarried.j0 k t223 t226 t229 true) else (if t231 = true then (impl_ReadCarried.j0 k t223 t226 t229 true) else (impl_ReadCarried.j0 k t223 t226 t229 (decide (t223 > 1152921504606846975))))) = some (r1, r2, r3, r4) := H
 have A4 := Aside0.mk A40
 clear A40
 have HC5 := Aside0.mk H
 clear H
 go_enter Try.func17, Try.ntmps17
 go_upto_region 4 with (first | ((with_reducible refine gate_dst (N := 2) rfl ?_); refine box_event ?hg (N := 2) ?hd (cs := #[.int .i64 0, .int .i64 0, .string (⟨#[]⟩ : ByteArray)]) (t := 30) ?hr ?_; (case hd => rfl); (case hg => rfl); (case hr => first | (go_simp; done) | (go_simp; rfl)); intro gb221 hg w6 hbox hb; have n0_ := Aside0.mk (below_step (by repeat (first | (with_reducible first | exact HB.out | apply below_alloc | apply pw_below_drewN | apply below_drew1) | exact HB.out)) hb); have n1_ := Aside0.mk (hbox); have n2_ := Aside0.mk ((by rw [hg]; exact (below_size (by repeat (first | (with_reducible first | exact HB.out | apply below_alloc | apply pw_below_drewN | apply below_drew1) | exact HB.out))) : w.heap.size ≤ gb221)); have n3_ := Aside0.mk ((by rw [hg]; exact (below_size (by repeat (first | (with_reducible first | exact HB.out | apply below_alloc | apply pw_below_drewN | apply below_drew1) | exact HB.out))) : w.heap.size ≤ gb221)); clear HB; have HB := n0_; have BK221 := n1_; have GW221 := n2_; have GE221 := n3_; clear n0_ n1_ n2_ n3_; clear hb hbox hg) | ((with_reducible refine gate_dst (N := 11) rfl ?_); refine box_event ?hg (N := 11) ?hd (cs := #[.string a0, .bool false]) (t := 94) ?hr ?_; (case hd => rfl); (case hg => rfl); (case hr => first | (go_simp; done) | (go_simp; rfl)); intro gb222 hg w7 hbox hb; have n0_ := Aside0.mk (blk_below (g := gb221) (o := .cells #[.int .i64 0, .int .i64 0, .string (⟨#[]⟩ : ByteArray)] 30 (0, 0)) (by (with_reducible repeat (first | refine blk_drewN ?_ _ | refine blk_drew ?_ | refine blk_alloc ?_ _)); exact BK221.out) hb); have n1_ := Aside0.mk (below_step (by repeat (first | (with_reducible first | exact HB.out | apply below_alloc | apply pw_below_drewN | apply below_drew1 | refine below_set ?_ GE221.out) | exact HB.out)) hb); have n2_ := Aside0.mk ((⟨hbox, (by rw [hg]; exact (below_size (by repeat (first | (with_reducible first | exact HB.out | apply below_alloc | apply pw_below_drewN | apply below_drew1 | refine below_set ?_ GE221.out) | exact HB.out))) : w.heap.size ≤ gb222)⟩ : IsS94 w w7 gb222 a0 false)); have n3_ := Aside0.mk ((by rw [hg]; exact (below_size (by repeat (first | (with_reducible first | exact HB.out | apply below_alloc | apply pw_below_drewN | apply below_drew1 | refine below_set ?_ GE221.out) | exact HB.out))) : w.heap.size ≤ gb222)); have n4_ := Aside0.mk ((by rw [hg]; exact (below_size (by repeat (first | (with_reducible first | exact HB.out | apply below_alloc | apply pw_below_drewN | apply below_drew1 | refine below_set ?_ GE221.out) | exact HB.out))) : w.heap.size ≤ gb222)); have n5_ := Aside0.mk ((by rw [hg]; exact Nat.ne_of_lt (blk_lt (g := gb221) (o := .cells #[.int .i64 0, .int .i64 0, .string (⟨#[]⟩ : ByteArray)] 30 (0, 0)) (by (with_reducible repeat (first | refine blk_drewN ?_ _ | refine blk_drew ?_ | refine blk_alloc ?_ _)); exact BK221.out)) : gb221 ≠ gb222)); have n6_ := Aside0.mk ((by rw [hg]; exact Nat.ne_of_gt (blk_lt (g := gb221) (o := .cells #[.int .i64 0, .int .i64 0, .string (⟨#[]⟩ : ByteArray)] 30 (0, 0)) (by (with_reducible repeat (first | refine blk_drewN ?_ _ | refine blk_drew ?_ | refine blk_alloc ?_ _)); exact BK221.out)) : gb222 ≠ gb221)); clear BK221; clear HB; have BK221 := n0_; have HB := n1_; have HI222 := n2_; have GW222 := n3_; have GE222 := n4_; have NB221_222 := n5_; have NB222_221 := n6_; clear n0_ n1_ n2_ n3_ n4_ n5_ n6_; clear hb hbox hg) | ((with_reducible refine gate_callee (f := 67) rfl ?_); refine goesL_ (some 13) rfl rfl Try.func67 (by kernel_rfl) rfl #[.pointer (some ⟨gb222, 0, none⟩)] rfl (by (try simp only [List.map_toArray, List.map_cons, List.map_nil]); first | done | rfl | (simp only [List.length_drop, List.length_take]; rfl)) ?_; (with_reducible refine (impl_cursor_number.calls k gb222 a0 false t223 t224 t225 w _ ?side1 ?side2 A2.out).mono ?_); (case side1 => repeat (first | (with_reducible first | exact HI222.out | apply IsS94.alloc | apply IsS94.drewN | apply IsS94.drew | apply IsS94.set_0 | apply IsS94.set_1 | refine IsS94.far ?_ NB222_221.out _) | exact HI222.out)); (case side2 => repeat (first | (with_reducible first | exact HB.out | apply below_alloc | apply pw_below_drewN | apply below_drew1 | refine below_set ?_ (IsS94.ge HI222.out) | refine below_set ?_ GE221.out) | exact HB.out)); rintro e w8 ⟨rfl, hi, hb, hk⟩; refine ⟨_, rfl, ?_⟩; have n0_ := Aside0.mk (KeepBut.blk hk (g' := gb221) (o := .cells #[.int .i64 0, .int .i64 0, .string (⟨#[]⟩ : ByteArray)] 30 (0, 0)) (by (with_reducible repeat (first | refine blk_drewN ?_ _ | refine blk_drew ?_ | refine blk_alloc ?_ _)); exact BK221.out) NB221_222.out (by simp)); have n1_ := Aside0.mk (hb); have n2_ := Aside0.mk (hi); clear BK221; clear HB; clear HI222; have BK221 := n0_; have HB := n1_; have HI222 := n2_; clear n0_ n1_ n2_; (try clear hb); (try clear hb2); (try clear hk); (try clear hi)) | ((with_reducible refine gate_callee (f := 67) rfl ?_); refine goesL_ (some 15) rfl rfl Try.func67 (by kernel_rfl) rfl #[.pointer (some ⟨gb222, 0, none⟩)] rfl (by (try simp only [List.map_toArray, List.map_cons, List.map_nil]); first | done | rfl | (simp only [List.length_drop, List.length_take]; rfl)) ?_; (with_reducible refine (impl_cursor_number.calls k gb222 t224 t225 t226 t227 t228 w _ ?side1 ?side2 A3.out).mono ?_); (case side1 => repeat (first | (with_reducible first | exact HI222.out | apply IsS94.alloc | apply IsS94.drewN | apply IsS94.drew | apply IsS94.set_0 | apply IsS94.set_1 | refine IsS94.far ?_ NB222_221.out _) | exact HI222.out)); (case side2 => repeat (first | (with_reducible first | exact HB.out | apply below_alloc | apply pw_below_drewN | apply below_drew1 | refine below_set ?_ (IsS94.ge HI222.out) | refine below_set ?_ GE221.out) | exact HB.out)); rintro e w9 ⟨rfl, hi, hb, hk⟩; refine ⟨_, rfl, ?_⟩; have n0_ := Aside0.mk (KeepBut.blk hk (g' := gb221) (o := .cells #[.int .i64 0, .int .i64 0, .string (⟨#[]⟩ : ByteArray)] 30 (0, 0)) (by (with_reducible repeat (first | refine blk_drewN ?_ _ | refine blk_drew ?_ | refine blk_alloc ?_ _)); exact BK221.out) NB221_222.out (by simp)); have n1_ := Aside0.mk (hb); have n2_ := Aside0.mk (hi); clear BK221; clear HB; clear HI222; have BK221 := n0_; have HB := n1_; have HI222 := n2_; clear n0_ n1_ n2_; (try clear hb); (try clear hb2); (try clear hk); (try clear hi)) | ((with_reducible refine gate_callee (f := 68) rfl ?_); refine goesL_ (some 17) rfl rfl Try.func68 (by kernel_rfl) rfl #[.pointer (some ⟨gb222, 0, none⟩)] rfl (by (try simp only [List.map_toArray, List.map_cons, List.map_nil]); first | done | rfl | (simp only [List.length_drop, List.length_take]; rfl)) ?_; (with_reducible refine (impl_cursor_rest.calls gb222 t227 t228 t229 t230 t231 w _ ?side1 ?side2 A4.out).mono ?_); (case side1 => repeat (first | (with_reducible first | exact HI222.out | apply IsS94.alloc | apply IsS94.drewN | apply IsS94.drew | apply IsS94.set_0 | apply IsS94.set_1 | refine IsS94.far ?_ NB222_221.out _) | exact HI222.out)); (case side2 => repeat (first | (with_reducible first | exact HB.out | apply below_alloc | apply pw_below_drewN | apply below_drew1 | refine below_set ?_ (IsS94.ge HI222.out) | refine below_set ?_ GE221.out) | exact HB.out)); rintro e w10 ⟨rfl, hi, hb, hk⟩; refine ⟨_, rfl, ?_⟩; have n0_ := Aside0.mk (KeepBut.blk hk (g' := gb221) (o := .cells #[.int .i64 0, .int .i64 0, .string (⟨#[]⟩ : ByteArray)] 30 (0, 0)) (by (with_reducible repeat (first | refine blk_drewN ?_ _ | refine blk_drew ?_ | refine blk_alloc ?_ _)); exact BK221.out) NB221_222.out (by simp)); have n1_ := Aside0.mk (hb); have n2_ := Aside0.mk (hi); clear BK221; clear HB; clear HI222; have BK221 := n0_; have HB := n1_; have HI222 := n2_; clear n0_ n1_ n2_; (try clear hb); (try clear hb2); (try clear hk); (try clear hi)))
 (try simp only [Act.put, List.setIfInBounds_toArray, List.set_cons_zero, List.set_cons_succ])
 go_cut [30] (fun v30 wc => ∃ (kq : Nat) (x30_4 : Bool), v30 = .bool x30_4 ∧ Aside0 (impl_ReadCarried.j0 kq t223 t226 t229 x30_4 = some (r1, r2, r3, r4)) ∧ Aside0 (kq ≤ k) ∧ Aside0 (wc.heap[gb221]? = some (.cells #[.int .i64 0, .int .i64 0, .string (⟨#[]⟩ : ByteArray)] 30 (0, 0))) ∧ Aside0 (Below w.heap.size w wc))
 case first =>
  have H := HC5.out
  clear HC5
  by_cases c11 : (a0.size : Int) > 1500
  ·rw [if_pos c11] at H
   have c11b0 : decide (1500 < (a0.size : Int)) = true := decide_eq_true c11
   have c11b1 : decide (1500 < a0.size) = true := decide_eq_true (by omega)
   clear c11
   (first | rw [c11b0] | (simp only [i64_w, i32_w]; rw [c11b0]) | skip)
   have H' := Aside0.mk H
   clear H
   go_wp2
   go_meet
   case rel => exact ⟨_, (true), (by first | rfl | (simp; done) | (simp [*]; done)), H', ⟨by first | omega | exact Nat.le_refl _⟩, ⟨by (with_reducible repeat (first | refine blk_drewN ?_ _ | refine blk_drew ?_ | refine blk_alloc ?_ _)); exact BK221.out⟩, ⟨by repeat (first | (with_reducible first | exact HB.out | apply below_alloc | apply pw_below_drewN | apply below_drew1 | refine below_set ?_ (IsS94.ge HI222.out) | refine below_set ?_ GE221.out) | exact HB.out)⟩⟩
  ·rw [if_neg c11] at H
   have c11b0 : decide (1500 < (a0.size : Int)) = false := decide_eq_false c11
   have c11b1 : decide (1500 < a0.size) = false := decide_eq_false (by omega)
   clear c11
   (first | rw [c11b0] | (simp only [i64_w, i32_w]; rw [c11b0]) | skip)
   by_cases c12 : t231 = true
   ·subst c12
    have H1 : (impl_ReadCarried.j0 k t223 t226 t229 true) = some (r1, r2, r3, r4) := by rw [if_pos rfl] at H; exact H
    clear H
    have H := H1
    clear H1
    have H' := Aside0.mk H
    clear H
    obtain ⟨HGz13, hgz13⟩ := HI222.out
    have hcz13_0 := cellS94_0 HGz13
    have hcz13_1 := cellS94_1 HGz13
    have hfz13_0 := blk_frozen HGz13 0
    have hfz13_1 := blk_frozen HGz13 1
    clear HGz13 hgz13
    go_wp2
    go_meet
    case rel => exact ⟨_, (true), (by first | rfl | (simp; done) | (simp [*]; done)), H', ⟨by first | omega | exact Nat.le_refl _⟩, ⟨by (with_reducible repeat (first | refine blk_drewN ?_ _ | refine blk_drew ?_ | refine blk_alloc ?_ _)); exact BK221.out⟩, ⟨by repeat (first | (with_reducible first | exact HB.out | apply below_alloc | apply pw_below_drewN | apply below_drew1 | refine below_set ?_ (IsS94.ge HI222.out) | refine below_set ?_ GE221.out) | exact HB.out)⟩⟩
   ·replace c12 := Bool.eq_false_iff.mpr c12
    subst c12
    have H1 : (impl_ReadCarried.j0 k t223 t226 t229 (decide (t223 > 1152921504606846975))) = some (r1, r2, r3, r4) := by rw [if_neg (show ¬ (false = true) by decide)] at H; exact H
    clear H
    have H := H1
    clear H1
    have H' := Aside0.mk H
    clear H
    obtain ⟨HGz14, hgz14⟩ := HI222.out
    have hcz14_0 := cellS94_0 HGz14
    have hcz14_1 := cellS94_1 HGz14
    have hfz14_0 := blk_frozen HGz14 0
    have hfz14_1 := blk_frozen HGz14 1
    clear HGz14 hgz14
    go_wp2
    go_meet
    case rel => exact ⟨_, (decide (t223 > 1152921504606846975)), (by first | rfl | (simp; done) | (simp [*]; done)), H', ⟨by first | omega | exact Nat.le_refl _⟩, ⟨by (with_reducible repeat (first | refine blk_drewN ?_ _ | refine blk_drew ?_ | refine blk_alloc ?_ _)); exact BK221.out⟩, ⟨by repeat (first | (with_reducible first | exact HB.out | apply below_alloc | apply pw_below_drewN | apply below_drew1 | refine below_set ?_ (IsS94.ge HI222.out) | refine below_set ?_ GE221.out) | exact HB.out)⟩⟩
 case rest =>
  clear HC5
  try clear c1; try clear p2; try clear c6; try clear c11; try clear c11b0; try clear c11b1; try clear c12; try clear hcz13_0; try clear hcz13_1; try clear hcz14_0; try clear hcz14_1; try clear hfz13_0; try clear hfz13_1; try clear hfz14_0; try clear hfz14_1
  obtain ⟨kq, x30_4, rfl, HA, HJ4, BK221, HB⟩ := hcut
  cases kq with
  | zero => exact absurd HA.out (by simp [impl_ReadCarried.j0])
  | succ kj4 =>
   have H := HA.out
   clear HA
   simp only [impl_ReadCarried.j0] at H
   by_cases c15 : x30_4 = true
   ·subst c15
    have H1 : (some (0, 0, (⟨#[]⟩ : ByteArray), false)) = some (r1, r2, r3, r4) := by rw [if_pos rfl] at H; exact H
    clear H
    have H := H1
    clear H1
    simp only [Option.some.injEq, Prod.mk.injEq] at H
    obtain ⟨rfl, rfl, rfl, rfl⟩ := H
    have hcz16_0 : wc.cell? ⟨gb221, 0, none⟩ = some (.int .i64 0) := (blk_cell BK221.out 0).trans rfl
    have hcz16_1 : wc.cell? ⟨gb221, 1, none⟩ = some (.int .i64 0) := (blk_cell BK221.out 1).trans rfl
    have hcz16_2 : wc.cell? ⟨gb221, 2, none⟩ = some (.string (⟨#[]⟩ : ByteArray)) := (blk_cell BK221.out 2).trans rfl
    have hfz16_0 := blk_frozen BK221.out 0
    have hfz16_1 := blk_frozen BK221.out 1
    have hfz16_2 := blk_frozen BK221.out 2
    go_wp2
    refine bodyPost_ret (results_ct rfl _ _ gb221 30 #[.int .i64 0, .int .i64 0, .string (⟨#[]⟩ : ByteArray)] (0, 0) _ rfl (by (with_reducible repeat (first | refine blk_drewN ?_ _ | refine blk_drew ?_ | refine blk_alloc ?_ _)); refine blk_put (cs := #[.int .i64 0, .int .i64 0, .string (⟨#[]⟩ : ByteArray)]) ?_ 2 _ rfl; (with_reducible repeat (first | refine blk_drewN ?_ _ | refine blk_drew ?_ | refine blk_alloc ?_ _)); refine blk_put (cs := #[.int .i64 0, .int .i64 0, .string (⟨#[]⟩ : ByteArray)]) ?_ 1 _ rfl; (with_reducible repeat (first | refine blk_drewN ?_ _ | refine blk_drew ?_ | refine blk_alloc ?_ _)); refine blk_put (cs := #[.int .i64 0, .int .i64 0, .string (⟨#[]⟩ : ByteArray)]) ?_ 0 _ rfl; (with_reducible repeat (first | refine blk_drewN ?_ _ | refine blk_drew ?_ | refine blk_alloc ?_ _)); exact BK221.out) Try.underlying30 rfl (by kernel_rfl)) rfl ?_
    exact ⟨by first | rfl | (simp [errW_none, errW_some] <;> rfl) | (simp [*, errW_none, errW_some] <;> rfl), by repeat (first | (with_reducible first | exact HB.out | apply below_alloc | apply pw_below_drewN | apply below_drew1 | refine below_set ?_ GE221.out) | exact HB.out)⟩
   ·replace c15 := Bool.eq_false_iff.mpr c15
    subst c15
    have H1 : ((impl_GoodCarried.f (wrap64 (t223 * 4)) t226 t229).bind fun t233 => (if t233 = true then (some (wrap64 (t223 * 4), t226, t229, true)) else (some (0, 0, (⟨#[]⟩ : ByteArray), false)))) = some (r1, r2, r3, r4) := by rw [if_neg (show ¬ (false = true) by decide)] at H; exact H
    clear H
    have H := H1
    clear H1
    replace H := Option.bind_eq_some_iff.mp H
    obtain ⟨t233, A170, H⟩ := H
    replace H : (if t233 = true then (some (wrap64 (t223 * 4), t226, t229, true)) else (some (0, 0, (⟨#[]⟩ : ByteArray), false))) = some (r1, r2, r3, r4) := H
    have A17 := Aside0.mk A170
    clear A170
    by_cases c18 : t233 = true
    ·subst c18
     have H1 : (some (wrap64 (t223 * 4), t226, t229, true)) = some (r1, r2, r3, r4) := by rw [if_pos rfl] at H; exact H
     clear H
     have H := H1
     clear H1
     simp only [Option.some.injEq, Prod.mk.injEq] at H
     obtain ⟨rfl, rfl, rfl, rfl⟩ := H
     go_wp2_with (first | ((with_reducible refine gate_dst (N := 8) rfl ?_); refine box_event ?hg (N := 8) ?hd (cs := #[.int .i64 0, .int .i64 0, .string (⟨#[]⟩ : ByteArray)]) (t := 30) ?hr ?_; (case hd => rfl); (case hg => rfl); (case hr => first | (go_simp; done) | (go_simp; rfl)); intro gb232 hg w19 hbox hb; have n0_ := Aside0.mk (blk_below (g := gb221) (o := .cells #[.int .i64 0, .int .i64 0, .string (⟨#[]⟩ : ByteArray)] 30 (0, 0)) (by (with_reducible repeat (first | refine blk_drewN ?_ _ | refine blk_drew ?_ | refine blk_alloc ?_ _)); exact BK221.out) hb); have n1_ := Aside0.mk (below_step (by repeat (first | (with_reducible first | exact HB.out | apply below_alloc | apply pw_below_drewN | apply below_drew1 | refine below_set ?_ GE221.out) | exact HB.out)) hb); have n2_ := Aside0.mk (hbox); have n3_ := Aside0.mk ((by rw [hg]; exact (below_size (by repeat (first | (with_reducible first | exact HB.out | apply below_alloc | apply pw_below_drewN | apply below_drew1 | refine below_set ?_ GE221.out) | exact HB.out))) : w.heap.size ≤ gb232)); have n4_ := Aside0.mk ((by rw [hg]; exact (below_size (by repeat (first | (with_reducible first | exact HB.out | apply below_alloc | apply pw_below_drewN | apply below_drew1 | refine below_set ?_ GE221.out) | exact HB.out))) : w.heap.size ≤ gb232)); have n5_ := Aside0.mk ((by rw [hg]; exact Nat.ne_of_lt (blk_lt (g := gb221) (o := .cells #[.int .i64 0, .int .i64 0, .string (⟨#[]⟩ : ByteArray)] 30 (0, 0)) (by (with_reducible repeat (first | refine blk_drewN ?_ _ | refine blk_drew ?_ | refine blk_alloc ?_ _)); exact BK221.out)) : gb221 ≠ gb232)); have n6_ := Aside0.mk ((by rw [hg]; exact Nat.ne_of_gt (blk_lt (g := gb221) (o := .cells #[.int .i64 0, .int .i64 0, .string (⟨#[]⟩ : ByteArray)] 30 (0, 0)) (by (with_reducible repeat (first | refine blk_drewN ?_ _ | refine blk_drew ?_ | refine blk_alloc ?_ _)); exact BK221.out)) : gb232 ≠ gb221)); clear BK221; clear HB; have BK221 := n0_; have HB := n1_; have BK232 := n2_; have GW232 := n3_; have GE232 := n4_; have NB221_232 := n5_; have NB232_221 := n6_; clear n0_ n1_ n2_ n3_ n4_ n5_ n6_; clear hb hbox hg; have hnb20 := NB232_221.out; have hnc20 := NB221_232.out; have hcz21_0 : w19.cell? ⟨gb232, 0, none⟩ = some (.int .i64 0) := (blk_cell BK232.out 0).trans rfl; have hcz21_1 : w19.cell? ⟨gb232, 1, none⟩ = some (.int .i64 0) := (blk_cell BK232.out 1).trans rfl; have hcz21_2 : w19.cell? ⟨gb232, 2, none⟩ = some (.string (⟨#[]⟩ : ByteArray)) := (blk_cell BK232.out 2).trans rfl; have hfz21_0 := blk_frozen BK232.out 0; have hfz21_1 := blk_frozen BK232.out 1; have hfz21_2 := blk_frozen BK232.out 2) | ((with_reducible refine gate_callee (f := 63) rfl ?_); refine goesL_ (some 38) rfl rfl Try.func63 (by kernel_rfl) rfl #[.agg #[.int .i64 (wrap64 (t223 * 4)), .int .i64 t226, .string t229]] rfl (by (try simp only [List.map_toArray, List.map_cons, List.map_nil]); first | done | rfl | (simp only [List.length_drop, List.length_take]; rfl)) ?_; (with_reducible refine (impl_GoodCarried.calls (wrap64 (t223 * 4)) t226 t229 true _ A17.out).mono ?_); rintro e w22 ⟨rfl, hb⟩; refine ⟨_, rfl, ?_⟩; have n0_ := Aside0.mk (blk_below (g := gb221) (o := .cells #[.int .i64 0, .int .i64 0, .string (⟨#[]⟩ : ByteArray)] 30 (0, 0)) (by (with_reducible repeat (first | refine blk_drewN ?_ _ | refine blk_drew ?_ | refine blk_alloc ?_ _)); refine blk_far ?_ NB221_232.out _; (with_reducible repeat (first | refine blk_drewN ?_ _ | refine blk_drew ?_ | refine blk_alloc ?_ _)); refine blk_far ?_ NB221_232.out _; (with_reducible repeat (first | refine blk_drewN ?_ _ | refine blk_drew ?_ | refine blk_alloc ?_ _)); refine blk_far ?_ NB221_232.out _; (with_reducible repeat (first | refine blk_drewN ?_ _ | refine blk_drew ?_ | refine blk_alloc ?_ _)); exact BK221.out) hb); have n1_ := Aside0.mk (blk_below (g := gb232) (o := .cells #[.int .i64 (wrap64 (t223 * 4)), .int .i64 t226, .string t229] 30 (0, 0)) (by (with_reducible repeat (first | refine blk_drewN ?_ _ | refine blk_drew ?_ | refine blk_alloc ?_ _)); refine blk_put (cs := #[.int .i64 (wrap64 (t223 * 4)), .int .i64 t226, .string (⟨#[]⟩ : ByteArray)]) ?_ 2 _ rfl; (with_reducible repeat (first | refine blk_drewN ?_ _ | refine blk_drew ?_ | refine blk_alloc ?_ _)); refine blk_put (cs := #[.int .i64 (wrap64 (t223 * 4)), .int .i64 0, .string (⟨#[]⟩ : ByteArray)]) ?_ 1 _ rfl; (with_reducible repeat (first | refine blk_drewN ?_ _ | refine blk_drew ?_ | refine blk_alloc ?_ _)); refine blk_put (cs := #[.int .i64 0, .int .i64 0, .string (⟨#[]⟩ : ByteArray)]) ?_ 0 _ rfl; (with_reducible repeat (first | refine blk_drewN ?_ _ | refine blk_drew ?_ | refine blk_alloc ?_ _)); exact BK232.out) hb); have n2_ := Aside0.mk (below_step (by repeat (first | (with_reducible first | exact HB.out | apply below_alloc | apply pw_below_drewN | apply below_drew1 | refine below_set ?_ GE221.out | refine below_set ?_ GE232.out) | exact HB.out)) hb); clear BK221; clear BK232; clear HB; have BK221 := n0_; have BK232 := n1_; have HB := n2_; clear n0_ n1_ n2_; (try clear hb); (try clear hb2); (try clear hk); (try clear hi); have hcz23_0 : w22.cell? ⟨gb232, 0, none⟩ = some (.int .i64 (wrap64 (t223 * 4))) := (blk_cell BK232.out 0).trans rfl; have hcz23_1 : w22.cell? ⟨gb232, 1, none⟩ = some (.int .i64 t226) := (blk_cell BK232.out 1).trans rfl; have hcz23_2 : w22.cell? ⟨gb232, 2, none⟩ = some (.string t229) := (blk_cell BK232.out 2).trans rfl; have hfz23_0 := blk_frozen BK232.out 0; have hfz23_1 := blk_frozen BK232.out 1; have hfz23_2 := blk_frozen BK232.out 2; have hcz24_0 : w22.cell? ⟨gb221, 0, none⟩ = some (.int .i64 0) := (blk_cell BK221.out 0).trans rfl; have hcz24_1 : w22.cell? ⟨gb221, 1, none⟩ = some (.int .i64 0) := (blk_cell BK221.out 1).trans rfl; have hcz24_2 : w22.cell? ⟨gb221, 2, none⟩ = some (.string (⟨#[]⟩ : ByteArray)) := (blk_cell BK221.out 2).trans rfl; have hfz24_0 := blk_frozen BK221.out 0; have hfz24_1 := blk_frozen BK221.out 1; have hfz24_2 := blk_frozen BK221.out 2))
     refine bodyPost_ret (results_ct rfl _ _ gb221 30 #[.int .i64 (wrap64 (t223 * 4)), .int .i64 t226, .string t229] (0, 0) _ rfl (by (with_reducible repeat (first | refine blk_drewN ?_ _ | refine blk_drew ?_ | refine blk_alloc ?_ _)); refine blk_put (cs := #[.int .i64 (wrap64 (t223 * 4)), .int .i64 t226, .string (⟨#[]⟩ : ByteArray)]) ?_ 2 _ rfl; (with_reducible repeat (first | refine blk_drewN ?_ _ | refine blk_drew ?_ | refine blk_alloc ?_ _)); refine blk_put (cs := #[.int .i64 (wrap64 (t223 * 4)), .int .i64 0, .string (⟨#[]⟩ : ByteArray)]) ?_ 1 _ rfl; (with_reducible repeat (first | refine blk_drewN ?_ _ | refine blk_drew ?_ | refine blk_alloc ?_ _)); refine blk_put (cs := #[.int .i64 0, .int .i64 0, .string (⟨#[]⟩ : ByteArray)]) ?_ 0 _ rfl; (with_reducible repeat (first | refine blk_drewN ?_ _ | refine blk_drew ?_ | refine blk_alloc ?_ _)); exact BK221.out) Try.underlying30 rfl (by kernel_rfl)) rfl ?_
     exact ⟨by first | rfl | (simp [errW_none, errW_some] <;> rfl) | (simp [*, errW_none, errW_some] <;> rfl), by repeat (first | (with_reducible first | exact HB.out | apply below_alloc | apply pw_below_drewN | apply below_drew1 | refine below_set ?_ GE221.out | refine below_set ?_ GE232.out) | exact HB.out)⟩
    ·replace c18 := Bool.eq_false_iff.mpr c18
     subst c18
     have H1 : (some (0, 0, (⟨#[]⟩ : ByteArray), false)) = some (r1, r2, r3, r4) := by rw [if_neg (show ¬ (false = true) by decide)] at H; exact H
     clear H
     have H := H1
     clear H1
     simp only [Option.some.injEq, Prod.mk.injEq] at H
     obtain ⟨rfl, rfl, rfl, rfl⟩ := H
     go_wp2_with (first | ((with_reducible refine gate_dst (N := 8) rfl ?_); refine box_event ?hg (N := 8) ?hd (cs := #[.int .i64 0, .int .i64 0, .string (⟨#[]⟩ : ByteArray)]) (t := 30) ?hr ?_; (case hd => rfl); (case hg => rfl); (case hr => first | (go_simp; done) | (go_simp; rfl)); intro gb232 hg w25 hbox hb; have n0_ := Aside0.mk (blk_below (g := gb221) (o := .cells #[.int .i64 0, .int .i64 0, .string (⟨#[]⟩ : ByteArray)] 30 (0, 0)) (by (with_reducible repeat (first | refine blk_drewN ?_ _ | refine blk_drew ?_ | refine blk_alloc ?_ _)); exact BK221.out) hb); have n1_ := Aside0.mk (below_step (by repeat (first | (with_reducible first | exact HB.out | apply below_alloc | apply pw_below_drewN | apply below_drew1 | refine below_set ?_ GE221.out) | exact HB.out)) hb); have n2_ := Aside0.mk (hbox); have n3_ := Aside0.mk ((by rw [hg]; exact (below_size (by repeat (first | (with_reducible first | exact HB.out | apply below_alloc | apply pw_below_drewN | apply below_drew1 | refine below_set ?_ GE221.out) | exact HB.out))) : w.heap.size ≤ gb232)); have n4_ := Aside0.mk ((by rw [hg]; exact (below_size (by repeat (first | (with_reducible first | exact HB.out | apply below_alloc | apply pw_below_drewN | apply below_drew1 | refine below_set ?_ GE221.out) | exact HB.out))) : w.heap.size ≤ gb232)); have n5_ := Aside0.mk ((by rw [hg]; exact Nat.ne_of_lt (blk_lt (g := gb221) (o := .cells #[.int .i64 0, .int .i64 0, .string (⟨#[]⟩ : ByteArray)] 30 (0, 0)) (by (with_reducible repeat (first | refine blk_drewN ?_ _ | refine blk_drew ?_ | refine blk_alloc ?_ _)); exact BK221.out)) : gb221 ≠ gb232)); have n6_ := Aside0.mk ((by rw [hg]; exact Nat.ne_of_gt (blk_lt (g := gb221) (o := .cells #[.int .i64 0, .int .i64 0, .string (⟨#[]⟩ : ByteArray)] 30 (0, 0)) (by (with_reducible repeat (first | refine blk_drewN ?_ _ | refine blk_drew ?_ | refine blk_alloc ?_ _)); exact BK221.out)) : gb232 ≠ gb221)); clear BK221; clear HB; have BK221 := n0_; have HB := n1_; have BK232 := n2_; have GW232 := n3_; have GE232 := n4_; have NB221_232 := n5_; have NB232_221 := n6_; clear n0_ n1_ n2_ n3_ n4_ n5_ n6_; clear hb hbox hg; have hnb26 := NB232_221.out; have hnc26 := NB221_232.out; have hcz27_0 : w25.cell? ⟨gb232, 0, none⟩ = some (.int .i64 0) := (blk_cell BK232.out 0).trans rfl; have hcz27_1 : w25.cell? ⟨gb232, 1, none⟩ = some (.int .i64 0) := (blk_cell BK232.out 1).trans rfl; have hcz27_2 : w25.cell? ⟨gb232, 2, none⟩ = some (.string (⟨#[]⟩ : ByteArray)) := (blk_cell BK232.out 2).trans rfl; have hfz27_0 := blk_frozen BK232.out 0; have hfz27_1 := blk_frozen BK232.out 1; have hfz27_2 := blk_frozen BK232.out 2) | ((with_reducible refine gate_callee (f := 63) rfl ?_); refine goesL_ (some 38) rfl rfl Try.func63 (by kernel_rfl) rfl #[.agg #[.int .i64 (wrap64 (t223 * 4)), .int .i64 t226, .string t229]] rfl (by (try simp only [List.map_toArray, List.map_cons, List.map_nil]); first | done | rfl | (simp only [List.length_drop, List.length_take]; rfl)) ?_; (with_reducible refine (impl_GoodCarried.calls (wrap64 (t223 * 4)) t226 t229 false _ A17.out).mono ?_); rintro e w28 ⟨rfl, hb⟩; refine ⟨_, rfl, ?_⟩; have n0_ := Aside0.mk (blk_below (g := gb221) (o := .cells #[.int .i64 0, .int .i64 0, .string (⟨#[]⟩ : ByteArray)] 30 (0, 0)) (by (with_reducible repeat (first | refine blk_drewN ?_ _ | refine blk_drew ?_ | refine blk_alloc ?_ _)); refine blk_far ?_ NB221_232.out _; (with_reducible repeat (first | refine blk_drewN ?_ _ | refine blk_drew ?_ | refine blk_alloc ?_ _)); refine blk_far ?_ NB221_232.out _; (with_reducible repeat (first | refine blk_drewN ?_ _ | refine blk_drew ?_ | refine blk_alloc ?_ _)); refine blk_far ?_ NB221_232.out _; (with_reducible repeat (first | refine blk_drewN ?_ _ | refine blk_drew ?_ | refine blk_alloc ?_ _)); exact BK221.out) hb); have n1_ := Aside0.mk (blk_below (g := gb232) (o := .cells #[.int .i64 (wrap64 (t223 * 4)), .int .i64 t226, .string t229] 30 (0, 0)) (by (with_reducible repeat (first | refine blk_drewN ?_ _ | refine blk_drew ?_ | refine blk_alloc ?_ _)); refine blk_put (cs := #[.int .i64 (wrap64 (t223 * 4)), .int .i64 t226, .string (⟨#[]⟩ : ByteArray)]) ?_ 2 _ rfl; (with_reducible repeat (first | refine blk_drewN ?_ _ | refine blk_drew ?_ | refine blk_alloc ?_ _)); refine blk_put (cs := #[.int .i64 (wrap64 (t223 * 4)), .int .i64 0, .string (⟨#[]⟩ : ByteArray)]) ?_ 1 _ rfl; (with_reducible repeat (first | refine blk_drewN ?_ _ | refine blk_drew ?_ | refine blk_alloc ?_ _)); refine blk_put (cs := #[.int .i64 0, .int .i64 0, .string (⟨#[]⟩ : ByteArray)]) ?_ 0 _ rfl; (with_reducible repeat (first | refine blk_drewN ?_ _ | refine blk_drew ?_ | refine blk_alloc ?_ _)); exact BK232.out) hb); have n2_ := Aside0.mk (below_step (by repeat (first | (with_reducible first | exact HB.out | apply below_alloc | apply pw_below_drewN | apply below_drew1 | refine below_set ?_ GE221.out | refine below_set ?_ GE232.out) | exact HB.out)) hb); clear BK221; clear BK232; clear HB; have BK221 := n0_; have BK232 := n1_; have HB := n2_; clear n0_ n1_ n2_; (try clear hb); (try clear hb2); (try clear hk); (try clear hi); have hcz29_0 : w28.cell? ⟨gb221, 0, none⟩ = some (.int .i64 0) := (blk_cell BK221.out 0).trans rfl; have hcz29_1 : w28.cell? ⟨gb221, 1, none⟩ = some (.int .i64 0) := (blk_cell BK221.out 1).trans rfl; have hcz29_2 : w28.cell? ⟨gb221, 2, none⟩ = some (.string (⟨#[]⟩ : ByteArray)) := (blk_cell BK221.out 2).trans rfl; have hfz29_0 := blk_frozen BK221.out 0; have hfz29_1 := blk_frozen BK221.out 1; have hfz29_2 := blk_frozen BK221.out 2))
     refine bodyPost_ret (results_ct rfl _ _ gb221 30 #[.int .i64 0, .int .i64 0, .string (⟨#[]⟩ : ByteArray)] (0, 0) _ rfl (by (with_reducible repeat (first | refine blk_drewN ?_ _ | refine blk_drew ?_ | refine blk_alloc ?_ _)); refine blk_put (cs := #[.int .i64 0, .int .i64 0, .string (⟨#[]⟩ : ByteArray)]) ?_ 2 _ rfl; (with_reducible repeat (first | refine blk_drewN ?_ _ | refine blk_drew ?_ | refine blk_alloc ?_ _)); refine blk_put (cs := #[.int .i64 0, .int .i64 0, .string (⟨#[]⟩ : ByteArray)]) ?_ 1 _ rfl; (with_reducible repeat (first | refine blk_drewN ?_ _ | refine blk_drew ?_ | refine blk_alloc ?_ _)); refine blk_put (cs := #[.int .i64 0, .int .i64 0, .string (⟨#[]⟩ : ByteArray)]) ?_ 0 _ rfl; (with_reducible repeat (first | refine blk_drewN ?_ _ | refine blk_drew ?_ | refine blk_alloc ?_ _)); exact BK221.out) Try.underlying30 rfl (by kernel_rfl)) rfl ?_
     exact ⟨by first | rfl | (simp [errW_none, errW_some] <;> rfl) | (simp [*, errW_none, errW_some] <;> rfl), by repeat (first | (with_reducible first | exact HB.out | apply below_alloc | apply pw_below_drewN | apply below_drew1 | refine below_set ?_ GE221.out | refine below_set ?_ GE232.out) | exact HB.out)⟩

/-! ### laws_FnCarried: function 4 -/
def laws_FnCarried.j0 : Nat → ByteArray → Bool → Bool → Int → Int → ByteArray → Option (Bool)
 | 0, _, _, _, _, _, _ => none
 | k + 1, x4, x5, x32, x238000, x238001, x238002 => if x32 = true then (some false) else (if x5 = true then ((impl_ReadCarried.f k x4).bind fun bt242 => (if bt242.2.2.2 = true then (some (bt242.1 == x238000 && (bt242.2.1 == x238001 && (bt242.2.2.1.toList == x238002.toList)))) else (some false))) else (some (x4.toList == ([] : List UInt8))))
def laws_FnCarried.f (k : Nat) (l0 : List Int) : Option (Bool) := if (l0.length : Int) > 1048576 then (some true) else ((spec_DrawCarriedBytes.f k l0).bind fun bt234 => ((impl_CarriedBytes.f k bt234.1 bt234.2.1 bt234.2.2).bind fun bt238 => ((spec_CarriedBytes.f k bt234.1 bt234.2.1 bt234.2.2).bind fun bt240 => (if (bt238.2 != bt240.2) = true then (laws_FnCarried.j0 k bt238.1 bt238.2 true bt234.1 bt234.2.1 bt234.2.2) else (laws_FnCarried.j0 k bt238.1 bt238.2 (bt238.1.toList != bt240.1.toList) bt234.1 bt234.2.1 bt234.2.2)))))
theorem laws_FnCarried.mono_l : ∀ k, (∀ y0 y1 y2 y3 y4 y5, LeO (laws_FnCarried.j0 k y0 y1 y2 y3 y4 y5) (laws_FnCarried.j0 (k + 1) y0 y1 y2 y3 y4 y5))
 | 0 => fun _ _ _ _ _ _ r h => by simp [laws_FnCarried.j0] at h
 | k + 1 => by
  have ih0 := laws_FnCarried.mono_l k
  ·intro y0 y1 y2 y3 y4 y5
   unfold laws_FnCarried.j0
   repeat' first
   | (with_reducible exact ih0 _ _ _ _ _ _)
   | (with_reducible exact impl_CarriedBytes.mono _ _ _ _)
   | (with_reducible exact impl_ReadCarried.mono _ _)
   | (with_reducible exact spec_CarriedBytes.mono _ _ _ _)
   | (with_reducible exact spec_DrawCarriedBytes.mono _ _)
   | (with_reducible exact LeO.refl _)
   | (with_reducible exact LeO.none _)
   | (with_reducible refine LeO.ite ?_ ?_)
   | (with_reducible refine LeO.bind ?_ (fun _ => ?_))
   | exact ih0 _ _ _ _ _ _
   | exact impl_CarriedBytes.mono _ _ _ _
   | exact impl_ReadCarried.mono _ _
   | exact spec_CarriedBytes.mono _ _ _ _
   | exact spec_DrawCarriedBytes.mono _ _
   | exact LeO.none _
   | refine LeO.ite ?_ ?_
   | refine LeO.bind ?_ (fun _ => ?_)
theorem laws_FnCarried.mono : ∀ a0 k, LeO (laws_FnCarried.f k a0) (laws_FnCarried.f (k + 1) a0) := by
 intro a0 k
 have ih0 := laws_FnCarried.mono_l k
 unfold laws_FnCarried.f
 repeat' first
   | (with_reducible exact ih0 _ _ _ _ _ _)
   | (with_reducible exact impl_CarriedBytes.mono _ _ _ _)
   | (with_reducible exact impl_ReadCarried.mono _ _)
   | (with_reducible exact spec_CarriedBytes.mono _ _ _ _)
   | (with_reducible exact spec_DrawCarriedBytes.mono _ _)
   | (with_reducible exact LeO.refl _)
   | (with_reducible exact LeO.none _)
   | (with_reducible refine LeO.ite ?_ ?_)
   | (with_reducible refine LeO.bind ?_ (fun _ => ?_))
   | exact ih0 _ _ _ _ _ _
   | exact impl_CarriedBytes.mono _ _ _ _
   | exact impl_ReadCarried.mono _ _
   | exact spec_CarriedBytes.mono _ _ _ _
   | exact spec_DrawCarriedBytes.mono _ _
   | exact LeO.none _
   | refine LeO.ite ?_ ?_
   | refine LeO.bind ?_ (fun _ => ?_)
set_option maxHeartbeats 8000000 in
set_option maxRecDepth 100000 in
theorem laws_FnCarried.calls (k : Nat) (A0 : Option Addr) (c0 : Nat) (l0 : List Int) (r : Bool) (w : World) (hr0 : Kd.C (Kd.int .u8) w A0 l0.length l0) (hc0 : l0.length ≤ c0) (h : laws_FnCarried.f k l0 = some r) :
  Calls Try.prog 4 #[.slice A0 l0.length c0] w fun e w' => e = .returned (.bool r) ∧ Below w.heap.size w w' := by
 have hu30 := Try.underlying30
 have HR0 := Aside0.mk hr0
 have HC0 := Aside0.mk hc0
 clear hr0 hc0
 have HB := Aside0.mk (Below.refl w.heap.size w)
 have H : (if (l0.length : Int) > 1048576 then (some true) else ((spec_DrawCarriedBytes.f k l0).bind fun bt234 => ((impl_CarriedBytes.f k bt234.1 bt234.2.1 bt234.2.2).bind fun bt238 => ((spec_CarriedBytes.f k bt234.1 bt234.2.1 bt234.2.2).bind fun bt240 => (if (bt238.2 != bt240.2) = true then (laws_FnCarried.j0 k bt238.1 bt238.2 true bt234.1 bt234.2.1 bt234.2.2) else (laws_FnCarried.j0 k bt238.1 bt238.2 (bt238.1.toList != bt240.1.toList) bt234.1 bt234.2.1 bt234.2.2)))))) = some r := h
 clear h
 by_cases c2 : (l0.length : Int) > 1048576
 ·rw [if_pos c2] at H
  have c2b0 : decide (1048576 < (l0.length : Int)) = true := decide_eq_true c2
  have c2b1 : decide (1048576 < l0.length) = true := decide_eq_true (by omega)
  clear c2
  obtain rfl := Option.some.inj H
  go_enter Try.func4, Try.ntmps4
  go_wp2
  go_ret
  exact ⟨by first | rfl | (simp [errW_none, errW_some] <;> rfl) | (simp [*, errW_none, errW_some] <;> rfl), by repeat (first | (with_reducible first | exact HB.out | apply below_alloc | apply pw_below_drewN | apply below_drew1) | exact HB.out)⟩
 ·rw [if_neg c2] at H
  have c2b0 : decide (1048576 < (l0.length : Int)) = false := decide_eq_false c2
  have c2b1 : decide (1048576 < l0.length) = false := decide_eq_false (by omega)
  clear c2
  replace H := Option.bind_eq_some_iff.mp H
  obtain ⟨⟨t234, t235, t236⟩, A30, H⟩ := H
  replace H : ((impl_CarriedBytes.f k t234 t235 t236).bind fun bt238 => ((spec_CarriedBytes.f k t234 t235 t236).bind fun bt240 => (if (bt238.2 != bt240.2) = true then (laws_FnCarried.j0 k bt238.1 bt238.2 true t234 t235 t236) else (laws_FnCarried.j0 k bt238.1 bt238.2 (bt238.1.toList != bt240.1.toList) t234 t235 t236)))) = some r := H
  have A3 := Aside0.mk A30
  clear A30
  replace H := Option.bind_eq_some_iff.mp H
  obtain ⟨⟨t238, t239⟩, A40, H⟩ := H
  replace H : ((spec_CarriedBytes.f k t234 t235 t236).bind fun bt240 => (if (t239 != bt240.2) = true then (laws_FnCarried.j0 k t238 t239 true t234 t235 t236) else (laws_FnCarried.j0 k t238 t239 (t238.toList != bt240.1.toList) t234 t235 t236))) = some r := H
  have A4 := Aside0.mk A40
  clear A40
  replace H := Option.bind_eq_some_iff.mp H
  obtain ⟨⟨t240, t241⟩, A50, H⟩ := H
  replace H : (if (t239 != t241) = true then (laws_FnCarried.j0 k t238 t239 true t234 t235 t236) else (laws_FnCarried.j0 k t238 t239 (t238.toList != t240.toList) t234 t235 t236)) = some r := H
  have A5 := Aside0.mk A50
  clear A50
  have HC6 := Aside0.mk H
  clear H
  go_enter Try.func4, Try.ntmps4
  go_upto_region 6 with (first | ((with_reducible refine gate_callee (f := 14) rfl ?_); refine goesL_ (some 14) rfl rfl Try.func14 (by kernel_rfl) rfl #[.slice A0 l0.length c0] rfl (by (try simp only [List.map_toArray, List.map_cons, List.map_nil]); first | done | rfl | (simp only [List.length_drop, List.length_take]; rfl)) ?_; (with_reducible refine (spec_DrawCarriedBytes.calls k _ _ l0 t234 t235 t236 _ ?side1 ?side2 A3.out).mono ?_); (case side1 => repeat (first | exact HR0.out | (with_reducible refine Kd.C_alloc ?_ _) | (with_reducible refine Kd.C_drewN ?_ _) | (with_reducible refine Kd.C_drew ?_))); (case side2 => exact HC0.out); rintro e w7 ⟨rfl, hb⟩; refine ⟨_, rfl, ?_⟩; have n0_ := Aside0.mk (below_step (by repeat (first | (with_reducible first | exact HB.out | apply below_alloc | apply pw_below_drewN | apply below_drew1) | exact HB.out)) hb); clear HB; have HB := n0_; clear n0_; (try clear hb); (try clear hb2); (try clear hk); (try clear hi)) | ((with_reducible refine gate_dst (N := 3) rfl ?_); refine box_event ?hg (N := 3) ?hd (cs := #[.int .i64 0, .int .i64 0, .string (⟨#[]⟩ : ByteArray)]) (t := 30) ?hr ?_; (case hd => rfl); (case hg => rfl); (case hr => first | (go_simp; done) | (go_simp; rfl)); intro gb237 hg w8 hbox hb; have n0_ := Aside0.mk (below_step (by repeat (first | (with_reducible first | exact HB.out | apply below_alloc | apply pw_below_drewN | apply below_drew1) | exact HB.out)) hb); have n1_ := Aside0.mk (hbox); have n2_ := Aside0.mk ((by rw [hg]; exact (below_size (by repeat (first | (with_reducible first | exact HB.out | apply below_alloc | apply pw_below_drewN | apply below_drew1) | exact HB.out))) : w.heap.size ≤ gb237)); have n3_ := Aside0.mk ((by rw [hg]; exact (below_size (by repeat (first | (with_reducible first | exact HB.out | apply below_alloc | apply pw_below_drewN | apply below_drew1) | exact HB.out))) : w.heap.size ≤ gb237)); clear HB; have HB := n0_; have BK237 := n1_; have GW237 := n2_; have GE237 := n3_; clear n0_ n1_ n2_ n3_; clear hb hbox hg; have hcz9_0 : w8.cell? ⟨gb237, 0, none⟩ = some (.int .i64 0) := (blk_cell BK237.out 0).trans rfl; have hcz9_1 : w8.cell? ⟨gb237, 1, none⟩ = some (.int .i64 0) := (blk_cell BK237.out 1).trans rfl; have hcz9_2 : w8.cell? ⟨gb237, 2, none⟩ = some (.string (⟨#[]⟩ : ByteArray)) := (blk_cell BK237.out 2).trans rfl; have hfz9_0 := blk_frozen BK237.out 0; have hfz9_1 := blk_frozen BK237.out 1; have hfz9_2 := blk_frozen BK237.out 2) | ((with_reducible refine gate_callee (f := 15) rfl ?_); refine goesL_ (some 17) rfl rfl Try.func15 (by kernel_rfl) rfl #[.agg #[.int .i64 t234, .int .i64 t235, .string t236]] rfl (by (try simp only [List.map_toArray, List.map_cons, List.map_nil]); first | done | rfl | (simp only [List.length_drop, List.length_take]; rfl)) ?_; (with_reducible refine (impl_CarriedBytes.calls k t234 t235 t236 t238 t239 _ A4.out).mono ?_); rintro e w10 ⟨rfl, hb⟩; refine ⟨_, rfl, ?_⟩; have n0_ := Aside0.mk (blk_below (g := gb237) (o := .cells #[.int .i64 t234, .int .i64 t235, .string t236] 30 (0, 0)) (by (with_reducible repeat (first | refine blk_drewN ?_ _ | refine blk_drew ?_ | refine blk_alloc ?_ _)); refine blk_put (cs := #[.int .i64 t234, .int .i64 t235, .string (⟨#[]⟩ : ByteArray)]) ?_ 2 _ rfl; (with_reducible repeat (first | refine blk_drewN ?_ _ | refine blk_drew ?_ | refine blk_alloc ?_ _)); refine blk_put (cs := #[.int .i64 t234, .int .i64 0, .string (⟨#[]⟩ : ByteArray)]) ?_ 1 _ rfl; (with_reducible repeat (first | refine blk_drewN ?_ _ | refine blk_drew ?_ | refine blk_alloc ?_ _)); refine blk_put (cs := #[.int .i64 0, .int .i64 0, .string (⟨#[]⟩ : ByteArray)]) ?_ 0 _ rfl; (with_reducible repeat (first | refine blk_drewN ?_ _ | refine blk_drew ?_ | refine blk_alloc ?_ _)); exact BK237.out) hb); have n1_ := Aside0.mk (below_step (by repeat (first | (with_reducible first | exact HB.out | apply below_alloc | apply pw_below_drewN | apply below_drew1 | refine below_set ?_ GE237.out) | exact HB.out)) hb); clear BK237; clear HB; have BK237 := n0_; have HB := n1_; clear n0_ n1_; (try clear hb); (try clear hb2); (try clear hk); (try clear hi); have hcz11_0 : w10.cell? ⟨gb237, 0, none⟩ = some (.int .i64 t234) := (blk_cell BK237.out 0).trans rfl; have hcz11_1 : w10.cell? ⟨gb237, 1, none⟩ = some (.int .i64 t235) := (blk_cell BK237.out 1).trans rfl; have hcz11_2 : w10.cell? ⟨gb237, 2, none⟩ = some (.string t236) := (blk_cell BK237.out 2).trans rfl; have hfz11_0 := blk_frozen BK237.out 0; have hfz11_1 := blk_frozen BK237.out 1; have hfz11_2 := blk_frozen BK237.out 2) | ((with_reducible refine gate_callee (f := 16) rfl ?_); refine goesL_ (some 22) rfl rfl Try.func16 (by kernel_rfl) rfl #[.agg #[.int .i64 t234, .int .i64 t235, .string t236]] rfl (by (try simp only [List.map_toArray, List.map_cons, List.map_nil]); first | done | rfl | (simp only [List.length_drop, List.length_take]; rfl)) ?_; (with_reducible refine (spec_CarriedBytes.calls k t234 t235 t236 t240 t241 _ A5.out).mono ?_); rintro e w12 ⟨rfl, hb⟩; refine ⟨_, rfl, ?_⟩; have n0_ := Aside0.mk (blk_below (g := gb237) (o := .cells #[.int .i64 t234, .int .i64 t235, .string t236] 30 (0, 0)) (by (with_reducible repeat (first | refine blk_drewN ?_ _ | refine blk_drew ?_ | refine blk_alloc ?_ _)); exact BK237.out) hb); have n1_ := Aside0.mk (below_step (by repeat (first | (with_reducible first | exact HB.out | apply below_alloc | apply pw_below_drewN | apply below_drew1 | refine below_set ?_ GE237.out) | exact HB.out)) hb); clear BK237; clear HB; have BK237 := n0_; have HB := n1_; clear n0_ n1_; (try clear hb); (try clear hb2); (try clear hk); (try clear hi)))
  (try simp only [Act.put, List.setIfInBounds_toArray, List.set_cons_zero, List.set_cons_succ])
  go_cut [32] (fun v32 wc => ∃ (kq : Nat) (x32_5 : Bool), v32 = .bool x32_5 ∧ Aside0 (laws_FnCarried.j0 kq t238 t239 x32_5 t234 t235 t236 = some r) ∧ Aside0 (kq ≤ k) ∧ Aside0 (wc.heap[gb237]? = some (.cells #[.int .i64 t234, .int .i64 t235, .string t236] 30 (0, 0))) ∧ Aside0 (Below w.heap.size w wc))
  case first =>
   have H := HC6.out
   clear HC6
   by_cases c13 : (t239 != t241) = true
   ·rw [if_pos c13] at H
    have c13b0 : (t239 != t241) = true := c13
    (try (have c13b1 : decide (t239 = t241) = false := by simpa using c13))
    (try (have c13b2 : (t239 == t241) = false := by simpa using c13))
    (try (have c13b3 : ¬ (t239 = t241) := by simpa using c13))
    clear c13
    (first | rw [c13b0] | (simp only [i64_w, i32_w]; rw [c13b0]) | skip)
    have H' := Aside0.mk H
    clear H
    go_wp2
    go_meet
    case rel => exact ⟨_, (true), (by first | rfl | (simp; done) | (simp [*]; done)), H', ⟨by first | omega | exact Nat.le_refl _⟩, ⟨by (with_reducible repeat (first | refine blk_drewN ?_ _ | refine blk_drew ?_ | refine blk_alloc ?_ _)); exact BK237.out⟩, ⟨by repeat (first | (with_reducible first | exact HB.out | apply below_alloc | apply pw_below_drewN | apply below_drew1 | refine below_set ?_ GE237.out) | exact HB.out)⟩⟩
   ·rw [if_neg c13] at H
    have c13b0 : (t239 != t241) = false := by simpa using c13
    (try (have c13b1 : decide (t239 = t241) = true := by simpa using c13))
    (try (have c13b2 : (t239 == t241) = true := by simpa using c13))
    clear c13
    (first | rw [c13b0] | (simp only [i64_w, i32_w]; rw [c13b0]) | skip)
    have H' := Aside0.mk H
    clear H
    go_wp2
    go_meet
    case rel => exact ⟨_, ((t238.toList != t240.toList)), (by first | rfl | (simp; done) | (simp [*]; done)), H', ⟨by first | omega | exact Nat.le_refl _⟩, ⟨by (with_reducible repeat (first | refine blk_drewN ?_ _ | refine blk_drew ?_ | refine blk_alloc ?_ _)); exact BK237.out⟩, ⟨by repeat (first | (with_reducible first | exact HB.out | apply below_alloc | apply pw_below_drewN | apply below_drew1 | refine below_set ?_ GE237.out) | exact HB.out)⟩⟩
  case rest =>
   clear HC6
   try clear c1; try clear c2; try clear c2b0; try clear c2b1; try clear p2; try clear c4; try clear c13; try clear c13b0; try clear c13b1; try clear c13b2; try clear hcz11_0; try clear hcz11_1; try clear hcz11_2; try clear hcz9_0; try clear hcz9_1; try clear hcz9_2; try clear hfz11_0; try clear hfz11_1; try clear hfz11_2; try clear hfz9_0; try clear hfz9_1; try clear hfz9_2
   obtain ⟨kq, x32_5, rfl, HA, HJ5, BK237, HB⟩ := hcut
   cases kq with
   | zero => exact absurd HA.out (by simp [laws_FnCarried.j0])
   | succ kj5 =>
    have H := HA.out
    clear HA
    simp only [laws_FnCarried.j0] at H
    by_cases c14 : x32_5 = true
    ·subst c14
     have H1 : (some false) = some r := by rw [if_pos rfl] at H; exact H
     clear H
     have H := H1
     clear H1
     obtain rfl := Option.some.inj H
     go_wp2
     go_ret
     exact ⟨by first | rfl | (simp [errW_none, errW_some] <;> rfl) | (simp [*, errW_none, errW_some] <;> rfl), by repeat (first | (with_reducible first | exact HB.out | apply below_alloc | apply pw_below_drewN | apply below_drew1 | refine below_set ?_ GE237.out) | exact HB.out)⟩
    ·replace c14 := Bool.eq_false_iff.mpr c14
     subst c14
     have H1 : (if t239 = true then ((impl_ReadCarried.f kj5 t238).bind fun bt242 => (if bt242.2.2.2 = true then (some (bt242.1 == t234 && (bt242.2.1 == t235 && (bt242.2.2.1.toList == t236.toList)))) else (some false))) else (some (t238.toList == ([] : List UInt8)))) = some r := by rw [if_neg (show ¬ (false = true) by decide)] at H; exact H
     clear H
     have H := H1
     clear H1
     by_cases c15 : t239 = true
     ·subst c15
      have H1 : ((impl_ReadCarried.f kj5 t238).bind fun bt242 => (if bt242.2.2.2 = true then (some (bt242.1 == t234 && (bt242.2.1 == t235 && (bt242.2.2.1.toList == t236.toList)))) else (some false))) = some r := by rw [if_pos rfl] at H; exact H
      clear H
      have H := H1
      clear H1
      replace H := Option.bind_eq_some_iff.mp H
      obtain ⟨⟨t242, t243, t244, t245⟩, A160, H⟩ := H
      replace H : (if t245 = true then (some (t242 == t234 && (t243 == t235 && (t244.toList == t236.toList)))) else (some false)) = some r := H
      have A16 := Aside0.mk A160
      clear A160
      by_cases c17 : t245 = true
      ·subst c17
       have H1 : (some (t242 == t234 && (t243 == t235 && (t244.toList == t236.toList)))) = some r := by rw [if_pos rfl] at H; exact H
       clear H
       have H := H1
       clear H1
       obtain rfl := Option.some.inj H
       go_wp2_with (first | ((with_reducible refine gate_callee (f := 17) rfl ?_); refine goesL_ (some 39) rfl rfl Try.func17 (by kernel_rfl) rfl #[.string t238] rfl (by (try simp only [List.map_toArray, List.map_cons, List.map_nil]); first | done | rfl | (simp only [List.length_drop, List.length_take]; rfl)) ?_; (with_reducible refine (impl_ReadCarried.calls kj5 t238 t242 t243 t244 true _ A16.out).mono ?_); rintro e w18 ⟨rfl, hb⟩; refine ⟨_, rfl, ?_⟩; have n0_ := Aside0.mk (blk_below (g := gb237) (o := .cells #[.int .i64 t234, .int .i64 t235, .string t236] 30 (0, 0)) (by (with_reducible repeat (first | refine blk_drewN ?_ _ | refine blk_drew ?_ | refine blk_alloc ?_ _)); exact BK237.out) hb); have n1_ := Aside0.mk (below_step (by repeat (first | (with_reducible first | exact HB.out | apply below_alloc | apply pw_below_drewN | apply below_drew1 | refine below_set ?_ GE237.out) | exact HB.out)) hb); clear BK237; clear HB; have BK237 := n0_; have HB := n1_; clear n0_ n1_; (try clear hb); (try clear hb2); (try clear hk); (try clear hi)) | ((with_reducible refine gate_dst (N := 8) rfl ?_); refine box_event ?hg (N := 8) ?hd (cs := #[.int .i64 0, .int .i64 0, .string (⟨#[]⟩ : ByteArray)]) (t := 30) ?hr ?_; (case hd => rfl); (case hg => rfl); (case hr => first | (go_simp; done) | (go_simp; rfl)); intro gb246 hg w19 hbox hb; have n0_ := Aside0.mk (blk_below (g := gb237) (o := .cells #[.int .i64 t234, .int .i64 t235, .string t236] 30 (0, 0)) (by (with_reducible repeat (first | refine blk_drewN ?_ _ | refine blk_drew ?_ | refine blk_alloc ?_ _)); exact BK237.out) hb); have n1_ := Aside0.mk (below_step (by repeat (first | (with_reducible first | exact HB.out | apply below_alloc | apply pw_below_drewN | apply below_drew1 | refine below_set ?_ GE237.out) | exact HB.out)) hb); have n2_ := Aside0.mk (hbox); have n3_ := Aside0.mk ((by rw [hg]; exact (below_size (by repeat (first | (with_reducible first | exact HB.out | apply below_alloc | apply pw_below_drewN | apply below_drew1 | refine below_set ?_ GE237.out) | exact HB.out))) : w.heap.size ≤ gb246)); have n4_ := Aside0.mk ((by rw [hg]; exact (below_size (by repeat (first | (with_reducible first | exact HB.out | apply below_alloc | apply pw_below_drewN | apply below_drew1 | refine below_set ?_ GE237.out) | exact HB.out))) : w.heap.size ≤ gb246)); have n5_ := Aside0.mk ((by rw [hg]; exact Nat.ne_of_lt (blk_lt (g := gb237) (o := .cells #[.int .i64 t234, .int .i64 t235, .string t236] 30 (0, 0)) (by (with_reducible repeat (first | refine blk_drewN ?_ _ | refine blk_drew ?_ | refine blk_alloc ?_ _)); exact BK237.out)) : gb237 ≠ gb246)); have n6_ := Aside0.mk ((by rw [hg]; exact Nat.ne_of_gt (blk_lt (g := gb237) (o := .cells #[.int .i64 t234, .int .i64 t235, .string t236] 30 (0, 0)) (by (with_reducible repeat (first | refine blk_drewN ?_ _ | refine blk_drew ?_ | refine blk_alloc ?_ _)); exact BK237.out)) : gb246 ≠ gb237)); clear BK237; clear HB; have BK237 := n0_; have HB := n1_; have BK246 := n2_; have GW246 := n3_; have GE246 := n4_; have NB237_246 := n5_; have NB246_237 := n6_; clear n0_ n1_ n2_ n3_ n4_ n5_ n6_; clear hb hbox hg; have hnb20 := NB246_237.out; have hnc20 := NB237_246.out; have hcz21_0 : w19.cell? ⟨gb246, 0, none⟩ = some (.int .i64 0) := (blk_cell BK246.out 0).trans rfl; have hcz21_1 : w19.cell? ⟨gb246, 1, none⟩ = some (.int .i64 0) := (blk_cell BK246.out 1).trans rfl; have hcz21_2 : w19.cell? ⟨gb246, 2, none⟩ = some (.string (⟨#[]⟩ : ByteArray)) := (blk_cell BK246.out 2).trans rfl; have hfz21_0 := blk_frozen BK246.out 0; have hfz21_1 := blk_frozen BK246.out 1; have hfz21_2 := blk_frozen BK246.out 2; have hcz22_0 : w19.cell? ⟨gb237, 0, none⟩ = some (.int .i64 t234) := (blk_cell BK237.out 0).trans rfl; have hcz22_1 : w19.cell? ⟨gb237, 1, none⟩ = some (.int .i64 t235) := (blk_cell BK237.out 1).trans rfl; have hcz22_2 : w19.cell? ⟨gb237, 2, none⟩ = some (.string t236) := (blk_cell BK237.out 2).trans rfl; have hfz22_0 := blk_frozen BK237.out 0; have hfz22_1 := blk_frozen BK237.out 1; have hfz22_2 := blk_frozen BK237.out 2))
       go_ret
       exact ⟨by first | rfl | (simp [errW_none, errW_some] <;> rfl) | (simp [*, errW_none, errW_some] <;> rfl), by repeat (first | (with_reducible first | exact HB.out | apply below_alloc | apply pw_below_drewN | apply below_drew1 | refine below_set ?_ GE237.out | refine below_set ?_ GE246.out) | exact HB.out)⟩
      ·replace c17 := Bool.eq_false_iff.mpr c17
       subst c17
       have H1 : (some false) = some r := by rw [if_neg (show ¬ (false = true) by decide)] at H; exact H
       clear H
       have H := H1
       clear H1
       obtain rfl := Option.some.inj H
       go_wp2_with (first | ((with_reducible refine gate_callee (f := 17) rfl ?_); refine goesL_ (some 39) rfl rfl Try.func17 (by kernel_rfl) rfl #[.string t238] rfl (by (try simp only [List.map_toArray, List.map_cons, List.map_nil]); first | done | rfl | (simp only [List.length_drop, List.length_take]; rfl)) ?_; (with_reducible refine (impl_ReadCarried.calls kj5 t238 t242 t243 t244 false _ A16.out).mono ?_); rintro e w23 ⟨rfl, hb⟩; refine ⟨_, rfl, ?_⟩; have n0_ := Aside0.mk (blk_below (g := gb237) (o := .cells #[.int .i64 t234, .int .i64 t235, .string t236] 30 (0, 0)) (by (with_reducible repeat (first | refine blk_drewN ?_ _ | refine blk_drew ?_ | refine blk_alloc ?_ _)); exact BK237.out) hb); have n1_ := Aside0.mk (below_step (by repeat (first | (with_reducible first | exact HB.out | apply below_alloc | apply pw_below_drewN | apply below_drew1 | refine below_set ?_ GE237.out) | exact HB.out)) hb); clear BK237; clear HB; have BK237 := n0_; have HB := n1_; clear n0_ n1_; (try clear hb); (try clear hb2); (try clear hk); (try clear hi)) | ((with_reducible refine gate_dst (N := 8) rfl ?_); refine box_event ?hg (N := 8) ?hd (cs := #[.int .i64 0, .int .i64 0, .string (⟨#[]⟩ : ByteArray)]) (t := 30) ?hr ?_; (case hd => rfl); (case hg => rfl); (case hr => first | (go_simp; done) | (go_simp; rfl)); intro gb246 hg w24 hbox hb; have n0_ := Aside0.mk (blk_below (g := gb237) (o := .cells #[.int .i64 t234, .int .i64 t235, .string t236] 30 (0, 0)) (by (with_reducible repeat (first | refine blk_drewN ?_ _ | refine blk_drew ?_ | refine blk_alloc ?_ _)); exact BK237.out) hb); have n1_ := Aside0.mk (below_step (by repeat (first | (with_reducible first | exact HB.out | apply below_alloc | apply pw_below_drewN | apply below_drew1 | refine below_set ?_ GE237.out) | exact HB.out)) hb); have n2_ := Aside0.mk (hbox); have n3_ := Aside0.mk ((by rw [hg]; exact (below_size (by repeat (first | (with_reducible first | exact HB.out | apply below_alloc | apply pw_below_drewN | apply below_drew1 | refine below_set ?_ GE237.out) | exact HB.out))) : w.heap.size ≤ gb246)); have n4_ := Aside0.mk ((by rw [hg]; exact (below_size (by repeat (first | (with_reducible first | exact HB.out | apply below_alloc | apply pw_below_drewN | apply below_drew1 | refine below_set ?_ GE237.out) | exact HB.out))) : w.heap.size ≤ gb246)); have n5_ := Aside0.mk ((by rw [hg]; exact Nat.ne_of_lt (blk_lt (g := gb237) (o := .cells #[.int .i64 t234, .int .i64 t235, .string t236] 30 (0, 0)) (by (with_reducible repeat (first | refine blk_drewN ?_ _ | refine blk_drew ?_ | refine blk_alloc ?_ _)); exact BK237.out)) : gb237 ≠ gb246)); have n6_ := Aside0.mk ((by rw [hg]; exact Nat.ne_of_gt (blk_lt (g := gb237) (o := .cells #[.int .i64 t234, .int .i64 t235, .string t236] 30 (0, 0)) (by (with_reducible repeat (first | refine blk_drewN ?_ _ | refine blk_drew ?_ | refine blk_alloc ?_ _)); exact BK237.out)) : gb246 ≠ gb237)); clear BK237; clear HB; have BK237 := n0_; have HB := n1_; have BK246 := n2_; have GW246 := n3_; have GE246 := n4_; have NB237_246 := n5_; have NB246_237 := n6_; clear n0_ n1_ n2_ n3_ n4_ n5_ n6_; clear hb hbox hg; have hnb25 := NB246_237.out; have hnc25 := NB237_246.out; have hcz26_0 : w24.cell? ⟨gb246, 0, none⟩ = some (.int .i64 0) := (blk_cell BK246.out 0).trans rfl; have hcz26_1 : w24.cell? ⟨gb246, 1, none⟩ = some (.int .i64 0) := (blk_cell BK246.out 1).trans rfl; have hcz26_2 : w24.cell? ⟨gb246, 2, none⟩ = some (.string (⟨#[]⟩ : ByteArray)) := (blk_cell BK246.out 2).trans rfl; have hfz26_0 := blk_frozen BK246.out 0; have hfz26_1 := blk_frozen BK246.out 1; have hfz26_2 := blk_frozen BK246.out 2))
       go_ret
       exact ⟨by first | rfl | (simp [errW_none, errW_some] <;> rfl) | (simp [*, errW_none, errW_some] <;> rfl), by repeat (first | (with_reducible first | exact HB.out | apply below_alloc | apply pw_below_drewN | apply below_drew1 | refine below_set ?_ GE237.out | refine below_set ?_ GE246.out) | exact HB.out)⟩
     ·replace c15 := Bool.eq_false_iff.mpr c15
      subst c15
      have H1 : (some (t238.toList == ([] : List UInt8))) = some r := by rw [if_neg (show ¬ (false = true) by decide)] at H; exact H
      clear H
      have H := H1
      clear H1
      obtain rfl := Option.some.inj H
      go_wp2
      go_ret
      exact ⟨by first | rfl | (simp [errW_none, errW_some] <;> rfl) | (simp [*, errW_none, errW_some] <;> rfl), by repeat (first | (with_reducible first | exact HB.out | apply below_alloc | apply pw_below_drewN | apply below_drew1 | refine below_set ?_ GE237.out) | exact HB.out)⟩

/-- THE ONE PURE STATEMENT of laws_FnCarried: yours. -/
def laws_FnCarried.Pure : Prop := ∀ (l0 : List Int), l0.length ≤ maxLen → l0.length * 1 ≤ 140737488351232 → (∀ x ∈ l0, (Lit.int .u8 x).wf = true) → ∃ k, laws_FnCarried.f k l0 = some true
theorem laws_FnCarried.walk (P : laws_FnCarried.Pure) (a0 : Option Addr) (len0 cap0 : Nat) (z0 : List Int) (w : World) (w0 : (a0 = none ∧ len0 = 0 ∧ cap0 = 0 ∧ z0 = []) ∨ ∃ x, a0 = some x ∧ len0 ≤ cap0 ∧ cap0 ≤ maxLen ∧ z0.length = cap0 ∧ (∀ i, i < z0.length → w.cell? (x.add i) = some (.int .u8 (z0.getD i 0))) ∧ ∀ n ∈ z0, (Lit.int .u8 n).wf = true) (y0 : len0 * 1 ≤ 140737488351232) :
  Calls Try.prog 4 #[.slice a0 len0 cap0] w fun e w' => e = .returned (.bool true) ∧ Below w.heap.size w w' := by
 obtain ⟨l0, rfl, hr0, hm0, hw0, hc0⟩ := ReadsInt.ofRowC w0
 obtain ⟨k, h⟩ := P l0 hm0 y0 hw0
 refine (laws_FnCarried.calls k _ _ l0 true w (Kd.C_of_reads (d := (0 : Int)) (h1 := fun _ => rfl) hr0) hc0 h).mono ?_
 rintro e w' ⟨rfl, hd⟩
 exact ⟨rfl, hd⟩

end Go.Proofs.Ytcngjidojibleaa.PFnCarried
