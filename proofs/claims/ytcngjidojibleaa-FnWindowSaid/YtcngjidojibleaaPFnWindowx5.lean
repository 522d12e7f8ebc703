-- Written by a program of this session out of the translation; Lean checks it.
import Derived.Test.YtcngjidojibleaaPFnWindowx0
import Derived.Test.YtcngjidojibleaaPFnWindowx2
import Derived.Test.YtcngjidojibleaaPFnWindowx4
namespace Go.Proofs.Ytcngjidojibleaa.PFnWindow
open Go.RowKit Go.Proofs.YtcngjidojibleaaW.PrintWords Go.Proofs.YtcngjidojibleaaW.PrintLast Go.Proofs.YtcngjidojibleaaW.PrintMore
attribute [local go_sem] max2_int min2_int max_two min_two max_three min_three max_four min_four   -- for this text's walks alone
set_option linter.unusedVariables false
set_option linter.unusedSimpArgs false

/-! ### spec_l1Cur_window: function 75 -/
def spec_l1Cur_window.j0 : Nat → List Int → Int → Int → Int → Int → Int → Int → Option (Int × Int × Int × Int × Int × Int)
 | 0, _, _, _, _, _, _, _ => none
 | k + 1, x1000, x1001, x1002, x251000, x251001, x251002, x251003 => (spec_l1Cur_pick.f x1000 x1001 x1002 40).bind fun bt256 => (if bt256.1 = 0 then ((spec_l1Cur_among.f x1000 bt256.2.1 bt256.2.2 (([2399, 2400, 100000000, 100000001] : List Int))).bind fun bt262 => (some (bt262.1, x251001, x251002, x251003, bt262.2.1, bt262.2.2))) else (if bt256.1 = 1 then ((spec_l1Cur_among.f x1000 bt256.2.1 bt256.2.2 (([(-1), 0, 100000000] : List Int))).bind fun bt268 => (some (x251000, x251001, x251002, bt268.1, bt268.2.1, bt268.2.2))) else (if bt256.1 = 2 then (some (x251000, 2400, x251002, x251003, bt256.2.1, bt256.2.2)) else (some (x251000, x251001, x251002, x251003, bt256.2.1, bt256.2.2)))))
def spec_l1Cur_window.f (k : Nat) (s0_0 : List Int) (s0_1 : Int) (s0_2 : Int) : Option (Int × Int × Int × Int × Int × Int) := (spec_l1Cur_grows.f k s0_0 s0_1 s0_2).bind fun bt237 => ((spec_PlayWindow.f k bt237.1).bind fun bt242 => ((spec_GoodWindow.f bt242.1 bt242.2.1 bt242.2.2.1 bt242.2.2.2.1).bind fun t251 => (if t251 = true then (spec_l1Cur_window.j0 k s0_0 bt237.2.1 bt237.2.2 bt242.1 bt242.2.1 bt242.2.2.1 bt242.2.2.2.1) else ((spec_NewWindow.f).bind fun bt252 => (spec_l1Cur_window.j0 k s0_0 bt237.2.1 bt237.2.2 bt252.1 bt252.2.1 bt252.2.2.1 bt252.2.2.2)))))
theorem spec_l1Cur_window.mono_l : ∀ k, (∀ y0 y1 y2 y3 y4 y5 y6, LeO (spec_l1Cur_window.j0 k y0 y1 y2 y3 y4 y5 y6) (spec_l1Cur_window.j0 (k + 1) y0 y1 y2 y3 y4 y5 y6))
 | 0 => fun _ _ _ _ _ _ _ r h => by simp [spec_l1Cur_window.j0] at h
 | k + 1 => by
  have ih0 := spec_l1Cur_window.mono_l k
  ·intro y0 y1 y2 y3 y4 y5 y6
   unfold spec_l1Cur_window.j0
   repeat' first
   | (with_reducible exact ih0 _ _ _ _ _ _ _)
   | (with_reducible exact spec_PlayWindow.mono _ _)
   | (with_reducible exact spec_l1Cur_grows.mono _ _ _ _)
   | (with_reducible exact LeO.refl _)
   | (with_reducible exact LeO.none _)
   | (with_reducible refine LeO.ite ?_ ?_)
   | (with_reducible refine LeO.bind ?_ (fun _ => ?_))
   | exact ih0 _ _ _ _ _ _ _
   | exact spec_PlayWindow.mono _ _
   | exact spec_l1Cur_grows.mono _ _ _ _
   | exact LeO.none _
   | refine LeO.ite ?_ ?_
   | refine LeO.bind ?_ (fun _ => ?_)
theorem spec_l1Cur_window.mono : ∀ a0 a1 a2 k, LeO (spec_l1Cur_window.f k a0 a1 a2) (spec_l1Cur_window.f (k + 1) a0 a1 a2) := by
 intro a0 a1 a2 k
 have ih0 := spec_l1Cur_window.mono_l k
 unfold spec_l1Cur_window.f
 repeat' first
   | (with_reducible exact ih0 _ _ _ _ _ _ _)
   | (with_reducible exact spec_PlayWindow.mono _ _)
   | (with_reducible exact spec_l1Cur_grows.mono _ _ _ _)
   | (with_reducible exact LeO.refl _)
   | (with_reducible exact LeO.none _)
   | (with_reducible refine LeO.ite ?_ ?_)
   | (with_reducible refine LeO.bind ?_ (fun _ => ?_))
   | exact ih0 _ _ _ _ _ _ _
   | exact spec_PlayWindow.mono _ _
   | exact spec_l1Cur_grows.mono _ _ _ _
   | exact LeO.none _
   | refine LeO.ite ?_ ?_
   | refine LeO.bind ?_ (fun _ => ?_)
set_option maxHeartbeats 8000000 in
set_option maxRecDepth 100000 in
theorem spec_l1Cur_window.calls (k : Nat) (g : Nat) (s0_0 : List Int) (s0_1 : Int) (s0_2 : Int) (r1 : Int) (r2 : Int) (r3 : Int) (r4 : Int) (r5 : Int) (r6 : Int) (w0 w : World) (hI : IsS74 w0 w g s0_0 s0_1 s0_2) (hB : Below w0.heap.size w0 w) (h : spec_l1Cur_window.f k s0_0 s0_1 s0_2 = some (r1, r2, r3, r4, r5, r6)) :
  Calls Try.prog 75 #[.pointer (some ⟨g, 0, none⟩)] w fun e w' => e = .returned (.agg #[.int .i64 r1, .int .i64 r2, .int .i64 r3, .int .i64 r4]) ∧ IsS74 w0 w' g s0_0 r5 r6 ∧ Below w0.heap.size w0 w' ∧ KeepBut w w' g none := by
 have hu37 := Try.underlying37
 have HI0 := Aside0.mk hI
 have HK := Aside0.mk (KeepBut.refl w g none)
 have HL := Aside0.mk hB.size
 clear hI
 have HW0 := Aside0.mk hB.size
 have HB := Aside0.mk hB
 clear hB
 have H : ((spec_l1Cur_grows.f k s0_0 s0_1 s0_2).bind fun bt237 => ((spec_PlayWindow.f k bt237.1).bind fun bt242 => ((spec_GoodWindow.f bt242.1 bt242.2.1 bt242.2.2.1 bt242.2.2.2.1).bind fun t251 => (if t251 = true then (spec_l1Cur_window.j0 k s0_0 bt237.2.1 bt237.2.2 bt242.1 bt242.2.1 bt242.2.2.1 bt242.2.2.2.1) else ((spec_NewWindow.f).bind fun bt252 => (spec_l1Cur_window.j0 k s0_0 bt237.2.1 bt237.2.2 bt252.1 bt252.2.1 bt252.2.2.1 bt252.2.2.2)))))) = some (r1, r2, r3, r4, r5, r6) := h
 clear h
 replace H := Option.bind_eq_some_iff.mp H
 obtain ⟨⟨t237, t240, t241⟩, A20, H⟩ := H
 replace H : ((spec_PlayWindow.f k t237).bind fun bt242 => ((spec_GoodWindow.f bt242.1 bt242.2.1 bt242.2.2.1 bt242.2.2.2.1).bind fun t251 => (if t251 = true then (spec_l1Cur_window.j0 k s0_0 t240 t241 bt242.1 bt242.2.1 bt242.2.2.1 bt242.2.2.2.1) else ((spec_NewWindow.f).bind fun bt252 => (spec_l1Cur_window.j0 k s0_0 t240 t241 bt252.1 bt252.2.1 bt252.2.2.1 bt252.2.2.2))))) = some (r1, r2, r3, r4, r5, r6) := H
 have A2 := Aside0.mk A20
 clear A20
 replace H := Option.bind_eq_some_iff.mp H
 obtain ⟨⟨t242, t243, t244, t245, t246, t249⟩, A30, H⟩ := H
 replace H : ((spec_GoodWindow.f t242 t243 t244 t245).bind fun t251 => (if t251 = true then (spec_l1Cur_window.j0 k s0_0 t240 t241 t242 t243 t244 t245) else ((spec_NewWindow.f).bind fun bt252 => (spec_l1Cur_window.j0 k s0_0 t240 t241 bt252.1 bt252.2.1 bt252.2.2.1 bt252.2.2.2)))) = some (r1, r2, r3, r4, r5, r6) := H
 have A3 := Aside0.mk A30
 clear A30
 replace H := Option.bind_eq_some_iff.mp H
 obtain ⟨t251, A40, H⟩ := H
 replace H : (if t251 = true then (spec_l1Cur_window.j0 k s0_0 t240 t241 t242 t243 t244 t245) else ((spec_NewWindow.f).bind fun bt252 => (spec_l1Cur_window.j0 k s0_0 t240 t241 bt252.1 bt252.2.1 bt252.2.2.1 bt252.2.2.2))) = some (r1, r2, r3, r4, r5, r6) := H
 have A4 := Aside0.mk A40
 clear A40
 have HC5 := Aside0.mk H
 clear H
 go_enter Try.func75, Try.ntmps75
 go_upto_if 15 with (first | ((with_reducible refine gate_dst (N := 2) rfl ?_); refine box_event ?hg (N := 2) ?hd (cs := #[.int .i64 0, .int .i64 0, .int .i64 0, .int .i64 0]) (t := 37) ?hr ?_; (case hd => rfl); (case hg => rfl); (case hr => first | (go_simp; done) | (go_simp; rfl)); intro gb236 hg w6 hbox hb; have n0_ := Aside0.mk (IsS74.below (q_3) hb); have n1_ := Aside0.mk (KeepBut.trans (q_5) (KeepBut.of_below hb g none) (.inl rfl)); have n2_ := Aside0.mk (below_step (q_4) hb); have n3_ := Aside0.mk (hbox); have n4_ := Aside0.mk ((q_79 : w.heap.size ≤ gb236)); have n5_ := Aside0.mk ((Nat.le_trans HW0.out (q_79 : w.heap.size ≤ gb236) : w0.heap.size ≤ gb236)); have n6_ := Aside0.mk ((by rw [hg]; exact Nat.ne_of_lt (IsS74.lt (show IsS74 w0 _ g s0_0 s0_1 s0_2 from by repeat (first | (with_reducible first | exact HI0.out | apply IsS74.alloc | apply IsS74.drewN | apply IsS74.drew | apply IsS74.set_1 | apply IsS74.set_2) | exact HI0.out))) : g ≠ gb236)); have n7_ := Aside0.mk ((by rw [hg]; exact Nat.ne_of_gt (IsS74.lt (show IsS74 w0 _ g s0_0 s0_1 s0_2 from by repeat (first | (with_reducible first | exact HI0.out | apply IsS74.alloc | apply IsS74.drewN | apply IsS74.drew | apply IsS74.set_1 | apply IsS74.set_2) | exact HI0.out))) : gb236 ≠ g)); clear HI0; clear HK; clear HB; have HI0 := n0_; have HK := n1_; have HB := n2_; have BK236 := n3_; have GW236 := n4_; have GE236 := n5_; have NB0_236 := n6_; have NB236_0 := n7_; clear n0_ n1_ n2_ n3_ n4_ n5_ n6_ n7_; clear hb hbox hg) | ((with_reducible refine gate_callee (f := 76) rfl ?_); refine goesL_ (some 8) rfl rfl Try.func76 (by kernel_rfl) rfl #[.pointer (some ⟨g, 0, none⟩)] rfl (q_6) ?_; (with_reducible refine (spec_l1Cur_grows.calls k g s0_0 s0_1 s0_2 t237 t240 t241 w0 _ ?side1 ?side2 A2.out).mono ?_); (case side1 => repeat (first | (with_reducible first | exact HI0.out | apply IsS74.alloc | apply IsS74.drewN | apply IsS74.drew | apply IsS74.set_1 | apply IsS74.set_2 | apply IsS74.far (hne := NB0_236.out)) | exact HI0.out)); (case side2 => repeat (first | (with_reducible first | exact HB.out | apply below_alloc | apply pw_below_drewN | apply below_drew1 | refine below_set ?_ (IsS74.ge HI0.out) | refine below_set ?_ GE236.out) | exact HB.out)); rintro e w7 ⟨v238, rfl, ho0, hi, hb, hk⟩; refine ⟨_, rfl, ?_⟩; have n0_ := Aside0.mk (KeepBut.blk hk (g' := gb236) (o := .cells #[.int .i64 0, .int .i64 0, .int .i64 0, .int .i64 0] 37 (0, 0)) (q_99) NB236_0.out (by simp)); have n1_ := Aside0.mk (Kd.R_lower ho0 (keep_size (w := w) (g := g) (row := none) (q_100))); have n2_ := Aside0.mk (KeepBut.trans (q_100) hk (.inl rfl)); have n3_ := Aside0.mk (hb); have n4_ := Aside0.mk (hi); clear BK236; clear HK; clear HB; clear HI0; have BK236 := n0_; have HO239 := n1_; have HK := n2_; have HB := n3_; have HI0 := n4_; clear n0_ n1_ n2_ n3_ n4_; (try clear hb); (try clear hb2); (try clear hk); (try clear hi); (try clear ho0); obtain ⟨Ao8, co8, eo8⟩ := Kd.R_slice HO239.out; subst eo8) | ((with_reducible refine gate_callee (f := 32) rfl ?_); refine goesL_ (some 9) rfl rfl Try.func32 (by kernel_rfl) rfl #[.slice Ao8 t237.length co8] rfl (q_6) ?_; (with_reducible refine (spec_PlayWindow.calls k _ _ t237 t242 t243 t244 t245 t246 t249 _ ?side1 ?side2 A3.out).mono ?_); (case side1 => repeat (first | exact (Kd.R_reads' HO239.out).2.2 | (with_reducible refine Kd.C_alloc ?_ _) | (with_reducible refine Kd.C_drewN ?_ _) | (with_reducible refine Kd.C_drew ?_))); (case side2 => exact (Kd.R_reads' HO239.out).2.1); rintro e w9 ⟨v247, rfl, ho0, hb⟩; refine ⟨_, rfl, ?_⟩; have n0_ := Aside0.mk (Kd.R_below (q_101) hb); have n1_ := Aside0.mk (Kd.R_lower ho0 (keep_size (w := w) (g := g) (row := none) (q_100))); have n2_ := Aside0.mk (IsS74.below (q_102) hb); have n3_ := Aside0.mk (blk_below (g := gb236) (o := .cells #[.int .i64 0, .int .i64 0, .int .i64 0, .int .i64 0] 37 (0, 0)) (q_99) hb); have n4_ := Aside0.mk (KeepBut.trans (q_100) (KeepBut.of_below hb g none) (.inl rfl)); have n5_ := Aside0.mk (below_step (q_103) hb); clear HO239; clear HI0; clear BK236; clear HK; clear HB; have HO239 := n0_; have HO248 := n1_; have HI0 := n2_; have BK236 := n3_; have HK := n4_; have HB := n5_; clear n0_ n1_ n2_ n3_ n4_ n5_; (try clear hb); (try clear hb2); (try clear hk); (try clear hi); (try clear ho0)) | ((with_reducible refine gate_dst (N := 3) rfl ?_); refine box_event ?hg (N := 3) ?hd (cs := #[.int .i64 0, .int .i64 0, .int .i64 0, .int .i64 0]) (t := 37) ?hr ?_; (case hd => rfl); (case hg => rfl); (case hr => first | (go_simp; done) | (go_simp; rfl)); intro gb250 hg w10 hbox hb; have n0_ := Aside0.mk (Kd.R_below (q_101) hb); have n1_ := Aside0.mk (Kd.R_below (q_104) hb); have n2_ := Aside0.mk (IsS74.below (q_102) hb); have n3_ := Aside0.mk (blk_below (g := gb236) (o := .cells #[.int .i64 0, .int .i64 0, .int .i64 0, .int .i64 0] 37 (0, 0)) (q_99) hb); have n4_ := Aside0.mk (KeepBut.trans (q_100) (KeepBut.of_below hb g none) (.inl rfl)); have n5_ := Aside0.mk (below_step (q_103) hb); have n6_ := Aside0.mk (hbox); have n7_ := Aside0.mk ((q_105 : w.heap.size ≤ gb250)); have n8_ := Aside0.mk ((Nat.le_trans HW0.out (q_105 : w.heap.size ≤ gb250) : w0.heap.size ≤ gb250)); have n9_ := Aside0.mk ((by rw [hg]; exact Nat.ne_of_lt (blk_lt (g := gb236) (o := .cells #[.int .i64 0, .int .i64 0, .int .i64 0, .int .i64 0] 37 (0, 0)) (q_99)) : gb236 ≠ gb250)); have n10_ := Aside0.mk ((by rw [hg]; exact Nat.ne_of_gt (blk_lt (g := gb236) (o := .cells #[.int .i64 0, .int .i64 0, .int .i64 0, .int .i64 0] 37 (0, 0)) (q_99)) : gb250 ≠ gb236)); have n11_ := Aside0.mk ((by rw [hg]; exact Nat.ne_of_lt (IsS74.lt (show IsS74 w0 _ g s0_0 t240 t241 from by repeat (first | (with_reducible first | exact HI0.out | apply IsS74.alloc | apply IsS74.drewN | apply IsS74.drew | apply IsS74.set_1 | apply IsS74.set_2 | apply IsS74.far (hne := NB0_236.out)) | exact HI0.out))) : g ≠ gb250)); have n12_ := Aside0.mk ((by rw [hg]; exact Nat.ne_of_gt (IsS74.lt (show IsS74 w0 _ g s0_0 t240 t241 from by repeat (first | (with_reducible first | exact HI0.out | apply IsS74.alloc | apply IsS74.drewN | apply IsS74.drew | apply IsS74.set_1 | apply IsS74.set_2 | apply IsS74.far (hne := NB0_236.out)) | exact HI0.out))) : gb250 ≠ g)); clear HO239; clear HO248; clear HI0; clear BK236; clear HK; clear HB; have HO239 := n0_; have HO248 := n1_; have HI0 := n2_; have BK236 := n3_; have HK := n4_; have HB := n5_; have BK250 := n6_; have GW250 := n7_; have GE250 := n8_; have NB236_250 := n9_; have NB250_236 := n10_; have NB0_250 := n11_; have NB250_0 := n12_; clear n0_ n1_ n2_ n3_ n4_ n5_ n6_ n7_ n8_ n9_ n10_ n11_ n12_; clear hb hbox hg; have hnb11 := NB250_236.out; have hnc11 := NB236_250.out; have hnb12 := NB250_0.out; have hnc12 := NB0_250.out; have hcz13_0 : w10.cell? ⟨gb250, 0, none⟩ = some (.int .i64 0) := (blk_cell BK250.out 0).trans rfl; have hcz13_1 : w10.cell? ⟨gb250, 1, none⟩ = some (.int .i64 0) := (blk_cell BK250.out 1).trans rfl; have hcz13_2 : w10.cell? ⟨gb250, 2, none⟩ = some (.int .i64 0) := (blk_cell BK250.out 2).trans rfl; have hcz13_3 : w10.cell? ⟨gb250, 3, none⟩ = some (.int .i64 0) := (blk_cell BK250.out 3).trans rfl; have hfz13_0 := blk_frozen BK250.out 0; have hfz13_1 := blk_frozen BK250.out 1; have hfz13_2 := blk_frozen BK250.out 2; have hfz13_3 := blk_frozen BK250.out 3) | ((with_reducible refine gate_callee (f := 71) rfl ?_); refine goesL_ (some 14) rfl rfl Try.func71 (by kernel_rfl) rfl #[.agg #[.int .i64 t242, .int .i64 t243, .int .i64 t244, .int .i64 t245]] rfl (q_6) ?_; (with_reducible refine (spec_GoodWindow.calls t242 t243 t244 t245 t251 _ A4.out).mono ?_); rintro e w14 ⟨rfl, hb⟩; refine ⟨_, rfl, ?_⟩; have n0_ := Aside0.mk (Kd.R_below (by (with_reducible repeat (first | apply Kd.R_alloc | apply Kd.R_drewN | apply Kd.R_drew)); exact (Kd.R_mono (Kd.R_far (p := ⟨gb250, 3, none⟩) (Kd.R_far (p := ⟨gb250, 2, none⟩) (Kd.R_far (p := ⟨gb250, 1, none⟩) (Kd.R_far (p := ⟨gb250, 0, none⟩) (Kd.R_types HO239.out BK250.out (by decide)) (fun _ hk => hk.2) (.int .i64 t242)) (fun _ hk => hk.2) (.int .i64 t243)) (fun _ hk => hk.2) (.int .i64 t244)) (fun _ hk => hk.2) (.int .i64 t245)) (fun _ h_ => h_.1))) hb); have n1_ := Aside0.mk (Kd.R_below (by (with_reducible repeat (first | apply Kd.R_alloc | apply Kd.R_drewN | apply Kd.R_drew)); exact (Kd.R_mono (Kd.R_far (p := ⟨gb250, 3, none⟩) (Kd.R_far (p := ⟨gb250, 2, none⟩) (Kd.R_far (p := ⟨gb250, 1, none⟩) (Kd.R_far (p := ⟨gb250, 0, none⟩) (Kd.R_types HO248.out BK250.out (by decide)) (fun _ hk => hk.2) (.int .i64 t242)) (fun _ hk => hk.2) (.int .i64 t243)) (fun _ hk => hk.2) (.int .i64 t244)) (fun _ hk => hk.2) (.int .i64 t245)) (fun _ h_ => h_.1))) hb); have n2_ := Aside0.mk (IsS74.below (show IsS74 w0 ((((w10.setCell ⟨gb250, 0, none⟩ (.int .i64 t242)).setCell ⟨gb250, 1, none⟩ (.int .i64 t243)).setCell ⟨gb250, 2, none⟩ (.int .i64 t244)).setCell ⟨gb250, 3, none⟩ (.int .i64 t245)) g s0_0 t240 t241 from by repeat (first | (with_reducible first | exact HI0.out | apply IsS74.alloc | apply IsS74.drewN | apply IsS74.drew | apply IsS74.set_1 | apply IsS74.set_2 | apply IsS74.far (hne := NB0_236.out) | apply IsS74.far (hne := NB0_250.out)) | exact HI0.out)) hb); have n3_ := Aside0.mk (blk_below (g := gb236) (o := .cells #[.int .i64 0, .int .i64 0, .int .i64 0, .int .i64 0] 37 (0, 0)) (q_106) hb); have n4_ := Aside0.mk (blk_below (g := gb250) (o := .cells #[.int .i64 t242, .int .i64 t243, .int .i64 t244, .int .i64 t245] 37 (0, 0)) (by (with_reducible repeat (first | refine blk_drewN ?_ _ | refine blk_drew ?_ | refine blk_alloc ?_ _)); refine blk_put (cs := #[.int .i64 t242, .int .i64 t243, .int .i64 t244, .int .i64 0]) ?_ 3 _ rfl; (with_reducible repeat (first | refine blk_drewN ?_ _ | refine blk_drew ?_ | refine blk_alloc ?_ _)); refine blk_put (cs := #[.int .i64 t242, .int .i64 t243, .int .i64 0, .int .i64 0]) ?_ 2 _ rfl; (with_reducible repeat (first | refine blk_drewN ?_ _ | refine blk_drew ?_ | refine blk_alloc ?_ _)); refine blk_put (cs := #[.int .i64 t242, .int .i64 0, .int .i64 0, .int .i64 0]) ?_ 1 _ rfl; (with_reducible repeat (first | refine blk_drewN ?_ _ | refine blk_drew ?_ | refine blk_alloc ?_ _)); refine blk_put (cs := #[.int .i64 0, .int .i64 0, .int .i64 0, .int .i64 0]) ?_ 0 _ rfl; (with_reducible repeat (first | refine blk_drewN ?_ _ | refine blk_drew ?_ | refine blk_alloc ?_ _)); exact BK250.out) hb); have n5_ := Aside0.mk (KeepBut.trans (q_107) (KeepBut.of_below hb g none) (.inl rfl)); have n6_ := Aside0.mk (below_step (q_108) hb); clear HO239; clear HO248; clear HI0; clear BK236; clear BK250; clear HK; clear HB; have HO239 := n0_; have HO248 := n1_; have HI0 := n2_; have BK236 := n3_; have BK250 := n4_; have HK := n5_; have HB := n6_; clear n0_ n1_ n2_ n3_ n4_ n5_ n6_; (try clear hb); (try clear hb2); (try clear hk); (try clear hi)))
 (try simp only [Act.put, List.setIfInBounds_toArray, List.set_cons_zero, List.set_cons_succ])
 go_cut [] (fun wc => ∃ (kq : Nat) (x251000_4 : Int) (x251001_4 : Int) (x251002_4 : Int) (x251003_4 : Int), Aside0 (spec_l1Cur_window.j0 kq s0_0 t240 t241 x251000_4 x251001_4 x251002_4 x251003_4 = some (r1, r2, r3, r4, r5, r6)) ∧ Aside0 (kq ≤ k) ∧ Aside0 (wc.heap[gb236]? = some (.cells #[.int .i64 0, .int .i64 0, .int .i64 0, .int .i64 0] 37 (0, 0))) ∧ Aside0 (wc.heap[gb250]? = some (.cells #[.int .i64 x251000_4, .int .i64 x251001_4, .int .i64 x251002_4, .int .i64 x251003_4] 37 (0, 0))) ∧ Aside0 (IsS74 w0 wc g s0_0 t240 t241) ∧ Aside0 (KeepBut w wc g none) ∧ Aside0 (Below w0.heap.size w0 wc))
 case first =>
  have H := HC5.out
  clear HC5
  by_cases c15 : t251 = true
  ·subst c15
   have H1 : (spec_l1Cur_window.j0 k s0_0 t240 t241 t242 t243 t244 t245) = some (r1, r2, r3, r4, r5, r6) := by rw [if_pos rfl] at H; exact H
   clear H
   have H := H1
   clear H1
   have H' := Aside0.mk H
   clear H
   go_wp2
   go_meet
   case rel => exact ⟨_, (t242), (t243), (t244), (t245), H', ⟨q_17⟩, ⟨q_99⟩, ⟨q_109⟩, ⟨q_110⟩, ⟨q_107⟩, ⟨q_108⟩⟩
  ·replace c15 := Bool.eq_false_iff.mpr c15
   subst c15
   have H1 : ((spec_NewWindow.f).bind fun bt252 => (spec_l1Cur_window.j0 k s0_0 t240 t241 bt252.1 bt252.2.1 bt252.2.2.1 bt252.2.2.2)) = some (r1, r2, r3, r4, r5, r6) := by rw [if_neg (show ¬ (false = true) by decide)] at H; exact H
   clear H
   have H := H1
   clear H1
   replace H := Option.bind_eq_some_iff.mp H
   obtain ⟨⟨t252, t253, t254, t255⟩, A160, H⟩ := H
   replace H : (spec_l1Cur_window.j0 k s0_0 t240 t241 t252 t253 t254 t255) = some (r1, r2, r3, r4, r5, r6) := H
   have A16 := Aside0.mk A160
   clear A160
   have H' := Aside0.mk H
   clear H
   go_wp2_with (first | ((with_reducible refine gate_callee (f := 79) rfl ?_); refine goesL_ (some 16) rfl rfl Try.func79 (by kernel_rfl) rfl #[] rfl (q_6) ?_; (with_reducible refine (spec_NewWindow.calls  t252 t253 t254 t255 _ A16.out).mono ?_); rintro e w17 ⟨rfl, hb⟩; refine ⟨_, rfl, ?_⟩; have n0_ := Aside0.mk (Kd.R_below (q_101) hb); have n1_ := Aside0.mk (Kd.R_below (q_104) hb); have n2_ := Aside0.mk (IsS74.below (q_110) hb); have n3_ := Aside0.mk (blk_below (g := gb236) (o := .cells #[.int .i64 0, .int .i64 0, .int .i64 0, .int .i64 0] 37 (0, 0)) (q_99) hb); have n4_ := Aside0.mk (blk_below (g := gb250) (o := .cells #[.int .i64 t242, .int .i64 t243, .int .i64 t244, .int .i64 t245] 37 (0, 0)) (q_109) hb); have n5_ := Aside0.mk (KeepBut.trans (q_107) (KeepBut.of_below hb g none) (.inl rfl)); have n6_ := Aside0.mk (below_step (q_108) hb); clear HO239; clear HO248; clear HI0; clear BK236; clear BK250; clear HK; clear HB; have HO239 := n0_; have HO248 := n1_; have HI0 := n2_; have BK236 := n3_; have BK250 := n4_; have HK := n5_; have HB := n6_; clear n0_ n1_ n2_ n3_ n4_ n5_ n6_; (try clear hb); (try clear hb2); (try clear hk); (try clear hi); have hnb18 := NB250_236.out; have hnc18 := NB236_250.out; have hnb19 := NB250_0.out; have hnc19 := NB0_250.out; have hcz20_0 : w17.cell? ⟨gb250, 0, none⟩ = some (.int .i64 t242) := (blk_cell BK250.out 0).trans rfl; have hcz20_1 : w17.cell? ⟨gb250, 1, none⟩ = some (.int .i64 t243) := (blk_cell BK250.out 1).trans rfl; have hcz20_2 : w17.cell? ⟨gb250, 2, none⟩ = some (.int .i64 t244) := (blk_cell BK250.out 2).trans rfl; have hcz20_3 : w17.cell? ⟨gb250, 3, none⟩ = some (.int .i64 t245) := (blk_cell BK250.out 3).trans rfl; have hfz20_0 := blk_frozen BK250.out 0; have hfz20_1 := blk_frozen BK250.out 1; have hfz20_2 := blk_frozen BK250.out 2; have hfz20_3 := blk_frozen BK250.out 3))
   go_meet
   case rel => exact ⟨_, (t252), (t253), (t254), (t255), H', ⟨q_17⟩, ⟨q_106⟩, ⟨by (with_reducible repeat (first | refine blk_drewN ?_ _ | refine blk_drew ?_ | refine blk_alloc ?_ _)); refine blk_put (cs := #[.int .i64 t252, .int .i64 t253, .int .i64 t254, .int .i64 t245]) ?_ 3 _ rfl; (with_reducible repeat (first | refine blk_drewN ?_ _ | refine blk_drew ?_ | refine blk_alloc ?_ _)); refine blk_put (cs := #[.int .i64 t252, .int .i64 t253, .int .i64 t244, .int .i64 t245]) ?_ 2 _ rfl; (with_reducible repeat (first | refine blk_drewN ?_ _ | refine blk_drew ?_ | refine blk_alloc ?_ _)); refine blk_put (cs := #[.int .i64 t252, .int .i64 t243, .int .i64 t244, .int .i64 t245]) ?_ 1 _ rfl; (with_reducible repeat (first | refine blk_drewN ?_ _ | refine blk_drew ?_ | refine blk_alloc ?_ _)); refine blk_put (cs := #[.int .i64 t242, .int .i64 t243, .int .i64 t244, .int .i64 t245]) ?_ 0 _ rfl; (with_reducible repeat (first | refine blk_drewN ?_ _ | refine blk_drew ?_ | refine blk_alloc ?_ _)); exact BK250.out⟩, ⟨q_110⟩, ⟨q_107⟩, ⟨q_108⟩⟩
 case rest =>
  clear HC5
  try clear c1; try clear p2; try clear c3; try clear c7; try clear c11; try clear c12; try clear c15; try clear c18; try clear c19; try clear hcz13_0; try clear hcz13_1; try clear hcz13_2; try clear hcz13_3; try clear hcz20_0; try clear hcz20_1; try clear hcz20_2; try clear hcz20_3; try clear hfz13_0; try clear hfz13_1; try clear hfz13_2; try clear hfz13_3; try clear hfz20_0; try clear hfz20_1; try clear hfz20_2; try clear hfz20_3
  obtain ⟨kq, x251000_4, x251001_4, x251002_4, x251003_4, HA, HJ4, BK236, BK250, HI0, HK, HB⟩ := hcut
  cases kq with
  | zero => exact absurd HA.out (by simp [spec_l1Cur_window.j0])
  | succ kj4 =>
   have H := HA.out
   clear HA
   simp only [spec_l1Cur_window.j0] at H
   replace H := Option.bind_eq_some_iff.mp H
   obtain ⟨⟨t256, t257, t258⟩, A210, H⟩ := H
   replace H : (if t256 = 0 then ((spec_l1Cur_among.f s0_0 t257 t258 (([2399, 2400, 100000000, 100000001] : List Int))).bind fun bt262 => (some (bt262.1, x251001_4, x251002_4, x251003_4, bt262.2.1, bt262.2.2))) else (if t256 = 1 then ((spec_l1Cur_among.f s0_0 t257 t258 (([(-1), 0, 100000000] : List Int))).bind fun bt268 => (some (x251000_4, x251001_4, x251002_4, bt268.1, bt268.2.1, bt268.2.2))) else (if t256 = 2 then (some (x251000_4, 2400, x251002_4, x251003_4, t257, t258)) else (some (x251000_4, x251001_4, x251002_4, x251003_4, t257, t258))))) = some (r1, r2, r3, r4, r5, r6) := H
   have A21 := Aside0.mk A210
   clear A210
   by_cases c22 : t256 = 0
   ·rw [if_pos c22] at H
    have c22b0 : (t256 == 0) = true := beq_iff_eq.mpr c22
    have c22b1 : (t256 != 0) = false := bne_eq_false_iff_eq.mpr c22
    clear c22
    obtain ⟨y259, hy259⟩ : ∃ y_ : List Int, y_ = (([2399, 2400, 100000000, 100000001] : List Int)) := ⟨_, rfl⟩
    replace H : ((spec_l1Cur_among.f s0_0 t257 t258 y259).bind fun bt262 => (some (bt262.1, x251001_4, x251002_4, x251003_4, bt262.2.1, bt262.2.2))) = some (r1, r2, r3, r4, r5, r6) := by first | (rw [hy259]; with_reducible exact H) | (have H2_ := (Option.bind_some _ _).symm.trans H; rw [hy259]; with_reducible exact H2_) | (have H2_ := (Option.bind_some _ _).symm.trans H; with_reducible exact H2_) | with_reducible exact H | (rw [hy259]; exact H) | exact H
    have Ny259 := Aside0.mk hy259
    clear hy259
    replace H := Option.bind_eq_some_iff.mp H
    obtain ⟨⟨t262, t263, t264⟩, A230, H⟩ := H
    replace H : (some (t262, x251001_4, x251002_4, x251003_4, t263, t264)) = some (r1, r2, r3, r4, r5, r6) := H
    have A23 := Aside0.mk A230
    clear A230
    simp only [Option.some.injEq, Prod.mk.injEq] at H
    obtain ⟨rfl, rfl, rfl, rfl, rfl, rfl⟩ := H
    go_wp2_with (first | ((with_reducible refine gate_callee (f := 50) rfl ?_); refine goesL_ (some 18) rfl rfl Try.func50 (by kernel_rfl) rfl #[.pointer (some ⟨g, 0, none⟩), .int .i64 40] rfl (q_6) ?_; (with_reducible refine (spec_l1Cur_pick.calls g s0_0 t240 t241 40 t256 t257 t258 w0 _ ?side1 ?side2 A21.out).mono ?_); (case side1 => repeat (first | (with_reducible first | exact HI0.out | apply IsS74.alloc | apply IsS74.drewN | apply IsS74.drew | apply IsS74.set_1 | apply IsS74.set_2 | apply IsS74.far (hne := NB0_236.out) | apply IsS74.far (hne := NB0_250.out)) | exact HI0.out)); (case side2 => repeat (first | (with_reducible first | exact HB.out | apply below_alloc | apply pw_below_drewN | apply below_drew1 | refine below_set ?_ (IsS74.ge HI0.out) | refine below_set ?_ GE236.out | refine below_set ?_ GE250.out) | exact HB.out)); rintro e w24 ⟨rfl, hi, hb, hk⟩; refine ⟨_, rfl, ?_⟩; have n0_ := Aside0.mk (KeepBut.blk hk (g' := gb236) (o := .cells #[.int .i64 0, .int .i64 0, .int .i64 0, .int .i64 0] 37 (0, 0)) (q_99) NB236_0.out (by simp)); have n1_ := Aside0.mk (KeepBut.blk hk (g' := gb250) (o := .cells #[.int .i64 x251000_4, .int .i64 x251001_4, .int .i64 x251002_4, .int .i64 x251003_4] 37 (0, 0)) (q_109) NB250_0.out (by simp)); have n2_ := Aside0.mk (KeepBut.trans (q_107) hk (.inl rfl)); have n3_ := Aside0.mk (hb); have n4_ := Aside0.mk (hi); clear BK236; clear BK250; clear HK; clear HB; clear HI0; have BK236 := n0_; have BK250 := n1_; have HK := n2_; have HB := n3_; have HI0 := n4_; clear n0_ n1_ n2_ n3_ n4_; (try clear hb); (try clear hb2); (try clear hk); (try clear hi)) | ((with_reducible refine gate_dst (N := 22) rfl ?_); refine Kd.R_lit (Kd.int .i64) _ 3 ?hg (N := 22) ?hd (xs := ([2399, 2400, 100000000, 100000001] : List Int)) (inner := [.int .i64 2399, .int .i64 2400, .int .i64 100000000, .int .i64 100000001]) (ok := fun _ => True) (okp := fun _ => True) ?hr ?hp (fun _ hk => hk) trivial (Below.refl _ _) (Nat.le_refl _) (by simp) ?_; (case hd => rfl); (case hg => rfl); (case hr => first | (go_simp; done) | (go_simp; rfl)); (case hp => exact (Reps.one (show Kd.M (Kd.int .i64) _ _ _ 2399 [.int .i64 2399] from rfl) (Reps.one (show Kd.M (Kd.int .i64) _ _ _ 2400 [.int .i64 2400] from rfl) (Reps.one (show Kd.M (Kd.int .i64) _ _ _ 100000000 [.int .i64 100000000] from rfl) (Reps.one (show Kd.M (Kd.int .i64) _ _ _ 100000001 [.int .i64 100000001] from rfl) (Reps.none _ _)))))); intro v260 w25 ho26 hb hg_ hnew_; clear hg_ hnew_; (first | rw [← Ny259.out] at ho26 | (simp only [Int.reduceToNat] at ho26; rw [← Ny259.out] at ho26)); have n0_ := Aside0.mk (Kd.R_lower ho26 (keep_size (w := w) (g := g) (row := none) (q_107))); have n1_ := Aside0.mk (blk_below (g := gb236) (o := .cells #[.int .i64 0, .int .i64 0, .int .i64 0, .int .i64 0] 37 (0, 0)) (q_99) hb); have n2_ := Aside0.mk (blk_below (g := gb250) (o := .cells #[.int .i64 x251000_4, .int .i64 x251001_4, .int .i64 x251002_4, .int .i64 x251003_4] 37 (0, 0)) (q_109) hb); have n3_ := Aside0.mk (IsS74.below (q_110) hb); have n4_ := Aside0.mk (KeepBut.trans (q_107) (KeepBut.of_below hb g none) (.inl rfl)); have n5_ := Aside0.mk (below_step (q_108) hb); clear BK236; clear BK250; clear HI0; clear HK; clear HB; have HO261 := n0_; have BK236 := n1_; have BK250 := n2_; have HI0 := n3_; have HK := n4_; have HB := n5_; clear n0_ n1_ n2_ n3_ n4_ n5_; clear hb ho26; obtain ⟨Ao27, co27, eo27⟩ := Kd.R_slice HO261.out; subst eo27) | ((with_reducible refine gate_callee (f := 52) rfl ?_); refine goesL_ (some 23) rfl rfl Try.func52 (by kernel_rfl) rfl #[.pointer (some ⟨g, 0, none⟩), .slice Ao27 y259.length co27] rfl (q_6) ?_; (with_reducible refine (spec_l1Cur_among.calls g s0_0 t257 t258 _ _ y259 t262 t263 t264 w0 _ ?side1 ?side2 ?side3 ?side4 ?side5 A23.out).mono ?_); (case side1 => repeat (first | (with_reducible first | exact HI0.out | apply IsS74.alloc | apply IsS74.drewN | apply IsS74.drew | apply IsS74.set_1 | apply IsS74.set_2 | apply IsS74.far (hne := NB0_236.out) | apply IsS74.far (hne := NB0_250.out)) | exact HI0.out)); (case side2 => repeat (first | (with_reducible first | exact HB.out | apply below_alloc | apply pw_below_drewN | apply below_drew1 | refine below_set ?_ (IsS74.ge HI0.out) | refine below_set ?_ GE236.out | refine below_set ?_ GE250.out) | exact HB.out)); (case side3 => repeat (first | exact (Kd.R_reads' HO261.out).2.2 | (with_reducible refine Kd.C_alloc ?_ _) | (with_reducible refine Kd.C_drewN ?_ _) | (with_reducible refine Kd.C_drew ?_))); (case side4 => exact (Kd.R_reads' HO261.out).2.1); (case side5 => exact far_slice (IsS74.own_ne HI0.out HO261.out (by decide))); rintro e w28 ⟨rfl, hi, hb, hk⟩; refine ⟨_, rfl, ?_⟩; have n0_ := Aside0.mk (KeepBut.blk hk (g' := gb236) (o := .cells #[.int .i64 0, .int .i64 0, .int .i64 0, .int .i64 0] 37 (0, 0)) (q_99) NB236_0.out (by simp)); have n1_ := Aside0.mk (KeepBut.blk hk (g' := gb250) (o := .cells #[.int .i64 x251000_4, .int .i64 x251001_4, .int .i64 x251002_4, .int .i64 x251003_4] 37 (0, 0)) (q_109) NB250_0.out (by simp)); have n2_ := Aside0.mk (Kd.R_mono (Kd.R_keep (IsS74.apart (show IsS74 w0 _ g s0_0 t257 t258 from by repeat (first | (with_reducible first | exact HI0.out | apply IsS74.alloc | apply IsS74.drewN | apply IsS74.drew | apply IsS74.set_1 | apply IsS74.set_2 | apply IsS74.far (hne := NB0_236.out) | apply IsS74.far (hne := NB0_250.out)) | exact HI0.out)) (by (with_reducible repeat (first | apply Kd.R_alloc | apply Kd.R_drewN | apply Kd.R_drew)); exact HO261.out) (by decide)) hk (fun _ h => h.2)) (fun _ h => h.1)); have n3_ := Aside0.mk (KeepBut.trans (q_107) hk (.inl rfl)); have n4_ := Aside0.mk (hb); have n5_ := Aside0.mk (hi); clear BK236; clear BK250; clear HO261; clear HK; clear HB; clear HI0; have BK236 := n0_; have BK250 := n1_; have HO261 := n2_; have HK := n3_; have HB := n4_; have HI0 := n5_; clear n0_ n1_ n2_ n3_ n4_ n5_; (try clear hb); (try clear hb2); (try clear hk); (try clear hi); have hnb29 := NB250_236.out; have hnc29 := NB236_250.out; have hnb30 := NB250_0.out; have hnc30 := NB0_250.out; have hcz31_0 : w28.cell? ⟨gb250, 0, none⟩ = some (.int .i64 x251000_4) := (blk_cell BK250.out 0).trans rfl; have hcz31_1 : w28.cell? ⟨gb250, 1, none⟩ = some (.int .i64 x251001_4) := (blk_cell BK250.out 1).trans rfl; have hcz31_2 : w28.cell? ⟨gb250, 2, none⟩ = some (.int .i64 x251002_4) := (blk_cell BK250.out 2).trans rfl; have hcz31_3 : w28.cell? ⟨gb250, 3, none⟩ = some (.int .i64 x251003_4) := (blk_cell BK250.out 3).trans rfl; have hfz31_0 := blk_frozen BK250.out 0; have hfz31_1 := blk_frozen BK250.out 1; have hfz31_2 := blk_frozen BK250.out 2; have hfz31_3 := blk_frozen BK250.out 3; have hnb32 := NB236_0.out; have hnc32 := NB0_236.out; have hcz33_0 : w28.cell? ⟨gb236, 0, none⟩ = some (.int .i64 0) := (blk_cell BK236.out 0).trans rfl; have hcz33_1 : w28.cell? ⟨gb236, 1, none⟩ = some (.int .i64 0) := (blk_cell BK236.out 1).trans rfl; have hcz33_2 : w28.cell? ⟨gb236, 2, none⟩ = some (.int .i64 0) := (blk_cell BK236.out 2).trans rfl; have hcz33_3 : w28.cell? ⟨gb236, 3, none⟩ = some (.int .i64 0) := (blk_cell BK236.out 3).trans rfl; have hfz33_0 := blk_frozen BK236.out 0; have hfz33_1 := blk_frozen BK236.out 1; have hfz33_2 := blk_frozen BK236.out 2; have hfz33_3 := blk_frozen BK236.out 3))
    refine bodyPost_ret (results_cell_row rfl _ _ gb236 37 #[.int .i64 t262, .int .i64 x251001_4, .int .i64 x251002_4, .int .i64 x251003_4] (0, 0) _ rfl (by (with_reducible repeat (first | refine blk_drewN ?_ _ | refine blk_drew ?_ | refine blk_alloc ?_ _)); refine blk_put (cs := #[.int .i64 t262, .int .i64 x251001_4, .int .i64 x251002_4, .int .i64 0]) ?_ 3 _ rfl; (with_reducible repeat (first | refine blk_drewN ?_ _ | refine blk_drew ?_ | refine blk_alloc ?_ _)); refine blk_put (cs := #[.int .i64 t262, .int .i64 x251001_4, .int .i64 0, .int .i64 0]) ?_ 2 _ rfl; (with_reducible repeat (first | refine blk_drewN ?_ _ | refine blk_drew ?_ | refine blk_alloc ?_ _)); refine blk_put (cs := #[.int .i64 t262, .int .i64 0, .int .i64 0, .int .i64 0]) ?_ 1 _ rfl; (with_reducible repeat (first | refine blk_drewN ?_ _ | refine blk_drew ?_ | refine blk_alloc ?_ _)); refine blk_put (cs := #[.int .i64 0, .int .i64 0, .int .i64 0, .int .i64 0]) ?_ 0 _ rfl; (with_reducible repeat (first | refine blk_drewN ?_ _ | refine blk_drew ?_ | refine blk_alloc ?_ _)); refine blk_far ?_ NB236_250.out _; (with_reducible repeat (first | refine blk_drewN ?_ _ | refine blk_drew ?_ | refine blk_alloc ?_ _)); exact BK236.out) Try.underlying37 rfl (by kernel_rfl)) rfl ?_
    exact ⟨q_2, q_110, q_108, q_107⟩
   ·rw [if_neg c22] at H
    have c22b0 : (t256 == 0) = false := beq_eq_false_iff_ne.mpr c22
    have c22b1 : (t256 != 0) = true := bne_iff_ne.mpr c22
    by_cases c34 : t256 = 1
    ·rw [if_pos c34] at H
     have c34b0 : (t256 == 1) = true := beq_iff_eq.mpr c34
     have c34b1 : (t256 != 1) = false := bne_eq_false_iff_eq.mpr c34
     clear c34
     obtain ⟨y265, hy265⟩ : ∃ y_ : List Int, y_ = (([(-1), 0, 100000000] : List Int)) := ⟨_, rfl⟩
     replace H : ((spec_l1Cur_among.f s0_0 t257 t258 y265).bind fun bt268 => (some (x251000_4, x251001_4, x251002_4, bt268.1, bt268.2.1, bt268.2.2))) = some (r1, r2, r3, r4, r5, r6) := by first | (rw [hy265]; with_reducible exact H) | (have H2_ := (Option.bind_some _ _).symm.trans H; rw [hy265]; with_reducible exact H2_) | (have H2_ := (Option.bind_some _ _).symm.trans H; with_reducible exact H2_) | with_reducible exact H | (rw [hy265]; exact H) | exact H
     have Ny265 := Aside0.mk hy265
     clear hy265
     replace H := Option.bind_eq_some_iff.mp H
     obtain ⟨⟨t268, t269, t270⟩, A350, H⟩ := H
     replace H : (some (x251000_4, x251001_4, x251002_4, t268, t269, t270)) = some (r1, r2, r3, r4, r5, r6) := H
     have A35 := Aside0.mk A350
     clear A350
     simp only [Option.some.injEq, Prod.mk.injEq] at H
     obtain ⟨rfl, rfl, rfl, rfl, rfl, rfl⟩ := H
     go_wp2_with (first | ((with_reducible refine gate_callee (f := 50) rfl ?_); refine goesL_ (some 18) rfl rfl Try.func50 (by kernel_rfl) rfl #[.pointer (some ⟨g, 0, none⟩), .int .i64 40] rfl (q_6) ?_; (with_reducible refine (spec_l1Cur_pick.calls g s0_0 t240 t241 40 t256 t257 t258 w0 _ ?side1 ?side2 A21.out).mono ?_); (case side1 => repeat (first | (with_reducible first | exact HI0.out | apply IsS74.alloc | apply IsS74.drewN | apply IsS74.drew | apply IsS74.set_1 | apply IsS74.set_2 | apply IsS74.far (hne := NB0_236.out) | apply IsS74.far (hne := NB0_250.out)) | exact HI0.out)); (case side2 => repeat (first | (with_reducible first | exact HB.out | apply below_alloc | apply pw_below_drewN | apply below_drew1 | refine below_set ?_ (IsS74.ge HI0.out) | refine below_set ?_ GE236.out | refine below_set ?_ GE250.out) | exact HB.out)); rintro e w36 ⟨rfl, hi, hb, hk⟩; refine ⟨_, rfl, ?_⟩; have n0_ := Aside0.mk (KeepBut.blk hk (g' := gb236) (o := .cells #[.int .i64 0, .int .i64 0, .int .i64 0, .int .i64 0] 37 (0, 0)) (q_99) NB236_0.out (by simp)); have n1_ := Aside0.mk (KeepBut.blk hk (g' := gb250) (o := .cells #[.int .i64 x251000_4, .int .i64 x251001_4, .int .i64 x251002_4, .int .i64 x251003_4] 37 (0, 0)) (q_109) NB250_0.out (by simp)); have n2_ := Aside0.mk (KeepBut.trans (q_107) hk (.inl rfl)); have n3_ := Aside0.mk (hb); have n4_ := Aside0.mk (hi); clear BK236; clear BK250; clear HK; clear HB; clear HI0; have BK236 := n0_; have BK250 := n1_; have HK := n2_; have HB := n3_; have HI0 := n4_; clear n0_ n1_ n2_ n3_ n4_; (try clear hb); (try clear hb2); (try clear hk); (try clear hi)) | ((with_reducible refine gate_dst (N := 28) rfl ?_); refine Kd.R_lit (Kd.int .i64) _ 3 ?hg (N := 28) ?hd (xs := ([(-1), 0, 100000000] : List Int)) (inner := [.int .i64 (-1), .int .i64 0, .int .i64 100000000]) (ok := fun _ => True) (okp := fun _ => True) ?hr ?hp (fun _ hk => hk) trivial (Below.refl _ _) (Nat.le_refl _) (by simp) ?_; (case hd => rfl); (case hg => rfl); (case hr => first | (go_simp; done) | (go_simp; rfl)); (case hp => exact (Reps.one (show Kd.M (Kd.int .i64) _ _ _ (-1) [.int .i64 (-1)] from rfl) (Reps.one (show Kd.M (Kd.int .i64) _ _ _ 0 [.int .i64 0] from rfl) (Reps.one (show Kd.M (Kd.int .i64) _ _ _ 100000000 [.int .i64 100000000] from rfl) (Reps.none _ _))))); intro v266 w37 ho38 hb hg_ hnew_; clear hg_ hnew_; (first | rw [← Ny265.out] at ho38 | (simp only [Int.reduceToNat] at ho38; rw [← Ny265.out] at ho38)); have n0_ := Aside0.mk (Kd.R_lower ho38 (keep_size (w := w) (g := g) (row := none) (q_107))); have n1_ := Aside0.mk (blk_below (g := gb236) (o := .cells #[.int .i64 0, .int .i64 0, .int .i64 0, .int .i64 0] 37 (0, 0)) (q_99) hb); have n2_ := Aside0.mk (blk_below (g := gb250) (o := .cells #[.int .i64 x251000_4, .int .i64 x251001_4, .int .i64 x251002_4, .int .i64 x251003_4] 37 (0, 0)) (q_109) hb); have n3_ := Aside0.mk (IsS74.below (q_110) hb); have n4_ := Aside0.mk (KeepBut.trans (q_107) (KeepBut.of_below hb g none) (.inl rfl)); have n5_ := Aside0.mk (below_step (q_108) hb); clear BK236; clear BK250; clear HI0; clear HK; clear HB; have HO267 := n0_; have BK236 := n1_; have BK250 := n2_; have HI0 := n3_; have HK := n4_; have HB := n5_; clear n0_ n1_ n2_ n3_ n4_ n5_; clear hb ho38; obtain ⟨Ao39, co39, eo39⟩ := Kd.R_slice HO267.out; subst eo39) | ((with_reducible refine gate_callee (f := 52) rfl ?_); refine goesL_ (some 29) rfl rfl Try.func52 (by kernel_rfl) rfl #[.pointer (some ⟨g, 0, none⟩), .slice Ao39 y265.length co39] rfl (q_6) ?_; (with_reducible refine (spec_l1Cur_among.calls g s0_0 t257 t258 _ _ y265 t268 t269 t270 w0 _ ?side1 ?side2 ?side3 ?side4 ?side5 A35.out).mono ?_); (case side1 => repeat (first | (with_reducible first | exact HI0.out | apply IsS74.alloc | apply IsS74.drewN | apply IsS74.drew | apply IsS74.set_1 | apply IsS74.set_2 | apply IsS74.far (hne := NB0_236.out) | apply IsS74.far (hne := NB0_250.out)) | exact HI0.out)); (case side2 => repeat (first | (with_reducible first | exact HB.out | apply below_alloc | apply pw_below_drewN | apply below_drew1 | refine below_set ?_ (IsS74.ge HI0.out) | refine below_set ?_ GE236.out | refine below_set ?_ GE250.out) | exact HB.out)); (case side3 => repeat (first | exact (Kd.R_reads' HO267.out).2.2 | (with_reducible refine Kd.C_alloc ?_ _) | (with_reducible refine Kd.C_drewN ?_ _) | (with_reducible refine Kd.C_drew ?_))); (case side4 => exact (Kd.R_reads' HO267.out).2.1); (case side5 => exact far_slice (IsS74.own_ne HI0.out HO267.out (by decide))); rintro e w40 ⟨rfl, hi, hb, hk⟩; refine ⟨_, rfl, ?_⟩; have n0_ := Aside0.mk (KeepBut.blk hk (g' := gb236) (o := .cells #[.int .i64 0, .int .i64 0, .int .i64 0, .int .i64 0] 37 (0, 0)) (q_99) NB236_0.out (by simp)); have n1_ := Aside0.mk (KeepBut.blk hk (g' := gb250) (o := .cells #[.int .i64 x251000_4, .int .i64 x251001_4, .int .i64 x251002_4, .int .i64 x251003_4] 37 (0, 0)) (q_109) NB250_0.out (by simp)); have n2_ := Aside0.mk (Kd.R_mono (Kd.R_keep (IsS74.apart (show IsS74 w0 _ g s0_0 t257 t258 from by repeat (first | (with_reducible first | exact HI0.out | apply IsS74.alloc | apply IsS74.drewN | apply IsS74.drew | apply IsS74.set_1 | apply IsS74.set_2 | apply IsS74.far (hne := NB0_236.out) | apply IsS74.far (hne := NB0_250.out)) | exact HI0.out)) (by (with_reducible repeat (first | apply Kd.R_alloc | apply Kd.R_drewN | apply Kd.R_drew)); exact HO267.out) (by decide)) hk (fun _ h => h.2)) (fun _ h => h.1)); have n3_ := Aside0.mk (KeepBut.trans (q_107) hk (.inl rfl)); have n4_ := Aside0.mk (hb); have n5_ := Aside0.mk (hi); clear BK236; clear BK250; clear HO267; clear HK; clear HB; clear HI0; have BK236 := n0_; have BK250 := n1_; have HO267 := n2_; have HK := n3_; have HB := n4_; have HI0 := n5_; clear n0_ n1_ n2_ n3_ n4_ n5_; (try clear hb); (try clear hb2); (try clear hk); (try clear hi); have hnb41 := NB250_236.out; have hnc41 := NB236_250.out; have hnb42 := NB250_0.out; have hnc42 := NB0_250.out; have hcz43_0 : w40.cell? ⟨gb250, 0, none⟩ = some (.int .i64 x251000_4) := (blk_cell BK250.out 0).trans rfl; have hcz43_1 : w40.cell? ⟨gb250, 1, none⟩ = some (.int .i64 x251001_4) := (blk_cell BK250.out 1).trans rfl; have hcz43_2 : w40.cell? ⟨gb250, 2, none⟩ = some (.int .i64 x251002_4) := (blk_cell BK250.out 2).trans rfl; have hcz43_3 : w40.cell? ⟨gb250, 3, none⟩ = some (.int .i64 x251003_4) := (blk_cell BK250.out 3).trans rfl; have hfz43_0 := blk_frozen BK250.out 0; have hfz43_1 := blk_frozen BK250.out 1; have hfz43_2 := blk_frozen BK250.out 2; have hfz43_3 := blk_frozen BK250.out 3; have hnb44 := NB236_0.out; have hnc44 := NB0_236.out; have hcz45_0 : w40.cell? ⟨gb236, 0, none⟩ = some (.int .i64 0) := (blk_cell BK236.out 0).trans rfl; have hcz45_1 : w40.cell? ⟨gb236, 1, none⟩ = some (.int .i64 0) := (blk_cell BK236.out 1).trans rfl; have hcz45_2 : w40.cell? ⟨gb236, 2, none⟩ = some (.int .i64 0) := (blk_cell BK236.out 2).trans rfl; have hcz45_3 : w40.cell? ⟨gb236, 3, none⟩ = some (.int .i64 0) := (blk_cell BK236.out 3).trans rfl; have hfz45_0 := blk_frozen BK236.out 0; have hfz45_1 := blk_frozen BK236.out 1; have hfz45_2 := blk_frozen BK236.out 2; have hfz45_3 := blk_frozen BK236.out 3))
     refine bodyPost_ret (results_cell_row rfl _ _ gb236 37 #[.int .i64 x251000_4, .int .i64 x251001_4, .int .i64 x251002_4, .int .i64 t268] (0, 0) _ rfl (by (with_reducible repeat (first | refine blk_drewN ?_ _ | refine blk_drew ?_ | refine blk_alloc ?_ _)); refine blk_put (cs := #[.int .i64 x251000_4, .int .i64 x251001_4, .int .i64 x251002_4, .int .i64 0]) ?_ 3 _ rfl; (with_reducible repeat (first | refine blk_drewN ?_ _ | refine blk_drew ?_ | refine blk_alloc ?_ _)); refine blk_put (cs := #[.int .i64 x251000_4, .int .i64 x251001_4, .int .i64 0, .int .i64 0]) ?_ 2 _ rfl; (with_reducible repeat (first | refine blk_drewN ?_ _ | refine blk_drew ?_ | refine blk_alloc ?_ _)); refine blk_put (cs := #[.int .i64 x251000_4, .int .i64 0, .int .i64 0, .int .i64 0]) ?_ 1 _ rfl; (with_reducible repeat (first | refine blk_drewN ?_ _ | refine blk_drew ?_ | refine blk_alloc ?_ _)); refine blk_put (cs := #[.int .i64 0, .int .i64 0, .int .i64 0, .int .i64 0]) ?_ 0 _ rfl; (with_reducible repeat (first | refine blk_drewN ?_ _ | refine blk_drew ?_ | refine blk_alloc ?_ _)); refine blk_far ?_ NB236_250.out _; (with_reducible repeat (first | refine blk_drewN ?_ _ | refine blk_drew ?_ | refine blk_alloc ?_ _)); exact BK236.out) Try.underlying37 rfl (by kernel_rfl)) rfl ?_
     exact ⟨q_2, q_110, q_108, q_107⟩
    ·rw [if_neg c34] at H
     have c34b0 : (t256 == 1) = false := beq_eq_false_iff_ne.mpr c34
     have c34b1 : (t256 != 1) = true := bne_iff_ne.mpr c34
     by_cases c46 : t256 = 2
     ·rw [if_pos c46] at H
      have c46b0 : (t256 == 2) = true := beq_iff_eq.mpr c46
      have c46b1 : (t256 != 2) = false := bne_eq_false_iff_eq.mpr c46
      clear c46
      simp only [Option.some.injEq, Prod.mk.injEq] at H
      obtain ⟨rfl, rfl, rfl, rfl, rfl, rfl⟩ := H
      go_wp2_with (first | ((with_reducible refine gate_callee (f := 50) rfl ?_); refine goesL_ (some 18) rfl rfl Try.func50 (by kernel_rfl) rfl #[.pointer (some ⟨g, 0, none⟩), .int .i64 40] rfl (q_6) ?_; (with_reducible refine (spec_l1Cur_pick.calls g s0_0 t240 t241 40 t256 t257 t258 w0 _ ?side1 ?side2 A21.out).mono ?_); (case side1 => repeat (first | (with_reducible first | exact HI0.out | apply IsS74.alloc | apply IsS74.drewN | apply IsS74.drew | apply IsS74.set_1 | apply IsS74.set_2 | apply IsS74.far (hne := NB0_236.out) | apply IsS74.far (hne := NB0_250.out)) | exact HI0.out)); (case side2 => repeat (first | (with_reducible first | exact HB.out | apply below_alloc | apply pw_below_drewN | apply below_drew1 | refine below_set ?_ (IsS74.ge HI0.out) | refine below_set ?_ GE236.out | refine below_set ?_ GE250.out) | exact HB.out)); rintro e w47 ⟨rfl, hi, hb, hk⟩; refine ⟨_, rfl, ?_⟩; have n0_ := Aside0.mk (KeepBut.blk hk (g' := gb236) (o := .cells #[.int .i64 0, .int .i64 0, .int .i64 0, .int .i64 0] 37 (0, 0)) (q_99) NB236_0.out (by simp)); have n1_ := Aside0.mk (KeepBut.blk hk (g' := gb250) (o := .cells #[.int .i64 x251000_4, .int .i64 x251001_4, .int .i64 x251002_4, .int .i64 x251003_4] 37 (0, 0)) (q_109) NB250_0.out (by simp)); have n2_ := Aside0.mk (KeepBut.trans (q_107) hk (.inl rfl)); have n3_ := Aside0.mk (hb); have n4_ := Aside0.mk (hi); clear BK236; clear BK250; clear HK; clear HB; clear HI0; have BK236 := n0_; have BK250 := n1_; have HK := n2_; have HB := n3_; have HI0 := n4_; clear n0_ n1_ n2_ n3_ n4_; (try clear hb); (try clear hb2); (try clear hk); (try clear hi); have hnb48 := NB250_236.out; have hnc48 := NB236_250.out; have hnb49 := NB250_0.out; have hnc49 := NB0_250.out; have hcz50_0 : w47.cell? ⟨gb250, 0, none⟩ = some (.int .i64 x251000_4) := (blk_cell BK250.out 0).trans rfl; have hcz50_1 : w47.cell? ⟨gb250, 1, none⟩ = some (.int .i64 x251001_4) := (blk_cell BK250.out 1).trans rfl; have hcz50_2 : w47.cell? ⟨gb250, 2, none⟩ = some (.int .i64 x251002_4) := (blk_cell BK250.out 2).trans rfl; have hcz50_3 : w47.cell? ⟨gb250, 3, none⟩ = some (.int .i64 x251003_4) := (blk_cell BK250.out 3).trans rfl; have hfz50_0 := blk_frozen BK250.out 0; have hfz50_1 := blk_frozen BK250.out 1; have hfz50_2 := blk_frozen BK250.out 2; have hfz50_3 := blk_frozen BK250.out 3; have hnb51 := NB236_0.out; have hnc51 := NB0_236.out; have hcz52_0 : w47.cell? ⟨gb236, 0, none⟩ = some (.int .i64 0) := (blk_cell BK236.out 0).trans rfl; have hcz52_1 : w47.cell? ⟨gb236, 1, none⟩ = some (.int .i64 0) := (blk_cell BK236.out 1).trans rfl; have hcz52_2 : w47.cell? ⟨gb236, 2, none⟩ = some (.int .i64 0) := (blk_cell BK236.out 2).trans rfl; have hcz52_3 : w47.cell? ⟨gb236, 3, none⟩ = some (.int .i64 0) := (blk_cell BK236.out 3).trans rfl; have hfz52_0 := blk_frozen BK236.out 0; have hfz52_1 := blk_frozen BK236.out 1; have hfz52_2 := blk_frozen BK236.out 2; have hfz52_3 := blk_frozen BK236.out 3))
      refine bodyPost_ret (results_cell_row rfl _ _ gb236 37 #[.int .i64 x251000_4, .int .i64 2400, .int .i64 x251002_4, .int .i64 x251003_4] (0, 0) _ rfl (by (with_reducible repeat (first | refine blk_drewN ?_ _ | refine blk_drew ?_ | refine blk_alloc ?_ _)); refine blk_put (cs := #[.int .i64 x251000_4, .int .i64 2400, .int .i64 x251002_4, .int .i64 0]) ?_ 3 _ rfl; (with_reducible repeat (first | refine blk_drewN ?_ _ | refine blk_drew ?_ | refine blk_alloc ?_ _)); refine blk_put (cs := #[.int .i64 x251000_4, .int .i64 2400, .int .i64 0, .int .i64 0]) ?_ 2 _ rfl; (with_reducible repeat (first | refine blk_drewN ?_ _ | refine blk_drew ?_ | refine blk_alloc ?_ _)); refine blk_put (cs := #[.int .i64 x251000_4, .int .i64 0, .int .i64 0, .int .i64 0]) ?_ 1 _ rfl; (with_reducible repeat (first | refine blk_drewN ?_ _ | refine blk_drew ?_ | refine blk_alloc ?_ _)); refine blk_put (cs := #[.int .i64 0, .int .i64 0, .int .i64 0, .int .i64 0]) ?_ 0 _ rfl; (with_reducible repeat (first | refine blk_drewN ?_ _ | refine blk_drew ?_ | refine blk_alloc ?_ _)); refine blk_far ?_ NB236_250.out _; (with_reducible repeat (first | refine blk_drewN ?_ _ | refine blk_drew ?_ | refine blk_alloc ?_ _)); exact BK236.out) Try.underlying37 rfl (by kernel_rfl)) rfl ?_
      exact ⟨q_2, q_110, q_108, q_107⟩
     ·rw [if_neg c46] at H
      have c46b0 : (t256 == 2) = false := beq_eq_false_iff_ne.mpr c46
      have c46b1 : (t256 != 2) = true := bne_iff_ne.mpr c46
      simp only [Option.some.injEq, Prod.mk.injEq] at H
      obtain ⟨rfl, rfl, rfl, rfl, rfl, rfl⟩ := H
      go_wp2_with (first | ((with_reducible refine gate_callee (f := 50) rfl ?_); refine goesL_ (some 18) rfl rfl Try.func50 (by kernel_rfl) rfl #[.pointer (some ⟨g, 0, none⟩), .int .i64 40] rfl (q_6) ?_; (with_reducible refine (spec_l1Cur_pick.calls g s0_0 t240 t241 40 t256 t257 t258 w0 _ ?side1 ?side2 A21.out).mono ?_); (case side1 => repeat (first | (with_reducible first | exact HI0.out | apply IsS74.alloc | apply IsS74.drewN | apply IsS74.drew | apply IsS74.set_1 | apply IsS74.set_2 | apply IsS74.far (hne := NB0_236.out) | apply IsS74.far (hne := NB0_250.out)) | exact HI0.out)); (case side2 => repeat (first | (with_reducible first | exact HB.out | apply below_alloc | apply pw_below_drewN | apply below_drew1 | refine below_set ?_ (IsS74.ge HI0.out) | refine below_set ?_ GE236.out | refine below_set ?_ GE250.out) | exact HB.out)); rintro e w53 ⟨rfl, hi, hb, hk⟩; refine ⟨_, rfl, ?_⟩; have n0_ := Aside0.mk (KeepBut.blk hk (g' := gb236) (o := .cells #[.int .i64 0, .int .i64 0, .int .i64 0, .int .i64 0] 37 (0, 0)) (q_99) NB236_0.out (by simp)); have n1_ := Aside0.mk (KeepBut.blk hk (g' := gb250) (o := .cells #[.int .i64 x251000_4, .int .i64 x251001_4, .int .i64 x251002_4, .int .i64 x251003_4] 37 (0, 0)) (q_109) NB250_0.out (by simp)); have n2_ := Aside0.mk (KeepBut.trans (q_107) hk (.inl rfl)); have n3_ := Aside0.mk (hb); have n4_ := Aside0.mk (hi); clear BK236; clear BK250; clear HK; clear HB; clear HI0; have BK236 := n0_; have BK250 := n1_; have HK := n2_; have HB := n3_; have HI0 := n4_; clear n0_ n1_ n2_ n3_ n4_; (try clear hb); (try clear hb2); (try clear hk); (try clear hi); have hnb54 := NB250_236.out; have hnc54 := NB236_250.out; have hnb55 := NB250_0.out; have hnc55 := NB0_250.out; have hcz56_0 : w53.cell? ⟨gb250, 0, none⟩ = some (.int .i64 x251000_4) := (blk_cell BK250.out 0).trans rfl; have hcz56_1 : w53.cell? ⟨gb250, 1, none⟩ = some (.int .i64 x251001_4) := (blk_cell BK250.out 1).trans rfl; have hcz56_2 : w53.cell? ⟨gb250, 2, none⟩ = some (.int .i64 x251002_4) := (blk_cell BK250.out 2).trans rfl; have hcz56_3 : w53.cell? ⟨gb250, 3, none⟩ = some (.int .i64 x251003_4) := (blk_cell BK250.out 3).trans rfl; have hfz56_0 := blk_frozen BK250.out 0; have hfz56_1 := blk_frozen BK250.out 1; have hfz56_2 := blk_frozen BK250.out 2; have hfz56_3 := blk_frozen BK250.out 3; have hnb57 := NB236_0.out; have hnc57 := NB0_236.out; have hcz58_0 : w53.cell? ⟨gb236, 0, none⟩ = some (.int .i64 0) := (blk_cell BK236.out 0).trans rfl; have hcz58_1 : w53.cell? ⟨gb236, 1, none⟩ = some (.int .i64 0) := (blk_cell BK236.out 1).trans rfl; have hcz58_2 : w53.cell? ⟨gb236, 2, none⟩ = some (.int .i64 0) := (blk_cell BK236.out 2).trans rfl; have hcz58_3 : w53.cell? ⟨gb236, 3, none⟩ = some (.int .i64 0) := (blk_cell BK236.out 3).trans rfl; have hfz58_0 := blk_frozen BK236.out 0; have hfz58_1 := blk_frozen BK236.out 1; have hfz58_2 := blk_frozen BK236.out 2; have hfz58_3 := blk_frozen BK236.out 3))
      refine bodyPost_ret (results_cell_row rfl _ _ gb236 37 #[.int .i64 x251000_4, .int .i64 x251001_4, .int .i64 x251002_4, .int .i64 x251003_4] (0, 0) _ rfl (by (with_reducible repeat (first | refine blk_drewN ?_ _ | refine blk_drew ?_ | refine blk_alloc ?_ _)); refine blk_put (cs := #[.int .i64 x251000_4, .int .i64 x251001_4, .int .i64 x251002_4, .int .i64 0]) ?_ 3 _ rfl; (with_reducible repeat (first | refine blk_drewN ?_ _ | refine blk_drew ?_ | refine blk_alloc ?_ _)); refine blk_put (cs := #[.int .i64 x251000_4, .int .i64 x251001_4, .int .i64 0, .int .i64 0]) ?_ 2 _ rfl; (with_reducible repeat (first | refine blk_drewN ?_ _ | refine blk_drew ?_ | refine blk_alloc ?_ _)); refine blk_put (cs := #[.int .i64 x251000_4, .int .i64 0, .int .i64 0, .int .i64 0]) ?_ 1 _ rfl; (with_reducible repeat (first | refine blk_drewN ?_ _ | refine blk_drew ?_ | refine blk_alloc ?_ _)); refine blk_put (cs := #[.int .i64 0, .int .i64 0, .int .i64 0, .int .i64 0]) ?_ 0 _ rfl; (with_reducible repeat (first | refine blk_drewN ?_ _ | refine blk_drew ?_ | refine blk_alloc ?_ _)); exact BK236.out) Try.underlying37 rfl (by kernel_rfl)) rfl ?_
      exact ⟨q_2, q_110, q_108, q_107⟩

/-! ### spec_DrawAckedBytes: function 27 -/
def spec_DrawAckedBytes.f (k : Nat) (l0 : List Int) : Option (Int × Int × Int × Int × Int × Int) := (spec_l1Cur_window.f k l0 0 0).bind fun bt273 => ((spec_l1Cur_pick.f l0 bt273.2.2.2.2.1 bt273.2.2.2.2.2 1700).bind fun bt279 => ((spec_l1Cur_pick.f l0 bt279.2.1 bt279.2.2 100).bind fun bt282 => (some (bt273.1, bt273.2.1, bt273.2.2.1, bt273.2.2.2.1, wrap64 (bt279.1 - 50), wrap64 (bt282.1 - 1)))))
theorem spec_DrawAckedBytes.mono : ∀ a0 k, LeO (spec_DrawAckedBytes.f k a0) (spec_DrawAckedBytes.f (k + 1) a0) := by
 intro a0 k
 unfold spec_DrawAckedBytes.f
 repeat' first
   | (with_reducible exact spec_l1Cur_window.mono _ _ _ _)
   | (with_reducible exact LeO.refl _)
   | (with_reducible exact LeO.none _)
   | (with_reducible refine LeO.ite ?_ ?_)
   | (with_reducible refine LeO.bind ?_ (fun _ => ?_))
   | exact spec_l1Cur_window.mono _ _ _ _
   | exact LeO.none _
   | refine LeO.ite ?_ ?_
   | refine LeO.bind ?_ (fun _ => ?_)
set_option maxHeartbeats 8000000 in
set_option maxRecDepth 100000 in
theorem spec_DrawAckedBytes.calls (k : Nat) (A0 : Option Addr) (c0 : Nat) (l0 : List Int) (r1 : Int) (r2 : Int) (r3 : Int) (r4 : Int) (r5 : Int) (r6 : Int) (w : World) (hr0 : Kd.C (Kd.int .u8) w A0 l0.length l0) (hc0 : l0.length ≤ c0) (h : spec_DrawAckedBytes.f k l0 = some (r1, r2, r3, r4, r5, r6)) :
  Calls Try.prog 27 #[.slice A0 l0.length c0] w fun e w' => e = .returned (.tuple #[.agg #[.int .i64 r1, .int .i64 r2, .int .i64 r3, .int .i64 r4], .int .i64 r5, .int .i64 r6]) ∧ Below w.heap.size w w' := by
 have hu37 := Try.underlying37
 have hu74 := Try.underlying74
 have HR0 := Aside0.mk hr0
 have HC0 := Aside0.mk hc0
 clear hr0 hc0
 have HB := Aside0.mk (Below.refl w.heap.size w)
 have H : ((spec_l1Cur_window.f k l0 0 0).bind fun bt273 => ((spec_l1Cur_pick.f l0 bt273.2.2.2.2.1 bt273.2.2.2.2.2 1700).bind fun bt279 => ((spec_l1Cur_pick.f l0 bt279.2.1 bt279.2.2 100).bind fun bt282 => (some (bt273.1, bt273.2.1, bt273.2.2.1, bt273.2.2.2.1, wrap64 (bt279.1 - 50), wrap64 (bt282.1 - 1)))))) = some (r1, r2, r3, r4, r5, r6) := h
 clear h
 replace H := Option.bind_eq_some_iff.mp H
 obtain ⟨⟨t273, t274, t275, t276, t277, t278⟩, A20, H⟩ := H
 replace H : ((spec_l1Cur_pick.f l0 t277 t278 1700).bind fun bt279 => ((spec_l1Cur_pick.f l0 bt279.2.1 bt279.2.2 100).bind fun bt282 => (some (t273, t274, t275, t276, wrap64 (bt279.1 - 50), wrap64 (bt282.1 - 1))))) = some (r1, r2, r3, r4, r5, r6) := H
 have A2 := Aside0.mk A20
 clear A20
 replace H := Option.bind_eq_some_iff.mp H
 obtain ⟨⟨t279, t280, t281⟩, A30, H⟩ := H
 replace H : ((spec_l1Cur_pick.f l0 t280 t281 100).bind fun bt282 => (some (t273, t274, t275, t276, wrap64 (t279 - 50), wrap64 (bt282.1 - 1)))) = some (r1, r2, r3, r4, r5, r6) := H
 have A3 := Aside0.mk A30
 clear A30
 replace H := Option.bind_eq_some_iff.mp H
 obtain ⟨⟨t282, t283, t284⟩, A40, H⟩ := H
 replace H : (some (t273, t274, t275, t276, wrap64 (t279 - 50), wrap64 (t282 - 1))) = some (r1, r2, r3, r4, r5, r6) := H
 have A4 := Aside0.mk A40
 clear A40
 simp only [Option.some.injEq, Prod.mk.injEq] at H
 obtain ⟨rfl, rfl, rfl, rfl, rfl, rfl⟩ := H
 go_enter Try.func27, Try.ntmps27
 go_wp2_with (first | ((with_reducible refine gate_dst (N := 2) rfl ?_); refine box_event ?hg (N := 2) ?hd (cs := #[.int .i64 0, .int .i64 0, .int .i64 0, .int .i64 0]) (t := 37) ?hr ?_; (case hd => rfl); (case hg => rfl); (case hr => first | (go_simp; done) | (go_simp; rfl)); intro gb271 hg w5 hbox hb; have n0_ := Aside0.mk (below_step (q_7) hb); have n1_ := Aside0.mk (hbox); have n2_ := Aside0.mk ((q_8 : w.heap.size ≤ gb271)); have n3_ := Aside0.mk ((q_8 : w.heap.size ≤ gb271)); clear HB; have HB := n0_; have BK271 := n1_; have GW271 := n2_; have GE271 := n3_; clear n0_ n1_ n2_ n3_; clear hb hbox hg) | ((with_reducible refine gate_dst (N := 8) rfl ?_); refine box_event ?hg (N := 8) ?hd (cs := #[.slice A0 l0.length c0, .int .i64 0, .int .u64 0]) (t := 74) ?hr ?_; (case hd => rfl); (case hg => rfl); (case hr => first | (go_simp; done) | (go_simp; rfl)); intro gb272 hg w6 hbox hb; have n0_ := Aside0.mk (blk_below (g := gb271) (o := .cells #[.int .i64 0, .int .i64 0, .int .i64 0, .int .i64 0] 37 (0, 0)) (q_111) hb); have n1_ := Aside0.mk (below_step (q_112) hb); have n2_ := Aside0.mk ((⟨_, _, hbox, (q_113 : w.heap.size ≤ gb272), HR0.out⟩ : IsS74 w w6 gb272 l0 0 0)); have n3_ := Aside0.mk ((q_113 : w.heap.size ≤ gb272)); have n4_ := Aside0.mk ((q_113 : w.heap.size ≤ gb272)); have n5_ := Aside0.mk ((by rw [hg]; exact Nat.ne_of_lt (blk_lt (g := gb271) (o := .cells #[.int .i64 0, .int .i64 0, .int .i64 0, .int .i64 0] 37 (0, 0)) (q_111)) : gb271 ≠ gb272)); have n6_ := Aside0.mk ((by rw [hg]; exact Nat.ne_of_gt (blk_lt (g := gb271) (o := .cells #[.int .i64 0, .int .i64 0, .int .i64 0, .int .i64 0] 37 (0, 0)) (q_111)) : gb272 ≠ gb271)); clear BK271; clear HB; have BK271 := n0_; have HB := n1_; have HI272 := n2_; have GW272 := n3_; have GE272 := n4_; have NB271_272 := n5_; have NB272_271 := n6_; clear n0_ n1_ n2_ n3_ n4_ n5_ n6_; clear hb hbox hg) | ((with_reducible refine gate_callee (f := 75) rfl ?_); refine goesL_ (some 10) rfl rfl Try.func75 (by kernel_rfl) rfl #[.pointer (some ⟨gb272, 0, none⟩)] rfl (q_6) ?_; (with_reducible refine (spec_l1Cur_window.calls k gb272 l0 0 0 t273 t274 t275 t276 t277 t278 w _ ?side1 ?side2 A2.out).mono ?_); (case side1 => repeat (first | (with_reducible first | exact HI272.out | apply IsS74.alloc | apply IsS74.drewN | apply IsS74.drew | apply IsS74.set_1 | apply IsS74.set_2 | apply IsS74.far (hne := NB272_271.out)) | exact HI272.out)); (case side2 => repeat (first | (with_reducible first | exact HB.out | apply below_alloc | apply pw_below_drewN | apply below_drew1 | refine below_set ?_ (IsS74.ge HI272.out) | refine below_set ?_ GE271.out) | exact HB.out)); rintro e w7 ⟨rfl, hi, hb, hk⟩; refine ⟨_, rfl, ?_⟩; have n0_ := Aside0.mk (KeepBut.blk hk (g' := gb271) (o := .cells #[.int .i64 0, .int .i64 0, .int .i64 0, .int .i64 0] 37 (0, 0)) (q_111) NB271_272.out (by simp)); have n1_ := Aside0.mk (hb); have n2_ := Aside0.mk (hi); clear BK271; clear HB; clear HI272; have BK271 := n0_; have HB := n1_; have HI272 := n2_; clear n0_ n1_ n2_; (try clear hb); (try clear hb2); (try clear hk); (try clear hi)) | ((with_reducible refine gate_callee (f := 50) rfl ?_); refine goesL_ (some 12) rfl rfl Try.func50 (by kernel_rfl) rfl #[.pointer (some ⟨gb272, 0, none⟩), .int .i64 1700] rfl (q_6) ?_; (with_reducible refine (spec_l1Cur_pick.calls gb272 l0 t277 t278 1700 t279 t280 t281 w _ ?side1 ?side2 A3.out).mono ?_); (case side1 => repeat (first | (with_reducible first | exact HI272.out | apply IsS74.alloc | apply IsS74.drewN | apply IsS74.drew | apply IsS74.set_1 | apply IsS74.set_2 | apply IsS74.far (hne := NB272_271.out)) | exact HI272.out)); (case side2 => repeat (first | (with_reducible first | exact HB.out | apply below_alloc | apply pw_below_drewN | apply below_drew1 | refine below_set ?_ (IsS74.ge HI272.out) | refine below_set ?_ GE271.out) | exact HB.out)); rintro e w8 ⟨rfl, hi, hb, hk⟩; refine ⟨_, rfl, ?_⟩; have n0_ := Aside0.mk (KeepBut.blk hk (g' := gb271) (o := .cells #[.int .i64 0, .int .i64 0, .int .i64 0, .int .i64 0] 37 (0, 0)) (q_111) NB271_272.out (by simp)); have n1_ := Aside0.mk (hb); have n2_ := Aside0.mk (hi); clear BK271; clear HB; clear HI272; have BK271 := n0_; have HB := n1_; have HI272 := n2_; clear n0_ n1_ n2_; (try clear hb); (try clear hb2); (try clear hk); (try clear hi)) | ((with_reducible refine gate_callee (f := 50) rfl ?_); refine goesL_ (some 15) rfl rfl Try.func50 (by kernel_rfl) rfl #[.pointer (some ⟨gb272, 0, none⟩), .int .i64 100] rfl (q_6) ?_; (with_reducible refine (spec_l1Cur_pick.calls gb272 l0 t280 t281 100 t282 t283 t284 w _ ?side1 ?side2 A4.out).mono ?_); (case side1 => repeat (first | (with_reducible first | exact HI272.out | apply IsS74.alloc | apply IsS74.drewN | apply IsS74.drew | apply IsS74.set_1 | apply IsS74.set_2 | apply IsS74.far (hne := NB272_271.out)) | exact HI272.out)); (case side2 => repeat (first | (with_reducible first | exact HB.out | apply below_alloc | apply pw_below_drewN | apply below_drew1 | refine below_set ?_ (IsS74.ge HI272.out) | refine below_set ?_ GE271.out) | exact HB.out)); rintro e w9 ⟨rfl, hi, hb, hk⟩; refine ⟨_, rfl, ?_⟩; have n0_ := Aside0.mk (KeepBut.blk hk (g' := gb271) (o := .cells #[.int .i64 0, .int .i64 0, .int .i64 0, .int .i64 0] 37 (0, 0)) (q_111) NB271_272.out (by simp)); have n1_ := Aside0.mk (hb); have n2_ := Aside0.mk (hi); clear BK271; clear HB; clear HI272; have BK271 := n0_; have HB := n1_; have HI272 := n2_; clear n0_ n1_ n2_; (try clear hb); (try clear hb2); (try clear hk); (try clear hi); have hnb10 := NB271_272.out; have hnc10 := NB272_271.out; have hcz11_0 : w9.cell? ⟨gb271, 0, none⟩ = some (.int .i64 0) := (blk_cell BK271.out 0).trans rfl; have hcz11_1 : w9.cell? ⟨gb271, 1, none⟩ = some (.int .i64 0) := (blk_cell BK271.out 1).trans rfl; have hcz11_2 : w9.cell? ⟨gb271, 2, none⟩ = some (.int .i64 0) := (blk_cell BK271.out 2).trans rfl; have hcz11_3 : w9.cell? ⟨gb271, 3, none⟩ = some (.int .i64 0) := (blk_cell BK271.out 3).trans rfl; have hfz11_0 := blk_frozen BK271.out 0; have hfz11_1 := blk_frozen BK271.out 1; have hfz11_2 := blk_frozen BK271.out 2; have hfz11_3 := blk_frozen BK271.out 3))
 refine bodyPost_ret (results_ctt rfl _ _ gb271 37 #[.int .i64 t273, .int .i64 t274, .int .i64 t275, .int .i64 t276] (0, 0) _ rfl (by (with_reducible repeat (first | refine blk_drewN ?_ _ | refine blk_drew ?_ | refine blk_alloc ?_ _)); refine blk_put (cs := #[.int .i64 t273, .int .i64 t274, .int .i64 t275, .int .i64 0]) ?_ 3 _ rfl; (with_reducible repeat (first | refine blk_drewN ?_ _ | refine blk_drew ?_ | refine blk_alloc ?_ _)); refine blk_put (cs := #[.int .i64 t273, .int .i64 t274, .int .i64 0, .int .i64 0]) ?_ 2 _ rfl; (with_reducible repeat (first | refine blk_drewN ?_ _ | refine blk_drew ?_ | refine blk_alloc ?_ _)); refine blk_put (cs := #[.int .i64 t273, .int .i64 0, .int .i64 0, .int .i64 0]) ?_ 1 _ rfl; (with_reducible repeat (first | refine blk_drewN ?_ _ | refine blk_drew ?_ | refine blk_alloc ?_ _)); refine blk_put (cs := #[.int .i64 0, .int .i64 0, .int .i64 0, .int .i64 0]) ?_ 0 _ rfl; (with_reducible repeat (first | refine blk_drewN ?_ _ | refine blk_drew ?_ | refine blk_alloc ?_ _)); exact BK271.out) Try.underlying37 rfl (by kernel_rfl)) rfl ?_
 exact ⟨q_2, by repeat (first | (with_reducible first | exact HB.out | apply below_alloc | apply pw_below_drewN | apply below_drew1 | refine below_set ?_ (IsS74.ge HI272.out) | refine below_set ?_ GE271.out) | exact HB.out)⟩

/-! ### spec_DrawLostBytes: function 18 -/
def spec_DrawLostBytes.f (k : Nat) (l0 : List Int) : Option (Int × Int × Int × Int × Int × Int × Int) := (spec_DrawAckedBytes.f k l0).bind fun bt286 => ((spec_l1Cur_pick.f l0 0 0 120).bind fun bt294 => (some (bt286.1, bt286.2.1, bt286.2.2.1, bt286.2.2.2.1, bt286.2.2.2.2.1, bt286.2.2.2.2.2, wrap64 (bt294.1 - 1))))
theorem spec_DrawLostBytes.mono : ∀ a0 k, LeO (spec_DrawLostBytes.f k a0) (spec_DrawLostBytes.f (k + 1) a0) := by
 intro a0 k
 unfold spec_DrawLostBytes.f
 repeat' first
   | (with_reducible exact spec_DrawAckedBytes.mono _ _)
   | (with_reducible exact LeO.refl _)
   | (with_reducible exact LeO.none _)
   | (with_reducible refine LeO.ite ?_ ?_)
   | (with_reducible refine LeO.bind ?_ (fun _ => ?_))
   | exact spec_DrawAckedBytes.mono _ _
   | exact LeO.none _
   | refine LeO.ite ?_ ?_
   | refine LeO.bind ?_ (fun _ => ?_)
def spec_DrawLostBytes.T3 : Bool × List (List Nat × List Nat) := (true, [([], []), ([], []), ([], []), ([], []), ([3], [3]), ([4], [4]), ([0, 4, 0], [0]), ([1, 6, 0, 1, 6], [1]), ([2, 7, 0, 1, 2, 6, 7], [2]), ([5, 8, 0, 1, 2, 3, 4, 5, 6, 7, 8], [5])])
def spec_DrawLostBytes.B3 : List Nat := [0, 0, 0, 0, 8, 24, 25, 91, 223, 511]
theorem spec_DrawLostBytes.tab3 : rtab .any (opsOf Try.f18 3) = spec_DrawLostBytes.T3 := by kernel_rfl
theorem spec_DrawLostBytes.bits3 : waitsOk spec_DrawLostBytes.T3.2 spec_DrawLostBytes.B3 = true := by kernel_rfl
set_option maxHeartbeats 8000000 in
set_option maxRecDepth 100000 in
theorem spec_DrawLostBytes.calls (k : Nat) (A0 : Option Addr) (c0 : Nat) (l0 : List Int) (r1 : Int) (r2 : Int) (r3 : Int) (r4 : Int) (r5 : Int) (r6 : Int) (r7 : Int) (w : World) (hr0 : Kd.C (Kd.int .u8) w A0 l0.length l0) (hc0 : l0.length ≤ c0) (h : spec_DrawLostBytes.f k l0 = some (r1, r2, r3, r4, r5, r6, r7)) :
  Calls Try.prog 18 #[.slice A0 l0.length c0] w fun e w' => e = .returned (.tuple #[.agg #[.int .i64 r1, .int .i64 r2, .int .i64 r3, .int .i64 r4], .int .i64 r5, .int .i64 r6, .int .i64 r7]) ∧ Below w.heap.size w w' := by
 have hu37 := Try.underlying37
 have hu74 := Try.underlying74
 have HR0 := Aside0.mk hr0
 have HC0 := Aside0.mk hc0
 clear hr0 hc0
 have HB := Aside0.mk (Below.refl w.heap.size w)
 have H : ((spec_DrawAckedBytes.f k l0).bind fun bt286 => ((spec_l1Cur_pick.f l0 0 0 120).bind fun bt294 => (some (bt286.1, bt286.2.1, bt286.2.2.1, bt286.2.2.2.1, bt286.2.2.2.2.1, bt286.2.2.2.2.2, wrap64 (bt294.1 - 1))))) = some (r1, r2, r3, r4, r5, r6, r7) := h
 clear h
 replace H := Option.bind_eq_some_iff.mp H
 obtain ⟨⟨t286, t287, t288, t289, t290, t291⟩, A20, H⟩ := H
 replace H : ((spec_l1Cur_pick.f l0 0 0 120).bind fun bt294 => (some (t286, t287, t288, t289, t290, t291, wrap64 (bt294.1 - 1)))) = some (r1, r2, r3, r4, r5, r6, r7) := H
 have A2 := Aside0.mk A20
 clear A20
 replace H := Option.bind_eq_some_iff.mp H
 obtain ⟨⟨t294, t295, t296⟩, A30, H⟩ := H
 replace H : (some (t286, t287, t288, t289, t290, t291, wrap64 (t294 - 1))) = some (r1, r2, r3, r4, r5, r6, r7) := H
 have A3 := Aside0.mk A30
 clear A30
 simp only [Option.some.injEq, Prod.mk.injEq] at H
 obtain ⟨rfl, rfl, rfl, rfl, rfl, rfl, rfl⟩ := H
 go_enter Try.func18, Try.ntmps18
 try go_wp2_with (first | ((with_reducible refine gate_dst (N := 2) rfl ?_); refine box_event ?hg (N := 2) ?hd (cs := #[.int .i64 0, .int .i64 0, .int .i64 0, .int .i64 0]) (t := 37) ?hr ?_; (case hd => rfl); (case hg => rfl); (case hr => first | (go_simp; done) | (go_simp; rfl)); intro gb285 hg w4 hbox hb; have n0_ := Aside0.mk (below_step (q_7) hb); have n1_ := Aside0.mk (hbox); have n2_ := Aside0.mk ((q_8 : w.heap.size ≤ gb285)); have n3_ := Aside0.mk ((q_8 : w.heap.size ≤ gb285)); clear HB; have HB := n0_; have BK285 := n1_; have GW285 := n2_; have GE285 := n3_; clear n0_ n1_ n2_ n3_; clear hb hbox hg) | ((with_reducible refine gate_callee (f := 27) rfl ?_); refine goesL_ (some 12) rfl rfl Try.func27 (by kernel_rfl) rfl #[.slice A0 l0.length c0] rfl (q_6) ?_; (with_reducible refine (spec_DrawAckedBytes.calls k _ _ l0 t286 t287 t288 t289 t290 t291 _ ?side1 ?side2 A2.out).mono ?_); (case side1 => repeat (first | exact (Kd.C_below HR0.out HB.out) | (with_reducible refine Kd.C_alloc ?_ _) | (with_reducible refine Kd.C_drewN ?_ _) | (with_reducible refine Kd.C_drew ?_))); (case side2 => exact HC0.out); rintro e w5 ⟨rfl, hb⟩; refine ⟨_, rfl, ?_⟩; have n0_ := Aside0.mk (blk_below (g := gb285) (o := .cells #[.int .i64 0, .int .i64 0, .int .i64 0, .int .i64 0] 37 (0, 0)) (q_114) hb); have n1_ := Aside0.mk (below_step (q_115) hb); clear BK285; clear HB; have BK285 := n0_; have HB := n1_; clear n0_ n1_; (try clear hb); (try clear hb2); (try clear hk); (try clear hi)) | ((with_reducible refine gate_dst (N := 6) rfl ?_); refine box_event ?hg (N := 6) ?hd (cs := #[.int .i64 0, .int .i64 0, .int .i64 0, .int .i64 0]) (t := 37) ?hr ?_; (case hd => rfl); (case hg => rfl); (case hr => first | (go_simp; done) | (go_simp; rfl)); intro gb292 hg w6 hbox hb; have n0_ := Aside0.mk (blk_below (g := gb285) (o := .cells #[.int .i64 0, .int .i64 0, .int .i64 0, .int .i64 0] 37 (0, 0)) (q_114) hb); have n1_ := Aside0.mk (below_step (q_115) hb); have n2_ := Aside0.mk (hbox); have n3_ := Aside0.mk ((q_116 : w.heap.size ≤ gb292)); have n4_ := Aside0.mk ((q_116 : w.heap.size ≤ gb292)); have n5_ := Aside0.mk ((by rw [hg]; exact Nat.ne_of_lt (blk_lt (g := gb285) (o := .cells #[.int .i64 0, .int .i64 0, .int .i64 0, .int .i64 0] 37 (0, 0)) (q_114)) : gb285 ≠ gb292)); have n6_ := Aside0.mk ((by rw [hg]; exact Nat.ne_of_gt (blk_lt (g := gb285) (o := .cells #[.int .i64 0, .int .i64 0, .int .i64 0, .int .i64 0] 37 (0, 0)) (q_114)) : gb292 ≠ gb285)); clear BK285; clear HB; have BK285 := n0_; have HB := n1_; have BK292 := n2_; have GW292 := n3_; have GE292 := n4_; have NB285_292 := n5_; have NB292_285 := n6_; clear n0_ n1_ n2_ n3_ n4_ n5_ n6_; clear hb hbox hg; have hnb7 := NB292_285.out; have hnc7 := NB285_292.out; have hcz8_0 : w6.cell? ⟨gb292, 0, none⟩ = some (.int .i64 0) := (blk_cell BK292.out 0).trans rfl; have hcz8_1 : w6.cell? ⟨gb292, 1, none⟩ = some (.int .i64 0) := (blk_cell BK292.out 1).trans rfl; have hcz8_2 : w6.cell? ⟨gb292, 2, none⟩ = some (.int .i64 0) := (blk_cell BK292.out 2).trans rfl; have hcz8_3 : w6.cell? ⟨gb292, 3, none⟩ = some (.int .i64 0) := (blk_cell BK292.out 3).trans rfl; have hfz8_0 := blk_frozen BK292.out 0; have hfz8_1 := blk_frozen BK292.out 1; have hfz8_2 := blk_frozen BK292.out 2; have hfz8_3 := blk_frozen BK292.out 3) | ((with_reducible refine gate_dst (N := 18) rfl ?_); refine box_event ?hg (N := 18) ?hd (cs := #[.slice A0 l0.length c0, .int .i64 0, .int .u64 0]) (t := 74) ?hr ?_; (case hd => rfl); (case hg => rfl); (case hr => first | (go_simp; done) | (go_simp; rfl)); intro gb293 hg w9 hbox hb; have n0_ := Aside0.mk (blk_below (g := gb285) (o := .cells #[.int .i64 0, .int .i64 0, .int .i64 0, .int .i64 0] 37 (0, 0)) (q_117) hb); have n1_ := Aside0.mk (blk_below (g := gb292) (o := .cells #[.int .i64 t286, .int .i64 t287, .int .i64 t288, .int .i64 t289] 37 (0, 0)) (q_118) hb); have n2_ := Aside0.mk (below_step (q_119) hb); have n3_ := Aside0.mk ((⟨_, _, hbox, (q_120 : w.heap.size ≤ gb293), HR0.out⟩ : IsS74 w w9 gb293 l0 0 0)); have n4_ := Aside0.mk ((q_120 : w.heap.size ≤ gb293)); have n5_ := Aside0.mk ((q_120 : w.heap.size ≤ gb293)); have n6_ := Aside0.mk ((by rw [hg]; exact Nat.ne_of_lt (blk_lt (g := gb285) (o := .cells #[.int .i64 0, .int .i64 0, .int .i64 0, .int .i64 0] 37 (0, 0)) (q_117)) : gb285 ≠ gb293)); have n7_ := Aside0.mk ((by rw [hg]; exact Nat.ne_of_gt (blk_lt (g := gb285) (o := .cells #[.int .i64 0, .int .i64 0, .int .i64 0, .int .i64 0] 37 (0, 0)) (q_117)) : gb293 ≠ gb285)); have n8_ := Aside0.mk ((by rw [hg]; exact Nat.ne_of_lt (blk_lt (g := gb292) (o := .cells #[.int .i64 t286, .int .i64 t287, .int .i64 t288, .int .i64 t289] 37 (0, 0)) (q_118)) : gb292 ≠ gb293)); have n9_ := Aside0.mk ((by rw [hg]; exact Nat.ne_of_gt (blk_lt (g := gb292) (o := .cells #[.int .i64 t286, .int .i64 t287, .int .i64 t288, .int .i64 t289] 37 (0, 0)) (q_118)) : gb293 ≠ gb292)); clear BK285; clear BK292; clear HB; have BK285 := n0_; have BK292 := n1_; have HB := n2_; have HI293 := n3_; have GW293 := n4_; have GE293 := n5_; have NB285_293 := n6_; have NB293_285 := n7_; have NB292_293 := n8_; have NB293_292 := n9_; clear n0_ n1_ n2_ n3_ n4_ n5_ n6_ n7_ n8_ n9_; clear hb hbox hg))
 have n0_ := Aside0.mk (blk_drew BK285.out)
 have n1_ := Aside0.mk (blk_drew BK292.out)
 have n2_ := Aside0.mk (IsS74.drew HI293.out)
 have n3_ := Aside0.mk (below_drew1 HB.out)
 clear BK285
 clear BK292
 clear HI293
 clear HB
 have BK285 := n0_
 have BK292 := n1_
 have HI293 := n2_
 have HB := n3_
 clear n0_ n1_ n2_ n3_
 refine start_ (n := 10) (S := fun w' => w'.cell? ⟨gb292, 0, none⟩ = some (.int .i64 t286) ∧ w'.cell? ⟨gb292, 1, none⟩ = some (.int .i64 t287) ∧ w'.cell? ⟨gb292, 2, none⟩ = some (.int .i64 t288) ∧ w'.cell? ⟨gb292, 3, none⟩ = some (.int .i64 t289)) (ds := []) #[false, false, false, false, false, false, false, false, false, false] (by kernel_rfl) rfl rfl ⟨(blk_cell BK292.out 0).trans rfl, (blk_cell BK292.out 1).trans rfl, (blk_cell BK292.out 2).trans rfl, (blk_cell BK292.out 3).trans rfl⟩ (fun hHeld => ?_); refine with_tabW spec_DrawLostBytes.tab3 spec_DrawLostBytes.bits3 (fun HT_ HW_ => ?_)
 generalize w9.drew = w10 at BK285 BK292 HI293 HB hHeld ⊢
 refine pure_ (i := 1) (N := some 20) (v := ?_) (a' := ?_) #[false, true, false, false, false, false, false, false, false, false] rfl rfl (any_of HT_.out (by kernel_rfl)) (fun _ _ _ h => h) (Or.inl ⟨by rfl, ?_⟩) ?_ ?_
 rotate_left
 ·intro w'
  go_simp
  with_reducible rfl
 rotate_left
 ·simp only [Act.put, List.setIfInBounds_toArray, List.set_cons_zero, List.set_cons_succ, i64_w, i32_w, IntKind.wrap_u8]
  rfl
 refine pure_ (i := 2) (N := some 21) (v := ?_) (a' := ?_) #[false, true, true, false, false, false, false, false, false, false] rfl rfl (any_of HT_.out (by kernel_rfl)) (fun _ _ _ h => h) (Or.inl ⟨by rfl, ?_⟩) ?_ ?_
 rotate_left
 ·intro w'
  go_simp
  with_reducible rfl
 rotate_left
 ·simp only [Act.put, List.setIfInBounds_toArray, List.set_cons_zero, List.set_cons_succ, i64_w, i32_w, IntKind.wrap_u8]
  rfl
 refine pure_ (i := 3) (N := some 22) (v := ?_) (a' := ?_) #[false, true, true, true, false, false, false, false, false, false] rfl rfl (any_of HT_.out (by kernel_rfl)) (fun _ _ _ h => h) (Or.inl ⟨by rfl, ?_⟩) ?_ ?_
 rotate_left
 ·intro w'
  go_simp
  with_reducible rfl
 rotate_left
 ·simp only [Act.put, List.setIfInBounds_toArray, List.set_cons_zero, List.set_cons_succ, i64_w, i32_w, IntKind.wrap_u8]
  rfl
 refine take_ (i := 0) (N := some 19) (v := ?_) (a' := ?_) #[true, true, true, true, false, false, false, false, false, false] rfl rfl (take_ofW HT_.out HW_.out (by kernel_rfl)) (fun _ _ _ h => h) (Or.inl ⟨by rfl, ?_⟩) hHeld ?_ ?_
 rotate_left
 ·rintro w' ⟨s0, s1, s2, s3⟩
  go_simp
  with_reducible rfl
 rotate_left
 ·simp only [Act.put, List.setIfInBounds_toArray, List.set_cons_zero, List.set_cons_succ, i64_w, i32_w, IntKind.wrap_u8]
  rfl
 refine one_ (i := 4) (N := some 23) #[true, true, true, true, true, false, false, false, false, false] rfl rfl (one_of HT_.out (by kernel_rfl)) (by decide) (fun K hK => ?_)
 refine goes_ Try.func50 (by kernel_rfl) rfl #[.pointer (some ⟨gb293, 0, none⟩), .int .i64 120] (by rfl) rfl rfl (q_6) ?_
 with_reducible refine (spec_l1Cur_pick.calls gb293 l0 0 0 120 t294 t295 t296 w _ ?side1 ?side2 A3.out).mono ?_
 (case side1 => repeat (first | (with_reducible first | exact HI293.out | apply IsS74.alloc | apply IsS74.drewN | apply IsS74.drew | apply IsS74.set_1 | apply IsS74.set_2 | apply IsS74.far (hne := NB293_285.out) | apply IsS74.far (hne := NB293_292.out)) | exact HI293.out))
 (case side2 => repeat (first | (with_reducible first | exact HB.out | apply below_alloc | apply pw_below_drewN | apply below_drew1 | refine below_set ?_ (IsS74.ge HI293.out) | refine below_set ?_ GE285.out | refine below_set ?_ GE292.out) | exact HB.out))
 rintro e w11 ⟨rfl, hi, hb, hk⟩
 refine ⟨_, rfl, ?_⟩
 have n0_ := Aside0.mk (KeepBut.blk hk (g' := gb285) (o := .cells #[.int .i64 0, .int .i64 0, .int .i64 0, .int .i64 0] 37 (0, 0)) (q_114) NB285_293.out (by simp))
 have n1_ := Aside0.mk (KeepBut.blk hk (g' := gb292) (o := .cells #[.int .i64 t286, .int .i64 t287, .int .i64 t288, .int .i64 t289] 37 (0, 0)) (by (with_reducible repeat (first | refine blk_drewN ?_ _ | refine blk_drew ?_ | refine blk_alloc ?_ _)); exact BK292.out) NB292_293.out (by simp))
 have n2_ := Aside0.mk (hb)
 have n3_ := Aside0.mk (hi)
 clear BK285
 clear BK292
 clear HB
 clear HI293
 have BK285 := n0_
 have BK292 := n1_
 have HB := n2_
 have HI293 := n3_
 clear n0_ n1_ n2_ n3_
 (try clear hb); (try clear hb2); (try clear hk); (try clear hi)
 refine hK.out _ _ ⟨(blk_cell BK292.out 0).trans rfl, (blk_cell BK292.out 1).trans rfl, (blk_cell BK292.out 2).trans rfl, (blk_cell BK292.out 3).trans rfl⟩ (fun hHeld => ?_)
 clear hK K
 refine norm_ (a' := ?_) ?_ ?_
 rotate_left
 ·show Act.put _ (some 23) _ = _
  simp only [Act.put, List.setIfInBounds_toArray, List.set_cons_zero, List.set_cons_succ, i64_w, i32_w, IntKind.wrap_u8]
  rfl
 refine pure_ (i := 5) (N := some 24) (v := ?_) (a' := ?_) #[true, true, true, true, true, true, false, false, false, false] rfl rfl (any_of HT_.out (by kernel_rfl)) (fun _ _ _ h => h) (Or.inl ⟨by rfl, ?_⟩) ?_ ?_
 rotate_left
 ·intro w'
  go_simp
  with_reducible rfl
 rotate_left
 ·simp only [Act.put, List.setIfInBounds_toArray, List.set_cons_zero, List.set_cons_succ, i64_w, i32_w, IntKind.wrap_u8]
  rfl
 refine one_ (i := 6) (N := none) #[true, true, true, true, true, true, true, false, false, false] rfl rfl (one_of HT_.out (by kernel_rfl)) (by decide) (fun K hK => ?_)
 have hs12 : w11.cell? ⟨gb285, 0, none⟩ = some (.int .i64 0) := (blk_cell BK285.out 0).trans rfl
 have hfs12 := blk_frozen BK285.out 0
 have hns12_1 := NB292_285.out
 have hms12_1 := NB285_292.out
 have hs13 : w11.cell? ⟨gb285, 1, none⟩ = some (.int .i64 0) := (blk_cell BK285.out 1).trans rfl
 have hfs13 := blk_frozen BK285.out 1
 have hns13_1 := NB292_285.out
 have hms13_1 := NB285_292.out
 have hs14 : w11.cell? ⟨gb285, 2, none⟩ = some (.int .i64 0) := (blk_cell BK285.out 2).trans rfl
 have hfs14 := blk_frozen BK285.out 2
 have hns14_1 := NB292_285.out
 have hms14_1 := NB285_292.out
 have hs15 : w11.cell? ⟨gb285, 3, none⟩ = some (.int .i64 0) := (blk_cell BK285.out 3).trans rfl
 have hfs15 := blk_frozen BK285.out 3
 have hns15_1 := NB292_285.out
 have hms15_1 := NB285_292.out
 refine skip_ (w1 := ?_) (by rfl) rfl ?_ ?_
 rotate_left
 ·go_simp
  rfl
 refine hK.out _ _ ⟨((cell_far (p := ⟨gb285, _, none⟩) NB292_285.out _).trans (((cell_far (p := ⟨gb285, _, none⟩) NB292_285.out _).trans (((cell_far (p := ⟨gb285, _, none⟩) NB292_285.out _).trans (((cell_far (p := ⟨gb285, _, none⟩) NB292_285.out _).trans (hHeld.1)))))))), ((cell_far (p := ⟨gb285, _, none⟩) NB292_285.out _).trans (((cell_far (p := ⟨gb285, _, none⟩) NB292_285.out _).trans (((cell_far (p := ⟨gb285, _, none⟩) NB292_285.out _).trans (((cell_far (p := ⟨gb285, _, none⟩) NB292_285.out _).trans (hHeld.2.1)))))))), ((cell_far (p := ⟨gb285, _, none⟩) NB292_285.out _).trans (((cell_far (p := ⟨gb285, _, none⟩) NB292_285.out _).trans (((cell_far (p := ⟨gb285, _, none⟩) NB292_285.out _).trans (((cell_far (p := ⟨gb285, _, none⟩) NB292_285.out _).trans (hHeld.2.2.1)))))))), ((cell_far (p := ⟨gb285, _, none⟩) NB292_285.out _).trans (((cell_far (p := ⟨gb285, _, none⟩) NB292_285.out _).trans (((cell_far (p := ⟨gb285, _, none⟩) NB292_285.out _).trans (((cell_far (p := ⟨gb285, _, none⟩) NB292_285.out _).trans (hHeld.2.2.2))))))))⟩ (fun hHeld => ?_)
 clear hK K
 refine pure_ (i := 7) (N := some 3) (v := ?_) (a' := ?_) #[true, true, true, true, true, true, true, true, false, false] rfl rfl (any_of HT_.out (by kernel_rfl)) (fun _ _ _ h => h) (Or.inl ⟨by rfl, ?_⟩) ?_ ?_
 rotate_left
 ·intro w'
  go_simp
  with_reducible rfl
 rotate_left
 ·simp only [Act.put, List.setIfInBounds_toArray, List.set_cons_zero, List.set_cons_succ, i64_w, i32_w, IntKind.wrap_u8]
  rfl
 refine pure_ (i := 8) (N := some 4) (v := ?_) (a' := ?_) #[true, true, true, true, true, true, true, true, true, false] rfl rfl (any_of HT_.out (by kernel_rfl)) (fun _ _ _ h => h) (Or.inl ⟨by rfl, ?_⟩) ?_ ?_
 rotate_left
 ·intro w'
  go_simp
  with_reducible rfl
 rotate_left
 ·simp only [Act.put, List.setIfInBounds_toArray, List.set_cons_zero, List.set_cons_succ, i64_w, i32_w, IntKind.wrap_u8]
  rfl
 refine pure_ (i := 9) (N := some 5) (v := ?_) (a' := ?_) #[true, true, true, true, true, true, true, true, true, true] rfl rfl (any_of HT_.out (by kernel_rfl)) (fun _ _ _ h => h) (Or.inl ⟨by rfl, ?_⟩) ?_ ?_
 rotate_left
 ·intro w'
  go_simp
  with_reducible rfl
 rotate_left
 ·simp only [Act.put, List.setIfInBounds_toArray, List.set_cons_zero, List.set_cons_succ, i64_w, i32_w, IntKind.wrap_u8]
  rfl
 refine done_ (done_of HT_.out (by kernel_rfl)) ?_
 try go_wp2
 refine bodyPost_ret (results_list (rs := [.cell 2 37, .tmp 3, .tmp 4, .tmp 5]) rfl (by simp) (.cell gb285 37 #[.int .i64 t286, .int .i64 t287, .int .i64 t288, .int .i64 t289] (0, 0) _ rfl (by (with_reducible repeat (first | refine blk_drewN ?_ _ | refine blk_drew ?_ | refine blk_alloc ?_ _)); refine blk_put (cs := #[.int .i64 t286, .int .i64 t287, .int .i64 t288, .int .i64 0]) ?_ 3 _ rfl; (with_reducible repeat (first | refine blk_drewN ?_ _ | refine blk_drew ?_ | refine blk_alloc ?_ _)); refine blk_put (cs := #[.int .i64 t286, .int .i64 t287, .int .i64 0, .int .i64 0]) ?_ 2 _ rfl; (with_reducible repeat (first | refine blk_drewN ?_ _ | refine blk_drew ?_ | refine blk_alloc ?_ _)); refine blk_put (cs := #[.int .i64 t286, .int .i64 0, .int .i64 0, .int .i64 0]) ?_ 1 _ rfl; (with_reducible repeat (first | refine blk_drewN ?_ _ | refine blk_drew ?_ | refine blk_alloc ?_ _)); refine blk_put (cs := #[.int .i64 0, .int .i64 0, .int .i64 0, .int .i64 0]) ?_ 0 _ rfl; (with_reducible repeat (first | refine blk_drewN ?_ _ | refine blk_drew ?_ | refine blk_alloc ?_ _)); exact BK285.out) Try.underlying37 rfl (by kernel_rfl) (.tmp (.tmp (.tmp .nil))))) rfl ?_
 exact ⟨q_2, by repeat (first | (with_reducible first | exact HB.out | apply below_alloc | apply pw_below_drewN | apply below_drew1 | refine below_set ?_ (IsS74.ge HI293.out) | refine below_set ?_ GE285.out | refine below_set ?_ GE292.out) | exact HB.out)⟩

/-! ### impl_in: function 74 -/
def impl_in.f (a0 : Int) (a1 : Int) (a2 : Int) : Option (Bool) := if a0 ≥ a1 then (some (decide (a0 ≤ a2))) else (some false)
set_option maxHeartbeats 8000000 in
set_option maxRecDepth 100000 in
theorem impl_in.calls (a0 : Int) (a1 : Int) (a2 : Int) (r : Bool) (w : World) (h : impl_in.f a0 a1 a2 = some r) :
  Calls Try.prog 74 #[.int .i64 a0, .int .i64 a1, .int .i64 a2] w fun e w' => e = .returned (.bool r) ∧ Drawn0 w w' := by
 have H : (if a0 ≥ a1 then (some (decide (a0 ≤ a2))) else (some false)) = some r := h
 clear h
 by_cases c4 : a0 ≥ a1
 ·rw [if_pos c4] at H
  have c4b0 : decide (a1 ≤ a0) = true := decide_eq_true c4
  clear c4
  obtain rfl := Option.some.inj H
  go_enter Try.func74, Try.ntmps74
  go_wp2
  go_ret
  exact ⟨q_9, q_10⟩
 ·rw [if_neg c4] at H
  have c4b0 : decide (a1 ≤ a0) = false := decide_eq_false c4
  clear c4
  obtain rfl := Option.some.inj H
  go_enter Try.func74, Try.ntmps74
  go_wp2
  go_ret
  exact ⟨q_9, q_10⟩

/-! ### impl_GoodWindow: function 21 -/
def impl_GoodWindow.f (a0_0 : Int) (a0_1 : Int) (a0_2 : Int) (a0_3 : Int) : Option (Bool) := (impl_in.f a0_0 2400 100000000).bind fun t298 => (if t298 = true then ((impl_in.f a0_1 2400 100000000).bind fun t299 => (if t299 = true then ((impl_in.f a0_2 (-1) 1000000000).bind fun t300 => (if t300 = true then ((impl_in.f a0_3 0 100000000).bind fun t301 => (some t301)) else (some false))) else (some false))) else (some false))
set_option maxHeartbeats 8000000 in
set_option maxRecDepth 100000 in
theorem impl_GoodWindow.calls (a0_0 : Int) (a0_1 : Int) (a0_2 : Int) (a0_3 : Int) (r : Bool) (w : World) (h : impl_GoodWindow.f a0_0 a0_1 a0_2 a0_3 = some r) :
  Calls Try.prog 21 #[.agg #[.int .i64 a0_0, .int .i64 a0_1, .int .i64 a0_2, .int .i64 a0_3]] w fun e w' => e = .returned (.bool r) ∧ Below w.heap.size w w' := by
 have hu37 := Try.underlying37
 have HB := Aside0.mk (Below.refl w.heap.size w)
 have H : ((impl_in.f a0_0 2400 100000000).bind fun t298 => (if t298 = true then ((impl_in.f a0_1 2400 100000000).bind fun t299 => (if t299 = true then ((impl_in.f a0_2 (-1) 1000000000).bind fun t300 => (if t300 = true then ((impl_in.f a0_3 0 100000000).bind fun t301 => (some t301)) else (some false))) else (some false))) else (some false))) = some r := h
 clear h
 replace H := Option.bind_eq_some_iff.mp H
 obtain ⟨t298, A20, H⟩ := H
 replace H : (if t298 = true then ((impl_in.f a0_1 2400 100000000).bind fun t299 => (if t299 = true then ((impl_in.f a0_2 (-1) 1000000000).bind fun t300 => (if t300 = true then ((impl_in.f a0_3 0 100000000).bind fun t301 => (some t301)) else (some false))) else (some false))) else (some false)) = some r := H
 have A2 := Aside0.mk A20
 clear A20
 by_cases c3 : t298 = true
 ·subst c3
  have H1 : ((impl_in.f a0_1 2400 100000000).bind fun t299 => (if t299 = true then ((impl_in.f a0_2 (-1) 1000000000).bind fun t300 => (if t300 = true then ((impl_in.f a0_3 0 100000000).bind fun t301 => (some t301)) else (some false))) else (some false))) = some r := by rw [if_pos rfl] at H; exact H
  clear H
  have H := H1
  clear H1
  replace H := Option.bind_eq_some_iff.mp H
  obtain ⟨t299, A40, H⟩ := H
  replace H : (if t299 = true then ((impl_in.f a0_2 (-1) 1000000000).bind fun t300 => (if t300 = true then ((impl_in.f a0_3 0 100000000).bind fun t301 => (some t301)) else (some false))) else (some false)) = some r := H
  have A4 := Aside0.mk A40
  clear A40
  by_cases c5 : t299 = true
  ·subst c5
   have H1 : ((impl_in.f a0_2 (-1) 1000000000).bind fun t300 => (if t300 = true then ((impl_in.f a0_3 0 100000000).bind fun t301 => (some t301)) else (some false))) = some r := by rw [if_pos rfl] at H; exact H
   clear H
   have H := H1
   clear H1
   replace H := Option.bind_eq_some_iff.mp H
   obtain ⟨t300, A60, H⟩ := H
   replace H : (if t300 = true then ((impl_in.f a0_3 0 100000000).bind fun t301 => (some t301)) else (some false)) = some r := H
   have A6 := Aside0.mk A60
   clear A60
   by_cases c7 : t300 = true
   ·subst c7
    have H1 : ((impl_in.f a0_3 0 100000000).bind fun t301 => (some t301)) = some r := by rw [if_pos rfl] at H; exact H
    clear H
    have H := H1
    clear H1
    replace H := Option.bind_eq_some_iff.mp H
    obtain ⟨t301, A80, H⟩ := H
    replace H : (some t301) = some r := H
    have A8 := Aside0.mk A80
    clear A80
    obtain rfl := Option.some.inj H
    go_enter Try.func21, Try.ntmps21
    go_wp2_with (first | ((with_reducible refine gate_dst (N := 1) rfl ?_); refine box_event ?hg (N := 1) ?hd (cs := #[.int .i64 a0_0, .int .i64 a0_1, .int .i64 a0_2, .int .i64 a0_3]) (t := 37) ?hr ?_; (case hd => rfl); (case hg => rfl); (case hr => first | (go_simp; done) | (go_simp; rfl)); intro gb297 hg w9 hbox hb; have n0_ := Aside0.mk (below_step (q_7) hb); have n1_ := Aside0.mk (hbox); have n2_ := Aside0.mk ((q_8 : w.heap.size ≤ gb297)); have n3_ := Aside0.mk ((q_8 : w.heap.size ≤ gb297)); clear HB; have HB := n0_; have BK297 := n1_; have GW297 := n2_; have GE297 := n3_; clear n0_ n1_ n2_ n3_; clear hb hbox hg; have hcz10_0 : w9.cell? ⟨gb297, 0, none⟩ = some (.int .i64 a0_0) := (blk_cell BK297.out 0).trans rfl; have hcz10_1 : w9.cell? ⟨gb297, 1, none⟩ = some (.int .i64 a0_1) := (blk_cell BK297.out 1).trans rfl; have hcz10_2 : w9.cell? ⟨gb297, 2, none⟩ = some (.int .i64 a0_2) := (blk_cell BK297.out 2).trans rfl; have hcz10_3 : w9.cell? ⟨gb297, 3, none⟩ = some (.int .i64 a0_3) := (blk_cell BK297.out 3).trans rfl; have hfz10_0 := blk_frozen BK297.out 0; have hfz10_1 := blk_frozen BK297.out 1; have hfz10_2 := blk_frozen BK297.out 2; have hfz10_3 := blk_frozen BK297.out 3) | ((with_reducible refine gate_callee (f := 74) rfl ?_); refine goesL_ (some 5) rfl rfl Try.func74 (by kernel_rfl) rfl #[.int .i64 a0_0, .int .i64 2400, .int .i64 100000000] rfl (q_6) ?_; (with_reducible refine (impl_in.calls a0_0 2400 100000000 true _ A2.out).mono ?_); rintro e w' ⟨rfl, ⟨nd, rfl⟩⟩; refine ⟨_, rfl, ?_⟩) | (go_at_call 74; (with_reducible refine (impl_in.calls a0_1 2400 100000000 true _ A4.out).mono ?_); rintro e w' ⟨rfl, ⟨nd, rfl⟩⟩) | (go_at_call 74; (with_reducible refine (impl_in.calls a0_2 (-1) 1000000000 true _ A6.out).mono ?_); rintro e w' ⟨rfl, ⟨nd, rfl⟩⟩) | (go_at_call 74; (with_reducible refine (impl_in.calls a0_3 0 100000000 t301 _ A8.out).mono ?_); rintro e w' ⟨rfl, ⟨nd, rfl⟩⟩))
    go_ret
    exact ⟨q_2, q_121⟩
   ·replace c7 := Bool.eq_false_iff.mpr c7
    subst c7
    have H1 : (some false) = some r := by rw [if_neg (show ¬ (false = true) by decide)] at H; exact H
    clear H
    have H := H1
    clear H1
    obtain rfl := Option.some.inj H
    go_enter Try.func21, Try.ntmps21
    go_wp2_with (first | ((with_reducible refine gate_dst (N := 1) rfl ?_); refine box_event ?hg (N := 1) ?hd (cs := #[.int .i64 a0_0, .int .i64 a0_1, .int .i64 a0_2, .int .i64 a0_3]) (t := 37) ?hr ?_; (case hd => rfl); (case hg => rfl); (case hr => first | (go_simp; done) | (go_simp; rfl)); intro gb297 hg w11 hbox hb; have n0_ := Aside0.mk (below_step (q_7) hb); have n1_ := Aside0.mk (hbox); have n2_ := Aside0.mk ((q_8 : w.heap.size ≤ gb297)); have n3_ := Aside0.mk ((q_8 : w.heap.size ≤ gb297)); clear HB; have HB := n0_; have BK297 := n1_; have GW297 := n2_; have GE297 := n3_; clear n0_ n1_ n2_ n3_; clear hb hbox hg; have hcz12_0 : w11.cell? ⟨gb297, 0, none⟩ = some (.int .i64 a0_0) := (blk_cell BK297.out 0).trans rfl; have hcz12_1 : w11.cell? ⟨gb297, 1, none⟩ = some (.int .i64 a0_1) := (blk_cell BK297.out 1).trans rfl; have hcz12_2 : w11.cell? ⟨gb297, 2, none⟩ = some (.int .i64 a0_2) := (blk_cell BK297.out 2).trans rfl; have hcz12_3 : w11.cell? ⟨gb297, 3, none⟩ = some (.int .i64 a0_3) := (blk_cell BK297.out 3).trans rfl; have hfz12_0 := blk_frozen BK297.out 0; have hfz12_1 := blk_frozen BK297.out 1; have hfz12_2 := blk_frozen BK297.out 2; have hfz12_3 := blk_frozen BK297.out 3) | ((with_reducible refine gate_callee (f := 74) rfl ?_); refine goesL_ (some 5) rfl rfl Try.func74 (by kernel_rfl) rfl #[.int .i64 a0_0, .int .i64 2400, .int .i64 100000000] rfl (q_6) ?_; (with_reducible refine (impl_in.calls a0_0 2400 100000000 true _ A2.out).mono ?_); rintro e w' ⟨rfl, ⟨nd, rfl⟩⟩; refine ⟨_, rfl, ?_⟩) | (go_at_call 74; (with_reducible refine (impl_in.calls a0_1 2400 100000000 true _ A4.out).mono ?_); rintro e w' ⟨rfl, ⟨nd, rfl⟩⟩) | (go_at_call 74; (with_reducible refine (impl_in.calls a0_2 (-1) 1000000000 false _ A6.out).mono ?_); rintro e w' ⟨rfl, ⟨nd, rfl⟩⟩))
    go_ret
    exact ⟨q_2, q_121⟩
  ·replace c5 := Bool.eq_false_iff.mpr c5
   subst c5
   have H1 : (some false) = some r := by rw [if_neg (show ¬ (false = true) by decide)] at H; exact H
   clear H
   have H := H1
   clear H1
   obtain rfl := Option.some.inj H
   go_enter Try.func21, Try.ntmps21
   go_wp2_with (first | ((with_reducible refine gate_dst (N := 1) rfl ?_); refine box_event ?hg (N := 1) ?hd (cs := #[.int .i64 a0_0, .int .i64 a0_1, .int .i64 a0_2, .int .i64 a0_3]) (t := 37) ?hr ?_; (case hd => rfl); (case hg => rfl); (case hr => first | (go_simp; done) | (go_simp; rfl)); intro gb297 hg w13 hbox hb; have n0_ := Aside0.mk (below_step (q_7) hb); have n1_ := Aside0.mk (hbox); have n2_ := Aside0.mk ((q_8 : w.heap.size ≤ gb297)); have n3_ := Aside0.mk ((q_8 : w.heap.size ≤ gb297)); clear HB; have HB := n0_; have BK297 := n1_; have GW297 := n2_; have GE297 := n3_; clear n0_ n1_ n2_ n3_; clear hb hbox hg; have hcz14_0 : w13.cell? ⟨gb297, 0, none⟩ = some (.int .i64 a0_0) := (blk_cell BK297.out 0).trans rfl; have hcz14_1 : w13.cell? ⟨gb297, 1, none⟩ = some (.int .i64 a0_1) := (blk_cell BK297.out 1).trans rfl; have hcz14_2 : w13.cell? ⟨gb297, 2, none⟩ = some (.int .i64 a0_2) := (blk_cell BK297.out 2).trans rfl; have hcz14_3 : w13.cell? ⟨gb297, 3, none⟩ = some (.int .i64 a0_3) := (blk_cell BK297.out 3).trans rfl; have hfz14_0 := blk_frozen BK297.out 0; have hfz14_1 := blk_frozen BK297.out 1; have hfz14_2 := blk_frozen BK297.out 2; have hfz14_3 := blk_frozen BK297.out 3) | ((with_reducible refine gate_callee (f := 74) rfl ?_); refine goesL_ (some 5) rfl rfl Try.func74 (by kernel_rfl) rfl #[.int .i64 a0_0, .int .i64 2400, .int .i64 100000000] rfl (q_6) ?_; (with_reducible refine (impl_in.calls a0_0 2400 100000000 true _ A2.out).mono ?_); rintro e w' ⟨rfl, ⟨nd, rfl⟩⟩; refine ⟨_, rfl, ?_⟩) | (go_at_call 74; (with_reducible refine (impl_in.calls a0_1 2400 100000000 false _ A4.out).mono ?_); rintro e w' ⟨rfl, ⟨nd, rfl⟩⟩))
   go_ret
   exact ⟨q_2, q_121⟩
 ·replace c3 := Bool.eq_false_iff.mpr c3
  subst c3
  have H1 : (some false) = some r := by rw [if_neg (show ¬ (false = true) by decide)] at H; exact H
  clear H
  have H := H1
  clear H1
  obtain rfl := Option.some.inj H
  go_enter Try.func21, Try.ntmps21
  go_wp2_with (first | ((with_reducible refine gate_dst (N := 1) rfl ?_); refine box_event ?hg (N := 1) ?hd (cs := #[.int .i64 a0_0, .int .i64 a0_1, .int .i64 a0_2, .int .i64 a0_3]) (t := 37) ?hr ?_; (case hd => rfl); (case hg => rfl); (case hr => first | (go_simp; done) | (go_simp; rfl)); intro gb297 hg w15 hbox hb; have n0_ := Aside0.mk (below_step (q_7) hb); have n1_ := Aside0.mk (hbox); have n2_ := Aside0.mk ((q_8 : w.heap.size ≤ gb297)); have n3_ := Aside0.mk ((q_8 : w.heap.size ≤ gb297)); clear HB; have HB := n0_; have BK297 := n1_; have GW297 := n2_; have GE297 := n3_; clear n0_ n1_ n2_ n3_; clear hb hbox hg; have hcz16_0 : w15.cell? ⟨gb297, 0, none⟩ = some (.int .i64 a0_0) := (blk_cell BK297.out 0).trans rfl; have hcz16_1 : w15.cell? ⟨gb297, 1, none⟩ = some (.int .i64 a0_1) := (blk_cell BK297.out 1).trans rfl; have hcz16_2 : w15.cell? ⟨gb297, 2, none⟩ = some (.int .i64 a0_2) := (blk_cell BK297.out 2).trans rfl; have hcz16_3 : w15.cell? ⟨gb297, 3, none⟩ = some (.int .i64 a0_3) := (blk_cell BK297.out 3).trans rfl; have hfz16_0 := blk_frozen BK297.out 0; have hfz16_1 := blk_frozen BK297.out 1; have hfz16_2 := blk_frozen BK297.out 2; have hfz16_3 := blk_frozen BK297.out 3) | ((with_reducible refine gate_callee (f := 74) rfl ?_); refine goesL_ (some 5) rfl rfl Try.func74 (by kernel_rfl) rfl #[.int .i64 a0_0, .int .i64 2400, .int .i64 100000000] rfl (q_6) ?_; (with_reducible refine (impl_in.calls a0_0 2400 100000000 false _ A2.out).mono ?_); rintro e w' ⟨rfl, ⟨nd, rfl⟩⟩; refine ⟨_, rfl, ?_⟩))
  go_ret
  exact ⟨q_2, q_121⟩

/-! ### impl_sizeOk: function 69 -/
def impl_sizeOk.f (a0 : Int) : Option (Bool) := (impl_in.f a0 0 1500).bind fun t302 => (some t302)
set_option maxHeartbeats 8000000 in
set_option maxRecDepth 100000 in
theorem impl_sizeOk.calls (a0 : Int) (r : Bool) (w : World) (h : impl_sizeOk.f a0 = some r) :
  Calls Try.prog 69 #[.int .i64 a0] w fun e w' => e = .returned (.bool r) ∧ Drawn0 w w' := by
 have H : ((impl_in.f a0 0 1500).bind fun t302 => (some t302)) = some r := h
 clear h
 replace H := Option.bind_eq_some_iff.mp H
 obtain ⟨t302, A20, H⟩ := H
 replace H : (some t302) = some r := H
 have A2 := Aside0.mk A20
 clear A20
 obtain rfl := Option.some.inj H
 go_enter Try.func69, Try.ntmps69
 go_wp2_with (first | ((with_reducible refine gate_callee (f := 74) rfl ?_); refine goesL_ (some 4) rfl rfl Try.func74 (by kernel_rfl) rfl #[.int .i64 a0, .int .i64 0, .int .i64 1500] rfl (q_6) ?_; (with_reducible refine (impl_in.calls a0 0 1500 t302 _ A2.out).mono ?_); rintro e w' ⟨rfl, ⟨nd, rfl⟩⟩; refine ⟨_, rfl, ?_⟩))
 go_ret
 exact ⟨q_9, q_10⟩

/-! ### impl_isTick: function 70 -/
def impl_isTick.f (a0 : Int) : Option (Bool) := (impl_in.f a0 0 1000000000).bind fun t303 => (some t303)
set_option maxHeartbeats 8000000 in
set_option maxRecDepth 100000 in
theorem impl_isTick.calls (a0 : Int) (r : Bool) (w : World) (h : impl_isTick.f a0 = some r) :
  Calls Try.prog 70 #[.int .i64 a0] w fun e w' => e = .returned (.bool r) ∧ Drawn0 w w' := by
 have H : ((impl_in.f a0 0 1000000000).bind fun t303 => (some t303)) = some r := h
 clear h
 replace H := Option.bind_eq_some_iff.mp H
 obtain ⟨t303, A20, H⟩ := H
 replace H : (some t303) = some r := H
 have A2 := Aside0.mk A20
 clear A20
 obtain rfl := Option.some.inj H
 go_enter Try.func70, Try.ntmps70
 go_wp2_with (first | ((with_reducible refine gate_callee (f := 74) rfl ?_); refine goesL_ (some 4) rfl rfl Try.func74 (by kernel_rfl) rfl #[.int .i64 a0, .int .i64 0, .int .i64 1000000000] rfl (q_6) ?_; (with_reducible refine (impl_in.calls a0 0 1000000000 t303 _ A2.out).mono ?_); rintro e w' ⟨rfl, ⟨nd, rfl⟩⟩; refine ⟨_, rfl, ?_⟩))
 go_ret
 exact ⟨q_9, q_10⟩

end Go.Proofs.Ytcngjidojibleaa.PFnWindow
