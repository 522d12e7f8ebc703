-- Written by a program of this session out of the translation; Lean checks it.
import Derived.Test.YtcngjidojibleaaPFnAimdx0
import Derived.Test.YtcngjidojibleaaPFnAimdx2
import Derived.Test.YtcngjidojibleaaPFnAimdx4
namespace Go.Proofs.Ytcngjidojibleaa.PFnAimd
open Go.RowKit Go.Proofs.YtcngjidojibleaaW.PrintWords Go.Proofs.YtcngjidojibleaaW.PrintLast Go.Proofs.YtcngjidojibleaaW.PrintMore
attribute [local go_sem] max2_int min2_int max_two min_two max_three min_three max_four min_four   -- for this text's walks alone
set_option linter.unusedVariables false
set_option linter.unusedSimpArgs false

/-! ### spec_l1Cur_window: function 75 -/
def spec_l1Cur_window.j0 : Nat → List Int → Int → Int → Int → Int → Int → Int → Option (Int × Int × Int × Int × Int × Int)
 | 0, _, _, _, _, _, _, _ => none
 | k + 1, x1000, x1001, x1002, x256000, x256001, x256002, x256003 => (spec_l1Cur_pick.f x1000 x1001 x1002 40).bind fun bt261 => (if bt261.1 = 0 then ((spec_l1Cur_among.f x1000 bt261.2.1 bt261.2.2 (([2399, 2400, 100000000, 100000001] : List Int))).bind fun bt267 => (some (bt267.1, x256001, x256002, x256003, bt267.2.1, bt267.2.2))) else (if bt261.1 = 1 then ((spec_l1Cur_among.f x1000 bt261.2.1 bt261.2.2 (([(-1), 0, 100000000] : List Int))).bind fun bt273 => (some (x256000, x256001, x256002, bt273.1, bt273.2.1, bt273.2.2))) else (if bt261.1 = 2 then (some (x256000, 2400, x256002, x256003, bt261.2.1, bt261.2.2)) else (some (x256000, x256001, x256002, x256003, bt261.2.1, bt261.2.2)))))
def spec_l1Cur_window.f (k : Nat) (s0_0 : List Int) (s0_1 : Int) (s0_2 : Int) : Option (Int × Int × Int × Int × Int × Int) := (spec_l1Cur_grows.f k s0_0 s0_1 s0_2).bind fun bt242 => ((spec_PlayWindow.f k bt242.1).bind fun bt247 => ((spec_GoodWindow.f bt247.1 bt247.2.1 bt247.2.2.1 bt247.2.2.2.1).bind fun t256 => (if t256 = true then (spec_l1Cur_window.j0 k s0_0 bt242.2.1 bt242.2.2 bt247.1 bt247.2.1 bt247.2.2.1 bt247.2.2.2.1) else ((spec_NewWindow.f).bind fun bt257 => (spec_l1Cur_window.j0 k s0_0 bt242.2.1 bt242.2.2 bt257.1 bt257.2.1 bt257.2.2.1 bt257.2.2.2)))))
theorem spec_l1Cur_window.mono_l : ∀ k, (∀ y0 y1 y2 y3 y4 y5 y6, LeO (spec_l1Cur_window.j0 k y0 y1 y2 y3 y4 y5 y6) (spec_l1Cur_window.j0 (k + 1) y0 y1 y2 y3 y4 y5 y6))
 | 0 => fun _ _ _ _ _ _ _ r h => by simp [spec_l1Cur_window.j0] at h
 | k + 1 => by
  have ih0 := spec_l1Cur_window.mono_l k
  ·intro y0 y1 y2 y3 y4 y5 y6
   unfold spec_l1Cur_window.j0
   repeat' first
   | (with_reducible exact ih0 _ _ _ _ _ _ _)
   | (with_reducible exact spec_PlayWindow.mono _ _)
   | (with_reducible exact spec_l1Cur_grows.mono _ _ _ _)
   | (with_reducible exact LeO.refl _)
   | (with_reducible exact LeO.none _)
   | (with_reducible refine LeO.ite ?_ ?_)
   | (with_reducible refine LeO.bind ?_ (fun _ => ?_))
   | exact ih0 _ _ _ _ _ _ _
   | exact spec_PlayWindow.mono _ _
   | exact spec_l1Cur_grows.mono _ _ _ _
   | exact LeO.none _
   | refine LeO.ite ?_ ?_
   | refine LeO.bind ?_ (fun _ => ?_)
theorem spec_l1Cur_window.mono : ∀ a0 a1 a2 k, LeO (spec_l1Cur_window.f k a0 a1 a2) (spec_l1Cur_window.f (k + 1) a0 a1 a2) := by
 intro a0 a1 a2 k
 have ih0 := spec_l1Cur_window.mono_l k
 unfold spec_l1Cur_window.f
 repeat' first
   | (with_reducible exact ih0 _ _ _ _ _ _ _)
   | (with_reducible exact spec_PlayWindow.mono _ _)
   | (with_reducible exact spec_l1Cur_grows.mono _ _ _ _)
   | (with_reducible exact LeO.refl _)
   | (with_reducible exact LeO.none _)
   | (with_reducible refine LeO.ite ?_ ?_)
   | (with_reducible refine LeO.bind ?_ (fun _ => ?_))
   | exact ih0 _ _ _ _ _ _ _
   | exact spec_PlayWindow.mono _ _
   | exact spec_l1Cur_grows.mono _ _ _ _
   | exact LeO.none _
   | refine LeO.ite ?_ ?_
   | refine LeO.bind ?_ (fun _ => ?_)
set_option maxHeartbeats 8000000 in
set_option maxRecDepth 100000 in
theorem spec_l1Cur_window.calls (k : Nat) (g : Nat) (s0_0 : List Int) (s0_1 : Int) (s0_2 : Int) (r1 : Int) (r2 : Int) (r3 : Int) (r4 : Int) (r5 : Int) (r6 : Int) (w0 w : World) (hI : IsS74 w0 w g s0_0 s0_1 s0_2) (hB : Below w0.heap.size w0 w) (h : spec_l1Cur_window.f k s0_0 s0_1 s0_2 = some (r1, r2, r3, r4, r5, r6)) :
  Calls Try.prog 75 #[.pointer (some ⟨g, 0, none⟩)] w fun e w' => e = .returned (.agg #[.int .i64 r1, .int .i64 r2, .int .i64 r3, .int .i64 r4]) ∧ IsS74 w0 w' g s0_0 r5 r6 ∧ Below w0.heap.size w0 w' ∧ KeepBut w w' g none := by
 have hu37 := Try.underlying37
 have HI0 := Aside0.mk hI
 have HK := Aside0.mk (KeepBut.refl w g none)
 have HL := Aside0.mk hB.size
 clear hI
 have HW0 := Aside0.mk hB.size
 have HB := Aside0.mk hB
 clear hB
 have H : ((spec_l1Cur_grows.f k s0_0 s0_1 s0_2).bind fun bt242 => ((spec_PlayWindow.f k bt242.1).bind fun bt247 => ((spec_GoodWindow.f bt247.1 bt247.2.1 bt247.2.2.1 bt247.2.2.2.1).bind fun t256 => (if t256 = true then (spec_l1Cur_window.j0 k s0_0 bt242.2.1 bt242.2.2 bt247.1 bt247.2.1 bt247.2.2.1 bt247.2.2.2.1) else ((spec_NewWindow.f).bind fun bt257 => (spec_l1Cur_window.j0 k s0_0 bt242.2.1 bt242.2.2 bt257.1 bt257.2.1 bt257.2.2.1 bt257.2.2.2)))))) = some (r1, r2, r3, r4, r5, r6) := h
 clear h
 replace H := Option.bind_eq_some_iff.mp H
 obtain ⟨⟨t242, t245, t246⟩, A20, H⟩ := H
 replace H : ((spec_PlayWindow.f k t242).bind fun bt247 => ((spec_GoodWindow.f bt247.1 bt247.2.1 bt247.2.2.1 bt247.2.2.2.1).bind fun t256 => (if t256 = true then (spec_l1Cur_window.j0 k s0_0 t245 t246 bt247.1 bt247.2.1 bt247.2.2.1 bt247.2.2.2.1) else ((spec_NewWindow.f).bind fun bt257 => (spec_l1Cur_window.j0 k s0_0 t245 t246 bt257.1 bt257.2.1 bt257.2.2.1 bt257.2.2.2))))) = some (r1, r2, r3, r4, r5, r6) := H
 have A2 := Aside0.mk A20
 clear A20
 replace H := Option.bind_eq_some_iff.mp H
 obtain ⟨⟨t247, t248, t249, t250, t251, t254⟩, A30, H⟩ := H
 replace H : ((spec_GoodWindow.f t247 t248 t249 t250).bind fun t256 => (if t256 = true then (spec_l1Cur_window.j0 k s0_0 t245 t246 t247 t248 t249 t250) else ((spec_NewWindow.f).bind fun bt257 => (spec_l1Cur_window.j0 k s0_0 t245 t246 bt257.1 bt257.2.1 bt257.2.2.1 bt257.2.2.2)))) = some (r1, r2, r3, r4, r5, r6) := H
 have A3 := Aside0.mk A30
 clear A30
 replace H := Option.bind_eq_some_iff.mp H
 obtain ⟨t256, A40, H⟩ := H
 replace H : (if t256 = true then (spec_l1Cur_window.j0 k s0_0 t245 t246 t247 t248 t249 t250) else ((spec_NewWindow.f).bind fun bt257 => (spec_l1Cur_window.j0 k s0_0 t245 t246 bt257.1 bt257.2.1 bt257.2.2.1 bt257.2.2.2))) = some (r1, r2, r3, r4, r5, r6) := H
 have A4 := Aside0.mk A40
 clear A40
 have HC5 := Aside0.mk H
 clear H
 go_enter Try.func75, Try.ntmps75
 go_upto_if 15 with (first | ((with_reducible refine gate_dst (N := 2) rfl ?_); refine box_event ?hg (N := 2) ?hd (cs := #[.int .i64 0, .int .i64 0, .int .i64 0, .int .i64 0]) (t := 37) ?hr ?_; (case hd => rfl); (case hg => rfl); (case hr => first | (go_simp; done) | (go_simp; rfl)); intro gb241 hg w6 hbox hb; have n0_ := Aside0.mk (IsS74.below (q_9) hb); have n1_ := Aside0.mk (KeepBut.trans (q_11) (KeepBut.of_below hb g none) (.inl rfl)); have n2_ := Aside0.mk (below_step (q_10) hb); have n3_ := Aside0.mk (hbox); have n4_ := Aside0.mk ((q_80 : w.heap.size ≤ gb241)); have n5_ := Aside0.mk ((Nat.le_trans HW0.out (q_80 : w.heap.size ≤ gb241) : w0.heap.size ≤ gb241)); have n6_ := Aside0.mk ((by rw [hg]; exact Nat.ne_of_lt (IsS74.lt (show IsS74 w0 _ g s0_0 s0_1 s0_2 from by repeat (first | (with_reducible first | exact HI0.out | apply IsS74.alloc | apply IsS74.drewN | apply IsS74.drew | apply IsS74.set_1 | apply IsS74.set_2) | exact HI0.out))) : g ≠ gb241)); have n7_ := Aside0.mk ((by rw [hg]; exact Nat.ne_of_gt (IsS74.lt (show IsS74 w0 _ g s0_0 s0_1 s0_2 from by repeat (first | (with_reducible first | exact HI0.out | apply IsS74.alloc | apply IsS74.drewN | apply IsS74.drew | apply IsS74.set_1 | apply IsS74.set_2) | exact HI0.out))) : gb241 ≠ g)); clear HI0; clear HK; clear HB; have HI0 := n0_; have HK := n1_; have HB := n2_; have BK241 := n3_; have GW241 := n4_; have GE241 := n5_; have NB0_241 := n6_; have NB241_0 := n7_; clear n0_ n1_ n2_ n3_ n4_ n5_ n6_ n7_; clear hb hbox hg) | ((with_reducible refine gate_callee (f := 76) rfl ?_); refine goesL_ (some 8) rfl rfl Try.func76 (by kernel_rfl) rfl #[.pointer (some ⟨g, 0, none⟩)] rfl (q_5) ?_; (with_reducible refine (spec_l1Cur_grows.calls k g s0_0 s0_1 s0_2 t242 t245 t246 w0 _ ?side1 ?side2 A2.out).mono ?_); (case side1 => repeat (first | (with_reducible first | exact HI0.out | apply IsS74.alloc | apply IsS74.drewN | apply IsS74.drew | apply IsS74.set_1 | apply IsS74.set_2 | apply IsS74.far (hne := NB0_241.out)) | exact HI0.out)); (case side2 => repeat (first | (with_reducible first | exact HB.out | apply below_alloc | apply pw_below_drewN | apply below_drew1 | refine below_set ?_ (IsS74.ge HI0.out) | refine below_set ?_ GE241.out) | exact HB.out)); rintro e w7 ⟨v243, rfl, ho0, hi, hb, hk⟩; refine ⟨_, rfl, ?_⟩; have n0_ := Aside0.mk (KeepBut.blk hk (g' := gb241) (o := .cells #[.int .i64 0, .int .i64 0, .int .i64 0, .int .i64 0] 37 (0, 0)) (q_100) NB241_0.out (by simp)); have n1_ := Aside0.mk (Kd.R_lower ho0 (keep_size (w := w) (g := g) (row := none) (q_101))); have n2_ := Aside0.mk (KeepBut.trans (q_101) hk (.inl rfl)); have n3_ := Aside0.mk (hb); have n4_ := Aside0.mk (hi); clear BK241; clear HK; clear HB; clear HI0; have BK241 := n0_; have HO244 := n1_; have HK := n2_; have HB := n3_; have HI0 := n4_; clear n0_ n1_ n2_ n3_ n4_; (try clear hb); (try clear hb2); (try clear hk); (try clear hi); (try clear ho0); obtain ⟨Ao8, co8, eo8⟩ := Kd.R_slice HO244.out; subst eo8) | ((with_reducible refine gate_callee (f := 32) rfl ?_); refine goesL_ (some 9) rfl rfl Try.func32 (by kernel_rfl) rfl #[.slice Ao8 t242.length co8] rfl (q_5) ?_; (with_reducible refine (spec_PlayWindow.calls k _ _ t242 t247 t248 t249 t250 t251 t254 _ ?side1 ?side2 A3.out).mono ?_); (case side1 => repeat (first | exact (Kd.R_reads' HO244.out).2.2 | (with_reducible refine Kd.C_alloc ?_ _) | (with_reducible refine Kd.C_drewN ?_ _) | (with_reducible refine Kd.C_drew ?_))); (case side2 => exact (Kd.R_reads' HO244.out).2.1); rintro e w9 ⟨v252, rfl, ho0, hb⟩; refine ⟨_, rfl, ?_⟩; have n0_ := Aside0.mk (Kd.R_below (q_102) hb); have n1_ := Aside0.mk (Kd.R_lower ho0 (keep_size (w := w) (g := g) (row := none) (q_101))); have n2_ := Aside0.mk (IsS74.below (q_103) hb); have n3_ := Aside0.mk (blk_below (g := gb241) (o := .cells #[.int .i64 0, .int .i64 0, .int .i64 0, .int .i64 0] 37 (0, 0)) (q_100) hb); have n4_ := Aside0.mk (KeepBut.trans (q_101) (KeepBut.of_below hb g none) (.inl rfl)); have n5_ := Aside0.mk (below_step (q_104) hb); clear HO244; clear HI0; clear BK241; clear HK; clear HB; have HO244 := n0_; have HO253 := n1_; have HI0 := n2_; have BK241 := n3_; have HK := n4_; have HB := n5_; clear n0_ n1_ n2_ n3_ n4_ n5_; (try clear hb); (try clear hb2); (try clear hk); (try clear hi); (try clear ho0)) | ((with_reducible refine gate_dst (N := 3) rfl ?_); refine box_event ?hg (N := 3) ?hd (cs := #[.int .i64 0, .int .i64 0, .int .i64 0, .int .i64 0]) (t := 37) ?hr ?_; (case hd => rfl); (case hg => rfl); (case hr => first | (go_simp; done) | (go_simp; rfl)); intro gb255 hg w10 hbox hb; have n0_ := Aside0.mk (Kd.R_below (q_102) hb); have n1_ := Aside0.mk (Kd.R_below (q_105) hb); have n2_ := Aside0.mk (IsS74.below (q_103) hb); have n3_ := Aside0.mk (blk_below (g := gb241) (o := .cells #[.int .i64 0, .int .i64 0, .int .i64 0, .int .i64 0] 37 (0, 0)) (q_100) hb); have n4_ := Aside0.mk (KeepBut.trans (q_101) (KeepBut.of_below hb g none) (.inl rfl)); have n5_ := Aside0.mk (below_step (q_104) hb); have n6_ := Aside0.mk (hbox); have n7_ := Aside0.mk ((q_106 : w.heap.size ≤ gb255)); have n8_ := Aside0.mk ((Nat.le_trans HW0.out (q_106 : w.heap.size ≤ gb255) : w0.heap.size ≤ gb255)); have n9_ := Aside0.mk ((by rw [hg]; exact Nat.ne_of_lt (blk_lt (g := gb241) (o := .cells #[.int .i64 0, .int .i64 0, .int .i64 0, .int .i64 0] 37 (0, 0)) (q_100)) : gb241 ≠ gb255)); have n10_ := Aside0.mk ((by rw [hg]; exact Nat.ne_of_gt (blk_lt (g := gb241) (o := .cells #[.int .i64 0, .int .i64 0, .int .i64 0, .int .i64 0] 37 (0, 0)) (q_100)) : gb255 ≠ gb241)); have n11_ := Aside0.mk ((by rw [hg]; exact Nat.ne_of_lt (IsS74.lt (show IsS74 w0 _ g s0_0 t245 t246 from by repeat (first | (with_reducible first | exact HI0.out | apply IsS74.alloc | apply IsS74.drewN | apply IsS74.drew | apply IsS74.set_1 | apply IsS74.set_2 | apply IsS74.far (hne := NB0_241.out)) | exact HI0.out))) : g ≠ gb255)); have n12_ := Aside0.mk ((by rw [hg]; exact Nat.ne_of_gt (IsS74.lt (show IsS74 w0 _ g s0_0 t245 t246 from by repeat (first | (with_reducible first | exact HI0.out | apply IsS74.alloc | apply IsS74.drewN | apply IsS74.drew | apply IsS74.set_1 | apply IsS74.set_2 | apply IsS74.far (hne := NB0_241.out)) | exact HI0.out))) : gb255 ≠ g)); clear HO244; clear HO253; clear HI0; clear BK241; clear HK; clear HB; have HO244 := n0_; have HO253 := n1_; have HI0 := n2_; have BK241 := n3_; have HK := n4_; have HB := n5_; have BK255 := n6_; have GW255 := n7_; have GE255 := n8_; have NB241_255 := n9_; have NB255_241 := n10_; have NB0_255 := n11_; have NB255_0 := n12_; clear n0_ n1_ n2_ n3_ n4_ n5_ n6_ n7_ n8_ n9_ n10_ n11_ n12_; clear hb hbox hg; have hnb11 := NB255_241.out; have hnc11 := NB241_255.out; have hnb12 := NB255_0.out; have hnc12 := NB0_255.out; have hcz13_0 : w10.cell? ⟨gb255, 0, none⟩ = some (.int .i64 0) := (blk_cell BK255.out 0).trans rfl; have hcz13_1 : w10.cell? ⟨gb255, 1, none⟩ = some (.int .i64 0) := (blk_cell BK255.out 1).trans rfl; have hcz13_2 : w10.cell? ⟨gb255, 2, none⟩ = some (.int .i64 0) := (blk_cell BK255.out 2).trans rfl; have hcz13_3 : w10.cell? ⟨gb255, 3, none⟩ = some (.int .i64 0) := (blk_cell BK255.out 3).trans rfl; have hfz13_0 := blk_frozen BK255.out 0; have hfz13_1 := blk_frozen BK255.out 1; have hfz13_2 := blk_frozen BK255.out 2; have hfz13_3 := blk_frozen BK255.out 3) | ((with_reducible refine gate_callee (f := 71) rfl ?_); refine goesL_ (some 14) rfl rfl Try.func71 (by kernel_rfl) rfl #[.agg #[.int .i64 t247, .int .i64 t248, .int .i64 t249, .int .i64 t250]] rfl (q_5) ?_; (with_reducible refine (spec_GoodWindow.calls t247 t248 t249 t250 t256 _ A4.out).mono ?_); rintro e w14 ⟨rfl, hb⟩; refine ⟨_, rfl, ?_⟩; have n0_ := Aside0.mk (Kd.R_below (by (with_reducible repeat (first | apply Kd.R_alloc | apply Kd.R_drewN | apply Kd.R_drew)); exact (Kd.R_mono (Kd.R_far (p := ⟨gb255, 3, none⟩) (Kd.R_far (p := ⟨gb255, 2, none⟩) (Kd.R_far (p := ⟨gb255, 1, none⟩) (Kd.R_far (p := ⟨gb255, 0, none⟩) (Kd.R_types HO244.out BK255.out (by decide)) (fun _ hk => hk.2) (.int .i64 t247)) (fun _ hk => hk.2) (.int .i64 t248)) (fun _ hk => hk.2) (.int .i64 t249)) (fun _ hk => hk.2) (.int .i64 t250)) (fun _ h_ => h_.1))) hb); have n1_ := Aside0.mk (Kd.R_below (by (with_reducible repeat (first | apply Kd.R_alloc | apply Kd.R_drewN | apply Kd.R_drew)); exact (Kd.R_mono (Kd.R_far (p := ⟨gb255, 3, none⟩) (Kd.R_far (p := ⟨gb255, 2, none⟩) (Kd.R_far (p := ⟨gb255, 1, none⟩) (Kd.R_far (p := ⟨gb255, 0, none⟩) (Kd.R_types HO253.out BK255.out (by decide)) (fun _ hk => hk.2) (.int .i64 t247)) (fun _ hk => hk.2) (.int .i64 t248)) (fun _ hk => hk.2) (.int .i64 t249)) (fun _ hk => hk.2) (.int .i64 t250)) (fun _ h_ => h_.1))) hb); have n2_ := Aside0.mk (IsS74.below (show IsS74 w0 ((((w10.setCell ⟨gb255, 0, none⟩ (.int .i64 t247)).setCell ⟨gb255, 1, none⟩ (.int .i64 t248)).setCell ⟨gb255, 2, none⟩ (.int .i64 t249)).setCell ⟨gb255, 3, none⟩ (.int .i64 t250)) g s0_0 t245 t246 from by repeat (first | (with_reducible first | exact HI0.out | apply IsS74.alloc | apply IsS74.drewN | apply IsS74.drew | apply IsS74.set_1 | apply IsS74.set_2 | apply IsS74.far (hne := NB0_241.out) | apply IsS74.far (hne := NB0_255.out)) | exact HI0.out)) hb); have n3_ := Aside0.mk (blk_below (g := gb241) (o := .cells #[.int .i64 0, .int .i64 0, .int .i64 0, .int .i64 0] 37 (0, 0)) (q_107) hb); have n4_ := Aside0.mk (blk_below (g := gb255) (o := .cells #[.int .i64 t247, .int .i64 t248, .int .i64 t249, .int .i64 t250] 37 (0, 0)) (by (with_reducible repeat (first | refine blk_drewN ?_ _ | refine blk_drew ?_ | refine blk_alloc ?_ _)); refine blk_put (cs := #[.int .i64 t247, .int .i64 t248, .int .i64 t249, .int .i64 0]) ?_ 3 _ rfl; (with_reducible repeat (first | refine blk_drewN ?_ _ | refine blk_drew ?_ | refine blk_alloc ?_ _)); refine blk_put (cs := #[.int .i64 t247, .int .i64 t248, .int .i64 0, .int .i64 0]) ?_ 2 _ rfl; (with_reducible repeat (first | refine blk_drewN ?_ _ | refine blk_drew ?_ | refine blk_alloc ?_ _)); refine blk_put (cs := #[.int .i64 t247, .int .i64 0, .int .i64 0, .int .i64 0]) ?_ 1 _ rfl; (with_reducible repeat (first | refine blk_drewN ?_ _ | refine blk_drew ?_ | refine blk_alloc ?_ _)); refine blk_put (cs := #[.int .i64 0, .int .i64 0, .int .i64 0, .int .i64 0]) ?_ 0 _ rfl; (with_reducible repeat (first | refine blk_drewN ?_ _ | refine blk_drew ?_ | refine blk_alloc ?_ _)); exact BK255.out) hb); have n5_ := Aside0.mk (KeepBut.trans (q_108) (KeepBut.of_below hb g none) (.inl rfl)); have n6_ := Aside0.mk (below_step (q_109) hb); clear HO244; clear HO253; clear HI0; clear BK241; clear BK255; clear HK; clear HB; have HO244 := n0_; have HO253 := n1_; have HI0 := n2_; have BK241 := n3_; have BK255 := n4_; have HK := n5_; have HB := n6_; clear n0_ n1_ n2_ n3_ n4_ n5_ n6_; (try clear hb); (try clear hb2); (try clear hk); (try clear hi)))
 (try simp only [Act.put, List.setIfInBounds_toArray, List.set_cons_zero, List.set_cons_succ])
 go_cut [] (fun wc => ∃ (kq : Nat) (x256000_4 : Int) (x256001_4 : Int) (x256002_4 : Int) (x256003_4 : Int), Aside0 (spec_l1Cur_window.j0 kq s0_0 t245 t246 x256000_4 x256001_4 x256002_4 x256003_4 = some (r1, r2, r3, r4, r5, r6)) ∧ Aside0 (kq ≤ k) ∧ Aside0 (wc.heap[gb241]? = some (.cells #[.int .i64 0, .int .i64 0, .int .i64 0, .int .i64 0] 37 (0, 0))) ∧ Aside0 (wc.heap[gb255]? = some (.cells #[.int .i64 x256000_4, .int .i64 x256001_4, .int .i64 x256002_4, .int .i64 x256003_4] 37 (0, 0))) ∧ Aside0 (IsS74 w0 wc g s0_0 t245 t246) ∧ Aside0 (KeepBut w wc g none) ∧ Aside0 (Below w0.heap.size w0 wc))
 case first =>
  have H := HC5.out
  clear HC5
  by_cases c15 : t256 = true
  ·subst c15
   have H1 : (spec_l1Cur_window.j0 k s0_0 t245 t246 t247 t248 t249 t250) = some (r1, r2, r3, r4, r5, r6) := by rw [if_pos rfl] at H; exact H
   clear H
   have H := H1
   clear H1
   have H' := Aside0.mk H
   clear H
   go_wp2
   go_meet
   case rel => exact ⟨_, (t247), (t248), (t249), (t250), H', ⟨q_18⟩, ⟨q_100⟩, ⟨q_110⟩, ⟨q_111⟩, ⟨q_108⟩, ⟨q_109⟩⟩
  ·replace c15 := Bool.eq_false_iff.mpr c15
   subst c15
   have H1 : ((spec_NewWindow.f).bind fun bt257 => (spec_l1Cur_window.j0 k s0_0 t245 t246 bt257.1 bt257.2.1 bt257.2.2.1 bt257.2.2.2)) = some (r1, r2, r3, r4, r5, r6) := by rw [if_neg (show ¬ (false = true) by decide)] at H; exact H
   clear H
   have H := H1
   clear H1
   replace H := Option.bind_eq_some_iff.mp H
   obtain ⟨⟨t257, t258, t259, t260⟩, A160, H⟩ := H
   replace H : (spec_l1Cur_window.j0 k s0_0 t245 t246 t257 t258 t259 t260) = some (r1, r2, r3, r4, r5, r6) := H
   have A16 := Aside0.mk A160
   clear A160
   have H' := Aside0.mk H
   clear H
   go_wp2_with (first | ((with_reducible refine gate_callee (f := 79) rfl ?_); refine goesL_ (some 16) rfl rfl Try.func79 (by kernel_rfl) rfl #[] rfl (q_5) ?_; (with_reducible refine (spec_NewWindow.calls  t257 t258 t259 t260 _ A16.out).mono ?_); rintro e w17 ⟨rfl, hb⟩; refine ⟨_, rfl, ?_⟩; have n0_ := Aside0.mk (Kd.R_below (q_102) hb); have n1_ := Aside0.mk (Kd.R_below (q_105) hb); have n2_ := Aside0.mk (IsS74.below (q_111) hb); have n3_ := Aside0.mk (blk_below (g := gb241) (o := .cells #[.int .i64 0, .int .i64 0, .int .i64 0, .int .i64 0] 37 (0, 0)) (q_100) hb); have n4_ := Aside0.mk (blk_below (g := gb255) (o := .cells #[.int .i64 t247, .int .i64 t248, .int .i64 t249, .int .i64 t250] 37 (0, 0)) (q_110) hb); have n5_ := Aside0.mk (KeepBut.trans (q_108) (KeepBut.of_below hb g none) (.inl rfl)); have n6_ := Aside0.mk (below_step (q_109) hb); clear HO244; clear HO253; clear HI0; clear BK241; clear BK255; clear HK; clear HB; have HO244 := n0_; have HO253 := n1_; have HI0 := n2_; have BK241 := n3_; have BK255 := n4_; have HK := n5_; have HB := n6_; clear n0_ n1_ n2_ n3_ n4_ n5_ n6_; (try clear hb); (try clear hb2); (try clear hk); (try clear hi); have hnb18 := NB255_241.out; have hnc18 := NB241_255.out; have hnb19 := NB255_0.out; have hnc19 := NB0_255.out; have hcz20_0 : w17.cell? ⟨gb255, 0, none⟩ = some (.int .i64 t247) := (blk_cell BK255.out 0).trans rfl; have hcz20_1 : w17.cell? ⟨gb255, 1, none⟩ = some (.int .i64 t248) := (blk_cell BK255.out 1).trans rfl; have hcz20_2 : w17.cell? ⟨gb255, 2, none⟩ = some (.int .i64 t249) := (blk_cell BK255.out 2).trans rfl; have hcz20_3 : w17.cell? ⟨gb255, 3, none⟩ = some (.int .i64 t250) := (blk_cell BK255.out 3).trans rfl; have hfz20_0 := blk_frozen BK255.out 0; have hfz20_1 := blk_frozen BK255.out 1; have hfz20_2 := blk_frozen BK255.out 2; have hfz20_3 := blk_frozen BK255.out 3))
   go_meet
   case rel => exact ⟨_, (t257), (t258), (t259), (t260), H', ⟨q_18⟩, ⟨q_107⟩, ⟨by (with_reducible repeat (first | refine blk_drewN ?_ _ | refine blk_drew ?_ | refine blk_alloc ?_ _)); refine blk_put (cs := #[.int .i64 t257, .int .i64 t258, .int .i64 t259, .int .i64 t250]) ?_ 3 _ rfl; (with_reducible repeat (first | refine blk_drewN ?_ _ | refine blk_drew ?_ | refine blk_alloc ?_ _)); refine blk_put (cs := #[.int .i64 t257, .int .i64 t258, .int .i64 t249, .int .i64 t250]) ?_ 2 _ rfl; (with_reducible repeat (first | refine blk_drewN ?_ _ | refine blk_drew ?_ | refine blk_alloc ?_ _)); refine blk_put (cs := #[.int .i64 t257, .int .i64 t248, .int .i64 t249, .int .i64 t250]) ?_ 1 _ rfl; (with_reducible repeat (first | refine blk_drewN ?_ _ | refine blk_drew ?_ | refine blk_alloc ?_ _)); refine blk_put (cs := #[.int .i64 t247, .int .i64 t248, .int .i64 t249, .int .i64 t250]) ?_ 0 _ rfl; (with_reducible repeat (first | refine blk_drewN ?_ _ | refine blk_drew ?_ | refine blk_alloc ?_ _)); exact BK255.out⟩, ⟨q_111⟩, ⟨q_108⟩, ⟨q_109⟩⟩
 case rest =>
  clear HC5
  try clear c1; try clear p2; try clear c3; try clear c7; try clear c11; try clear c12; try clear c15; try clear c18; try clear c19; try clear hcz13_0; try clear hcz13_1; try clear hcz13_2; try clear hcz13_3; try clear hcz20_0; try clear hcz20_1; try clear hcz20_2; try clear hcz20_3; try clear hfz13_0; try clear hfz13_1; try clear hfz13_2; try clear hfz13_3; try clear hfz20_0; try clear hfz20_1; try clear hfz20_2; try clear hfz20_3
  obtain ⟨kq, x256000_4, x256001_4, x256002_4, x256003_4, HA, HJ4, BK241, BK255, HI0, HK, HB⟩ := hcut
  cases kq with
  | zero => exact absurd HA.out (by simp [spec_l1Cur_window.j0])
  | succ kj4 =>
   have H := HA.out
   clear HA
   simp only [spec_l1Cur_window.j0] at H
   replace H := Option.bind_eq_some_iff.mp H
   obtain ⟨⟨t261, t262, t263⟩, A210, H⟩ := H
   replace H : (if t261 = 0 then ((spec_l1Cur_among.f s0_0 t262 t263 (([2399, 2400, 100000000, 100000001] : List Int))).bind fun bt267 => (some (bt267.1, x256001_4, x256002_4, x256003_4, bt267.2.1, bt267.2.2))) else (if t261 = 1 then ((spec_l1Cur_among.f s0_0 t262 t263 (([(-1), 0, 100000000] : List Int))).bind fun bt273 => (some (x256000_4, x256001_4, x256002_4, bt273.1, bt273.2.1, bt273.2.2))) else (if t261 = 2 then (some (x256000_4, 2400, x256002_4, x256003_4, t262, t263)) else (some (x256000_4, x256001_4, x256002_4, x256003_4, t262, t263))))) = some (r1, r2, r3, r4, r5, r6) := H
   have A21 := Aside0.mk A210
   clear A210
   by_cases c22 : t261 = 0
   ·rw [if_pos c22] at H
    have c22b0 : (t261 == 0) = true := beq_iff_eq.mpr c22
    have c22b1 : (t261 != 0) = false := bne_eq_false_iff_eq.mpr c22
    clear c22
    obtain ⟨y264, hy264⟩ : ∃ y_ : List Int, y_ = (([2399, 2400, 100000000, 100000001] : List Int)) := ⟨_, rfl⟩
    replace H : ((spec_l1Cur_among.f s0_0 t262 t263 y264).bind fun bt267 => (some (bt267.1, x256001_4, x256002_4, x256003_4, bt267.2.1, bt267.2.2))) = some (r1, r2, r3, r4, r5, r6) := by first | (rw [hy264]; with_reducible exact H) | (have H2_ := (Option.bind_some _ _).symm.trans H; rw [hy264]; with_reducible exact H2_) | (have H2_ := (Option.bind_some _ _).symm.trans H; with_reducible exact H2_) | with_reducible exact H | (rw [hy264]; exact H) | exact H
    have Ny264 := Aside0.mk hy264
    clear hy264
    replace H := Option.bind_eq_some_iff.mp H
    obtain ⟨⟨t267, t268, t269⟩, A230, H⟩ := H
    replace H : (some (t267, x256001_4, x256002_4, x256003_4, t268, t269)) = some (r1, r2, r3, r4, r5, r6) := H
    have A23 := Aside0.mk A230
    clear A230
    simp only [Option.some.injEq, Prod.mk.injEq] at H
    obtain ⟨rfl, rfl, rfl, rfl, rfl, rfl⟩ := H
    go_wp2_with (first | ((with_reducible refine gate_callee (f := 50) rfl ?_); refine goesL_ (some 18) rfl rfl Try.func50 (by kernel_rfl) rfl #[.pointer (some ⟨g, 0, none⟩), .int .i64 40] rfl (q_5) ?_; (with_reducible refine (spec_l1Cur_pick.calls g s0_0 t245 t246 40 t261 t262 t263 w0 _ ?side1 ?side2 A21.out).mono ?_); (case side1 => repeat (first | (with_reducible first | exact HI0.out | apply IsS74.alloc | apply IsS74.drewN | apply IsS74.drew | apply IsS74.set_1 | apply IsS74.set_2 | apply IsS74.far (hne := NB0_241.out) | apply IsS74.far (hne := NB0_255.out)) | exact HI0.out)); (case side2 => repeat (first | (with_reducible first | exact HB.out | apply below_alloc | apply pw_below_drewN | apply below_drew1 | refine below_set ?_ (IsS74.ge HI0.out) | refine below_set ?_ GE241.out | refine below_set ?_ GE255.out) | exact HB.out)); rintro e w24 ⟨rfl, hi, hb, hk⟩; refine ⟨_, rfl, ?_⟩; have n0_ := Aside0.mk (KeepBut.blk hk (g' := gb241) (o := .cells #[.int .i64 0, .int .i64 0, .int .i64 0, .int .i64 0] 37 (0, 0)) (q_100) NB241_0.out (by simp)); have n1_ := Aside0.mk (KeepBut.blk hk (g' := gb255) (o := .cells #[.int .i64 x256000_4, .int .i64 x256001_4, .int .i64 x256002_4, .int .i64 x256003_4] 37 (0, 0)) (q_110) NB255_0.out (by simp)); have n2_ := Aside0.mk (KeepBut.trans (q_108) hk (.inl rfl)); have n3_ := Aside0.mk (hb); have n4_ := Aside0.mk (hi); clear BK241; clear BK255; clear HK; clear HB; clear HI0; have BK241 := n0_; have BK255 := n1_; have HK := n2_; have HB := n3_; have HI0 := n4_; clear n0_ n1_ n2_ n3_ n4_; (try clear hb); (try clear hb2); (try clear hk); (try clear hi)) | ((with_reducible refine gate_dst (N := 22) rfl ?_); refine Kd.R_lit (Kd.int .i64) _ 3 ?hg (N := 22) ?hd (xs := ([2399, 2400, 100000000, 100000001] : List Int)) (inner := [.int .i64 2399, .int .i64 2400, .int .i64 100000000, .int .i64 100000001]) (ok := fun _ => True) (okp := fun _ => True) ?hr ?hp (fun _ hk => hk) trivial (Below.refl _ _) (Nat.le_refl _) (by simp) ?_; (case hd => rfl); (case hg => rfl); (case hr => first | (go_simp; done) | (go_simp; rfl)); (case hp => exact (Reps.one (show Kd.M (Kd.int .i64) _ _ _ 2399 [.int .i64 2399] from rfl) (Reps.one (show Kd.M (Kd.int .i64) _ _ _ 2400 [.int .i64 2400] from rfl) (Reps.one (show Kd.M (Kd.int .i64) _ _ _ 100000000 [.int .i64 100000000] from rfl) (Reps.one (show Kd.M (Kd.int .i64) _ _ _ 100000001 [.int .i64 100000001] from rfl) (Reps.none _ _)))))); intro v265 w25 ho26 hb hg_ hnew_; clear hg_ hnew_; (first | rw [← Ny264.out] at ho26 | (simp only [Int.reduceToNat] at ho26; rw [← Ny264.out] at ho26)); have n0_ := Aside0.mk (Kd.R_lower ho26 (keep_size (w := w) (g := g) (row := none) (q_108))); have n1_ := Aside0.mk (blk_below (g := gb241) (o := .cells #[.int .i64 0, .int .i64 0, .int .i64 0, .int .i64 0] 37 (0, 0)) (q_100) hb); have n2_ := Aside0.mk (blk_below (g := gb255) (o := .cells #[.int .i64 x256000_4, .int .i64 x256001_4, .int .i64 x256002_4, .int .i64 x256003_4] 37 (0, 0)) (q_110) hb); have n3_ := Aside0.mk (IsS74.below (q_111) hb); have n4_ := Aside0.mk (KeepBut.trans (q_108) (KeepBut.of_below hb g none) (.inl rfl)); have n5_ := Aside0.mk (below_step (q_109) hb); clear BK241; clear BK255; clear HI0; clear HK; clear HB; have HO266 := n0_; have BK241 := n1_; have BK255 := n2_; have HI0 := n3_; have HK := n4_; have HB := n5_; clear n0_ n1_ n2_ n3_ n4_ n5_; clear hb ho26; obtain ⟨Ao27, co27, eo27⟩ := Kd.R_slice HO266.out; subst eo27) | ((with_reducible refine gate_callee (f := 52) rfl ?_); refine goesL_ (some 23) rfl rfl Try.func52 (by kernel_rfl) rfl #[.pointer (some ⟨g, 0, none⟩), .slice Ao27 y264.length co27] rfl (q_5) ?_; (with_reducible refine (spec_l1Cur_among.calls g s0_0 t262 t263 _ _ y264 t267 t268 t269 w0 _ ?side1 ?side2 ?side3 ?side4 ?side5 A23.out).mono ?_); (case side1 => repeat (first | (with_reducible first | exact HI0.out | apply IsS74.alloc | apply IsS74.drewN | apply IsS74.drew | apply IsS74.set_1 | apply IsS74.set_2 | apply IsS74.far (hne := NB0_241.out) | apply IsS74.far (hne := NB0_255.out)) | exact HI0.out)); (case side2 => repeat (first | (with_reducible first | exact HB.out | apply below_alloc | apply pw_below_drewN | apply below_drew1 | refine below_set ?_ (IsS74.ge HI0.out) | refine below_set ?_ GE241.out | refine below_set ?_ GE255.out) | exact HB.out)); (case side3 => repeat (first | exact (Kd.R_reads' HO266.out).2.2 | (with_reducible refine Kd.C_alloc ?_ _) | (with_reducible refine Kd.C_drewN ?_ _) | (with_reducible refine Kd.C_drew ?_))); (case side4 => exact (Kd.R_reads' HO266.out).2.1); (case side5 => exact far_slice (IsS74.own_ne HI0.out HO266.out (by decide))); rintro e w28 ⟨rfl, hi, hb, hk⟩; refine ⟨_, rfl, ?_⟩; have n0_ := Aside0.mk (KeepBut.blk hk (g' := gb241) (o := .cells #[.int .i64 0, .int .i64 0, .int .i64 0, .int .i64 0] 37 (0, 0)) (q_100) NB241_0.out (by simp)); have n1_ := Aside0.mk (KeepBut.blk hk (g' := gb255) (o := .cells #[.int .i64 x256000_4, .int .i64 x256001_4, .int .i64 x256002_4, .int .i64 x256003_4] 37 (0, 0)) (q_110) NB255_0.out (by simp)); have n2_ := Aside0.mk (Kd.R_mono (Kd.R_keep (IsS74.apart (show IsS74 w0 _ g s0_0 t262 t263 from by repeat (first | (with_reducible first | exact HI0.out | apply IsS74.alloc | apply IsS74.drewN | apply IsS74.drew | apply IsS74.set_1 | apply IsS74.set_2 | apply IsS74.far (hne := NB0_241.out) | apply IsS74.far (hne := NB0_255.out)) | exact HI0.out)) (by (with_reducible repeat (first | apply Kd.R_alloc | apply Kd.R_drewN | apply Kd.R_drew)); exact HO266.out) (by decide)) hk (fun _ h => h.2)) (fun _ h => h.1)); have n3_ := Aside0.mk (KeepBut.trans (q_108) hk (.inl rfl)); have n4_ := Aside0.mk (hb); have n5_ := Aside0.mk (hi); clear BK241; clear BK255; clear HO266; clear HK; clear HB; clear HI0; have BK241 := n0_; have BK255 := n1_; have HO266 := n2_; have HK := n3_; have HB := n4_; have HI0 := n5_; clear n0_ n1_ n2_ n3_ n4_ n5_; (try clear hb); (try clear hb2); (try clear hk); (try clear hi); have hnb29 := NB255_241.out; have hnc29 := NB241_255.out; have hnb30 := NB255_0.out; have hnc30 := NB0_255.out; have hcz31_0 : w28.cell? ⟨gb255, 0, none⟩ = some (.int .i64 x256000_4) := (blk_cell BK255.out 0).trans rfl; have hcz31_1 : w28.cell? ⟨gb255, 1, none⟩ = some (.int .i64 x256001_4) := (blk_cell BK255.out 1).trans rfl; have hcz31_2 : w28.cell? ⟨gb255, 2, none⟩ = some (.int .i64 x256002_4) := (blk_cell BK255.out 2).trans rfl; have hcz31_3 : w28.cell? ⟨gb255, 3, none⟩ = some (.int .i64 x256003_4) := (blk_cell BK255.out 3).trans rfl; have hfz31_0 := blk_frozen BK255.out 0; have hfz31_1 := blk_frozen BK255.out 1; have hfz31_2 := blk_frozen BK255.out 2; have hfz31_3 := blk_frozen BK255.out 3; have hnb32 := NB241_0.out; have hnc32 := NB0_241.out; have hcz33_0 : w28.cell? ⟨gb241, 0, none⟩ = some (.int .i64 0) := (blk_cell BK241.out 0).trans rfl; have hcz33_1 : w28.cell? ⟨gb241, 1, none⟩ = some (.int .i64 0) := (blk_cell BK241.out 1).trans rfl; have hcz33_2 : w28.cell? ⟨gb241, 2, none⟩ = some (.int .i64 0) := (blk_cell BK241.out 2).trans rfl; have hcz33_3 : w28.cell? ⟨gb241, 3, none⟩ = some (.int .i64 0) := (blk_cell BK241.out 3).trans rfl; have hfz33_0 := blk_frozen BK241.out 0; have hfz33_1 := blk_frozen BK241.out 1; have hfz33_2 := blk_frozen BK241.out 2; have hfz33_3 := blk_frozen BK241.out 3))
    refine bodyPost_ret (results_cell_row rfl _ _ gb241 37 #[.int .i64 t267, .int .i64 x256001_4, .int .i64 x256002_4, .int .i64 x256003_4] (0, 0) _ rfl (by (with_reducible repeat (first | refine blk_drewN ?_ _ | refine blk_drew ?_ | refine blk_alloc ?_ _)); refine blk_put (cs := #[.int .i64 t267, .int .i64 x256001_4, .int .i64 x256002_4, .int .i64 0]) ?_ 3 _ rfl; (with_reducible repeat (first | refine blk_drewN ?_ _ | refine blk_drew ?_ | refine blk_alloc ?_ _)); refine blk_put (cs := #[.int .i64 t267, .int .i64 x256001_4, .int .i64 0, .int .i64 0]) ?_ 2 _ rfl; (with_reducible repeat (first | refine blk_drewN ?_ _ | refine blk_drew ?_ | refine blk_alloc ?_ _)); refine blk_put (cs := #[.int .i64 t267, .int .i64 0, .int .i64 0, .int .i64 0]) ?_ 1 _ rfl; (with_reducible repeat (first | refine blk_drewN ?_ _ | refine blk_drew ?_ | refine blk_alloc ?_ _)); refine blk_put (cs := #[.int .i64 0, .int .i64 0, .int .i64 0, .int .i64 0]) ?_ 0 _ rfl; (with_reducible repeat (first | refine blk_drewN ?_ _ | refine blk_drew ?_ | refine blk_alloc ?_ _)); refine blk_far ?_ NB241_255.out _; (with_reducible repeat (first | refine blk_drewN ?_ _ | refine blk_drew ?_ | refine blk_alloc ?_ _)); exact BK241.out) Try.underlying37 rfl (by kernel_rfl)) rfl ?_
    exact ⟨q_6, q_111, q_109, q_108⟩
   ·rw [if_neg c22] at H
    have c22b0 : (t261 == 0) = false := beq_eq_false_iff_ne.mpr c22
    have c22b1 : (t261 != 0) = true := bne_iff_ne.mpr c22
    by_cases c34 : t261 = 1
    ·rw [if_pos c34] at H
     have c34b0 : (t261 == 1) = true := beq_iff_eq.mpr c34
     have c34b1 : (t261 != 1) = false := bne_eq_false_iff_eq.mpr c34
     clear c34
     obtain ⟨y270, hy270⟩ : ∃ y_ : List Int, y_ = (([(-1), 0, 100000000] : List Int)) := ⟨_, rfl⟩
     replace H : ((spec_l1Cur_among.f s0_0 t262 t263 y270).bind fun bt273 => (some (x256000_4, x256001_4, x256002_4, bt273.1, bt273.2.1, bt273.2.2))) = some (r1, r2, r3, r4, r5, r6) := by first | (rw [hy270]; with_reducible exact H) | (have H2_ := (Option.bind_some _ _).symm.trans H; rw [hy270]; with_reducible exact H2_) | (have H2_ := (Option.bind_some _ _).symm.trans H; with_reducible exact H2_) | with_reducible exact H | (rw [hy270]; exact H) | exact H
     have Ny270 := Aside0.mk hy270
     clear hy270
     replace H := Option.bind_eq_some_iff.mp H
     obtain ⟨⟨t273, t274, t275⟩, A350, H⟩ := H
     replace H : (some (x256000_4, x256001_4, x256002_4, t273, t274, t275)) = some (r1, r2, r3, r4, r5, r6) := H
     have A35 := Aside0.mk A350
     clear A350
     simp only [Option.some.injEq, Prod.mk.injEq] at H
     obtain ⟨rfl, rfl, rfl, rfl, rfl, rfl⟩ := H
     go_wp2_with (first | ((with_reducible refine gate_callee (f := 50) rfl ?_); refine goesL_ (some 18) rfl rfl Try.func50 (by kernel_rfl) rfl #[.pointer (some ⟨g, 0, none⟩), .int .i64 40] rfl (q_5) ?_; (with_reducible refine (spec_l1Cur_pick.calls g s0_0 t245 t246 40 t261 t262 t263 w0 _ ?side1 ?side2 A21.out).mono ?_); (case side1 => repeat (first | (with_reducible first | exact HI0.out | apply IsS74.alloc | apply IsS74.drewN | apply IsS74.drew | apply IsS74.set_1 | apply IsS74.set_2 | apply IsS74.far (hne := NB0_241.out) | apply IsS74.far (hne := NB0_255.out)) | exact HI0.out)); (case side2 => repeat (first | (with_reducible first | exact HB.out | apply below_alloc | apply pw_below_drewN | apply below_drew1 | refine below_set ?_ (IsS74.ge HI0.out) | refine below_set ?_ GE241.out | refine below_set ?_ GE255.out) | exact HB.out)); rintro e w36 ⟨rfl, hi, hb, hk⟩; refine ⟨_, rfl, ?_⟩; have n0_ := Aside0.mk (KeepBut.blk hk (g' := gb241) (o := .cells #[.int .i64 0, .int .i64 0, .int .i64 0, .int .i64 0] 37 (0, 0)) (q_100) NB241_0.out (by simp)); have n1_ := Aside0.mk (KeepBut.blk hk (g' := gb255) (o := .cells #[.int .i64 x256000_4, .int .i64 x256001_4, .int .i64 x256002_4, .int .i64 x256003_4] 37 (0, 0)) (q_110) NB255_0.out (by simp)); have n2_ := Aside0.mk (KeepBut.trans (q_108) hk (.inl rfl)); have n3_ := Aside0.mk (hb); have n4_ := Aside0.mk (hi); clear BK241; clear BK255; clear HK; clear HB; clear HI0; have BK241 := n0_; have BK255 := n1_; have HK := n2_; have HB := n3_; have HI0 := n4_; clear n0_ n1_ n2_ n3_ n4_; (try clear hb); (try clear hb2); (try clear hk); (try clear hi)) | ((with_reducible refine gate_dst (N := 28) rfl ?_); refine Kd.R_lit (Kd.int .i64) _ 3 ?hg (N := 28) ?hd (xs := ([(-1), 0, 100000000] : List Int)) (inner := [.int .i64 (-1), .int .i64 0, .int .i64 100000000]) (ok := fun _ => True) (okp := fun _ => True) ?hr ?hp (fun _ hk => hk) trivial (Below.refl _ _) (Nat.le_refl _) (by simp) ?_; (case hd => rfl); (case hg => rfl); (case hr => first | (go_simp; done) | (go_simp; rfl)); (case hp => exact (Reps.one (show Kd.M (Kd.int .i64) _ _ _ (-1) [.int .i64 (-1)] from rfl) (Reps.one (show Kd.M (Kd.int .i64) _ _ _ 0 [.int .i64 0] from rfl) (Reps.one (show Kd.M (Kd.int .i64) _ _ _ 100000000 [.int .i64 100000000] from rfl) (Reps.none _ _))))); intro v271 w37 ho38 hb hg_ hnew_; clear hg_ hnew_; (first | rw [← Ny270.out] at ho38 | (simp only [Int.reduceToNat] at ho38; rw [← Ny270.out] at ho38)); have n0_ := Aside0.mk (Kd.R_lower ho38 (keep_size (w := w) (g := g) (row := none) (q_108))); have n1_ := Aside0.mk (blk_below (g := gb241) (o := .cells #[.int .i64 0, .int .i64 0, .int .i64 0, .int .i64 0] 37 (0, 0)) (q_100) hb); have n2_ := Aside0.mk (blk_below (g := gb255) (o := .cells #[.int .i64 x256000_4, .int .i64 x256001_4, .int .i64 x256002_4, .int .i64 x256003_4] 37 (0, 0)) (q_110) hb); have n3_ := Aside0.mk (IsS74.below (q_111) hb); have n4_ := Aside0.mk (KeepBut.trans (q_108) (KeepBut.of_below hb g none) (.inl rfl)); have n5_ := Aside0.mk (below_step (q_109) hb); clear BK241; clear BK255; clear HI0; clear HK; clear HB; have HO272 := n0_; have BK241 := n1_; have BK255 := n2_; have HI0 := n3_; have HK := n4_; have HB := n5_; clear n0_ n1_ n2_ n3_ n4_ n5_; clear hb ho38; obtain ⟨Ao39, co39, eo39⟩ := Kd.R_slice HO272.out; subst eo39) | ((with_reducible refine gate_callee (f := 52) rfl ?_); refine goesL_ (some 29) rfl rfl Try.func52 (by kernel_rfl) rfl #[.pointer (some ⟨g, 0, none⟩), .slice Ao39 y270.length co39] rfl (q_5) ?_; (with_reducible refine (spec_l1Cur_among.calls g s0_0 t262 t263 _ _ y270 t273 t274 t275 w0 _ ?side1 ?side2 ?side3 ?side4 ?side5 A35.out).mono ?_); (case side1 => repeat (first | (with_reducible first | exact HI0.out | apply IsS74.alloc | apply IsS74.drewN | apply IsS74.drew | apply IsS74.set_1 | apply IsS74.set_2 | apply IsS74.far (hne := NB0_241.out) | apply IsS74.far (hne := NB0_255.out)) | exact HI0.out)); (case side2 => repeat (first | (with_reducible first | exact HB.out | apply below_alloc | apply pw_below_drewN | apply below_drew1 | refine below_set ?_ (IsS74.ge HI0.out) | refine below_set ?_ GE241.out | refine below_set ?_ GE255.out) | exact HB.out)); (case side3 => repeat (first | exact (Kd.R_reads' HO272.out).2.2 | (with_reducible refine Kd.C_alloc ?_ _) | (with_reducible refine Kd.C_drewN ?_ _) | (with_reducible refine Kd.C_drew ?_))); (case side4 => exact (Kd.R_reads' HO272.out).2.1); (case side5 => exact far_slice (IsS74.own_ne HI0.out HO272.out (by decide))); rintro e w40 ⟨rfl, hi, hb, hk⟩; refine ⟨_, rfl, ?_⟩; have n0_ := Aside0.mk (KeepBut.blk hk (g' := gb241) (o := .cells #[.int .i64 0, .int .i64 0, .int .i64 0, .int .i64 0] 37 (0, 0)) (q_100) NB241_0.out (by simp)); have n1_ := Aside0.mk (KeepBut.blk hk (g' := gb255) (o := .cells #[.int .i64 x256000_4, .int .i64 x256001_4, .int .i64 x256002_4, .int .i64 x256003_4] 37 (0, 0)) (q_110) NB255_0.out (by simp)); have n2_ := Aside0.mk (Kd.R_mono (Kd.R_keep (IsS74.apart (show IsS74 w0 _ g s0_0 t262 t263 from by repeat (first | (with_reducible first | exact HI0.out | apply IsS74.alloc | apply IsS74.drewN | apply IsS74.drew | apply IsS74.set_1 | apply IsS74.set_2 | apply IsS74.far (hne := NB0_241.out) | apply IsS74.far (hne := NB0_255.out)) | exact HI0.out)) (by (with_reducible repeat (first | apply Kd.R_alloc | apply Kd.R_drewN | apply Kd.R_drew)); exact HO272.out) (by decide)) hk (fun _ h => h.2)) (fun _ h => h.1)); have n3_ := Aside0.mk (KeepBut.trans (q_108) hk (.inl rfl)); have n4_ := Aside0.mk (hb); have n5_ := Aside0.mk (hi); clear BK241; clear BK255; clear HO272; clear HK; clear HB; clear HI0; have BK241 := n0_; have BK255 := n1_; have HO272 := n2_; have HK := n3_; have HB := n4_; have HI0 := n5_; clear n0_ n1_ n2_ n3_ n4_ n5_; (try clear hb); (try clear hb2); (try clear hk); (try clear hi); have hnb41 := NB255_241.out; have hnc41 := NB241_255.out; have hnb42 := NB255_0.out; have hnc42 := NB0_255.out; have hcz43_0 : w40.cell? ⟨gb255, 0, none⟩ = some (.int .i64 x256000_4) := (blk_cell BK255.out 0).trans rfl; have hcz43_1 : w40.cell? ⟨gb255, 1, none⟩ = some (.int .i64 x256001_4) := (blk_cell BK255.out 1).trans rfl; have hcz43_2 : w40.cell? ⟨gb255, 2, none⟩ = some (.int .i64 x256002_4) := (blk_cell BK255.out 2).trans rfl; have hcz43_3 : w40.cell? ⟨gb255, 3, none⟩ = some (.int .i64 x256003_4) := (blk_cell BK255.out 3).trans rfl; have hfz43_0 := blk_frozen BK255.out 0; have hfz43_1 := blk_frozen BK255.out 1; have hfz43_2 := blk_frozen BK255.out 2; have hfz43_3 := blk_frozen BK255.out 3; have hnb44 := NB241_0.out; have hnc44 := NB0_241.out; have hcz45_0 : w40.cell? ⟨gb241, 0, none⟩ = some (.int .i64 0) := (blk_cell BK241.out 0).trans rfl; have hcz45_1 : w40.cell? ⟨gb241, 1, none⟩ = some (.int .i64 0) := (blk_cell BK241.out 1).trans rfl; have hcz45_2 : w40.cell? ⟨gb241, 2, none⟩ = some (.int .i64 0) := (blk_cell BK241.out 2).trans rfl; have hcz45_3 : w40.cell? ⟨gb241, 3, none⟩ = some (.int .i64 0) := (blk_cell BK241.out 3).trans rfl; have hfz45_0 := blk_frozen BK241.out 0; have hfz45_1 := blk_frozen BK241.out 1; have hfz45_2 := blk_frozen BK241.out 2; have hfz45_3 := blk_frozen BK241.out 3))
     refine bodyPost_ret (results_cell_row rfl _ _ gb241 37 #[.int .i64 x256000_4, .int .i64 x256001_4, .int .i64 x256002_4, .int .i64 t273] (0, 0) _ rfl (by (with_reducible repeat (first | refine blk_drewN ?_ _ | refine blk_drew ?_ | refine blk_alloc ?_ _)); refine blk_put (cs := #[.int .i64 x256000_4, .int .i64 x256001_4, .int .i64 x256002_4, .int .i64 0]) ?_ 3 _ rfl; (with_reducible repeat (first | refine blk_drewN ?_ _ | refine blk_drew ?_ | refine blk_alloc ?_ _)); refine blk_put (cs := #[.int .i64 x256000_4, .int .i64 x256001_4, .int .i64 0, .int .i64 0]) ?_ 2 _ rfl; (with_reducible repeat (first | refine blk_drewN ?_ _ | refine blk_drew ?_ | refine blk_alloc ?_ _)); refine blk_put (cs := #[.int .i64 x256000_4, .int .i64 0, .int .i64 0, .int .i64 0]) ?_ 1 _ rfl; (with_reducible repeat (first | refine blk_drewN ?_ _ | refine blk_drew ?_ | refine blk_alloc ?_ _)); refine blk_put (cs := #[.int .i64 0, .int .i64 0, .int .i64 0, .int .i64 0]) ?_ 0 _ rfl; (with_reducible repeat (first | refine blk_drewN ?_ _ | refine blk_drew ?_ | refine blk_alloc ?_ _)); refine blk_far ?_ NB241_255.out _; (with_reducible repeat (first | refine blk_drewN ?_ _ | refine blk_drew ?_ | refine blk_alloc ?_ _)); exact BK241.out) Try.underlying37 rfl (by kernel_rfl)) rfl ?_
     exact ⟨q_6, q_111, q_109, q_108⟩
    ·rw [if_neg c34] at H
     have c34b0 : (t261 == 1) = false := beq_eq_false_iff_ne.mpr c34
     have c34b1 : (t261 != 1) = true := bne_iff_ne.mpr c34
     by_cases c46 : t261 = 2
     ·rw [if_pos c46] at H
      have c46b0 : (t261 == 2) = true := beq_iff_eq.mpr c46
      have c46b1 : (t261 != 2) = false := bne_eq_false_iff_eq.mpr c46
      clear c46
      simp only [Option.some.injEq, Prod.mk.injEq] at H
      obtain ⟨rfl, rfl, rfl, rfl, rfl, rfl⟩ := H
      go_wp2_with (first | ((with_reducible refine gate_callee (f := 50) rfl ?_); refine goesL_ (some 18) rfl rfl Try.func50 (by kernel_rfl) rfl #[.pointer (some ⟨g, 0, none⟩), .int .i64 40] rfl (q_5) ?_; (with_reducible refine (spec_l1Cur_pick.calls g s0_0 t245 t246 40 t261 t262 t263 w0 _ ?side1 ?side2 A21.out).mono ?_); (case side1 => repeat (first | (with_reducible first | exact HI0.out | apply IsS74.alloc | apply IsS74.drewN | apply IsS74.drew | apply IsS74.set_1 | apply IsS74.set_2 | apply IsS74.far (hne := NB0_241.out) | apply IsS74.far (hne := NB0_255.out)) | exact HI0.out)); (case side2 => repeat (first | (with_reducible first | exact HB.out | apply below_alloc | apply pw_below_drewN | apply below_drew1 | refine below_set ?_ (IsS74.ge HI0.out) | refine below_set ?_ GE241.out | refine below_set ?_ GE255.out) | exact HB.out)); rintro e w47 ⟨rfl, hi, hb, hk⟩; refine ⟨_, rfl, ?_⟩; have n0_ := Aside0.mk (KeepBut.blk hk (g' := gb241) (o := .cells #[.int .i64 0, .int .i64 0, .int .i64 0, .int .i64 0] 37 (0, 0)) (q_100) NB241_0.out (by simp)); have n1_ := Aside0.mk (KeepBut.blk hk (g' := gb255) (o := .cells #[.int .i64 x256000_4, .int .i64 x256001_4, .int .i64 x256002_4, .int .i64 x256003_4] 37 (0, 0)) (q_110) NB255_0.out (by simp)); have n2_ := Aside0.mk (KeepBut.trans (q_108) hk (.inl rfl)); have n3_ := Aside0.mk (hb); have n4_ := Aside0.mk (hi); clear BK241; clear BK255; clear HK; clear HB; clear HI0; have BK241 := n0_; have BK255 := n1_; have HK := n2_; have HB := n3_; have HI0 := n4_; clear n0_ n1_ n2_ n3_ n4_; (try clear hb); (try clear hb2); (try clear hk); (try clear hi); have hnb48 := NB255_241.out; have hnc48 := NB241_255.out; have hnb49 := NB255_0.out; have hnc49 := NB0_255.out; have hcz50_0 : w47.cell? ⟨gb255, 0, none⟩ = some (.int .i64 x256000_4) := (blk_cell BK255.out 0).trans rfl; have hcz50_1 : w47.cell? ⟨gb255, 1, none⟩ = some (.int .i64 x256001_4) := (blk_cell BK255.out 1).trans rfl; have hcz50_2 : w47.cell? ⟨gb255, 2, none⟩ = some (.int .i64 x256002_4) := (blk_cell BK255.out 2).trans rfl; have hcz50_3 : w47.cell? ⟨gb255, 3, none⟩ = some (.int .i64 x256003_4) := (blk_cell BK255.out 3).trans rfl; have hfz50_0 := blk_frozen BK255.out 0; have hfz50_1 := blk_frozen BK255.out 1; have hfz50_2 := blk_frozen BK255.out 2; have hfz50_3 := blk_frozen BK255.out 3; have hnb51 := NB241_0.out; have hnc51 := NB0_241.out; have hcz52_0 : w47.cell? ⟨gb241, 0, none⟩ = some (.int .i64 0) := (blk_cell BK241.out 0).trans rfl; have hcz52_1 : w47.cell? ⟨gb241, 1, none⟩ = some (.int .i64 0) := (blk_cell BK241.out 1).trans rfl; have hcz52_2 : w47.cell? ⟨gb241, 2, none⟩ = some (.int .i64 0) := (blk_cell BK241.out 2).trans rfl; have hcz52_3 : w47.cell? ⟨gb241, 3, none⟩ = some (.int .i64 0) := (blk_cell BK241.out 3).trans rfl; have hfz52_0 := blk_frozen BK241.out 0; have hfz52_1 := blk_frozen BK241.out 1; have hfz52_2 := blk_frozen BK241.out 2; have hfz52_3 := blk_frozen BK241.out 3))
      refine bodyPost_ret (results_cell_row rfl _ _ gb241 37 #[.int .i64 x256000_4, .int .i64 2400, .int .i64 x256002_4, .int .i64 x256003_4] (0, 0) _ rfl (by (with_reducible repeat (first | refine blk_drewN ?_ _ | refine blk_drew ?_ | refine blk_alloc ?_ _)); refine blk_put (cs := #[.int .i64 x256000_4, .int .i64 2400, .int .i64 x256002_4, .int .i64 0]) ?_ 3 _ rfl; (with_reducible repeat (first | refine blk_drewN ?_ _ | refine blk_drew ?_ | refine blk_alloc ?_ _)); refine blk_put (cs := #[.int .i64 x256000_4, .int .i64 2400, .int .i64 0, .int .i64 0]) ?_ 2 _ rfl; (with_reducible repeat (first | refine blk_drewN ?_ _ | refine blk_drew ?_ | refine blk_alloc ?_ _)); refine blk_put (cs := #[.int .i64 x256000_4, .int .i64 0, .int .i64 0, .int .i64 0]) ?_ 1 _ rfl; (with_reducible repeat (first | refine blk_drewN ?_ _ | refine blk_drew ?_ | refine blk_alloc ?_ _)); refine blk_put (cs := #[.int .i64 0, .int .i64 0, .int .i64 0, .int .i64 0]) ?_ 0 _ rfl; (with_reducible repeat (first | refine blk_drewN ?_ _ | refine blk_drew ?_ | refine blk_alloc ?_ _)); refine blk_far ?_ NB241_255.out _; (with_reducible repeat (first | refine blk_drewN ?_ _ | refine blk_drew ?_ | refine blk_alloc ?_ _)); exact BK241.out) Try.underlying37 rfl (by kernel_rfl)) rfl ?_
      exact ⟨q_6, q_111, q_109, q_108⟩
     ·rw [if_neg c46] at H
      have c46b0 : (t261 == 2) = false := beq_eq_false_iff_ne.mpr c46
      have c46b1 : (t261 != 2) = true := bne_iff_ne.mpr c46
      simp only [Option.some.injEq, Prod.mk.injEq] at H
      obtain ⟨rfl, rfl, rfl, rfl, rfl, rfl⟩ := H
      go_wp2_with (first | ((with_reducible refine gate_callee (f := 50) rfl ?_); refine goesL_ (some 18) rfl rfl Try.func50 (by kernel_rfl) rfl #[.pointer (some ⟨g, 0, none⟩), .int .i64 40] rfl (q_5) ?_; (with_reducible refine (spec_l1Cur_pick.calls g s0_0 t245 t246 40 t261 t262 t263 w0 _ ?side1 ?side2 A21.out).mono ?_); (case side1 => repeat (first | (with_reducible first | exact HI0.out | apply IsS74.alloc | apply IsS74.drewN | apply IsS74.drew | apply IsS74.set_1 | apply IsS74.set_2 | apply IsS74.far (hne := NB0_241.out) | apply IsS74.far (hne := NB0_255.out)) | exact HI0.out)); (case side2 => repeat (first | (with_reducible first | exact HB.out | apply below_alloc | apply pw_below_drewN | apply below_drew1 | refine below_set ?_ (IsS74.ge HI0.out) | refine below_set ?_ GE241.out | refine below_set ?_ GE255.out) | exact HB.out)); rintro e w53 ⟨rfl, hi, hb, hk⟩; refine ⟨_, rfl, ?_⟩; have n0_ := Aside0.mk (KeepBut.blk hk (g' := gb241) (o := .cells #[.int .i64 0, .int .i64 0, .int .i64 0, .int .i64 0] 37 (0, 0)) (q_100) NB241_0.out (by simp)); have n1_ := Aside0.mk (KeepBut.blk hk (g' := gb255) (o := .cells #[.int .i64 x256000_4, .int .i64 x256001_4, .int .i64 x256002_4, .int .i64 x256003_4] 37 (0, 0)) (q_110) NB255_0.out (by simp)); have n2_ := Aside0.mk (KeepBut.trans (q_108) hk (.inl rfl)); have n3_ := Aside0.mk (hb); have n4_ := Aside0.mk (hi); clear BK241; clear BK255; clear HK; clear HB; clear HI0; have BK241 := n0_; have BK255 := n1_; have HK := n2_; have HB := n3_; have HI0 := n4_; clear n0_ n1_ n2_ n3_ n4_; (try clear hb); (try clear hb2); (try clear hk); (try clear hi); have hnb54 := NB255_241.out; have hnc54 := NB241_255.out; have hnb55 := NB255_0.out; have hnc55 := NB0_255.out; have hcz56_0 : w53.cell? ⟨gb255, 0, none⟩ = some (.int .i64 x256000_4) := (blk_cell BK255.out 0).trans rfl; have hcz56_1 : w53.cell? ⟨gb255, 1, none⟩ = some (.int .i64 x256001_4) := (blk_cell BK255.out 1).trans rfl; have hcz56_2 : w53.cell? ⟨gb255, 2, none⟩ = some (.int .i64 x256002_4) := (blk_cell BK255.out 2).trans rfl; have hcz56_3 : w53.cell? ⟨gb255, 3, none⟩ = some (.int .i64 x256003_4) := (blk_cell BK255.out 3).trans rfl; have hfz56_0 := blk_frozen BK255.out 0; have hfz56_1 := blk_frozen BK255.out 1; have hfz56_2 := blk_frozen BK255.out 2; have hfz56_3 := blk_frozen BK255.out 3; have hnb57 := NB241_0.out; have hnc57 := NB0_241.out; have hcz58_0 : w53.cell? ⟨gb241, 0, none⟩ = some (.int .i64 0) := (blk_cell BK241.out 0).trans rfl; have hcz58_1 : w53.cell? ⟨gb241, 1, none⟩ = some (.int .i64 0) := (blk_cell BK241.out 1).trans rfl; have hcz58_2 : w53.cell? ⟨gb241, 2, none⟩ = some (.int .i64 0) := (blk_cell BK241.out 2).trans rfl; have hcz58_3 : w53.cell? ⟨gb241, 3, none⟩ = some (.int .i64 0) := (blk_cell BK241.out 3).trans rfl; have hfz58_0 := blk_frozen BK241.out 0; have hfz58_1 := blk_frozen BK241.out 1; have hfz58_2 := blk_frozen BK241.out 2; have hfz58_3 := blk_frozen BK241.out 3))
      refine bodyPost_ret (results_cell_row rfl _ _ gb241 37 #[.int .i64 x256000_4, .int .i64 x256001_4, .int .i64 x256002_4, .int .i64 x256003_4] (0, 0) _ rfl (by (with_reducible repeat (first | refine blk_drewN ?_ _ | refine blk_drew ?_ | refine blk_alloc ?_ _)); refine blk_put (cs := #[.int .i64 x256000_4, .int .i64 x256001_4, .int .i64 x256002_4, .int .i64 0]) ?_ 3 _ rfl; (with_reducible repeat (first | refine blk_drewN ?_ _ | refine blk_drew ?_ | refine blk_alloc ?_ _)); refine blk_put (cs := #[.int .i64 x256000_4, .int .i64 x256001_4, .int .i64 0, .int .i64 0]) ?_ 2 _ rfl; (with_reducible repeat (first | refine blk_drewN ?_ _ | refine blk_drew ?_ | refine blk_alloc ?_ _)); refine blk_put (cs := #[.int .i64 x256000_4, .int .i64 0, .int .i64 0, .int .i64 0]) ?_ 1 _ rfl; (with_reducible repeat (first | refine blk_drewN ?_ _ | refine blk_drew ?_ | refine blk_alloc ?_ _)); refine blk_put (cs := #[.int .i64 0, .int .i64 0, .int .i64 0, .int .i64 0]) ?_ 0 _ rfl; (with_reducible repeat (first | refine blk_drewN ?_ _ | refine blk_drew ?_ | refine blk_alloc ?_ _)); exact BK241.out) Try.underlying37 rfl (by kernel_rfl)) rfl ?_
      exact ⟨q_6, q_111, q_109, q_108⟩

/-! ### spec_DrawAckedBytes: function 27 -/
def spec_DrawAckedBytes.f (k : Nat) (l0 : List Int) : Option (Int × Int × Int × Int × Int × Int) := (spec_l1Cur_window.f k l0 0 0).bind fun bt278 => ((spec_l1Cur_pick.f l0 bt278.2.2.2.2.1 bt278.2.2.2.2.2 1700).bind fun bt284 => ((spec_l1Cur_pick.f l0 bt284.2.1 bt284.2.2 100).bind fun bt287 => (some (bt278.1, bt278.2.1, bt278.2.2.1, bt278.2.2.2.1, wrap64 (bt284.1 - 50), wrap64 (bt287.1 - 1)))))
theorem spec_DrawAckedBytes.mono : ∀ a0 k, LeO (spec_DrawAckedBytes.f k a0) (spec_DrawAckedBytes.f (k + 1) a0) := by
 intro a0 k
 unfold spec_DrawAckedBytes.f
 repeat' first
   | (with_reducible exact spec_l1Cur_window.mono _ _ _ _)
   | (with_reducible exact LeO.refl _)
   | (with_reducible exact LeO.none _)
   | (with_reducible refine LeO.ite ?_ ?_)
   | (with_reducible refine LeO.bind ?_ (fun _ => ?_))
   | exact spec_l1Cur_window.mono _ _ _ _
   | exact LeO.none _
   | refine LeO.ite ?_ ?_
   | refine LeO.bind ?_ (fun _ => ?_)
set_option maxHeartbeats 8000000 in
set_option maxRecDepth 100000 in
theorem spec_DrawAckedBytes.calls (k : Nat) (A0 : Option Addr) (c0 : Nat) (l0 : List Int) (r1 : Int) (r2 : Int) (r3 : Int) (r4 : Int) (r5 : Int) (r6 : Int) (w : World) (hr0 : Kd.C (Kd.int .u8) w A0 l0.length l0) (hc0 : l0.length ≤ c0) (h : spec_DrawAckedBytes.f k l0 = some (r1, r2, r3, r4, r5, r6)) :
  Calls Try.prog 27 #[.slice A0 l0.length c0] w fun e w' => e = .returned (.tuple #[.agg #[.int .i64 r1, .int .i64 r2, .int .i64 r3, .int .i64 r4], .int .i64 r5, .int .i64 r6]) ∧ Below w.heap.size w w' := by
 have hu37 := Try.underlying37
 have hu74 := Try.underlying74
 have HR0 := Aside0.mk hr0
 have HC0 := Aside0.mk hc0
 clear hr0 hc0
 have HB := Aside0.mk (Below.refl w.heap.size w)
 have H : ((spec_l1Cur_window.f k l0 0 0).bind fun bt278 => ((spec_l1Cur_pick.f l0 bt278.2.2.2.2.1 bt278.2.2.2.2.2 1700).bind fun bt284 => ((spec_l1Cur_pick.f l0 bt284.2.1 bt284.2.2 100).bind fun bt287 => (some (bt278.1, bt278.2.1, bt278.2.2.1, bt278.2.2.2.1, wrap64 (bt284.1 - 50), wrap64 (bt287.1 - 1)))))) = some (r1, r2, r3, r4, r5, r6) := h
 clear h
 replace H := Option.bind_eq_some_iff.mp H
 obtain ⟨⟨t278, t279, t280, t281, t282, t283⟩, A20, H⟩ := H
 replace H : ((spec_l1Cur_pick.f l0 t282 t283 1700).bind fun bt284 => ((spec_l1Cur_pick.f l0 bt284.2.1 bt284.2.2 100).bind fun bt287 => (some (t278, t279, t280, t281, wrap64 (bt284.1 - 50), wrap64 (bt287.1 - 1))))) = some (r1, r2, r3, r4, r5, r6) := H
 have A2 := Aside0.mk A20
 clear A20
 replace H := Option.bind_eq_some_iff.mp H
 obtain ⟨⟨t284, t285, t286⟩, A30, H⟩ := H
 replace H : ((spec_l1Cur_pick.f l0 t285 t286 100).bind fun bt287 => (some (t278, t279, t280, t281, wrap64 (t284 - 50), wrap64 (bt287.1 - 1)))) = some (r1, r2, r3, r4, r5, r6) := H
 have A3 := Aside0.mk A30
 clear A30
 replace H := Option.bind_eq_some_iff.mp H
 obtain ⟨⟨t287, t288, t289⟩, A40, H⟩ := H
 replace H : (some (t278, t279, t280, t281, wrap64 (t284 - 50), wrap64 (t287 - 1))) = some (r1, r2, r3, r4, r5, r6) := H
 have A4 := Aside0.mk A40
 clear A40
 simp only [Option.some.injEq, Prod.mk.injEq] at H
 obtain ⟨rfl, rfl, rfl, rfl, rfl, rfl⟩ := H
 go_enter Try.func27, Try.ntmps27
 go_wp2_with (first | ((with_reducible refine gate_dst (N := 2) rfl ?_); refine box_event ?hg (N := 2) ?hd (cs := #[.int .i64 0, .int .i64 0, .int .i64 0, .int .i64 0]) (t := 37) ?hr ?_; (case hd => rfl); (case hg => rfl); (case hr => first | (go_simp; done) | (go_simp; rfl)); intro gb276 hg w5 hbox hb; have n0_ := Aside0.mk (below_step (q_3) hb); have n1_ := Aside0.mk (hbox); have n2_ := Aside0.mk ((q_4 : w.heap.size ≤ gb276)); have n3_ := Aside0.mk ((q_4 : w.heap.size ≤ gb276)); clear HB; have HB := n0_; have BK276 := n1_; have GW276 := n2_; have GE276 := n3_; clear n0_ n1_ n2_ n3_; clear hb hbox hg) | ((with_reducible refine gate_dst (N := 8) rfl ?_); refine box_event ?hg (N := 8) ?hd (cs := #[.slice A0 l0.length c0, .int .i64 0, .int .u64 0]) (t := 74) ?hr ?_; (case hd => rfl); (case hg => rfl); (case hr => first | (go_simp; done) | (go_simp; rfl)); intro gb277 hg w6 hbox hb; have n0_ := Aside0.mk (blk_below (g := gb276) (o := .cells #[.int .i64 0, .int .i64 0, .int .i64 0, .int .i64 0] 37 (0, 0)) (q_112) hb); have n1_ := Aside0.mk (below_step (q_113) hb); have n2_ := Aside0.mk ((⟨_, _, hbox, (q_114 : w.heap.size ≤ gb277), HR0.out⟩ : IsS74 w w6 gb277 l0 0 0)); have n3_ := Aside0.mk ((q_114 : w.heap.size ≤ gb277)); have n4_ := Aside0.mk ((q_114 : w.heap.size ≤ gb277)); have n5_ := Aside0.mk ((by rw [hg]; exact Nat.ne_of_lt (blk_lt (g := gb276) (o := .cells #[.int .i64 0, .int .i64 0, .int .i64 0, .int .i64 0] 37 (0, 0)) (q_112)) : gb276 ≠ gb277)); have n6_ := Aside0.mk ((by rw [hg]; exact Nat.ne_of_gt (blk_lt (g := gb276) (o := .cells #[.int .i64 0, .int .i64 0, .int .i64 0, .int .i64 0] 37 (0, 0)) (q_112)) : gb277 ≠ gb276)); clear BK276; clear HB; have BK276 := n0_; have HB := n1_; have HI277 := n2_; have GW277 := n3_; have GE277 := n4_; have NB276_277 := n5_; have NB277_276 := n6_; clear n0_ n1_ n2_ n3_ n4_ n5_ n6_; clear hb hbox hg) | ((with_reducible refine gate_callee (f := 75) rfl ?_); refine goesL_ (some 10) rfl rfl Try.func75 (by kernel_rfl) rfl #[.pointer (some ⟨gb277, 0, none⟩)] rfl (q_5) ?_; (with_reducible refine (spec_l1Cur_window.calls k gb277 l0 0 0 t278 t279 t280 t281 t282 t283 w _ ?side1 ?side2 A2.out).mono ?_); (case side1 => repeat (first | (with_reducible first | exact HI277.out | apply IsS74.alloc | apply IsS74.drewN | apply IsS74.drew | apply IsS74.set_1 | apply IsS74.set_2 | apply IsS74.far (hne := NB277_276.out)) | exact HI277.out)); (case side2 => repeat (first | (with_reducible first | exact HB.out | apply below_alloc | apply pw_below_drewN | apply below_drew1 | refine below_set ?_ (IsS74.ge HI277.out) | refine below_set ?_ GE276.out) | exact HB.out)); rintro e w7 ⟨rfl, hi, hb, hk⟩; refine ⟨_, rfl, ?_⟩; have n0_ := Aside0.mk (KeepBut.blk hk (g' := gb276) (o := .cells #[.int .i64 0, .int .i64 0, .int .i64 0, .int .i64 0] 37 (0, 0)) (q_112) NB276_277.out (by simp)); have n1_ := Aside0.mk (hb); have n2_ := Aside0.mk (hi); clear BK276; clear HB; clear HI277; have BK276 := n0_; have HB := n1_; have HI277 := n2_; clear n0_ n1_ n2_; (try clear hb); (try clear hb2); (try clear hk); (try clear hi)) | ((with_reducible refine gate_callee (f := 50) rfl ?_); refine goesL_ (some 12) rfl rfl Try.func50 (by kernel_rfl) rfl #[.pointer (some ⟨gb277, 0, none⟩), .int .i64 1700] rfl (q_5) ?_; (with_reducible refine (spec_l1Cur_pick.calls gb277 l0 t282 t283 1700 t284 t285 t286 w _ ?side1 ?side2 A3.out).mono ?_); (case side1 => repeat (first | (with_reducible first | exact HI277.out | apply IsS74.alloc | apply IsS74.drewN | apply IsS74.drew | apply IsS74.set_1 | apply IsS74.set_2 | apply IsS74.far (hne := NB277_276.out)) | exact HI277.out)); (case side2 => repeat (first | (with_reducible first | exact HB.out | apply below_alloc | apply pw_below_drewN | apply below_drew1 | refine below_set ?_ (IsS74.ge HI277.out) | refine below_set ?_ GE276.out) | exact HB.out)); rintro e w8 ⟨rfl, hi, hb, hk⟩; refine ⟨_, rfl, ?_⟩; have n0_ := Aside0.mk (KeepBut.blk hk (g' := gb276) (o := .cells #[.int .i64 0, .int .i64 0, .int .i64 0, .int .i64 0] 37 (0, 0)) (q_112) NB276_277.out (by simp)); have n1_ := Aside0.mk (hb); have n2_ := Aside0.mk (hi); clear BK276; clear HB; clear HI277; have BK276 := n0_; have HB := n1_; have HI277 := n2_; clear n0_ n1_ n2_; (try clear hb); (try clear hb2); (try clear hk); (try clear hi)) | ((with_reducible refine gate_callee (f := 50) rfl ?_); refine goesL_ (some 15) rfl rfl Try.func50 (by kernel_rfl) rfl #[.pointer (some ⟨gb277, 0, none⟩), .int .i64 100] rfl (q_5) ?_; (with_reducible refine (spec_l1Cur_pick.calls gb277 l0 t285 t286 100 t287 t288 t289 w _ ?side1 ?side2 A4.out).mono ?_); (case side1 => repeat (first | (with_reducible first | exact HI277.out | apply IsS74.alloc | apply IsS74.drewN | apply IsS74.drew | apply IsS74.set_1 | apply IsS74.set_2 | apply IsS74.far (hne := NB277_276.out)) | exact HI277.out)); (case side2 => repeat (first | (with_reducible first | exact HB.out | apply below_alloc | apply pw_below_drewN | apply below_drew1 | refine below_set ?_ (IsS74.ge HI277.out) | refine below_set ?_ GE276.out) | exact HB.out)); rintro e w9 ⟨rfl, hi, hb, hk⟩; refine ⟨_, rfl, ?_⟩; have n0_ := Aside0.mk (KeepBut.blk hk (g' := gb276) (o := .cells #[.int .i64 0, .int .i64 0, .int .i64 0, .int .i64 0] 37 (0, 0)) (q_112) NB276_277.out (by simp)); have n1_ := Aside0.mk (hb); have n2_ := Aside0.mk (hi); clear BK276; clear HB; clear HI277; have BK276 := n0_; have HB := n1_; have HI277 := n2_; clear n0_ n1_ n2_; (try clear hb); (try clear hb2); (try clear hk); (try clear hi); have hnb10 := NB276_277.out; have hnc10 := NB277_276.out; have hcz11_0 : w9.cell? ⟨gb276, 0, none⟩ = some (.int .i64 0) := (blk_cell BK276.out 0).trans rfl; have hcz11_1 : w9.cell? ⟨gb276, 1, none⟩ = some (.int .i64 0) := (blk_cell BK276.out 1).trans rfl; have hcz11_2 : w9.cell? ⟨gb276, 2, none⟩ = some (.int .i64 0) := (blk_cell BK276.out 2).trans rfl; have hcz11_3 : w9.cell? ⟨gb276, 3, none⟩ = some (.int .i64 0) := (blk_cell BK276.out 3).trans rfl; have hfz11_0 := blk_frozen BK276.out 0; have hfz11_1 := blk_frozen BK276.out 1; have hfz11_2 := blk_frozen BK276.out 2; have hfz11_3 := blk_frozen BK276.out 3))
 refine bodyPost_ret (results_ctt rfl _ _ gb276 37 #[.int .i64 t278, .int .i64 t279, .int .i64 t280, .int .i64 t281] (0, 0) _ rfl (by (with_reducible repeat (first | refine blk_drewN ?_ _ | refine blk_drew ?_ | refine blk_alloc ?_ _)); refine blk_put (cs := #[.int .i64 t278, .int .i64 t279, .int .i64 t280, .int .i64 0]) ?_ 3 _ rfl; (with_reducible repeat (first | refine blk_drewN ?_ _ | refine blk_drew ?_ | refine blk_alloc ?_ _)); refine blk_put (cs := #[.int .i64 t278, .int .i64 t279, .int .i64 0, .int .i64 0]) ?_ 2 _ rfl; (with_reducible repeat (first | refine blk_drewN ?_ _ | refine blk_drew ?_ | refine blk_alloc ?_ _)); refine blk_put (cs := #[.int .i64 t278, .int .i64 0, .int .i64 0, .int .i64 0]) ?_ 1 _ rfl; (with_reducible repeat (first | refine blk_drewN ?_ _ | refine blk_drew ?_ | refine blk_alloc ?_ _)); refine blk_put (cs := #[.int .i64 0, .int .i64 0, .int .i64 0, .int .i64 0]) ?_ 0 _ rfl; (with_reducible repeat (first | refine blk_drewN ?_ _ | refine blk_drew ?_ | refine blk_alloc ?_ _)); exact BK276.out) Try.underlying37 rfl (by kernel_rfl)) rfl ?_
 exact ⟨q_6, by repeat (first | (with_reducible first | exact HB.out | apply below_alloc | apply pw_below_drewN | apply below_drew1 | refine below_set ?_ (IsS74.ge HI277.out) | refine below_set ?_ GE276.out) | exact HB.out)⟩

/-! ### impl_sizeOk: function 69 -/
def impl_sizeOk.f (a0 : Int) : Option (Bool) := (impl_in.f a0 0 1500).bind fun t290 => (some t290)
set_option maxHeartbeats 8000000 in
set_option maxRecDepth 100000 in
theorem impl_sizeOk.calls (a0 : Int) (r : Bool) (w : World) (h : impl_sizeOk.f a0 = some r) :
  Calls Try.prog 69 #[.int .i64 a0] w fun e w' => e = .returned (.bool r) ∧ Drawn0 w w' := by
 have H : ((impl_in.f a0 0 1500).bind fun t290 => (some t290)) = some r := h
 clear h
 replace H := Option.bind_eq_some_iff.mp H
 obtain ⟨t290, A20, H⟩ := H
 replace H : (some t290) = some r := H
 have A2 := Aside0.mk A20
 clear A20
 obtain rfl := Option.some.inj H
 go_enter Try.func69, Try.ntmps69
 go_wp2_with (first | ((with_reducible refine gate_callee (f := 74) rfl ?_); refine goesL_ (some 4) rfl rfl Try.func74 (by kernel_rfl) rfl #[.int .i64 a0, .int .i64 0, .int .i64 1500] rfl (q_5) ?_; (with_reducible refine (impl_in.calls a0 0 1500 t290 _ A2.out).mono ?_); rintro e w' ⟨rfl, ⟨nd, rfl⟩⟩; refine ⟨_, rfl, ?_⟩))
 go_ret
 exact ⟨q_1, q_2⟩

/-! ### impl_isTick: function 70 -/
def impl_isTick.f (a0 : Int) : Option (Bool) := (impl_in.f a0 0 1000000000).bind fun t291 => (some t291)
set_option maxHeartbeats 8000000 in
set_option maxRecDepth 100000 in
theorem impl_isTick.calls (a0 : Int) (r : Bool) (w : World) (h : impl_isTick.f a0 = some r) :
  Calls Try.prog 70 #[.int .i64 a0] w fun e w' => e = .returned (.bool r) ∧ Drawn0 w w' := by
 have H : ((impl_in.f a0 0 1000000000).bind fun t291 => (some t291)) = some r := h
 clear h
 replace H := Option.bind_eq_some_iff.mp H
 obtain ⟨t291, A20, H⟩ := H
 replace H : (some t291) = some r := H
 have A2 := Aside0.mk A20
 clear A20
 obtain rfl := Option.some.inj H
 go_enter Try.func70, Try.ntmps70
 go_wp2_with (first | ((with_reducible refine gate_callee (f := 74) rfl ?_); refine goesL_ (some 4) rfl rfl Try.func74 (by kernel_rfl) rfl #[.int .i64 a0, .int .i64 0, .int .i64 1000000000] rfl (q_5) ?_; (with_reducible refine (impl_in.calls a0 0 1000000000 t291 _ A2.out).mono ?_); rintro e w' ⟨rfl, ⟨nd, rfl⟩⟩; refine ⟨_, rfl, ?_⟩))
 go_ret
 exact ⟨q_1, q_2⟩

/-! ### impl_AckedBytes: function 28 -/
def impl_AckedBytes.j0 : Nat → Int → Int → Bool → Int → Int → Int → Int → Option (Int × Int × Int × Int × Bool)
 | 0, _, _, _, _, _, _, _ => none
 | k + 1, x1, x2, x27, x293000, x293001, x293002, x293003 => if x27 = true then (some (0, 0, 0, 0, false)) else (if x2 > x293002 then (if x293000 ≥ x293001 then (if x293000 = 0 then (none) else (some (mn (wrap64 (x293000 + (wrap64 (Int.tdiv (wrap64 (1200 * x1)) x293000)))) 100000000, x293001, x293002, wrap64 (x293003 - x1), true))) else (some (mn (wrap64 (x293000 + x1)) 100000000, x293001, x293002, wrap64 (x293003 - x1), true))) else (some (x293000, x293001, x293002, wrap64 (x293003 - x1), true)))
def impl_AckedBytes.f (k : Nat) (a0_0 : Int) (a0_1 : Int) (a0_2 : Int) (a0_3 : Int) (a1 : Int) (a2 : Int) : Option (Int × Int × Int × Int × Bool) := (impl_GoodWindow.f a0_0 a0_1 a0_2 a0_3).bind fun t294 => (if t294 = true then ((impl_sizeOk.f a1).bind fun t295 => (if t295 = true then ((impl_isTick.f a2).bind fun t296 => (if t296 = true then (impl_AckedBytes.j0 k a1 a2 (decide (a0_3 < a1)) a0_0 a0_1 a0_2 a0_3) else (impl_AckedBytes.j0 k a1 a2 true a0_0 a0_1 a0_2 a0_3))) else (impl_AckedBytes.j0 k a1 a2 true a0_0 a0_1 a0_2 a0_3))) else (impl_AckedBytes.j0 k a1 a2 true a0_0 a0_1 a0_2 a0_3))
theorem impl_AckedBytes.mono_l : ∀ k, (∀ y0 y1 y2 y3 y4 y5 y6, LeO (impl_AckedBytes.j0 k y0 y1 y2 y3 y4 y5 y6) (impl_AckedBytes.j0 (k + 1) y0 y1 y2 y3 y4 y5 y6))
 | 0 => fun _ _ _ _ _ _ _ r h => by simp [impl_AckedBytes.j0] at h
 | k + 1 => by
  have ih0 := impl_AckedBytes.mono_l k
  ·intro y0 y1 y2 y3 y4 y5 y6
   unfold impl_AckedBytes.j0
   repeat' first
   | (with_reducible exact ih0 _ _ _ _ _ _ _)
   | (with_reducible exact LeO.refl _)
   | (with_reducible exact LeO.none _)
   | (with_reducible refine LeO.ite ?_ ?_)
   | (with_reducible refine LeO.bind ?_ (fun _ => ?_))
   | exact ih0 _ _ _ _ _ _ _
   | exact LeO.none _
   | refine LeO.ite ?_ ?_
   | refine LeO.bind ?_ (fun _ => ?_)
theorem impl_AckedBytes.mono : ∀ a0 a1 a2 a3 a4 a5 k, LeO (impl_AckedBytes.f k a0 a1 a2 a3 a4 a5) (impl_AckedBytes.f (k + 1) a0 a1 a2 a3 a4 a5) := by
 intro a0 a1 a2 a3 a4 a5 k
 have ih0 := impl_AckedBytes.mono_l k
 unfold impl_AckedBytes.f
 repeat' first
   | (with_reducible exact ih0 _ _ _ _ _ _ _)
   | (with_reducible exact LeO.refl _)
   | (with_reducible exact LeO.none _)
   | (with_reducible refine LeO.ite ?_ ?_)
   | (with_reducible refine LeO.bind ?_ (fun _ => ?_))
   | exact ih0 _ _ _ _ _ _ _
   | exact LeO.none _
   | refine LeO.ite ?_ ?_
   | refine LeO.bind ?_ (fun _ => ?_)
set_option maxHeartbeats 8000000 in
set_option maxRecDepth 100000 in
theorem impl_AckedBytes.calls (k : Nat) (a0_0 : Int) (a0_1 : Int) (a0_2 : Int) (a0_3 : Int) (a1 : Int) (a2 : Int) (r1 : Int) (r2 : Int) (r3 : Int) (r4 : Int) (r5 : Bool) (w : World) (h : impl_AckedBytes.f k a0_0 a0_1 a0_2 a0_3 a1 a2 = some (r1, r2, r3, r4, r5)) :
  Calls Try.prog 28 #[.agg #[.int .i64 a0_0, .int .i64 a0_1, .int .i64 a0_2, .int .i64 a0_3], .int .i64 a1, .int .i64 a2] w fun e w' => e = .returned (.tuple #[.agg #[.int .i64 r1, .int .i64 r2, .int .i64 r3, .int .i64 r4], .bool r5]) ∧ Below w.heap.size w w' := by
 have hu37 := Try.underlying37
 have HB := Aside0.mk (Below.refl w.heap.size w)
 have H : ((impl_GoodWindow.f a0_0 a0_1 a0_2 a0_3).bind fun t294 => (if t294 = true then ((impl_sizeOk.f a1).bind fun t295 => (if t295 = true then ((impl_isTick.f a2).bind fun t296 => (if t296 = true then (impl_AckedBytes.j0 k a1 a2 (decide (a0_3 < a1)) a0_0 a0_1 a0_2 a0_3) else (impl_AckedBytes.j0 k a1 a2 true a0_0 a0_1 a0_2 a0_3))) else (impl_AckedBytes.j0 k a1 a2 true a0_0 a0_1 a0_2 a0_3))) else (impl_AckedBytes.j0 k a1 a2 true a0_0 a0_1 a0_2 a0_3))) = some (r1, r2, r3, r4, r5) := h
 clear h
 have HC4 := Aside0.mk H
 clear H
 go_enter Try.func28, Try.ntmps28
 go_upto_region 1 with (first | ((with_reducible refine gate_dst (N := 3) rfl ?_); refine box_event ?hg (N := 3) ?hd (cs := #[.int .i64 a0_0, .int .i64 a0_1, .int .i64 a0_2, .int .i64 a0_3]) (t := 37) ?hr ?_; (case hd => rfl); (case hg => rfl); (case hr => first | (go_simp; done) | (go_simp; rfl)); intro gb292 hg w5 hbox hb; have n0_ := Aside0.mk (below_step (q_3) hb); have n1_ := Aside0.mk (hbox); have n2_ := Aside0.mk ((q_4 : w.heap.size ≤ gb292)); have n3_ := Aside0.mk ((q_4 : w.heap.size ≤ gb292)); clear HB; have HB := n0_; have BK292 := n1_; have GW292 := n2_; have GE292 := n3_; clear n0_ n1_ n2_ n3_; clear hb hbox hg) | ((with_reducible refine gate_dst (N := 6) rfl ?_); refine box_event ?hg (N := 6) ?hd (cs := #[.int .i64 0, .int .i64 0, .int .i64 0, .int .i64 0]) (t := 37) ?hr ?_; (case hd => rfl); (case hg => rfl); (case hr => first | (go_simp; done) | (go_simp; rfl)); intro gb293 hg w6 hbox hb; have n0_ := Aside0.mk (blk_below (g := gb292) (o := .cells #[.int .i64 a0_0, .int .i64 a0_1, .int .i64 a0_2, .int .i64 a0_3] 37 (0, 0)) (q_115) hb); have n1_ := Aside0.mk (below_step (q_116) hb); have n2_ := Aside0.mk (hbox); have n3_ := Aside0.mk ((q_117 : w.heap.size ≤ gb293)); have n4_ := Aside0.mk ((q_117 : w.heap.size ≤ gb293)); have n5_ := Aside0.mk ((by rw [hg]; exact Nat.ne_of_lt (blk_lt (g := gb292) (o := .cells #[.int .i64 a0_0, .int .i64 a0_1, .int .i64 a0_2, .int .i64 a0_3] 37 (0, 0)) (q_115)) : gb292 ≠ gb293)); have n6_ := Aside0.mk ((by rw [hg]; exact Nat.ne_of_gt (blk_lt (g := gb292) (o := .cells #[.int .i64 a0_0, .int .i64 a0_1, .int .i64 a0_2, .int .i64 a0_3] 37 (0, 0)) (q_115)) : gb293 ≠ gb292)); clear BK292; clear HB; have BK292 := n0_; have HB := n1_; have BK293 := n2_; have GW293 := n3_; have GE293 := n4_; have NB292_293 := n5_; have NB293_292 := n6_; clear n0_ n1_ n2_ n3_ n4_ n5_ n6_; clear hb hbox hg))
 (try simp only [Act.put, List.setIfInBounds_toArray, List.set_cons_zero, List.set_cons_succ])
 go_cut [27] (fun v27 wc => ∃ (kq : Nat) (x27_3 : Bool), v27 = .bool x27_3 ∧ Aside0 (impl_AckedBytes.j0 kq a1 a2 x27_3 a0_0 a0_1 a0_2 a0_3 = some (r1, r2, r3, r4, r5)) ∧ Aside0 (kq ≤ k) ∧ Aside0 (wc.heap[gb292]? = some (.cells #[.int .i64 a0_0, .int .i64 a0_1, .int .i64 a0_2, .int .i64 a0_3] 37 (0, 0))) ∧ Aside0 (wc.heap[gb293]? = some (.cells #[.int .i64 0, .int .i64 0, .int .i64 0, .int .i64 0] 37 (0, 0))) ∧ Aside0 (Below w.heap.size w wc))
 case first =>
  have H := HC4.out
  clear HC4
  replace H := Option.bind_eq_some_iff.mp H
  obtain ⟨t294, A70, H⟩ := H
  replace H : (if t294 = true then ((impl_sizeOk.f a1).bind fun t295 => (if t295 = true then ((impl_isTick.f a2).bind fun t296 => (if t296 = true then (impl_AckedBytes.j0 k a1 a2 (decide (a0_3 < a1)) a0_0 a0_1 a0_2 a0_3) else (impl_AckedBytes.j0 k a1 a2 true a0_0 a0_1 a0_2 a0_3))) else (impl_AckedBytes.j0 k a1 a2 true a0_0 a0_1 a0_2 a0_3))) else (impl_AckedBytes.j0 k a1 a2 true a0_0 a0_1 a0_2 a0_3)) = some (r1, r2, r3, r4, r5) := H
  have A7 := Aside0.mk A70
  clear A70
  by_cases c8 : t294 = true
  ·subst c8
   have H1 : ((impl_sizeOk.f a1).bind fun t295 => (if t295 = true then ((impl_isTick.f a2).bind fun t296 => (if t296 = true then (impl_AckedBytes.j0 k a1 a2 (decide (a0_3 < a1)) a0_0 a0_1 a0_2 a0_3) else (impl_AckedBytes.j0 k a1 a2 true a0_0 a0_1 a0_2 a0_3))) else (impl_AckedBytes.j0 k a1 a2 true a0_0 a0_1 a0_2 a0_3))) = some (r1, r2, r3, r4, r5) := by rw [if_pos rfl] at H; exact H
   clear H
   have H := H1
   clear H1
   replace H := Option.bind_eq_some_iff.mp H
   obtain ⟨t295, A90, H⟩ := H
   replace H : (if t295 = true then ((impl_isTick.f a2).bind fun t296 => (if t296 = true then (impl_AckedBytes.j0 k a1 a2 (decide (a0_3 < a1)) a0_0 a0_1 a0_2 a0_3) else (impl_AckedBytes.j0 k a1 a2 true a0_0 a0_1 a0_2 a0_3))) else (impl_AckedBytes.j0 k a1 a2 true a0_0 a0_1 a0_2 a0_3)) = some (r1, r2, r3, r4, r5) := H
   have A9 := Aside0.mk A90
   clear A90
   by_cases c10 : t295 = true
   ·subst c10
    have H1 : ((impl_isTick.f a2).bind fun t296 => (if t296 = true then (impl_AckedBytes.j0 k a1 a2 (decide (a0_3 < a1)) a0_0 a0_1 a0_2 a0_3) else (impl_AckedBytes.j0 k a1 a2 true a0_0 a0_1 a0_2 a0_3))) = some (r1, r2, r3, r4, r5) := by rw [if_pos rfl] at H; exact H
    clear H
    have H := H1
    clear H1
    replace H := Option.bind_eq_some_iff.mp H
    obtain ⟨t296, A110, H⟩ := H
    replace H : (if t296 = true then (impl_AckedBytes.j0 k a1 a2 (decide (a0_3 < a1)) a0_0 a0_1 a0_2 a0_3) else (impl_AckedBytes.j0 k a1 a2 true a0_0 a0_1 a0_2 a0_3)) = some (r1, r2, r3, r4, r5) := H
    have A11 := Aside0.mk A110
    clear A110
    by_cases c12 : t296 = true
    ·subst c12
     have H1 : (impl_AckedBytes.j0 k a1 a2 (decide (a0_3 < a1)) a0_0 a0_1 a0_2 a0_3) = some (r1, r2, r3, r4, r5) := by rw [if_pos rfl] at H; exact H
     clear H
     have H := H1
     clear H1
     have H' := Aside0.mk H
     clear H
     have hnb13 := NB292_293.out
     have hnc13 := NB293_292.out
     have hcz14_0 : w6.cell? ⟨gb292, 0, none⟩ = some (.int .i64 a0_0) := (blk_cell BK292.out 0).trans rfl
     have hcz14_1 : w6.cell? ⟨gb292, 1, none⟩ = some (.int .i64 a0_1) := (blk_cell BK292.out 1).trans rfl
     have hcz14_2 : w6.cell? ⟨gb292, 2, none⟩ = some (.int .i64 a0_2) := (blk_cell BK292.out 2).trans rfl
     have hcz14_3 : w6.cell? ⟨gb292, 3, none⟩ = some (.int .i64 a0_3) := (blk_cell BK292.out 3).trans rfl
     have hfz14_0 := blk_frozen BK292.out 0
     have hfz14_1 := blk_frozen BK292.out 1
     have hfz14_2 := blk_frozen BK292.out 2
     have hfz14_3 := blk_frozen BK292.out 3
     go_wp2_with (first | ((with_reducible refine gate_callee (f := 21) rfl ?_); refine goesL_ (some 10) rfl rfl Try.func21 (by kernel_rfl) rfl #[.agg #[.int .i64 a0_0, .int .i64 a0_1, .int .i64 a0_2, .int .i64 a0_3]] rfl (q_5) ?_; (with_reducible refine (impl_GoodWindow.calls a0_0 a0_1 a0_2 a0_3 true _ A7.out).mono ?_); rintro e w15 ⟨rfl, hb⟩; refine ⟨_, rfl, ?_⟩; have n0_ := Aside0.mk (blk_below (g := gb292) (o := .cells #[.int .i64 a0_0, .int .i64 a0_1, .int .i64 a0_2, .int .i64 a0_3] 37 (0, 0)) (q_115) hb); have n1_ := Aside0.mk (blk_below (g := gb293) (o := .cells #[.int .i64 0, .int .i64 0, .int .i64 0, .int .i64 0] 37 (0, 0)) (q_118) hb); have n2_ := Aside0.mk (below_step (q_119) hb); clear BK292; clear BK293; clear HB; have BK292 := n0_; have BK293 := n1_; have HB := n2_; clear n0_ n1_ n2_; (try clear hb); (try clear hb2); (try clear hk); (try clear hi)) | (go_at_call 69; (with_reducible refine (impl_sizeOk.calls a1 true _ A9.out).mono ?_); rintro e w' ⟨rfl, ⟨nd, rfl⟩⟩) | (go_at_call 70; (with_reducible refine (impl_isTick.calls a2 true _ A11.out).mono ?_); rintro e w' ⟨rfl, ⟨nd, rfl⟩⟩; have hcz16_0 : w15.cell? ⟨gb292, 0, none⟩ = some (.int .i64 a0_0) := (blk_cell BK292.out 0).trans rfl; have hcz16_1 : w15.cell? ⟨gb292, 1, none⟩ = some (.int .i64 a0_1) := (blk_cell BK292.out 1).trans rfl; have hcz16_2 : w15.cell? ⟨gb292, 2, none⟩ = some (.int .i64 a0_2) := (blk_cell BK292.out 2).trans rfl; have hcz16_3 : w15.cell? ⟨gb292, 3, none⟩ = some (.int .i64 a0_3) := (blk_cell BK292.out 3).trans rfl; have hfz16_0 := blk_frozen BK292.out 0; have hfz16_1 := blk_frozen BK292.out 1; have hfz16_2 := blk_frozen BK292.out 2; have hfz16_3 := blk_frozen BK292.out 3))
     go_meet
     case rel => exact ⟨_, (decide (a0_3 < a1)), (q_1), H', ⟨q_18⟩, ⟨q_115⟩, ⟨q_118⟩, ⟨q_119⟩⟩
    ·replace c12 := Bool.eq_false_iff.mpr c12
     subst c12
     have H1 : (impl_AckedBytes.j0 k a1 a2 true a0_0 a0_1 a0_2 a0_3) = some (r1, r2, r3, r4, r5) := by rw [if_neg (show ¬ (false = true) by decide)] at H; exact H
     clear H
     have H := H1
     clear H1
     have H' := Aside0.mk H
     clear H
     have hnb17 := NB292_293.out
     have hnc17 := NB293_292.out
     have hcz18_0 : w6.cell? ⟨gb292, 0, none⟩ = some (.int .i64 a0_0) := (blk_cell BK292.out 0).trans rfl
     have hcz18_1 : w6.cell? ⟨gb292, 1, none⟩ = some (.int .i64 a0_1) := (blk_cell BK292.out 1).trans rfl
     have hcz18_2 : w6.cell? ⟨gb292, 2, none⟩ = some (.int .i64 a0_2) := (blk_cell BK292.out 2).trans rfl
     have hcz18_3 : w6.cell? ⟨gb292, 3, none⟩ = some (.int .i64 a0_3) := (blk_cell BK292.out 3).trans rfl
     have hfz18_0 := blk_frozen BK292.out 0
     have hfz18_1 := blk_frozen BK292.out 1
     have hfz18_2 := blk_frozen BK292.out 2
     have hfz18_3 := blk_frozen BK292.out 3
     go_wp2_with (first | ((with_reducible refine gate_callee (f := 21) rfl ?_); refine goesL_ (some 10) rfl rfl Try.func21 (by kernel_rfl) rfl #[.agg #[.int .i64 a0_0, .int .i64 a0_1, .int .i64 a0_2, .int .i64 a0_3]] rfl (q_5) ?_; (with_reducible refine (impl_GoodWindow.calls a0_0 a0_1 a0_2 a0_3 true _ A7.out).mono ?_); rintro e w19 ⟨rfl, hb⟩; refine ⟨_, rfl, ?_⟩; have n0_ := Aside0.mk (blk_below (g := gb292) (o := .cells #[.int .i64 a0_0, .int .i64 a0_1, .int .i64 a0_2, .int .i64 a0_3] 37 (0, 0)) (q_115) hb); have n1_ := Aside0.mk (blk_below (g := gb293) (o := .cells #[.int .i64 0, .int .i64 0, .int .i64 0, .int .i64 0] 37 (0, 0)) (q_118) hb); have n2_ := Aside0.mk (below_step (q_119) hb); clear BK292; clear BK293; clear HB; have BK292 := n0_; have BK293 := n1_; have HB := n2_; clear n0_ n1_ n2_; (try clear hb); (try clear hb2); (try clear hk); (try clear hi)) | (go_at_call 69; (with_reducible refine (impl_sizeOk.calls a1 true _ A9.out).mono ?_); rintro e w' ⟨rfl, ⟨nd, rfl⟩⟩) | (go_at_call 70; (with_reducible refine (impl_isTick.calls a2 false _ A11.out).mono ?_); rintro e w' ⟨rfl, ⟨nd, rfl⟩⟩))
     go_meet
     case rel => exact ⟨_, (true), (q_1), H', ⟨q_18⟩, ⟨q_115⟩, ⟨q_118⟩, ⟨q_119⟩⟩
   ·replace c10 := Bool.eq_false_iff.mpr c10
    subst c10
    have H1 : (impl_AckedBytes.j0 k a1 a2 true a0_0 a0_1 a0_2 a0_3) = some (r1, r2, r3, r4, r5) := by rw [if_neg (show ¬ (false = true) by decide)] at H; exact H
    clear H
    have H := H1
    clear H1
    have H' := Aside0.mk H
    clear H
    have hnb20 := NB292_293.out
    have hnc20 := NB293_292.out
    have hcz21_0 : w6.cell? ⟨gb292, 0, none⟩ = some (.int .i64 a0_0) := (blk_cell BK292.out 0).trans rfl
    have hcz21_1 : w6.cell? ⟨gb292, 1, none⟩ = some (.int .i64 a0_1) := (blk_cell BK292.out 1).trans rfl
    have hcz21_2 : w6.cell? ⟨gb292, 2, none⟩ = some (.int .i64 a0_2) := (blk_cell BK292.out 2).trans rfl
    have hcz21_3 : w6.cell? ⟨gb292, 3, none⟩ = some (.int .i64 a0_3) := (blk_cell BK292.out 3).trans rfl
    have hfz21_0 := blk_frozen BK292.out 0
    have hfz21_1 := blk_frozen BK292.out 1
    have hfz21_2 := blk_frozen BK292.out 2
    have hfz21_3 := blk_frozen BK292.out 3
    go_wp2_with (first | ((with_reducible refine gate_callee (f := 21) rfl ?_); refine goesL_ (some 10) rfl rfl Try.func21 (by kernel_rfl) rfl #[.agg #[.int .i64 a0_0, .int .i64 a0_1, .int .i64 a0_2, .int .i64 a0_3]] rfl (q_5) ?_; (with_reducible refine (impl_GoodWindow.calls a0_0 a0_1 a0_2 a0_3 true _ A7.out).mono ?_); rintro e w22 ⟨rfl, hb⟩; refine ⟨_, rfl, ?_⟩; have n0_ := Aside0.mk (blk_below (g := gb292) (o := .cells #[.int .i64 a0_0, .int .i64 a0_1, .int .i64 a0_2, .int .i64 a0_3] 37 (0, 0)) (q_115) hb); have n1_ := Aside0.mk (blk_below (g := gb293) (o := .cells #[.int .i64 0, .int .i64 0, .int .i64 0, .int .i64 0] 37 (0, 0)) (q_118) hb); have n2_ := Aside0.mk (below_step (q_119) hb); clear BK292; clear BK293; clear HB; have BK292 := n0_; have BK293 := n1_; have HB := n2_; clear n0_ n1_ n2_; (try clear hb); (try clear hb2); (try clear hk); (try clear hi)) | (go_at_call 69; (with_reducible refine (impl_sizeOk.calls a1 false _ A9.out).mono ?_); rintro e w' ⟨rfl, ⟨nd, rfl⟩⟩))
    go_meet
    case rel => exact ⟨_, (true), (q_1), H', ⟨q_18⟩, ⟨q_115⟩, ⟨q_118⟩, ⟨q_119⟩⟩
  ·replace c8 := Bool.eq_false_iff.mpr c8
   subst c8
   have H1 : (impl_AckedBytes.j0 k a1 a2 true a0_0 a0_1 a0_2 a0_3) = some (r1, r2, r3, r4, r5) := by rw [if_neg (show ¬ (false = true) by decide)] at H; exact H
   clear H
   have H := H1
   clear H1
   have H' := Aside0.mk H
   clear H
   have hnb23 := NB292_293.out
   have hnc23 := NB293_292.out
   have hcz24_0 : w6.cell? ⟨gb292, 0, none⟩ = some (.int .i64 a0_0) := (blk_cell BK292.out 0).trans rfl
   have hcz24_1 : w6.cell? ⟨gb292, 1, none⟩ = some (.int .i64 a0_1) := (blk_cell BK292.out 1).trans rfl
   have hcz24_2 : w6.cell? ⟨gb292, 2, none⟩ = some (.int .i64 a0_2) := (blk_cell BK292.out 2).trans rfl
   have hcz24_3 : w6.cell? ⟨gb292, 3, none⟩ = some (.int .i64 a0_3) := (blk_cell BK292.out 3).trans rfl
   have hfz24_0 := blk_frozen BK292.out 0
   have hfz24_1 := blk_frozen BK292.out 1
   have hfz24_2 := blk_frozen BK292.out 2
   have hfz24_3 := blk_frozen BK292.out 3
   go_wp2_with (first | ((with_reducible refine gate_callee (f := 21) rfl ?_); refine goesL_ (some 10) rfl rfl Try.func21 (by kernel_rfl) rfl #[.agg #[.int .i64 a0_0, .int .i64 a0_1, .int .i64 a0_2, .int .i64 a0_3]] rfl (q_5) ?_; (with_reducible refine (impl_GoodWindow.calls a0_0 a0_1 a0_2 a0_3 false _ A7.out).mono ?_); rintro e w25 ⟨rfl, hb⟩; refine ⟨_, rfl, ?_⟩; have n0_ := Aside0.mk (blk_below (g := gb292) (o := .cells #[.int .i64 a0_0, .int .i64 a0_1, .int .i64 a0_2, .int .i64 a0_3] 37 (0, 0)) (q_115) hb); have n1_ := Aside0.mk (blk_below (g := gb293) (o := .cells #[.int .i64 0, .int .i64 0, .int .i64 0, .int .i64 0] 37 (0, 0)) (q_118) hb); have n2_ := Aside0.mk (below_step (q_119) hb); clear BK292; clear BK293; clear HB; have BK292 := n0_; have BK293 := n1_; have HB := n2_; clear n0_ n1_ n2_; (try clear hb); (try clear hb2); (try clear hk); (try clear hi)))
   go_meet
   case rel => exact ⟨_, (true), (q_1), H', ⟨q_18⟩, ⟨q_115⟩, ⟨q_118⟩, ⟨q_119⟩⟩
 case rest =>
  clear HC4
  try clear c1; try clear c2; try clear p2; try clear c8; try clear c10; try clear c12; try clear c13; try clear c17; try clear c20; try clear c21; try clear c23; try clear hcz14_0; try clear hcz14_1; try clear hcz14_2; try clear hcz14_3; try clear hcz16_0; try clear hcz16_1; try clear hcz16_2; try clear hcz16_3; try clear hcz18_0; try clear hcz18_1; try clear hcz18_2; try clear hcz18_3; try clear hcz21_0; try clear hcz21_1; try clear hcz21_2; try clear hcz21_3; try clear hcz24_0; try clear hcz24_1; try clear hcz24_2; try clear hcz24_3; try clear hfz14_0; try clear hfz14_1; try clear hfz14_2; try clear hfz14_3; try clear hfz16_0; try clear hfz16_1; try clear hfz16_2; try clear hfz16_3; try clear hfz18_0; try clear hfz18_1; try clear hfz18_2; try clear hfz18_3; try clear hfz21_0; try clear hfz21_1; try clear hfz21_2; try clear hfz21_3; try clear hfz24_0; try clear hfz24_1; try clear hfz24_2; try clear hfz24_3
  obtain ⟨kq, x27_3, rfl, HA, HJ3, BK292, BK293, HB⟩ := hcut
  cases kq with
  | zero => exact absurd HA.out (by simp [impl_AckedBytes.j0])
  | succ kj3 =>
   have H := HA.out
   clear HA
   simp only [impl_AckedBytes.j0] at H
   by_cases c26 : x27_3 = true
   ·subst c26
    have H1 : (some (0, 0, 0, 0, false)) = some (r1, r2, r3, r4, r5) := by rw [if_pos rfl] at H; exact H
    clear H
    have H := H1
    clear H1
    simp only [Option.some.injEq, Prod.mk.injEq] at H
    obtain ⟨rfl, rfl, rfl, rfl, rfl⟩ := H
    have hnb27 := NB293_292.out
    have hnc27 := NB292_293.out
    have hcz28_0 : wc.cell? ⟨gb293, 0, none⟩ = some (.int .i64 0) := (blk_cell BK293.out 0).trans rfl
    have hcz28_1 : wc.cell? ⟨gb293, 1, none⟩ = some (.int .i64 0) := (blk_cell BK293.out 1).trans rfl
    have hcz28_2 : wc.cell? ⟨gb293, 2, none⟩ = some (.int .i64 0) := (blk_cell BK293.out 2).trans rfl
    have hcz28_3 : wc.cell? ⟨gb293, 3, none⟩ = some (.int .i64 0) := (blk_cell BK293.out 3).trans rfl
    have hfz28_0 := blk_frozen BK293.out 0
    have hfz28_1 := blk_frozen BK293.out 1
    have hfz28_2 := blk_frozen BK293.out 2
    have hfz28_3 := blk_frozen BK293.out 3
    go_wp2
    refine bodyPost_ret (results_ct rfl _ _ gb293 37 #[.int .i64 0, .int .i64 0, .int .i64 0, .int .i64 0] (0, 0) _ rfl (by (with_reducible repeat (first | refine blk_drewN ?_ _ | refine blk_drew ?_ | refine blk_alloc ?_ _)); refine blk_put (cs := #[.int .i64 0, .int .i64 0, .int .i64 0, .int .i64 0]) ?_ 3 _ rfl; (with_reducible repeat (first | refine blk_drewN ?_ _ | refine blk_drew ?_ | refine blk_alloc ?_ _)); refine blk_put (cs := #[.int .i64 0, .int .i64 0, .int .i64 0, .int .i64 0]) ?_ 2 _ rfl; (with_reducible repeat (first | refine blk_drewN ?_ _ | refine blk_drew ?_ | refine blk_alloc ?_ _)); refine blk_put (cs := #[.int .i64 0, .int .i64 0, .int .i64 0, .int .i64 0]) ?_ 1 _ rfl; (with_reducible repeat (first | refine blk_drewN ?_ _ | refine blk_drew ?_ | refine blk_alloc ?_ _)); refine blk_put (cs := #[.int .i64 0, .int .i64 0, .int .i64 0, .int .i64 0]) ?_ 0 _ rfl; (with_reducible repeat (first | refine blk_drewN ?_ _ | refine blk_drew ?_ | refine blk_alloc ?_ _)); exact BK293.out) Try.underlying37 rfl (by kernel_rfl)) rfl ?_
    exact ⟨q_6, q_119⟩
   ·replace c26 := Bool.eq_false_iff.mpr c26
    subst c26
    have H1 : (if a2 > a0_2 then (if a0_0 ≥ a0_1 then (if a0_0 = 0 then (none) else (some (mn (wrap64 (a0_0 + (wrap64 (Int.tdiv (wrap64 (1200 * a1)) a0_0)))) 100000000, a0_1, a0_2, wrap64 (a0_3 - a1), true))) else (some (mn (wrap64 (a0_0 + a1)) 100000000, a0_1, a0_2, wrap64 (a0_3 - a1), true))) else (some (a0_0, a0_1, a0_2, wrap64 (a0_3 - a1), true))) = some (r1, r2, r3, r4, r5) := by rw [if_neg (show ¬ (false = true) by decide)] at H; exact H
    clear H
    have H := H1
    clear H1
    by_cases c29 : a2 > a0_2
    ·rw [if_pos c29] at H
     have c29b0 : decide (a0_2 < a2) = true := decide_eq_true c29
     clear c29
     by_cases c30 : a0_0 ≥ a0_1
     ·rw [if_pos c30] at H
      have c30b0 : decide (a0_1 ≤ a0_0) = true := decide_eq_true c30
      clear c30
      by_cases c31 : a0_0 = 0
      ·rw [if_pos c31] at H
       exact absurd H (by simp)
      ·rw [if_neg c31] at H
       have c31b0 : (a0_0 == 0) = false := beq_eq_false_iff_ne.mpr c31
       have c31b1 : (a0_0 != 0) = true := bne_iff_ne.mpr c31
       obtain ⟨ji32, hji32⟩ : ∃ j_ : Int, (mn (wrap64 (a0_0 + (wrap64 (Int.tdiv (wrap64 (1200 * a1)) a0_0)))) 100000000) = j_ := ⟨_, rfl⟩
       replace H : (some (ji32, a0_1, a0_2, wrap64 (a0_3 - a1), true)) = some (r1, r2, r3, r4, r5) := by first | (rw [hji32] at H; exact H) | (simp only [hji32] at H ⊢; exact H)
       have hji32_ : (if 100000000 < (wrap64 (a0_0 + (wrap64 (Int.tdiv (wrap64 (1200 * a1)) a0_0)))) then 100000000 else (wrap64 (a0_0 + (wrap64 (Int.tdiv (wrap64 (1200 * a1)) a0_0))))) = ji32 := hji32
       simp only [Option.some.injEq, Prod.mk.injEq] at H
       obtain ⟨rfl, rfl, rfl, rfl, rfl⟩ := H
       have hnb33 := NB292_293.out
       have hnc33 := NB293_292.out
       have hcz34_0 : wc.cell? ⟨gb292, 0, none⟩ = some (.int .i64 a0_0) := (blk_cell BK292.out 0).trans rfl
       have hcz34_1 : wc.cell? ⟨gb292, 1, none⟩ = some (.int .i64 a0_1) := (blk_cell BK292.out 1).trans rfl
       have hcz34_2 : wc.cell? ⟨gb292, 2, none⟩ = some (.int .i64 a0_2) := (blk_cell BK292.out 2).trans rfl
       have hcz34_3 : wc.cell? ⟨gb292, 3, none⟩ = some (.int .i64 a0_3) := (blk_cell BK292.out 3).trans rfl
       have hfz34_0 := blk_frozen BK292.out 0
       have hfz34_1 := blk_frozen BK292.out 1
       have hfz34_2 := blk_frozen BK292.out 2
       have hfz34_3 := blk_frozen BK292.out 3
       have hcz35_0 : wc.cell? ⟨gb293, 0, none⟩ = some (.int .i64 0) := (blk_cell BK293.out 0).trans rfl
       have hcz35_1 : wc.cell? ⟨gb293, 1, none⟩ = some (.int .i64 0) := (blk_cell BK293.out 1).trans rfl
       have hcz35_2 : wc.cell? ⟨gb293, 2, none⟩ = some (.int .i64 0) := (blk_cell BK293.out 2).trans rfl
       have hcz35_3 : wc.cell? ⟨gb293, 3, none⟩ = some (.int .i64 0) := (blk_cell BK293.out 3).trans rfl
       have hfz35_0 := blk_frozen BK293.out 0
       have hfz35_1 := blk_frozen BK293.out 1
       have hfz35_2 := blk_frozen BK293.out 2
       have hfz35_3 := blk_frozen BK293.out 3
       go_wp2
       refine bodyPost_ret (results_ct rfl _ _ gb293 37 #[.int .i64 ji32, .int .i64 a0_1, .int .i64 a0_2, .int .i64 (wrap64 (a0_3 - a1))] (0, 0) _ rfl (by (with_reducible repeat (first | refine blk_drewN ?_ _ | refine blk_drew ?_ | refine blk_alloc ?_ _)); refine blk_put (cs := #[.int .i64 ji32, .int .i64 a0_1, .int .i64 a0_2, .int .i64 0]) ?_ 3 _ rfl; (with_reducible repeat (first | refine blk_drewN ?_ _ | refine blk_drew ?_ | refine blk_alloc ?_ _)); refine blk_put (cs := #[.int .i64 ji32, .int .i64 a0_1, .int .i64 0, .int .i64 0]) ?_ 2 _ rfl; (with_reducible repeat (first | refine blk_drewN ?_ _ | refine blk_drew ?_ | refine blk_alloc ?_ _)); refine blk_put (cs := #[.int .i64 ji32, .int .i64 0, .int .i64 0, .int .i64 0]) ?_ 1 _ rfl; (with_reducible repeat (first | refine blk_drewN ?_ _ | refine blk_drew ?_ | refine blk_alloc ?_ _)); refine blk_put (cs := #[.int .i64 0, .int .i64 0, .int .i64 0, .int .i64 0]) ?_ 0 _ rfl; (with_reducible repeat (first | refine blk_drewN ?_ _ | refine blk_drew ?_ | refine blk_alloc ?_ _)); refine blk_far ?_ NB293_292.out _; (with_reducible repeat (first | refine blk_drewN ?_ _ | refine blk_drew ?_ | refine blk_alloc ?_ _)); refine blk_far ?_ NB293_292.out _; (with_reducible repeat (first | refine blk_drewN ?_ _ | refine blk_drew ?_ | refine blk_alloc ?_ _)); exact BK293.out) Try.underlying37 rfl (by kernel_rfl)) rfl ?_
       exact ⟨by first | rfl | (simp [errW_none, errW_some] <;> rfl) | (simp only [← hji32]; first | rfl | (simp [errW_none, errW_some] <;> rfl)) | (simp [*, errW_none, errW_some] <;> rfl), q_119⟩
     ·rw [if_neg c30] at H
      have c30b0 : decide (a0_1 ≤ a0_0) = false := decide_eq_false c30
      clear c30
      obtain ⟨ji36, hji36⟩ : ∃ j_ : Int, (mn (wrap64 (a0_0 + a1)) 100000000) = j_ := ⟨_, rfl⟩
      replace H : (some (ji36, a0_1, a0_2, wrap64 (a0_3 - a1), true)) = some (r1, r2, r3, r4, r5) := by first | (rw [hji36] at H; exact H) | (simp only [hji36] at H ⊢; exact H)
      have hji36_ : (if 100000000 < (wrap64 (a0_0 + a1)) then 100000000 else (wrap64 (a0_0 + a1))) = ji36 := hji36
      simp only [Option.some.injEq, Prod.mk.injEq] at H
      obtain ⟨rfl, rfl, rfl, rfl, rfl⟩ := H
      have hnb37 := NB292_293.out
      have hnc37 := NB293_292.out
      have hcz38_0 : wc.cell? ⟨gb292, 0, none⟩ = some (.int .i64 a0_0) := (blk_cell BK292.out 0).trans rfl
      have hcz38_1 : wc.cell? ⟨gb292, 1, none⟩ = some (.int .i64 a0_1) := (blk_cell BK292.out 1).trans rfl
      have hcz38_2 : wc.cell? ⟨gb292, 2, none⟩ = some (.int .i64 a0_2) := (blk_cell BK292.out 2).trans rfl
      have hcz38_3 : wc.cell? ⟨gb292, 3, none⟩ = some (.int .i64 a0_3) := (blk_cell BK292.out 3).trans rfl
      have hfz38_0 := blk_frozen BK292.out 0
      have hfz38_1 := blk_frozen BK292.out 1
      have hfz38_2 := blk_frozen BK292.out 2
      have hfz38_3 := blk_frozen BK292.out 3
      have hcz39_0 : wc.cell? ⟨gb293, 0, none⟩ = some (.int .i64 0) := (blk_cell BK293.out 0).trans rfl
      have hcz39_1 : wc.cell? ⟨gb293, 1, none⟩ = some (.int .i64 0) := (blk_cell BK293.out 1).trans rfl
      have hcz39_2 : wc.cell? ⟨gb293, 2, none⟩ = some (.int .i64 0) := (blk_cell BK293.out 2).trans rfl
      have hcz39_3 : wc.cell? ⟨gb293, 3, none⟩ = some (.int .i64 0) := (blk_cell BK293.out 3).trans rfl
      have hfz39_0 := blk_frozen BK293.out 0
      have hfz39_1 := blk_frozen BK293.out 1
      have hfz39_2 := blk_frozen BK293.out 2
      have hfz39_3 := blk_frozen BK293.out 3
      go_wp2
      refine bodyPost_ret (results_ct rfl _ _ gb293 37 #[.int .i64 ji36, .int .i64 a0_1, .int .i64 a0_2, .int .i64 (wrap64 (a0_3 - a1))] (0, 0) _ rfl (by (with_reducible repeat (first | refine blk_drewN ?_ _ | refine blk_drew ?_ | refine blk_alloc ?_ _)); refine blk_put (cs := #[.int .i64 ji36, .int .i64 a0_1, .int .i64 a0_2, .int .i64 0]) ?_ 3 _ rfl; (with_reducible repeat (first | refine blk_drewN ?_ _ | refine blk_drew ?_ | refine blk_alloc ?_ _)); refine blk_put (cs := #[.int .i64 ji36, .int .i64 a0_1, .int .i64 0, .int .i64 0]) ?_ 2 _ rfl; (with_reducible repeat (first | refine blk_drewN ?_ _ | refine blk_drew ?_ | refine blk_alloc ?_ _)); refine blk_put (cs := #[.int .i64 ji36, .int .i64 0, .int .i64 0, .int .i64 0]) ?_ 1 _ rfl; (with_reducible repeat (first | refine blk_drewN ?_ _ | refine blk_drew ?_ | refine blk_alloc ?_ _)); refine blk_put (cs := #[.int .i64 0, .int .i64 0, .int .i64 0, .int .i64 0]) ?_ 0 _ rfl; (with_reducible repeat (first | refine blk_drewN ?_ _ | refine blk_drew ?_ | refine blk_alloc ?_ _)); refine blk_far ?_ NB293_292.out _; (with_reducible repeat (first | refine blk_drewN ?_ _ | refine blk_drew ?_ | refine blk_alloc ?_ _)); refine blk_far ?_ NB293_292.out _; (with_reducible repeat (first | refine blk_drewN ?_ _ | refine blk_drew ?_ | refine blk_alloc ?_ _)); exact BK293.out) Try.underlying37 rfl (by kernel_rfl)) rfl ?_
      exact ⟨q_120, q_119⟩
    ·rw [if_neg c29] at H
     have c29b0 : decide (a0_2 < a2) = false := decide_eq_false c29
     clear c29
     simp only [Option.some.injEq, Prod.mk.injEq] at H
     obtain ⟨rfl, rfl, rfl, rfl, rfl⟩ := H
     have hnb40 := NB292_293.out
     have hnc40 := NB293_292.out
     have hcz41_0 : wc.cell? ⟨gb292, 0, none⟩ = some (.int .i64 a0_0) := (blk_cell BK292.out 0).trans rfl
     have hcz41_1 : wc.cell? ⟨gb292, 1, none⟩ = some (.int .i64 a0_1) := (blk_cell BK292.out 1).trans rfl
     have hcz41_2 : wc.cell? ⟨gb292, 2, none⟩ = some (.int .i64 a0_2) := (blk_cell BK292.out 2).trans rfl
     have hcz41_3 : wc.cell? ⟨gb292, 3, none⟩ = some (.int .i64 a0_3) := (blk_cell BK292.out 3).trans rfl
     have hfz41_0 := blk_frozen BK292.out 0
     have hfz41_1 := blk_frozen BK292.out 1
     have hfz41_2 := blk_frozen BK292.out 2
     have hfz41_3 := blk_frozen BK292.out 3
     have hcz42_0 : wc.cell? ⟨gb293, 0, none⟩ = some (.int .i64 0) := (blk_cell BK293.out 0).trans rfl
     have hcz42_1 : wc.cell? ⟨gb293, 1, none⟩ = some (.int .i64 0) := (blk_cell BK293.out 1).trans rfl
     have hcz42_2 : wc.cell? ⟨gb293, 2, none⟩ = some (.int .i64 0) := (blk_cell BK293.out 2).trans rfl
     have hcz42_3 : wc.cell? ⟨gb293, 3, none⟩ = some (.int .i64 0) := (blk_cell BK293.out 3).trans rfl
     have hfz42_0 := blk_frozen BK293.out 0
     have hfz42_1 := blk_frozen BK293.out 1
     have hfz42_2 := blk_frozen BK293.out 2
     have hfz42_3 := blk_frozen BK293.out 3
     go_wp2
     refine bodyPost_ret (results_ct rfl _ _ gb293 37 #[.int .i64 a0_0, .int .i64 a0_1, .int .i64 a0_2, .int .i64 (wrap64 (a0_3 - a1))] (0, 0) _ rfl (by (with_reducible repeat (first | refine blk_drewN ?_ _ | refine blk_drew ?_ | refine blk_alloc ?_ _)); refine blk_put (cs := #[.int .i64 a0_0, .int .i64 a0_1, .int .i64 a0_2, .int .i64 0]) ?_ 3 _ rfl; (with_reducible repeat (first | refine blk_drewN ?_ _ | refine blk_drew ?_ | refine blk_alloc ?_ _)); refine blk_put (cs := #[.int .i64 a0_0, .int .i64 a0_1, .int .i64 0, .int .i64 0]) ?_ 2 _ rfl; (with_reducible repeat (first | refine blk_drewN ?_ _ | refine blk_drew ?_ | refine blk_alloc ?_ _)); refine blk_put (cs := #[.int .i64 a0_0, .int .i64 0, .int .i64 0, .int .i64 0]) ?_ 1 _ rfl; (with_reducible repeat (first | refine blk_drewN ?_ _ | refine blk_drew ?_ | refine blk_alloc ?_ _)); refine blk_put (cs := #[.int .i64 0, .int .i64 0, .int .i64 0, .int .i64 0]) ?_ 0 _ rfl; (with_reducible repeat (first | refine blk_drewN ?_ _ | refine blk_drew ?_ | refine blk_alloc ?_ _)); refine blk_far ?_ NB293_292.out _; (with_reducible repeat (first | refine blk_drewN ?_ _ | refine blk_drew ?_ | refine blk_alloc ?_ _)); exact BK293.out) Try.underlying37 rfl (by kernel_rfl)) rfl ?_
     exact ⟨q_6, q_119⟩

/-! ### spec_DrawPlayWindow: function 30 -/
def spec_DrawPlayWindow.f (k : Nat) (l0 : List Int) : Option ((List (S100))) := (spec_l1Cur_grows.f k l0 0 0).bind fun bt298 => (some bt298.1)
theorem spec_DrawPlayWindow.mono : ∀ a0 k, LeO (spec_DrawPlayWindow.f k a0) (spec_DrawPlayWindow.f (k + 1) a0) := by
 intro a0 k
 unfold spec_DrawPlayWindow.f
 repeat' first
   | (with_reducible exact spec_l1Cur_grows.mono _ _ _ _)
   | (with_reducible exact LeO.refl _)
   | (with_reducible exact LeO.none _)
   | (with_reducible refine LeO.ite ?_ ?_)
   | (with_reducible refine LeO.bind ?_ (fun _ => ?_))
   | exact spec_l1Cur_grows.mono _ _ _ _
   | exact LeO.none _
   | refine LeO.ite ?_ ?_
   | refine LeO.bind ?_ (fun _ => ?_)
set_option maxHeartbeats 8000000 in
set_option maxRecDepth 100000 in
theorem spec_DrawPlayWindow.calls (k : Nat) (A0 : Option Addr) (c0 : Nat) (l0 : List Int) (r : List (S100)) (w : World) (hr0 : Kd.C (Kd.int .u8) w A0 l0.length l0) (hc0 : l0.length ≤ c0) (h : spec_DrawPlayWindow.f k l0 = some r) :
  Calls Try.prog 30 #[.slice A0 l0.length c0] w fun e w' => ∃ v0_ : Value, e = .returned (v0_) ∧ Kd.R k100 100 w' w.heap.size (fun _ => True) v0_ r ∧ Below w.heap.size w w' := by
 have hu74 := Try.underlying74
 have HR0 := Aside0.mk hr0
 have HC0 := Aside0.mk hc0
 clear hr0 hc0
 have HB := Aside0.mk (Below.refl w.heap.size w)
 have H : ((spec_l1Cur_grows.f k l0 0 0).bind fun bt298 => (some bt298.1)) = some r := h
 clear h
 replace H := Option.bind_eq_some_iff.mp H
 obtain ⟨⟨t298, t301, t302⟩, A20, H⟩ := H
 replace H : (some t298) = some r := H
 have A2 := Aside0.mk A20
 clear A20
 obtain rfl := Option.some.inj H
 go_enter Try.func30, Try.ntmps30
 go_wp2_with (first | ((with_reducible refine gate_dst (N := 6) rfl ?_); refine box_event ?hg (N := 6) ?hd (cs := #[.slice A0 l0.length c0, .int .i64 0, .int .u64 0]) (t := 74) ?hr ?_; (case hd => rfl); (case hg => rfl); (case hr => first | (go_simp; done) | (go_simp; rfl)); intro gb297 hg w3 hbox hb; have n0_ := Aside0.mk (below_step (q_3) hb); have n1_ := Aside0.mk ((⟨_, _, hbox, (q_4 : w.heap.size ≤ gb297), HR0.out⟩ : IsS74 w w3 gb297 l0 0 0)); have n2_ := Aside0.mk ((q_4 : w.heap.size ≤ gb297)); have n3_ := Aside0.mk ((q_4 : w.heap.size ≤ gb297)); clear HB; have HB := n0_; have HI297 := n1_; have GW297 := n2_; have GE297 := n3_; clear n0_ n1_ n2_ n3_; clear hb hbox hg) | ((with_reducible refine gate_callee (f := 76) rfl ?_); refine goesL_ (some 8) rfl rfl Try.func76 (by kernel_rfl) rfl #[.pointer (some ⟨gb297, 0, none⟩)] rfl (q_5) ?_; (with_reducible refine (spec_l1Cur_grows.calls k gb297 l0 0 0 t298 t301 t302 w _ ?side1 ?side2 A2.out).mono ?_); (case side1 => repeat (first | (with_reducible first | exact HI297.out | apply IsS74.alloc | apply IsS74.drewN | apply IsS74.drew | apply IsS74.set_1 | apply IsS74.set_2) | exact HI297.out)); (case side2 => repeat (first | (with_reducible first | exact HB.out | apply below_alloc | apply pw_below_drewN | apply below_drew1 | refine below_set ?_ (IsS74.ge HI297.out)) | exact HB.out)); rintro e w4 ⟨v299, rfl, ho0, hi, hb, hk⟩; refine ⟨_, rfl, ?_⟩; have n0_ := Aside0.mk (Kd.R_lower ho0 (below_size (q_121))); have n1_ := Aside0.mk (hb); have n2_ := Aside0.mk (hi); clear HB; clear HI297; have HO300 := n0_; have HB := n1_; have HI297 := n2_; clear n0_ n1_ n2_; (try clear hb); (try clear hb2); (try clear hk); (try clear hi); (try clear ho0)))
 go_ret
 exact ⟨_, q_6, by (with_reducible repeat (first | apply Kd.R_alloc | apply Kd.R_drewN | apply Kd.R_drew)); exact HO300.out, q_121⟩

/-! ### impl_NewWindow: function 77 -/
def impl_NewWindow.f  : Option (Int × Int × Int × Int) := some (12000, 100000000, (-1), 0)
set_option maxHeartbeats 8000000 in
set_option maxRecDepth 100000 in
theorem impl_NewWindow.calls  (r1 : Int) (r2 : Int) (r3 : Int) (r4 : Int) (w : World) (h : impl_NewWindow.f  = some (r1, r2, r3, r4)) :
  Calls Try.prog 77 #[] w fun e w' => e = .returned (.agg #[.int .i64 r1, .int .i64 r2, .int .i64 r3, .int .i64 r4]) ∧ Below w.heap.size w w' := by
 have hu37 := Try.underlying37
 have HB := Aside0.mk (Below.refl w.heap.size w)
 have H : (some (12000, 100000000, (-1), 0)) = some (r1, r2, r3, r4) := h
 clear h
 simp only [Option.some.injEq, Prod.mk.injEq] at H
 obtain ⟨rfl, rfl, rfl, rfl⟩ := H
 go_enter Try.func77, Try.ntmps77
 go_wp2_with (first | ((with_reducible refine gate_dst (N := 0) rfl ?_); refine box_event ?hg (N := 0) ?hd (cs := #[.int .i64 0, .int .i64 0, .int .i64 0, .int .i64 0]) (t := 37) ?hr ?_; (case hd => rfl); (case hg => rfl); (case hr => first | (go_simp; done) | (go_simp; rfl)); intro gb303 hg w1 hbox hb; have n0_ := Aside0.mk (below_step (q_3) hb); have n1_ := Aside0.mk (hbox); have n2_ := Aside0.mk ((q_4 : w.heap.size ≤ gb303)); have n3_ := Aside0.mk ((q_4 : w.heap.size ≤ gb303)); clear HB; have HB := n0_; have BK303 := n1_; have GW303 := n2_; have GE303 := n3_; clear n0_ n1_ n2_ n3_; clear hb hbox hg; have hcz2_0 : w1.cell? ⟨gb303, 0, none⟩ = some (.int .i64 0) := (blk_cell BK303.out 0).trans rfl; have hcz2_1 : w1.cell? ⟨gb303, 1, none⟩ = some (.int .i64 0) := (blk_cell BK303.out 1).trans rfl; have hcz2_2 : w1.cell? ⟨gb303, 2, none⟩ = some (.int .i64 0) := (blk_cell BK303.out 2).trans rfl; have hcz2_3 : w1.cell? ⟨gb303, 3, none⟩ = some (.int .i64 0) := (blk_cell BK303.out 3).trans rfl; have hfz2_0 := blk_frozen BK303.out 0; have hfz2_1 := blk_frozen BK303.out 1; have hfz2_2 := blk_frozen BK303.out 2; have hfz2_3 := blk_frozen BK303.out 3))
 refine bodyPost_ret (results_cell_row rfl _ _ gb303 37 #[.int .i64 12000, .int .i64 100000000, .int .i64 (-1), .int .i64 0] (0, 0) _ rfl (by (with_reducible repeat (first | refine blk_drewN ?_ _ | refine blk_drew ?_ | refine blk_alloc ?_ _)); refine blk_put (cs := #[.int .i64 12000, .int .i64 100000000, .int .i64 (-1), .int .i64 0]) ?_ 3 _ rfl; (with_reducible repeat (first | refine blk_drewN ?_ _ | refine blk_drew ?_ | refine blk_alloc ?_ _)); refine blk_put (cs := #[.int .i64 12000, .int .i64 100000000, .int .i64 0, .int .i64 0]) ?_ 2 _ rfl; (with_reducible repeat (first | refine blk_drewN ?_ _ | refine blk_drew ?_ | refine blk_alloc ?_ _)); refine blk_put (cs := #[.int .i64 12000, .int .i64 0, .int .i64 0, .int .i64 0]) ?_ 1 _ rfl; (with_reducible repeat (first | refine blk_drewN ?_ _ | refine blk_drew ?_ | refine blk_alloc ?_ _)); refine blk_put (cs := #[.int .i64 0, .int .i64 0, .int .i64 0, .int .i64 0]) ?_ 0 _ rfl; (with_reducible repeat (first | refine blk_drewN ?_ _ | refine blk_drew ?_ | refine blk_alloc ?_ _)); exact BK303.out) Try.underlying37 rfl (by kernel_rfl)) rfl ?_
 exact ⟨q_6, by repeat (first | (with_reducible first | exact HB.out | apply below_alloc | apply pw_below_drewN | apply below_drew1 | refine below_set ?_ GE303.out) | exact HB.out)⟩

end Go.Proofs.Ytcngjidojibleaa.PFnAimd
