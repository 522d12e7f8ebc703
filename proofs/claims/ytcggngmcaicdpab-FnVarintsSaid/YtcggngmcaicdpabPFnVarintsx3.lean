-- Written by a program of this session out of the translation; Lean checks it.
import Derived.Test.YtcggngmcaicdpabPFnVarintsx0
import Derived.Test.YtcggngmcaicdpabPFnVarintsx1
import Derived.Test.YtcggngmcaicdpabPFnVarintsx2
namespace Go.Proofs.Ytcggngmcaicdpab.PFnVarints
open Go.RowKit Go.Proofs.YtcggngmcaicdpabW.PrintWords Go.Proofs.YtcggngmcaicdpabW.PrintLast Go.Proofs.YtcggngmcaicdpabW.PrintMore
attribute [local go_sem] max2_int min2_int max_two min_two max_three min_three max_four min_four   -- for this text's walks alone
set_option linter.unusedVariables false
set_option linter.unusedSimpArgs false

/-! ### laws_FnVarints: function 4 -/
mutual
def laws_FnVarints.j0 : Nat → List Int → Int → ByteArray → Bool → Bool → Option (Bool)
 | 0, _, _, _, _, _ => none
 | k + 1, x1, x5, x6, x7, x42 => if x42 = true then (some false) else (if x7 = true then (if x6.size + 4 ≤ 9223372036854775807 then ((impl_TakeVarint.f k (x6 ++ (⟨#[109, 111, 114, 101]⟩ : ByteArray))).bind fun bt172 => ((impl_VarintSize.f x5).bind fun bt174 => (if bt172.1 = x5 then (if bt172.2 = (x6.size : Int) then (if bt174.2 = true then (laws_FnVarints.j1 k x1 x5 bt174.1 (bt174.1 != (x6.size : Int))) else (laws_FnVarints.j1 k x1 x5 bt174.1 true)) else (laws_FnVarints.j1 k x1 x5 bt174.1 true)) else (laws_FnVarints.j1 k x1 x5 bt174.1 true)))) else (none)) else (some (x6.toList == ([] : List UInt8))))
def laws_FnVarints.j1 : Nat → List Int → Int → Int → Bool → Option (Bool)
 | 0, _, _, _, _ => none
 | k + 1, x1, x5, x12, x76 => if x76 = true then (some false) else ((spec_DrawVarintBytes.f k x1).bind fun t176 => ((impl_VarintSize.f t176).bind fun bt177 => (if bt177.2 = true then (if t176 < x5 then (some true) else (some (decide (bt177.1 ≥ x12)))) else (some true))))
end
def laws_FnVarints.f (k : Nat) (l0 : List Int) (l1 : List Int) : Option (Bool) := if (wrap64 ((l0.length : Int) + (l1.length : Int))) > 1048576 then (some true) else ((spec_DrawVarintBytes.f k l0).bind fun t167 => ((impl_VarintBytes.f k t167).bind fun bt168 => ((spec_VarintBytes.f k t167).bind fun bt170 => (if (bt168.2 != bt170.2) = true then (laws_FnVarints.j0 k l1 t167 bt168.1 bt168.2 true) else (laws_FnVarints.j0 k l1 t167 bt168.1 bt168.2 (bt168.1.toList != bt170.1.toList))))))
theorem laws_FnVarints.mono_l : ∀ k, (∀ y0 y1 y2 y3 y4, LeO (laws_FnVarints.j0 k y0 y1 y2 y3 y4) (laws_FnVarints.j0 (k + 1) y0 y1 y2 y3 y4)) ∧ (∀ y0 y1 y2 y3, LeO (laws_FnVarints.j1 k y0 y1 y2 y3) (laws_FnVarints.j1 (k + 1) y0 y1 y2 y3))
 | 0 => ⟨fun _ _ _ _ _ r h => by simp [laws_FnVarints.j0] at h, fun _ _ _ _ r h => by simp [laws_FnVarints.j1] at h⟩
 | k + 1 => by
  obtain ⟨ih0, ih1⟩ := laws_FnVarints.mono_l k
  refine ⟨?_, ?_⟩
  ·intro y0 y1 y2 y3 y4
   unfold laws_FnVarints.j0
   repeat' first
   | (with_reducible exact ih0 _ _ _ _ _)
   | (with_reducible exact ih1 _ _ _ _)
   | (with_reducible exact impl_TakeVarint.mono _ _)
   | (with_reducible exact impl_VarintBytes.mono _ _)
   | (with_reducible exact spec_DrawVarintBytes.mono _ _)
   | (with_reducible exact spec_VarintBytes.mono _ _)
   | (with_reducible exact LeO.refl _)
   | (with_reducible exact LeO.none _)
   | (with_reducible refine LeO.ite ?_ ?_)
   | (with_reducible refine LeO.bind ?_ (fun _ => ?_))
   | exact ih0 _ _ _ _ _
   | exact ih1 _ _ _ _
   | exact impl_TakeVarint.mono _ _
   | exact impl_VarintBytes.mono _ _
   | exact spec_DrawVarintBytes.mono _ _
   | exact spec_VarintBytes.mono _ _
   | exact LeO.none _
   | refine LeO.ite ?_ ?_
   | refine LeO.bind ?_ (fun _ => ?_)
  ·intro y0 y1 y2 y3
   unfold laws_FnVarints.j1
   repeat' first
   | (with_reducible exact ih0 _ _ _ _ _)
   | (with_reducible exact ih1 _ _ _ _)
   | (with_reducible exact impl_TakeVarint.mono _ _)
   | (with_reducible exact impl_VarintBytes.mono _ _)
   | (with_reducible exact spec_DrawVarintBytes.mono _ _)
   | (with_reducible exact spec_VarintBytes.mono _ _)
   | (with_reducible exact LeO.refl _)
   | (with_reducible exact LeO.none _)
   | (with_reducible refine LeO.ite ?_ ?_)
   | (with_reducible refine LeO.bind ?_ (fun _ => ?_))
   | exact ih0 _ _ _ _ _
   | exact ih1 _ _ _ _
   | exact impl_TakeVarint.mono _ _
   | exact impl_VarintBytes.mono _ _
   | exact spec_DrawVarintBytes.mono _ _
   | exact spec_VarintBytes.mono _ _
   | exact LeO.none _
   | refine LeO.ite ?_ ?_
   | refine LeO.bind ?_ (fun _ => ?_)
theorem laws_FnVarints.mono : ∀ a0 a1 k, LeO (laws_FnVarints.f k a0 a1) (laws_FnVarints.f (k + 1) a0 a1) := by
 intro a0 a1 k
 obtain ⟨ih0, ih1⟩ := laws_FnVarints.mono_l k
 unfold laws_FnVarints.f
 repeat' first
   | (with_reducible exact ih0 _ _ _ _ _)
   | (with_reducible exact ih1 _ _ _ _)
   | (with_reducible exact impl_TakeVarint.mono _ _)
   | (with_reducible exact impl_VarintBytes.mono _ _)
   | (with_reducible exact spec_DrawVarintBytes.mono _ _)
   | (with_reducible exact spec_VarintBytes.mono _ _)
   | (with_reducible exact LeO.refl _)
   | (with_reducible exact LeO.none _)
   | (with_reducible refine LeO.ite ?_ ?_)
   | (with_reducible refine LeO.bind ?_ (fun _ => ?_))
   | exact ih0 _ _ _ _ _
   | exact ih1 _ _ _ _
   | exact impl_TakeVarint.mono _ _
   | exact impl_VarintBytes.mono _ _
   | exact spec_DrawVarintBytes.mono _ _
   | exact spec_VarintBytes.mono _ _
   | exact LeO.none _
   | refine LeO.ite ?_ ?_
   | refine LeO.bind ?_ (fun _ => ?_)
set_option maxHeartbeats 8000000 in
set_option maxRecDepth 100000 in
theorem laws_FnVarints.calls (k : Nat) (A0 : Option Addr) (c0 : Nat) (l0 : List Int) (A1 : Option Addr) (c1 : Nat) (l1 : List Int) (r : Bool) (w : World) (hr0 : Kd.C (Kd.int .u8) w A0 l0.length l0) (hc0 : l0.length ≤ c0) (hr1 : Kd.C (Kd.int .u8) w A1 l1.length l1) (hc1 : l1.length ≤ c1) (h : laws_FnVarints.f k l0 l1 = some r) :
  Calls Try.prog 4 #[.slice A0 l0.length c0, .slice A1 l1.length c1] w fun e w' => e = .returned (.bool r) ∧ Below w.heap.size w w' := by
 have HR0 := Aside0.mk hr0
 have HC0 := Aside0.mk hc0
 clear hr0 hc0
 have HR1 := Aside0.mk hr1
 have HC1 := Aside0.mk hc1
 clear hr1 hc1
 have HB := Aside0.mk (Below.refl w.heap.size w)
 have H : (if (wrap64 ((l0.length : Int) + (l1.length : Int))) > 1048576 then (some true) else ((spec_DrawVarintBytes.f k l0).bind fun t167 => ((impl_VarintBytes.f k t167).bind fun bt168 => ((spec_VarintBytes.f k t167).bind fun bt170 => (if (bt168.2 != bt170.2) = true then (laws_FnVarints.j0 k l1 t167 bt168.1 bt168.2 true) else (laws_FnVarints.j0 k l1 t167 bt168.1 bt168.2 (bt168.1.toList != bt170.1.toList))))))) = some r := h
 clear h
 by_cases c3 : (wrap64 ((l0.length : Int) + (l1.length : Int))) > 1048576
 ·rw [if_pos c3] at H
  have c3b0 : decide (1048576 < (wrap64 ((l0.length : Int) + (l1.length : Int)))) = true := decide_eq_true c3
  clear c3
  obtain rfl := Option.some.inj H
  go_enter Try.func4, Try.ntmps4
  go_wp2
  go_ret
  exact ⟨by first | rfl | (simp [errW_none, errW_some] <;> rfl) | (simp [*, errW_none, errW_some] <;> rfl), by repeat (first | (with_reducible first | exact HB.out | apply below_alloc | apply pw_below_drewN | apply below_drew1) | exact HB.out)⟩
 ·rw [if_neg c3] at H
  have c3b0 : decide (1048576 < (wrap64 ((l0.length : Int) + (l1.length : Int)))) = false := decide_eq_false c3
  clear c3
  replace H := Option.bind_eq_some_iff.mp H
  obtain ⟨t167, A40, H⟩ := H
  replace H : ((impl_VarintBytes.f k t167).bind fun bt168 => ((spec_VarintBytes.f k t167).bind fun bt170 => (if (bt168.2 != bt170.2) = true then (laws_FnVarints.j0 k l1 t167 bt168.1 bt168.2 true) else (laws_FnVarints.j0 k l1 t167 bt168.1 bt168.2 (bt168.1.toList != bt170.1.toList))))) = some r := H
  have A4 := Aside0.mk A40
  clear A40
  replace H := Option.bind_eq_some_iff.mp H
  obtain ⟨⟨t168, t169⟩, A50, H⟩ := H
  replace H : ((spec_VarintBytes.f k t167).bind fun bt170 => (if (t169 != bt170.2) = true then (laws_FnVarints.j0 k l1 t167 t168 t169 true) else (laws_FnVarints.j0 k l1 t167 t168 t169 (t168.toList != bt170.1.toList)))) = some r := H
  have A5 := Aside0.mk A50
  clear A50
  replace H := Option.bind_eq_some_iff.mp H
  obtain ⟨⟨t170, t171⟩, A60, H⟩ := H
  replace H : (if (t169 != t171) = true then (laws_FnVarints.j0 k l1 t167 t168 t169 true) else (laws_FnVarints.j0 k l1 t167 t168 t169 (t168.toList != t170.toList))) = some r := H
  have A6 := Aside0.mk A60
  clear A60
  have HC7 := Aside0.mk H
  clear H
  go_enter Try.func4, Try.ntmps4
  go_upto_region 6 with (first | ((with_reducible refine gate_callee (f := 15) rfl ?_); refine goesL_ (some 24) rfl rfl Try.func15 (by kernel_rfl) rfl #[.slice A0 l0.length c0] rfl (by (try simp only [List.map_toArray, List.map_cons, List.map_nil]); first | done | rfl | (simp only [List.length_drop, List.length_take]; rfl)) ?_; (with_reducible refine (spec_DrawVarintBytes.calls k _ _ l0 t167 _ ?side1 ?side2 A4.out).mono ?_); (case side1 => repeat (first | exact HR0.out | (with_reducible refine Kd.C_alloc ?_ _) | (with_reducible refine Kd.C_drewN ?_ _) | (with_reducible refine Kd.C_drew ?_))); (case side2 => exact HC0.out); rintro e w8 ⟨rfl, hb⟩; refine ⟨_, rfl, ?_⟩; have n0_ := Aside0.mk (below_step (by repeat (first | (with_reducible first | exact HB.out | apply below_alloc | apply pw_below_drewN | apply below_drew1) | exact HB.out)) hb); clear HB; have HB := n0_; clear n0_; (try clear hb); (try clear hb2); (try clear hk); (try clear hi)) | ((with_reducible refine gate_callee (f := 16) rfl ?_); refine goesL_ (some 27) rfl rfl Try.func16 (by kernel_rfl) rfl #[.int .i64 t167] rfl (by (try simp only [List.map_toArray, List.map_cons, List.map_nil]); first | done | rfl | (simp only [List.length_drop, List.length_take]; rfl)) ?_; (with_reducible refine (impl_VarintBytes.calls k t167 t168 t169 _ A5.out).mono ?_); rintro e w9 ⟨rfl, hb⟩; refine ⟨_, rfl, ?_⟩; have n0_ := Aside0.mk (below_step (by repeat (first | (with_reducible first | exact HB.out | apply below_alloc | apply pw_below_drewN | apply below_drew1) | exact HB.out)) hb); clear HB; have HB := n0_; clear n0_; (try clear hb); (try clear hb2); (try clear hk); (try clear hi)) | ((with_reducible refine gate_callee (f := 17) rfl ?_); refine goesL_ (some 32) rfl rfl Try.func17 (by kernel_rfl) rfl #[.int .i64 t167] rfl (by (try simp only [List.map_toArray, List.map_cons, List.map_nil]); first | done | rfl | (simp only [List.length_drop, List.length_take]; rfl)) ?_; (with_reducible refine (spec_VarintBytes.calls k t167 t170 t171 _ A6.out).mono ?_); rintro e w10 ⟨rfl, hb⟩; refine ⟨_, rfl, ?_⟩; have n0_ := Aside0.mk (below_step (by repeat (first | (with_reducible first | exact HB.out | apply below_alloc | apply pw_below_drewN | apply below_drew1) | exact HB.out)) hb); clear HB; have HB := n0_; clear n0_; (try clear hb); (try clear hb2); (try clear hk); (try clear hi)))
  (try simp only [Act.put, List.setIfInBounds_toArray, List.set_cons_zero, List.set_cons_succ])
  go_cut [42] (fun v42 wc => ∃ (kq : Nat) (x42_6 : Bool), v42 = .bool x42_6 ∧ Aside0 (laws_FnVarints.j0 kq l1 t167 t168 t169 x42_6 = some r) ∧ Aside0 (kq ≤ k) ∧ Aside0 (Below w.heap.size w wc))
  case first =>
   have H := HC7.out
   clear HC7
   by_cases c11 : (t169 != t171) = true
   ·rw [if_pos c11] at H
    have c11b0 : (t169 != t171) = true := c11
    (try (have c11b1 : decide (t169 = t171) = false := by simpa using c11))
    (try (have c11b2 : (t169 == t171) = false := by simpa using c11))
    (try (have c11b3 : ¬ (t169 = t171) := by simpa using c11))
    clear c11
    (first | rw [c11b0] | (simp only [i64_w, i32_w]; rw [c11b0]) | skip)
    have H' := Aside0.mk H
    clear H
    go_wp2
    go_meet
    case rel => exact ⟨_, (true), (by first | rfl | (simp; done) | (simp [*]; done)), H', ⟨by first | omega | exact Nat.le_refl _⟩, ⟨by repeat (first | (with_reducible first | exact HB.out | apply below_alloc | apply pw_below_drewN | apply below_drew1) | exact HB.out)⟩⟩
   ·rw [if_neg c11] at H
    have c11b0 : (t169 != t171) = false := by simpa using c11
    (try (have c11b1 : decide (t169 = t171) = true := by simpa using c11))
    (try (have c11b2 : (t169 == t171) = true := by simpa using c11))
    clear c11
    (first | rw [c11b0] | (simp only [i64_w, i32_w]; rw [c11b0]) | skip)
    have H' := Aside0.mk H
    clear H
    go_wp2
    go_meet
    case rel => exact ⟨_, ((t168.toList != t170.toList)), (by first | rfl | (simp; done) | (simp [*]; done)), H', ⟨by first | omega | exact Nat.le_refl _⟩, ⟨by repeat (first | (with_reducible first | exact HB.out | apply below_alloc | apply pw_below_drewN | apply below_drew1) | exact HB.out)⟩⟩
  case rest =>
   clear HC7
   try clear c1; try clear p2; try clear c3; try clear c3b0; try clear c4; try clear p6; try clear c11; try clear c11b0; try clear c11b1; try clear c11b2
   obtain ⟨kq, x42_6, rfl, HA, HJ6, HB⟩ := hcut
   cases kq with
   | zero => exact absurd HA.out (by simp [laws_FnVarints.j0])
   | succ kj6 =>
    have H := HA.out
    clear HA
    simp only [laws_FnVarints.j0] at H
    by_cases c12 : x42_6 = true
    ·subst c12
     have H1 : (some false) = some r := by rw [if_pos rfl] at H; exact H
     clear H
     have H := H1
     clear H1
     obtain rfl := Option.some.inj H
     go_wp2
     go_ret
     exact ⟨by first | rfl | (simp [errW_none, errW_some] <;> rfl) | (simp [*, errW_none, errW_some] <;> rfl), by repeat (first | (with_reducible first | exact HB.out | apply below_alloc | apply pw_below_drewN | apply below_drew1) | exact HB.out)⟩
    ·replace c12 := Bool.eq_false_iff.mpr c12
     subst c12
     have H1 : (if t169 = true then (if t168.size + 4 ≤ 9223372036854775807 then ((impl_TakeVarint.f kj6 (t168 ++ (⟨#[109, 111, 114, 101]⟩ : ByteArray))).bind fun bt172 => ((impl_VarintSize.f t167).bind fun bt174 => (if bt172.1 = t167 then (if bt172.2 = (t168.size : Int) then (if bt174.2 = true then (laws_FnVarints.j1 kj6 l1 t167 bt174.1 (bt174.1 != (t168.size : Int))) else (laws_FnVarints.j1 kj6 l1 t167 bt174.1 true)) else (laws_FnVarints.j1 kj6 l1 t167 bt174.1 true)) else (laws_FnVarints.j1 kj6 l1 t167 bt174.1 true)))) else (none)) else (some (t168.toList == ([] : List UInt8)))) = some r := by rw [if_neg (show ¬ (false = true) by decide)] at H; exact H
     clear H
     have H := H1
     clear H1
     by_cases c13 : t169 = true
     ·subst c13
      have H1 : (if t168.size + 4 ≤ 9223372036854775807 then ((impl_TakeVarint.f kj6 (t168 ++ (⟨#[109, 111, 114, 101]⟩ : ByteArray))).bind fun bt172 => ((impl_VarintSize.f t167).bind fun bt174 => (if bt172.1 = t167 then (if bt172.2 = (t168.size : Int) then (if bt174.2 = true then (laws_FnVarints.j1 kj6 l1 t167 bt174.1 (bt174.1 != (t168.size : Int))) else (laws_FnVarints.j1 kj6 l1 t167 bt174.1 true)) else (laws_FnVarints.j1 kj6 l1 t167 bt174.1 true)) else (laws_FnVarints.j1 kj6 l1 t167 bt174.1 true)))) else (none)) = some r := by rw [if_pos rfl] at H; exact H
      clear H
      have H := H1
      clear H1
      by_cases c14 : t168.size + 4 ≤ 9223372036854775807
      ·rw [if_pos c14] at H
       have c14b0 := eq_true c14
       have c14b1 : decide (t168.size + 4 ≤ 9223372036854775807) = true := decide_eq_true c14
       try have c14b2 : (9223372036854775807 < t168.size + 4) = False := eq_false (Nat.not_lt.2 c14)
       replace H := Option.bind_eq_some_iff.mp H
       obtain ⟨⟨t172, t173⟩, A150, H⟩ := H
       replace H : ((impl_VarintSize.f t167).bind fun bt174 => (if t172 = t167 then (if t173 = (t168.size : Int) then (if bt174.2 = true then (laws_FnVarints.j1 kj6 l1 t167 bt174.1 (bt174.1 != (t168.size : Int))) else (laws_FnVarints.j1 kj6 l1 t167 bt174.1 true)) else (laws_FnVarints.j1 kj6 l1 t167 bt174.1 true)) else (laws_FnVarints.j1 kj6 l1 t167 bt174.1 true))) = some r := H
       have A15 := Aside0.mk A150
       clear A150
       replace H := Option.bind_eq_some_iff.mp H
       obtain ⟨⟨t174, t175⟩, A160, H⟩ := H
       replace H : (if t172 = t167 then (if t173 = (t168.size : Int) then (if t175 = true then (laws_FnVarints.j1 kj6 l1 t167 t174 (t174 != (t168.size : Int))) else (laws_FnVarints.j1 kj6 l1 t167 t174 true)) else (laws_FnVarints.j1 kj6 l1 t167 t174 true)) else (laws_FnVarints.j1 kj6 l1 t167 t174 true)) = some r := H
       have A16 := Aside0.mk A160
       clear A160
       have HC17 := Aside0.mk H
       clear H
       go_upto_region 12 with (first | ((with_reducible refine gate_callee (f := 18) rfl ?_); refine goesL_ (some 50) rfl rfl Try.func18 (by kernel_rfl) rfl #[.string (t168 ++ (⟨#[109, 111, 114, 101]⟩ : ByteArray))] rfl (by (try simp only [List.map_toArray, List.map_cons, List.map_nil]); first | done | rfl | (simp only [List.length_drop, List.length_take]; rfl)) ?_; (with_reducible refine (impl_TakeVarint.calls kj6 (t168 ++ (⟨#[109, 111, 114, 101]⟩ : ByteArray)) t172 t173 _ A15.out).mono ?_); rintro e w' ⟨rfl, ⟨nd, rfl⟩⟩; refine ⟨_, rfl, ?_⟩) | ((with_reducible refine gate_callee (f := 19) rfl ?_); refine goesL_ (some 55) rfl rfl Try.func19 (by kernel_rfl) rfl #[.int .i64 t167] rfl (by (try simp only [List.map_toArray, List.map_cons, List.map_nil]); first | done | rfl | (simp only [List.length_drop, List.length_take]; rfl)) ?_; (with_reducible refine (impl_VarintSize.calls t167 t174 t175 _ A16.out).mono ?_); rintro e w' ⟨rfl, ⟨nd, rfl⟩⟩; refine ⟨_, rfl, ?_⟩))
       (try simp only [Act.put, List.setIfInBounds_toArray, List.set_cons_zero, List.set_cons_succ])
       go_cut [76] (fun v76 wc => ∃ (kq : Nat) (x76_16 : Bool), v76 = .bool x76_16 ∧ Aside0 (laws_FnVarints.j1 kq l1 t167 t174 x76_16 = some r) ∧ Aside0 (kq ≤ kj6) ∧ Aside0 (Below w.heap.size w wc))
       case first =>
        have H := HC17.out
        clear HC17
        by_cases c18 : t172 = t167
        ·rw [if_pos c18] at H
         have c18b0 : (t172 == t167) = true := beq_iff_eq.mpr c18
         have c18b1 : (t172 != t167) = false := bne_eq_false_iff_eq.mpr c18
         clear c18
         (first | rw [c18b0] | (simp only [i64_w, i32_w]; rw [c18b0]) | skip)
         by_cases c19 : t173 = (t168.size : Int)
         ·rw [if_pos c19] at H
          have c19b0 : (t173 == (t168.size : Int)) = true := beq_iff_eq.mpr c19
          have c19b1 : (t173 != (t168.size : Int)) = false := bne_eq_false_iff_eq.mpr c19
          clear c19
          by_cases c20 : t175 = true
          ·subst c20
           have H1 : (laws_FnVarints.j1 kj6 l1 t167 t174 (t174 != (t168.size : Int))) = some r := by rw [if_pos rfl] at H; exact H
           clear H
           have H := H1
           clear H1
           have H' := Aside0.mk H
           clear H
           go_wp2
           go_meet
           case rel => exact ⟨_, ((t174 != (t168.size : Int))), (by first | rfl | (simp; done) | (simp [*]; done)), H', ⟨by have := HJ6.out; first | omega | exact Nat.le_refl _⟩, ⟨by repeat (first | (with_reducible first | exact HB.out | apply below_alloc | apply pw_below_drewN | apply below_drew1) | exact HB.out)⟩⟩
          ·replace c20 := Bool.eq_false_iff.mpr c20
           subst c20
           have H1 : (laws_FnVarints.j1 kj6 l1 t167 t174 true) = some r := by rw [if_neg (show ¬ (false = true) by decide)] at H; exact H
           clear H
           have H := H1
           clear H1
           have H' := Aside0.mk H
           clear H
           go_wp2
           go_meet
           case rel => exact ⟨_, (true), (by first | rfl | (simp; done) | (simp [*]; done)), H', ⟨by have := HJ6.out; first | omega | exact Nat.le_refl _⟩, ⟨by repeat (first | (with_reducible first | exact HB.out | apply below_alloc | apply pw_below_drewN | apply below_drew1) | exact HB.out)⟩⟩
         ·rw [if_neg c19] at H
          have c19b0 : (t173 == (t168.size : Int)) = false := beq_eq_false_iff_ne.mpr c19
          have c19b1 : (t173 != (t168.size : Int)) = true := bne_iff_ne.mpr c19
          have H' := Aside0.mk H
          clear H
          go_wp2
          go_meet
          case rel => exact ⟨_, (true), (by first | rfl | (simp; done) | (simp [*]; done)), H', ⟨by have := HJ6.out; first | omega | exact Nat.le_refl _⟩, ⟨by repeat (first | (with_reducible first | exact HB.out | apply below_alloc | apply pw_below_drewN | apply below_drew1) | exact HB.out)⟩⟩
        ·rw [if_neg c18] at H
         have c18b0 : (t172 == t167) = false := beq_eq_false_iff_ne.mpr c18
         have c18b1 : (t172 != t167) = true := bne_iff_ne.mpr c18
         (first | rw [c18b0] | (simp only [i64_w, i32_w]; rw [c18b0]) | skip)
         have H' := Aside0.mk H
         clear H
         go_wp2
         go_meet
         case rel => exact ⟨_, (true), (by first | rfl | (simp; done) | (simp [*]; done)), H', ⟨by have := HJ6.out; first | omega | exact Nat.le_refl _⟩, ⟨by repeat (first | (with_reducible first | exact HB.out | apply below_alloc | apply pw_below_drewN | apply below_drew1) | exact HB.out)⟩⟩
       case rest =>
        clear HC17
        try clear c1; try clear c2; try clear p2; try clear c3; try clear c3b0; try clear c4; try clear p6; try clear c11; try clear c11b0; try clear c11b1; try clear c11b2; try clear c12; try clear c13; try clear c14; try clear c14b0; try clear c14b1; try clear c14b2; try clear c15; try clear c16; try clear c17; try clear c18; try clear c18b0; try clear c18b1; try clear c19; try clear c19b0; try clear c19b1; try clear c20; try clear p2; try clear p6
        obtain ⟨kq, x76_16, rfl, HA, HJ16, HB⟩ := hcut
        cases kq with
        | zero => exact absurd HA.out (by simp [laws_FnVarints.j1])
        | succ kj16 =>
         have H := HA.out
         clear HA
         simp only [laws_FnVarints.j1] at H
         by_cases c21 : x76_16 = true
         ·subst c21
          have H1 : (some false) = some r := by rw [if_pos rfl] at H; exact H
          clear H
          have H := H1
          clear H1
          obtain rfl := Option.some.inj H
          go_wp2
          go_ret
          exact ⟨by first | rfl | (simp [errW_none, errW_some] <;> rfl) | (simp [*, errW_none, errW_some] <;> rfl), by repeat (first | (with_reducible first | exact HB.out | apply below_alloc | apply pw_below_drewN | apply below_drew1) | exact HB.out)⟩
         ·replace c21 := Bool.eq_false_iff.mpr c21
          subst c21
          have H1 : ((spec_DrawVarintBytes.f kj16 l1).bind fun t176 => ((impl_VarintSize.f t176).bind fun bt177 => (if bt177.2 = true then (if t176 < t167 then (some true) else (some (decide (bt177.1 ≥ t174)))) else (some true)))) = some r := by rw [if_neg (show ¬ (false = true) by decide)] at H; exact H
          clear H
          have H := H1
          clear H1
          replace H := Option.bind_eq_some_iff.mp H
          obtain ⟨t176, A220, H⟩ := H
          replace H : ((impl_VarintSize.f t176).bind fun bt177 => (if bt177.2 = true then (if t176 < t167 then (some true) else (some (decide (bt177.1 ≥ t174)))) else (some true))) = some r := H
          have A22 := Aside0.mk A220
          clear A220
          replace H := Option.bind_eq_some_iff.mp H
          obtain ⟨⟨t177, t178⟩, A230, H⟩ := H
          replace H : (if t178 = true then (if t176 < t167 then (some true) else (some (decide (t177 ≥ t174)))) else (some true)) = some r := H
          have A23 := Aside0.mk A230
          clear A230
          by_cases c24 : t178 = true
          ·subst c24
           have H1 : (if t176 < t167 then (some true) else (some (decide (t177 ≥ t174)))) = some r := by rw [if_pos rfl] at H; exact H
           clear H
           have H := H1
           clear H1
           by_cases c25 : t176 < t167
           ·rw [if_pos c25] at H
            have c25b0 : decide (t176 < t167) = true := decide_eq_true c25
            clear c25
            obtain rfl := Option.some.inj H
            go_wp2_with (first | ((with_reducible refine gate_callee (f := 15) rfl ?_); refine goesL_ (some 78) rfl rfl Try.func15 (by kernel_rfl) rfl #[.slice A1 l1.length c1] rfl (by (try simp only [List.map_toArray, List.map_cons, List.map_nil]); first | done | rfl | (simp only [List.length_drop, List.length_take]; rfl)) ?_; (with_reducible refine (spec_DrawVarintBytes.calls kj16 _ _ l1 t176 _ ?side1 ?side2 A22.out).mono ?_); (case side1 => repeat (first | exact (Kd.C_below HR1.out HB.out) | (with_reducible refine Kd.C_alloc ?_ _) | (with_reducible refine Kd.C_drewN ?_ _) | (with_reducible refine Kd.C_drew ?_))); (case side2 => exact HC1.out); rintro e w26 ⟨rfl, hb⟩; refine ⟨_, rfl, ?_⟩; have n0_ := Aside0.mk (below_step (by repeat (first | (with_reducible first | exact HB.out | apply below_alloc | apply pw_below_drewN | apply below_drew1) | exact HB.out)) hb); clear HB; have HB := n0_; clear n0_; (try clear hb); (try clear hb2); (try clear hk); (try clear hi)) | ((with_reducible refine gate_callee (f := 19) rfl ?_); refine goesL_ (some 81) rfl rfl Try.func19 (by kernel_rfl) rfl #[.int .i64 t176] rfl (by (try simp only [List.map_toArray, List.map_cons, List.map_nil]); first | done | rfl | (simp only [List.length_drop, List.length_take]; rfl)) ?_; (with_reducible refine (impl_VarintSize.calls t176 t177 true _ A23.out).mono ?_); rintro e w' ⟨rfl, ⟨nd, rfl⟩⟩; refine ⟨_, rfl, ?_⟩))
            go_ret
            exact ⟨by first | rfl | (simp [errW_none, errW_some] <;> rfl) | (simp [*, errW_none, errW_some] <;> rfl), by repeat (first | (with_reducible first | exact HB.out | apply below_alloc | apply pw_below_drewN | apply below_drew1) | exact HB.out)⟩
           ·rw [if_neg c25] at H
            have c25b0 : decide (t176 < t167) = false := decide_eq_false c25
            clear c25
            obtain rfl := Option.some.inj H
            go_wp2_with (first | ((with_reducible refine gate_callee (f := 15) rfl ?_); refine goesL_ (some 78) rfl rfl Try.func15 (by kernel_rfl) rfl #[.slice A1 l1.length c1] rfl (by (try simp only [List.map_toArray, List.map_cons, List.map_nil]); first | done | rfl | (simp only [List.length_drop, List.length_take]; rfl)) ?_; (with_reducible refine (spec_DrawVarintBytes.calls kj16 _ _ l1 t176 _ ?side1 ?side2 A22.out).mono ?_); (case side1 => repeat (first | exact (Kd.C_below HR1.out HB.out) | (with_reducible refine Kd.C_alloc ?_ _) | (with_reducible refine Kd.C_drewN ?_ _) | (with_reducible refine Kd.C_drew ?_))); (case side2 => exact HC1.out); rintro e w27 ⟨rfl, hb⟩; refine ⟨_, rfl, ?_⟩; have n0_ := Aside0.mk (below_step (by repeat (first | (with_reducible first | exact HB.out | apply below_alloc | apply pw_below_drewN | apply below_drew1) | exact HB.out)) hb); clear HB; have HB := n0_; clear n0_; (try clear hb); (try clear hb2); (try clear hk); (try clear hi)) | ((with_reducible refine gate_callee (f := 19) rfl ?_); refine goesL_ (some 81) rfl rfl Try.func19 (by kernel_rfl) rfl #[.int .i64 t176] rfl (by (try simp only [List.map_toArray, List.map_cons, List.map_nil]); first | done | rfl | (simp only [List.length_drop, List.length_take]; rfl)) ?_; (with_reducible refine (impl_VarintSize.calls t176 t177 true _ A23.out).mono ?_); rintro e w' ⟨rfl, ⟨nd, rfl⟩⟩; refine ⟨_, rfl, ?_⟩))
            go_ret
            exact ⟨by first | rfl | (simp [errW_none, errW_some] <;> rfl) | (simp [*, errW_none, errW_some] <;> rfl), by repeat (first | (with_reducible first | exact HB.out | apply below_alloc | apply pw_below_drewN | apply below_drew1) | exact HB.out)⟩
          ·replace c24 := Bool.eq_false_iff.mpr c24
           subst c24
           have H1 : (some true) = some r := by rw [if_neg (show ¬ (false = true) by decide)] at H; exact H
           clear H
           have H := H1
           clear H1
           obtain rfl := Option.some.inj H
           go_wp2_with (first | ((with_reducible refine gate_callee (f := 15) rfl ?_); refine goesL_ (some 78) rfl rfl Try.func15 (by kernel_rfl) rfl #[.slice A1 l1.length c1] rfl (by (try simp only [List.map_toArray, List.map_cons, List.map_nil]); first | done | rfl | (simp only [List.length_drop, List.length_take]; rfl)) ?_; (with_reducible refine (spec_DrawVarintBytes.calls kj16 _ _ l1 t176 _ ?side1 ?side2 A22.out).mono ?_); (case side1 => repeat (first | exact (Kd.C_below HR1.out HB.out) | (with_reducible refine Kd.C_alloc ?_ _) | (with_reducible refine Kd.C_drewN ?_ _) | (with_reducible refine Kd.C_drew ?_))); (case side2 => exact HC1.out); rintro e w28 ⟨rfl, hb⟩; refine ⟨_, rfl, ?_⟩; have n0_ := Aside0.mk (below_step (by repeat (first | (with_reducible first | exact HB.out | apply below_alloc | apply pw_below_drewN | apply below_drew1) | exact HB.out)) hb); clear HB; have HB := n0_; clear n0_; (try clear hb); (try clear hb2); (try clear hk); (try clear hi)) | ((with_reducible refine gate_callee (f := 19) rfl ?_); refine goesL_ (some 81) rfl rfl Try.func19 (by kernel_rfl) rfl #[.int .i64 t176] rfl (by (try simp only [List.map_toArray, List.map_cons, List.map_nil]); first | done | rfl | (simp only [List.length_drop, List.length_take]; rfl)) ?_; (with_reducible refine (impl_VarintSize.calls t176 t177 false _ A23.out).mono ?_); rintro e w' ⟨rfl, ⟨nd, rfl⟩⟩; refine ⟨_, rfl, ?_⟩))
           go_ret
           exact ⟨by first | rfl | (simp [errW_none, errW_some] <;> rfl) | (simp [*, errW_none, errW_some] <;> rfl), by repeat (first | (with_reducible first | exact HB.out | apply below_alloc | apply pw_below_drewN | apply below_drew1) | exact HB.out)⟩
      ·rw [if_neg c14] at H
       exact absurd H (by simp)
     ·replace c13 := Bool.eq_false_iff.mpr c13
      subst c13
      have H1 : (some (t168.toList == ([] : List UInt8))) = some r := by rw [if_neg (show ¬ (false = true) by decide)] at H; exact H
      clear H
      have H := H1
      clear H1
      obtain rfl := Option.some.inj H
      go_wp2
      go_ret
      exact ⟨by first | rfl | (simp [errW_none, errW_some] <;> rfl) | (simp [*, errW_none, errW_some] <;> rfl), by repeat (first | (with_reducible first | exact HB.out | apply below_alloc | apply pw_below_drewN | apply below_drew1) | exact HB.out)⟩

/-- THE ONE PURE STATEMENT of laws_FnVarints: yours. -/
def laws_FnVarints.Pure : Prop := ∀ (l0 : List Int) (l1 : List Int), l0.length ≤ maxLen → l0.length * 1 ≤ 140737488351232 → (∀ x ∈ l0, (Lit.int .u8 x).wf = true) → l1.length ≤ maxLen → l1.length * 1 ≤ 140737488351232 → (∀ x ∈ l1, (Lit.int .u8 x).wf = true) → ∃ k, laws_FnVarints.f k l0 l1 = some true
theorem laws_FnVarints.walk (P : laws_FnVarints.Pure) (a0 : Option Addr) (len0 cap0 : Nat) (z0 : List Int) (a1 : Option Addr) (len1 cap1 : Nat) (z1 : List Int) (w : World) (w0 : (a0 = none ∧ len0 = 0 ∧ cap0 = 0 ∧ z0 = []) ∨ ∃ x, a0 = some x ∧ len0 ≤ cap0 ∧ cap0 ≤ maxLen ∧ z0.length = cap0 ∧ (∀ i, i < z0.length → w.cell? (x.add i) = some (.int .u8 (z0.getD i 0))) ∧ ∀ n ∈ z0, (Lit.int .u8 n).wf = true) (y0 : len0 * 1 ≤ 140737488351232) (w1 : (a1 = none ∧ len1 = 0 ∧ cap1 = 0 ∧ z1 = []) ∨ ∃ x, a1 = some x ∧ len1 ≤ cap1 ∧ cap1 ≤ maxLen ∧ z1.length = cap1 ∧ (∀ i, i < z1.length → w.cell? (x.add i) = some (.int .u8 (z1.getD i 0))) ∧ ∀ n ∈ z1, (Lit.int .u8 n).wf = true) (y1 : len1 * 1 ≤ 140737488351232) :
  Calls Try.prog 4 #[.slice a0 len0 cap0, .slice a1 len1 cap1] w fun e w' => e = .returned (.bool true) ∧ Below w.heap.size w w' := by
 obtain ⟨l0, rfl, hr0, hm0, hw0, hc0⟩ := ReadsInt.ofRowC w0
 obtain ⟨l1, rfl, hr1, hm1, hw1, hc1⟩ := ReadsInt.ofRowC w1
 obtain ⟨k, h⟩ := P l0 l1 hm0 y0 hw0 hm1 y1 hw1
 refine (laws_FnVarints.calls k _ _ l0 _ _ l1 true w (Kd.C_of_reads (d := (0 : Int)) (h1 := fun _ => rfl) hr0) hc0 (Kd.C_of_reads (d := (0 : Int)) (h1 := fun _ => rfl) hr1) hc1 h).mono ?_
 rintro e w' ⟨rfl, hd⟩
 exact ⟨rfl, hd⟩

end Go.Proofs.Ytcggngmcaicdpab.PFnVarints
