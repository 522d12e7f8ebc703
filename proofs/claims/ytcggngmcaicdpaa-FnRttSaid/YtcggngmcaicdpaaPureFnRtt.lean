/- FnRtt: whatever is drawn, a smoothed time lies between what it was and what was seen, both packages tell the same, and each further try waits twice as long. -/
import Derived.Test.YtcggngmcaicdpaaCurAmongFnRtt
set_option linter.unusedVariables false
set_option linter.unusedSimpArgs false
namespace Go.Proofs.Ytcggngmcaicdpaa.Pure
open Go.RowKit Go.Proofs.Ytcggngmcaicdpaa.B Go.Proofs.Ytcggngmcaicdpaa.CFnRtt Go.Proofs.Ytcggngmcaicdpaa.PFnRtt Go.Proofs.YtcggngmcaicdpaaW.PrintWords Go.Proofs.YtcggngmcaicdpaaW.PrintLast Go.Proofs.YtcggngmcaicdpaaW.PrintMore

theorem in_impl (a b c : Int) : impl_in.f a b c = some (decide (b ≤ a ∧ a ≤ c)) := by
  unfold impl_in.f
  by_cases h : a ≥ b
  · rw [if_pos h]; simp [h]
  · rw [if_neg h]; simp; omega
theorem in_spec (a b c : Int) : spec_l1In.f a b c = some (decide (b ≤ a ∧ a ≤ c)) := by
  unfold spec_l1In.f
  by_cases h : a ≥ b
  · rw [if_pos h]; simp [h]
  · rw [if_neg h]; simp; omega
def Tick (n : Int) : Prop := 0 ≤ n ∧ n ≤ 1000000000
instance (n : Int) : Decidable (Tick n) := inferInstanceAs (Decidable (_ ∧ _))
theorem tick_impl (n : Int) : impl_isTick.f n = some (decide (Tick n)) := by unfold impl_isTick.f; rw [in_impl]; rfl
theorem tick_spec (n : Int) : spec_l12Tick.f n = some (decide (Tick n)) := by unfold spec_l12Tick.f; rw [in_spec]; rfl

def Good (b : Bool) (L M S V : Int) : Prop := if b = true then 0 ≤ M ∧ M ≤ L ∧ Tick L ∧ Tick S ∧ Tick V else L = 0 ∧ M = 0 ∧ S = 0 ∧ V = 0
instance (b : Bool) (L M S V : Int) : Decidable (Good b L M S V) := by unfold Good; infer_instance
theorem good_impl (b : Bool) (L M S V : Int) : impl_goodRtt.f b L M S V = some (decide (Good b L M S V)) := by
  unfold impl_goodRtt.f Good
  cases b
  · simp; rfl
  · simp only [tick_impl, Option.bind_some]
    by_cases h1 : M ≥ 0 <;> by_cases h2 : M ≤ L <;> by_cases h3 : Tick L <;> by_cases h4 : Tick S <;> by_cases h5 : Tick V <;> simp [h1, h2, h3, h4, h5]
theorem good_spec (b : Bool) (L M S V : Int) : spec_l12Rtt.f b L M S V = some (decide (Good b L M S V)) := by
  unfold spec_l12Rtt.f Good
  cases b
  · simp; rfl
  · simp only [tick_spec, in_spec, Option.bind_some]
    by_cases h1 : Tick M <;> by_cases h2 : M ≤ L ∧ L ≤ 1000000000 <;> by_cases h4 : Tick S <;> by_cases h5 : Tick V <;> simp [h1, h2, h4, h5] <;> (unfold Tick at *; omega)

/-- What both make of a time. -/
def SR (b : Bool) (L M S V a1 a2 : Int) : Bool × Int × Int × Int × Int :=
  if b = true then
    let m := if a1 < M then a1 else M
    let adj := if m ≤ a1 - a2 then a1 - a2 else a1
    (true, a1, m, (7 * S + adj) / 8, (3 * V + (if S - adj < 0 then -(S - adj) else S - adj)) / 4)
  else (true, a1, a1, a1, a1 / 2)

theorem tdiv_nn {a n : Int} (h : 0 ≤ a) : Int.tdiv a n = a / n := Int.tdiv_eq_ediv_of_nonneg h

theorem sampled_impl (b : Bool) (L M S V a1 a2 : Int) (hg : Good b L M S V) (h1 : Tick a1) (h2 : Tick a2) :
    impl_sampled.f b L M S V a1 a2 = some (SR b L M S V a1 a2) := by
  unfold impl_sampled.f SR
  unfold Good at hg
  unfold Tick at *
  cases b
  · simp only [Bool.false_eq_true, if_false]
    rw [tdiv_nn h1.1, w64 (by omega) (by omega)]
  · simp only [if_true] at hg ⊢
    have em : mn a1 M = if a1 < M then a1 else M := by unfold mn; by_cases h : a1 < M <;> by_cases h' : M < a1 <;> simp [h, h'] <;> omega
    rw [em]
    generalize hm : (if a1 < M then a1 else M) = m
    have hm1 : m ≤ a1 ∧ m ≤ M ∧ 0 ≤ m := by subst hm; split <;> omega
    clear em hm
    rw [w64 (n := a1 - a2) (by omega) (by omega)]
    by_cases hc : a1 - a2 ≥ m
    · rw [if_pos hc]
      simp only [if_pos (show m ≤ a1 - a2 from hc)]
      unfold mx
      rw [w64 (n := S - (a1 - a2)) (by omega) (by omega), w64 (n := -(S - (a1 - a2))) (by omega) (by omega), w64 (n := 7 * S) (by omega) (by omega), w64 (n := 7 * S + (a1 - a2)) (by omega) (by omega), w64 (n := 3 * V) (by omega) (by omega)]
      have e : (if S - (a1 - a2) < -(S - (a1 - a2)) then -(S - (a1 - a2)) else S - (a1 - a2)) = if S - (a1 - a2) < 0 then -(S - (a1 - a2)) else S - (a1 - a2) := by split <;> split <;> omega
      rw [e]
      generalize hd : (if S - (a1 - a2) < 0 then -(S - (a1 - a2)) else S - (a1 - a2)) = dd
      have : 0 ≤ dd ∧ dd ≤ 1000000000 := by subst hd; split <;> omega
      rw [w64 (n := 3 * V + dd) (by omega) (by omega), tdiv_nn (by omega), tdiv_nn (by omega), w64 (by omega) (by omega), w64 (by omega) (by omega)]
    · rw [if_neg hc]
      simp only [if_neg (show ¬ m ≤ a1 - a2 from hc)]
      unfold mx
      rw [w64 (n := S - a1) (by omega) (by omega), w64 (n := -(S - a1)) (by omega) (by omega), w64 (n := 7 * S) (by omega) (by omega), w64 (n := 7 * S + a1) (by omega) (by omega), w64 (n := 3 * V) (by omega) (by omega)]
      have e : (if S - a1 < -(S - a1) then -(S - a1) else S - a1) = if S - a1 < 0 then -(S - a1) else S - a1 := by split <;> split <;> omega
      rw [e]
      generalize hd : (if S - a1 < 0 then -(S - a1) else S - a1) = dd
      have : 0 ≤ dd ∧ dd ≤ 1000000000 := by subst hd; split <;> omega
      rw [w64 (n := 3 * V + dd) (by omega) (by omega), tdiv_nn (by omega), tdiv_nn (by omega), w64 (by omega) (by omega), w64 (by omega) (by omega)]

theorem sample_j0 (b : Bool) (L m S V a1 a2 : Int) (hm : 0 ≤ m ∧ m ≤ a1) (hS : Tick S) (hV : Tick V) (h1 : Tick a1) (h2 : Tick a2) :
    EvP (fun k => spec_l12Sample.j0 k a1 a2 b L m S V) (· = (b, L, m, (7 * S + (if m ≤ a1 - a2 then a1 - a2 else a1)) / 8, (3 * V + (if S - (if m ≤ a1 - a2 then a1 - a2 else a1) < 0 then -(S - (if m ≤ a1 - a2 then a1 - a2 else a1)) else S - (if m ≤ a1 - a2 then a1 - a2 else a1))) / 4)) := by
  unfold Tick at *
  refine EvP.step (fun k => by rw [spec_l12Sample.j0]) ?_
  rw [w64 (n := a1 - a2) (by omega) (by omega)]
  refine EvP.ite (fun hc => ?_) (fun hc => ?_)
  · simp only [if_pos (show m ≤ a1 - a2 from hc)]
    rw [w64 (n := S - (a1 - a2)) (by omega) (by omega), w64 (n := -(S - (a1 - a2))) (by omega) (by omega), w64 (n := 7 * S) (by omega) (by omega), w64 (n := 7 * S + (a1 - a2)) (by omega) (by omega), w64 (n := 3 * V) (by omega) (by omega), tdiv_nn (by omega), w64 (n := (7 * S + (a1 - a2)) / 8) (by omega) (by omega)]
    refine EvP.ite (fun hd => EvP.some ?_) (fun hd => EvP.some ?_)
    · rw [if_pos hd, w64 (n := 3 * V + -(S - (a1 - a2))) (by omega) (by omega), tdiv_nn (by omega), w64 (by omega) (by omega)]
    · rw [if_neg hd, w64 (n := 3 * V + (S - (a1 - a2))) (by omega) (by omega), tdiv_nn (by omega), w64 (by omega) (by omega)]
  · simp only [if_neg (show ¬ m ≤ a1 - a2 from hc)]
    rw [w64 (n := S - a1) (by omega) (by omega), w64 (n := -(S - a1)) (by omega) (by omega), w64 (n := 7 * S) (by omega) (by omega), w64 (n := 7 * S + a1) (by omega) (by omega), w64 (n := 3 * V) (by omega) (by omega), tdiv_nn (by omega), w64 (n := (7 * S + a1) / 8) (by omega) (by omega)]
    refine EvP.ite (fun hd => EvP.some ?_) (fun hd => EvP.some ?_)
    · rw [if_pos hd, w64 (n := 3 * V + -(S - a1)) (by omega) (by omega), tdiv_nn (by omega), w64 (by omega) (by omega)]
    · rw [if_neg hd, w64 (n := 3 * V + (S - a1)) (by omega) (by omega), tdiv_nn (by omega), w64 (by omega) (by omega)]

theorem sampled_spec (b : Bool) (L M S V a1 a2 : Int) (hg : Good b L M S V) (h1 : Tick a1) (h2 : Tick a2) :
    EvP (fun k => spec_l12Sample.f k b L M S V a1 a2) (· = SR b L M S V a1 a2) := by
  unfold SR
  simp only [spec_l12Sample.f]
  unfold Good at hg
  cases b
  · simp only [Bool.false_eq_true, if_false]
    unfold Tick at *
    rw [tdiv_nn h1.1, w64 (by omega) (by omega)]
    exact EvP.some rfl
  · simp only [if_true] at hg ⊢
    unfold Tick at *
    refine EvP.ite (fun hc => ?_) (fun hc => ?_)
    · simp only [if_pos hc]
      exact sample_j0 true a1 a1 S V a1 a2 (by omega) (by unfold Tick; omega) (by unfold Tick; omega) (by unfold Tick; omega) (by unfold Tick; omega)
    · simp only [if_neg hc]
      exact sample_j0 true a1 M S V a1 a2 (by omega) (by unfold Tick; omega) (by unfold Tick; omega) (by unfold Tick; omega) (by unfold Tick; omega)

def SampleR (b : Bool) (L M S V a1 a2 : Int) : Bool × Int × Int × Int × Int × Bool :=
  if Good b L M S V ∧ Tick a1 ∧ Tick a2 then ((SR b L M S V a1 a2).1, (SR b L M S V a1 a2).2.1, (SR b L M S V a1 a2).2.2.1, (SR b L M S V a1 a2).2.2.2.1, (SR b L M S V a1 a2).2.2.2.2, true) else (false, 0, 0, 0, 0, false)
theorem sample_impl (b : Bool) (L M S V a1 a2 : Int) : impl_SampleRtt.f b L M S V a1 a2 = some (SampleR b L M S V a1 a2) := by
  unfold impl_SampleRtt.f SampleR
  rw [good_impl, tick_impl, tick_impl]
  by_cases hg : Good b L M S V
  · by_cases h1 : Tick a1
    · by_cases h2 : Tick a2
      · simp [hg, h1, h2, sampled_impl b L M S V a1 a2 hg h1 h2]
      · simp [hg, h1, h2]
    · simp [hg, h1]
  · simp [hg]
theorem sample_spec (b : Bool) (L M S V a1 a2 : Int) : EvP (fun k => spec_SampleRtt.f k b L M S V a1 a2) (· = SampleR b L M S V a1 a2) := by
  unfold SampleR
  simp only [spec_SampleRtt.f]
  rw [good_spec, tick_spec, tick_spec]
  by_cases hg : Good b L M S V
  · by_cases h1 : Tick a1
    · by_cases h2 : Tick a2
      · simp only [hg, h1, h2, decide_true, Option.bind_some, if_true, and_self]
        refine EvP.bind (sampled_spec b L M S V a1 a2 hg h1 h2) ?_
        rintro r rfl
        exact EvP.some rfl
      · simp only [hg, h1, h2, decide_true, decide_false, Option.bind_some, if_true, and_false, if_false, Bool.false_eq_true]
        exact EvP.some rfl
    · simp only [hg, h1, decide_true, decide_false, Option.bind_some, if_true, and_false, false_and, if_false, Bool.false_eq_true]
      exact EvP.some rfl
  · simp only [hg, decide_false, Option.bind_some, false_and, if_false, Bool.false_eq_true]
    exact EvP.some rfl

/-! ### what is drawn -/
theorem rtt_l0 {l : List Int} (hl : Bytes l) (d : Nat) : ∀ (x4 a s : Int) (b : Bool) (L M S V : Int), x4 = d → 0 ≤ a → a + 4 * d ≤ 4611686018427380000 →
    EvP (fun k => spec_l1Cur_rtt.l0 k x4 l a s b L M S V) (fun r => a ≤ r.2.2.2.2.2.1 ∧ r.2.2.2.2.2.1 ≤ a + 4 * d + 4) := by
  induction d with
  | zero =>
    intro x4 a s b L M S V hx h0 h1
    refine EvP.step (fun k => by rw [spec_l1Cur_rtt.l0]) ?_
    refine EvP.neg (by omega) ?_
    refine EvP.bind0 (one_ok hl a s 30 h0 (by omega)) ?_
    intro q hq
    refine EvP.ite (fun _ => ?_) (fun _ => EvP.some ⟨by dsimp only; omega, by dsimp only; omega⟩)
    refine EvP.bind0 (among_ok hl _ _ (by omega) (by omega) _ (by simp)) ?_
    intro z hz
    exact EvP.some ⟨by dsimp only; omega, by dsimp only; omega⟩
  | succ d ih =>
    intro x4 a s b L M S V hx h0 h1
    refine EvP.step (fun k => by rw [spec_l1Cur_rtt.l0]) ?_
    refine EvP.pos (by omega) ?_
    refine EvP.bind0 (pick_ok hl a s 200 h0 (by omega)) ?_
    intro p hp
    refine EvP.bind0 (pick_ok hl _ _ 30 (by omega) (by omega)) ?_
    intro q hq
    refine EvP.bind (sample_spec _ _ _ _ _ _ _) ?_
    rintro r rfl
    rw [w64 (n := x4 - 1) (by omega) (by omega)]
    refine (ih _ _ _ _ _ _ _ _ (by omega) (by omega) (by omega)).mono ?_
    intro r hr
    exact ⟨by omega, by omega⟩
theorem rtt_ok {l : List Int} (hl : Bytes l) (a s : Int) (h0 : 0 ≤ a) (h1 : a ≤ 4611686018427300000) :
    EvP (fun k => spec_l1Cur_rtt.f k l a s) (fun r => a ≤ r.2.2.2.2.2.1 ∧ r.2.2.2.2.2.1 ≤ a + 20) := by
  simp only [spec_l1Cur_rtt.f]
  refine EvP.bind0 (pick_ok hl a s 4 h0 (by omega)) ?_
  intro p hp
  have := hp.2.2.1 (by omega)
  refine (rtt_l0 hl p.1.toNat p.1 _ _ _ _ _ _ _ (by omega) (by omega) (by omega)).mono ?_
  intro r hr
  exact ⟨by omega, by omega⟩
theorem drawSample_ok {l : List Int} (hl : Bytes l) : EvP (fun k => spec_DrawSampleRtt.f k l) (fun _ => True) := by
  simp only [spec_DrawSampleRtt.f]
  refine EvP.bind0 (pick_ok hl 0 0 300 (by omega) (by omega)) ?_
  intro p hp
  refine EvP.bind0 (one_ok hl _ _ 20 (by omega) (by omega)) ?_
  intro q hq
  refine EvP.ite (fun _ => ?_) (fun _ => ?_)
  · refine EvP.bind0 (among_ok hl _ _ (by omega) (by omega) _ (by simp)) ?_
    intro z hz
    refine EvP.bind (rtt_ok hl _ _ (by omega) (by omega)) ?_
    intro r hr
    refine EvP.bind0 (pick_ok hl _ _ 60 (by omega) (by omega)) ?_
    intro u hu
    exact EvP.some trivial
  · refine EvP.bind (rtt_ok hl _ _ (by omega) (by omega)) ?_
    intro r hr
    refine EvP.bind0 (pick_ok hl _ _ 60 (by omega) (by omega)) ?_
    intro u hu
    exact EvP.some trivial
theorem drawProbe_ok {l : List Int} (hl : Bytes l) : EvP (fun k => spec_DrawProbeTime.f k l) (fun r => -1 ≤ r.2.2.2.2.2.2 ∧ r.2.2.2.2.2.2 ≤ 11) := by
  simp only [spec_DrawProbeTime.f]
  refine EvP.bind (rtt_ok hl 0 0 (by omega) (by omega)) ?_
  intro r hr
  refine EvP.bind0 (pick_ok hl _ _ 60 (by omega) (by omega)) ?_
  intro u hu
  refine EvP.bind0 (pick_ok hl _ _ 13 (by omega) (by omega)) ?_
  intro v hv
  have := hv.2.2.1 (by omega)
  rw [w64 (n := v.1 - 1) (by omega) (by omega)]
  exact EvP.some ⟨by dsimp only; omega, by dsimp only; omega⟩

/-! ### the time of a try -/
theorem shl_in (x : Int) (n : Nat) (hx : 0 ≤ x ∧ x ≤ 10000000000) (hn : n ≤ 11) : shl .i64 x (n : Int) = x * 2 ^ n := by
  unfold shl
  rw [IntWalk.i64_left, Nat.min_eq_left (by simp [IntKind.bits]; omega), Int.toNat_natCast]
  have h : n = 0 ∨ n = 1 ∨ n = 2 ∨ n = 3 ∨ n = 4 ∨ n = 5 ∨ n = 6 ∨ n = 7 ∨ n = 8 ∨ n = 9 ∨ n = 10 ∨ n = 11 := by omega
  rcases h with rfl | rfl | rfl | rfl | rfl | rfl | rfl | rfl | rfl | rfl | rfl | rfl <;> (apply w64 <;> (simp only [Int.reducePow]; omega))
def base (b : Bool) (S V d : Int) : Int := if b = true then S + (if 4 * V < 1 then 1 else 4 * V) + d else 1000
def ProbeR (b : Bool) (L M S V d t : Int) : Int × Bool := if Good b L M S V ∧ Tick d ∧ 0 ≤ t ∧ t ≤ 10 then (shl .i64 (base b S V d) t, true) else (0, false)
theorem base_in {b : Bool} {L M S V d : Int} (hg : Good b L M S V) (hd : Tick d) : 0 ≤ base b S V d ∧ base b S V d ≤ 10000000000 := by
  unfold base
  unfold Good Tick at hg
  unfold Tick at hd
  cases b
  · simp
  · simp only [if_true] at hg ⊢
    split <;> omega
theorem probe_j0 (b : Bool) (L M S V d t : Int) (c : Bool) (hg : Good b L M S V) (hd : Tick d) (ht : c = false → 0 ≤ t) :
    EvP (fun k => impl_ProbeTime.j0 k d t c b L M S V) (· = if c = true then (0, false) else (shl .i64 (base b S V d) t, true)) := by
  refine EvP.step (fun k => by rw [impl_ProbeTime.j0]) ?_
  cases c
  · simp only [Bool.false_eq_true, if_false]
    have ht := ht rfl
    unfold base
    unfold Good Tick at hg
    unfold Tick at hd
    cases b
    · simp only [Bool.false_eq_true, if_false, if_pos ht]
      exact EvP.some rfl
    · simp only [if_true, if_pos ht] at hg ⊢
      unfold mx
      rw [w64 (n := 4 * V) (by omega) (by omega)]
      generalize hz : (if 4 * V < 1 then 1 else 4 * V) = z
      have : 0 ≤ z ∧ z ≤ 4000000000 := by subst hz; split <;> omega
      rw [w64 (n := S + z) (by omega) (by omega), w64 (n := S + z + d) (by omega) (by omega)]
      exact EvP.some rfl
  · simp only [if_true]
    exact EvP.some rfl
theorem probe_j0s (b : Bool) (L M S V d t : Int) (c : Bool) (hg : Good b L M S V) (hd : Tick d) (ht : c = false → 0 ≤ t ∧ t ≤ 10) :
    EvP (fun k => spec_ProbeTime.j0 k d t c b L M S V) (· = if c = true then (0, false) else (shl .i64 (base b S V d) t, true)) := by
  refine EvP.step (fun k => by rw [spec_ProbeTime.j0]) ?_
  cases c
  · simp only [Bool.false_eq_true, if_false]
    have ht := ht rfl
    rw [u64w_id (n := t) (by omega) (by omega)]
    unfold base
    unfold Good Tick at hg
    unfold Tick at hd
    cases b
    · simp only [Bool.false_eq_true, if_false, if_pos ht.1]
      exact EvP.some rfl
    · simp only [if_true, if_pos ht.1] at hg ⊢
      rw [w64 (n := 4 * V) (by omega) (by omega)]
      refine EvP.ite (fun hc => ?_) (fun hc => ?_)
      · rw [if_pos hc, w64 (n := S + 1) (by omega) (by omega), w64 (n := S + 1 + d) (by omega) (by omega)]
        exact EvP.some rfl
      · rw [if_neg hc, w64 (n := S + 4 * V) (by omega) (by omega), w64 (n := S + 4 * V + d) (by omega) (by omega)]
        exact EvP.some rfl
  · simp only [if_true]
    exact EvP.some rfl
theorem j0_true_impl (b : Bool) (L M S V d t : Int) : EvP (fun k => impl_ProbeTime.j0 k d t true b L M S V) (· = (0, false)) := by
  refine EvP.step (fun k => by rw [impl_ProbeTime.j0]) ?_
  simp only [if_true]
  exact EvP.some rfl
theorem j0_true_spec (b : Bool) (L M S V d t : Int) : EvP (fun k => spec_ProbeTime.j0 k d t true b L M S V) (· = (0, false)) := by
  refine EvP.step (fun k => by rw [spec_ProbeTime.j0]) ?_
  simp only [if_true]
  exact EvP.some rfl
theorem probe_impl (b : Bool) (L M S V d t : Int) : EvP (fun k => impl_ProbeTime.f k b L M S V d t) (· = ProbeR b L M S V d t) := by
  unfold ProbeR
  simp only [impl_ProbeTime.f]
  rw [good_impl, tick_impl, in_impl]
  by_cases hg : Good b L M S V
  · by_cases h1 : Tick d
    · simp only [hg, h1, decide_true, Option.bind_some, if_true, true_and]
      refine (probe_j0 b L M S V d t _ hg h1 (fun h => by simp at h; omega)).mono ?_
      rintro r rfl
      by_cases h : 0 ≤ t ∧ t ≤ 10 <;> simp [h]
    · simp only [hg, h1, decide_true, decide_false, Option.bind_some, if_true, and_false, false_and, if_false, Bool.false_eq_true]
      exact j0_true_impl ..
  · simp only [hg, decide_false, Option.bind_some, false_and, if_false, Bool.false_eq_true]
    exact j0_true_impl ..
theorem probe_spec (b : Bool) (L M S V d t : Int) : EvP (fun k => spec_ProbeTime.f k b L M S V d t) (· = ProbeR b L M S V d t) := by
  unfold ProbeR
  simp only [spec_ProbeTime.f]
  rw [good_spec, tick_spec, in_spec]
  by_cases hg : Good b L M S V
  · by_cases h1 : Tick d
    · simp only [hg, h1, decide_true, Option.bind_some, if_true, true_and]
      refine (probe_j0s b L M S V d t _ hg h1 (fun h => by simp at h; omega)).mono ?_
      rintro r rfl
      by_cases h : 0 ≤ t ∧ t ≤ 10 <;> simp [h]
    · simp only [hg, h1, decide_true, decide_false, Option.bind_some, if_true, and_false, false_and, if_false, Bool.false_eq_true]
      exact j0_true_spec ..
  · simp only [hg, decide_false, Option.bind_some, false_and, if_false, Bool.false_eq_true]
    exact j0_true_spec ..

/-! ### the law -/
theorem j5_ok {l : List Int} (hl : Bytes l) : EvP (fun k => laws_FnRtt.j5 k l) (· = true) := by
  refine EvP.step (fun k => by rw [laws_FnRtt.j5]) ?_
  refine EvP.bind (drawProbe_ok hl) ?_
  rintro ⟨b, L, M, S, V, d, t⟩ ht
  dsimp only at ht ⊢
  refine EvP.bind (probe_impl b L M S V d t) ?_
  rintro p rfl
  refine EvP.bind (probe_spec b L M S V d t) ?_
  rintro p rfl
  refine EvP.neg (by simp) (EvP.pos rfl ?_)
  rw [w64 (n := t + 1) (by omega) (by omega)]
  refine EvP.bind (probe_impl b L M S V d (t + 1)) ?_
  rintro p rfl
  refine EvP.ite (fun h2 => ?_) (fun _ => EvP.some rfl)
  unfold ProbeR at h2 ⊢
  by_cases hc : Good b L M S V ∧ Tick d ∧ 0 ≤ t + 1 ∧ t + 1 ≤ 10
  · obtain ⟨hg, hd, h3, h4⟩ := hc
    rw [if_pos (show Good b L M S V ∧ Tick d ∧ 0 ≤ t + 1 ∧ t + 1 ≤ 10 from ⟨hg, hd, h3, h4⟩)]
    by_cases h0 : 0 ≤ t
    · rw [if_pos (show Good b L M S V ∧ Tick d ∧ 0 ≤ t ∧ t ≤ 10 from ⟨hg, hd, h0, by omega⟩)]
      refine EvP.pos rfl (EvP.pos ?_ (EvP.some rfl))
      dsimp only
      have hb := base_in hg hd
      obtain ⟨n, rfl⟩ := Int.eq_ofNat_of_zero_le h0
      have e : ((n : Int) + 1) = ((n + 1 : Nat) : Int) := by omega
      rw [e, shl_in _ _ hb (by omega), shl_in _ _ hb (by omega)]
      generalize base b S V d = x at hb ⊢
      have h : n = 0 ∨ n = 1 ∨ n = 2 ∨ n = 3 ∨ n = 4 ∨ n = 5 ∨ n = 6 ∨ n = 7 ∨ n = 8 ∨ n = 9 := by omega
      rcases h with rfl | rfl | rfl | rfl | rfl | rfl | rfl | rfl | rfl | rfl <;> (simp only [Int.reducePow, Nat.reduceAdd]; rw [w64 (by omega) (by omega)]; omega)
    · rw [if_neg (show ¬ (Good b L M S V ∧ Tick d ∧ 0 ≤ t ∧ t ≤ 10) from fun h => h0 h.2.2.1)]
      refine EvP.neg (by simp) (EvP.some ?_)
      simp; omega
  · rw [if_neg hc] at h2
    simp at h2

theorem j4_ok {l : List Int} (hl : Bytes l) (x6 lo hi : Int) (b : Bool) (L M S V : Int) (c : Bool) (M' S' V' : Int) (hM : M' ≤ x6) (hlo : lo ≤ S') (hhi : if c = true then S' ≤ S else S' ≤ hi) :
    EvP (fun k => laws_FnRtt.j4 k l x6 lo hi c b L M S V true x6 M' S' V') (· = true) := by
  refine EvP.step (fun k => by rw [laws_FnRtt.j4]) ?_
  cases c
  · simp only [Bool.false_eq_true, if_false, if_true] at hhi ⊢
    exact EvP.neg (by omega) (EvP.neg (by omega) (EvP.neg (by omega) (j5_ok hl)))
  · simp only [if_true] at hhi ⊢
    exact EvP.neg (by omega) (EvP.neg (by omega) (EvP.neg (by omega) (j5_ok hl)))
theorem j1_ok {l : List Int} (hl : Bytes l) (x6 lo hi : Int) (b : Bool) (L M S V : Int) (M' S' V' : Int) (hM : M' ≤ x6)
    (hlo : lo ≤ S' ∨ b = true ∧ S ≤ S') (hhi : S' ≤ hi ∨ b = true ∧ S' ≤ S) :
    EvP (fun k => laws_FnRtt.j1 k l x6 lo hi b L M S V true x6 M' S' V') (· = true) := by
  have h3 : ∀ lo', lo' ≤ S' → EvP (fun k => laws_FnRtt.j3 k l x6 lo' hi b L M S V true x6 M' S' V') (· = true) := by
    intro lo' h
    refine EvP.step (fun k => by rw [laws_FnRtt.j3]) ?_
    cases b
    · simp only [Bool.false_eq_true, if_false]
      exact j4_ok hl _ _ _ _ _ _ _ _ _ _ _ _ hM h (by simp; rcases hhi with h | h; exact h; simp at h)
    · simp only [if_true]
      refine j4_ok hl _ _ _ _ _ _ _ _ _ _ _ _ hM h ?_
      by_cases h' : S > hi
      · simp only [h', decide_true, if_true]; rcases hhi with h | h <;> omega
      · simp only [h', decide_false, Bool.false_eq_true, if_false]; rcases hhi with h | h <;> omega
  have h2 : ∀ c : Bool, (if c = true then S ≤ S' else lo ≤ S') → EvP (fun k => laws_FnRtt.j2 k l x6 lo hi c b L M S V true x6 M' S' V') (· = true) := by
    intro c h
    refine EvP.step (fun k => by rw [laws_FnRtt.j2]) ?_
    cases c
    · simp only [Bool.false_eq_true, if_false] at h ⊢; exact h3 _ h
    · simp only [if_true] at h ⊢; exact h3 _ h
  refine EvP.step (fun k => by rw [laws_FnRtt.j1]) ?_
  cases b
  · simp only [Bool.false_eq_true, if_false]
    exact h2 false (by simp; rcases hlo with h | h; exact h; simp at h)
  · simp only [if_true]
    refine h2 _ ?_
    by_cases h' : S < lo
    · simp only [h', decide_true, if_true]; rcases hlo with h | h <;> omega
    · simp only [h', decide_false, Bool.false_eq_true, if_false]; rcases hlo with h | h <;> omega

theorem j0_ok {l : List Int} (hl : Bytes l) (b : Bool) (L M S V a1 a2 : Int) :
    EvP (fun k => laws_FnRtt.j0 k l a1 a2 (SampleR b L M S V a1 a2).2.2.2.2.2 false b L M S V (SampleR b L M S V a1 a2).1 (SampleR b L M S V a1 a2).2.1 (SampleR b L M S V a1 a2).2.2.1 (SampleR b L M S V a1 a2).2.2.2.1 (SampleR b L M S V a1 a2).2.2.2.2.1) (· = true) := by
  refine EvP.step (fun k => by rw [laws_FnRtt.j0]) ?_
  simp only [Bool.false_eq_true, if_false]
  unfold SampleR
  by_cases hc : Good b L M S V ∧ Tick a1 ∧ Tick a2
  · rw [if_pos hc]
    obtain ⟨hg, h1, h2⟩ := hc
    simp only [if_true]
    unfold SR
    unfold Good Tick at hg
    unfold Tick at h1 h2
    rw [w64 (n := a1 - a2) (by omega) (by omega)]
    cases b
    · simp only [Bool.false_eq_true, if_false]
      refine EvP.ite (fun h => ?_) (fun h => ?_)
      · exact j1_ok hl _ _ _ _ _ _ _ _ _ _ _ (by omega) (.inl (by omega)) (.inl (by omega))
      · exact j1_ok hl _ _ _ _ _ _ _ _ _ _ _ (by omega) (.inl (by omega)) (.inl (by omega))
    · simp only [if_true] at hg ⊢
      generalize hm : (if a1 < M then a1 else M) = m
      have hm1 : m ≤ a1 ∧ m ≤ M ∧ 0 ≤ m := by subst hm; split <;> omega
      refine EvP.ite (fun h => ?_) (fun h => ?_)
      · simp only [if_pos (show m ≤ a1 - a2 from h)]
        exact j1_ok hl _ _ _ _ _ _ _ _ _ _ _ (by omega) (by simp; omega) (by simp; omega)
      · simp only [if_neg (show ¬ m ≤ a1 - a2 from h)]
        exact j1_ok hl _ _ _ _ _ _ _ _ _ _ _ (by omega) (by simp; omega) (by simp; omega)
  · rw [if_neg hc]
    simp only [Bool.false_eq_true, if_false]
    exact j5_ok hl

theorem FnRtt : laws_FnRtt.Pure := by
  intro l0 l1 _ _ hb0 _ _ hb1
  have hl0 := bytes_of_wf hb0
  have hl1 := bytes_of_wf hb1
  refine EvP.rounds ?_
  simp only [laws_FnRtt.f]
  refine EvP.ite (fun _ => EvP.some rfl) (fun _ => ?_)
  refine EvP.bind (drawSample_ok hl0) ?_
  rintro ⟨b, L, M, S, V, a1, a2⟩ -
  dsimp only
  rw [sample_impl]
  simp only [Option.bind_some]
  refine EvP.bind (sample_spec b L M S V a1 a2) ?_
  rintro q rfl
  refine EvP.neg (by simp) ?_
  have e : ∀ r : Bool × Int × Int × Int × Int × Bool, (!(r.1 == r.1) || (!(r.2.1 == r.2.1) || (!(r.2.2.1 == r.2.2.1) || (!(r.2.2.2.1 == r.2.2.2.1) || (!(r.2.2.2.2.1 == r.2.2.2.2.1)))))) = false := by simp
  rw [e]
  exact j0_ok hl1 b L M S V a1 a2
end Go.Proofs.Ytcggngmcaicdpaa.Pure
