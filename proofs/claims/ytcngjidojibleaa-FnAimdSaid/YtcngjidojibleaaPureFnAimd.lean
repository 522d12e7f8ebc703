/- FnAimd: whatever is drawn, acknowledged bytes never make a window less and grow it as said, and both packages tell the same. -/
import Derived.Test.YtcngjidojibleaaWinFnAimd
set_option linter.unusedVariables false
set_option linter.unusedSimpArgs false
namespace Go.Proofs.Ytcngjidojibleaa.Pure
open Go.RowKit Go.Proofs.Ytcngjidojibleaa.B Go.Proofs.Ytcngjidojibleaa.CFnAimd Go.Proofs.Ytcngjidojibleaa.PFnAimd Go.Proofs.YtcngjidojibleaaW.PrintWords Go.Proofs.YtcngjidojibleaaW.PrintLast Go.Proofs.YtcngjidojibleaaW.PrintMore

theorem ack_impl_j (a b c d s t : Int) (hg : GW a b c d) (hs : Sz s) (x : Bool) (hx : x = false → s ≤ d) :
    EvP (fun k => impl_AckedBytes.j0 k s t x a b c d) (· = if x = true then (0, 0, 0, 0, false) else if t > c then ((if a + more a b s > 100000000 then 100000000 else a + more a b s), b, c, d - s, true) else (a, b, c, d - s, true)) := by
  obtain ⟨m1, m2, _⟩ := more_in hg hs
  unfold GW at hg; unfold Sz at hs
  refine EvP.step (fun k => by rw [impl_AckedBytes.j0]) ?_
  refine EvP.ite (fun h => EvP.some (by rw [if_pos h])) (fun h => ?_)
  have := hx (by simpa using h)
  rw [if_neg h, w64 (n := d - s) (by omega) (by omega)]
  have em : ∀ z : Int, mn z 100000000 = if z > 100000000 then 100000000 else z := by intro z; unfold mn; rfl
  refine EvP.ite (fun h1 => ?_) (fun h1 => EvP.some (by rw [if_neg h1]))
  rw [if_pos h1, em, em]
  unfold more at m1 m2 ⊢
  refine EvP.ite (fun h2 => ?_) (fun h2 => ?_)
  · have e1 : (if a < b then s else 1200 * s / a) = 1200 * s / a := if_neg (by omega)
    rw [e1] at m1 m2 ⊢
    rw [w64 (n := 1200 * s) (by omega) (by omega), tdiv_nn (by omega), w64 (n := 1200 * s / a) (by omega) (by omega), w64 (n := a + 1200 * s / a) (by omega) (by omega)]
    exact EvP.neg (by omega) (EvP.some rfl)
  · rw [if_pos (show a < b by omega), w64 (n := a + s) (by omega) (by omega)]
    exact EvP.some rfl
theorem ack_impl_t (a b c d s t : Int) : EvP (fun k => impl_AckedBytes.j0 k s t true a b c d) (· = (0, 0, 0, 0, false)) := by
  refine EvP.step (fun k => by rw [impl_AckedBytes.j0]) ?_
  exact EvP.pos rfl (EvP.some rfl)
theorem ack_impl (a b c d s t : Int) : EvP (fun k => impl_AckedBytes.f k a b c d s t) (· = AckR a b c d s t) := by
  unfold AckR
  simp only [impl_AckedBytes.f]
  rw [gw_impl, sz_impl, tk_impl]
  simp only [Option.bind_some]
  refine EvP.ite (fun h1 => EvP.ite (fun h2 => EvP.ite (fun h3 => ?_) (fun h3 => ?_)) (fun h2 => ?_)) (fun h1 => ?_)
  · have h1 := of_decide_eq_true h1; have h2 := of_decide_eq_true h2; have h3 := of_decide_eq_true h3
    refine (ack_impl_j a b c d s t h1 h2 _ (fun h => by simpa using h)).mono ?_
    rintro r rfl
    by_cases h5 : d < s
    · rw [if_pos (by simpa using h5), if_neg (fun q => by omega)]
    · rw [if_neg (by simpa using h5), if_pos (show GW a b c d ∧ Sz s ∧ Tk t ∧ s ≤ d from ⟨h1, h2, h3, by omega⟩)]
  · rw [if_neg (fun q => h3 (decide_eq_true q.2.2.1))]; exact ack_impl_t ..
  · rw [if_neg (fun q => h2 (decide_eq_true q.2.1))]; exact ack_impl_t ..
  · rw [if_neg (fun q => h1 (decide_eq_true q.1))]; exact ack_impl_t ..
theorem grow_impl (a b c d : Int) (g : Gr) : EvP (fun k => impl_Grow_grow.f k g.f0 g.f1 g.f2 g.f3 a b c d) (fun r => (r = GrowR a b c d g) ∨ (r = (a, b, c, d, true) ∧ (GrowR a b c d g).2.2.2.2 = false)) := by
  simp only [impl_Grow_grow.f]
  unfold GrowR
  refine EvP.ite (fun h1 => ?_) (fun h1 => EvP.ite (fun h2 => ?_) (fun h2 => EvP.ite (fun h3 => ?_) (fun h3 => EvP.ite (fun h4 => ?_) (fun h4 => ?_))))
  · rw [if_pos h1]
    refine EvP.bind0 ⟨_, sent_impl .., rfl⟩ ?_
    rintro r rfl
    exact EvP.some (.inl rfl)
  · rw [if_neg h1, if_pos h2]
    refine EvP.bind (ack_impl ..) ?_
    rintro r rfl
    exact EvP.some (.inl rfl)
  · rw [if_neg h1, if_neg h2, if_pos h3]
    refine EvP.bind (lost_impl ..) ?_
    rintro r rfl
    exact EvP.some (.inl rfl)
  · rw [if_neg h1, if_neg h2, if_neg h3, if_pos h4]
    refine EvP.bind0 ⟨_, stal_impl .., rfl⟩ ?_
    rintro r rfl
    exact EvP.some (.inl rfl)
  · rw [if_neg h1, if_neg h2, if_neg h3, if_neg h4]
    exact EvP.some (.inr ⟨rfl, rfl⟩)
theorem play_impl_l0 (l : List Gr) (hl : l.length ≤ 100) (n : Nat) : ∀ (i : Nat) (ss : List Int) (a b c d : Int), i + n = l.length → ss.length = i →
    EvP (fun k => impl_PlayWindow.l0 k ss l (l.length : Int) (i : Int) a b c d) (· = play (l.drop i) a b c d ss) := by
  induction n with
  | zero =>
    intro i ss a b c d hi hs
    refine EvP.step (fun k => by rw [impl_PlayWindow.l0]) ?_
    refine EvP.neg (by omega) (EvP.some ?_)
    rw [List.drop_eq_nil_of_le (by omega)]; rfl
  | succ n ih =>
    intro i ss a b c d hi hs
    refine EvP.step (fun k => by rw [impl_PlayWindow.l0]) ?_
    rw [rdT_drop (l := l) (n := i) (by omega), w64 (n := (i : Int) + 1) (by omega) (by omega), show ((i : Int) + 1) = ((i + 1 : Nat) : Int) by omega, play]
    refine EvP.pos (by omega) (EvP.pos (by omega) (EvP.pos (by omega) ?_))
    generalize rd_T100 l (i : Int) = g
    refine EvP.bind (grow_impl a b c d g) ?_
    intro r hr
    refine EvP.ite (fun h => ?_) (fun h => ?_)
    · rcases hr with rfl | ⟨rfl, hf⟩
      · rw [if_pos h]
        exact EvP.pos (by omega) (ih _ _ _ _ _ _ (by omega) (by simp; omega))
      · rw [if_neg (by rw [hf]; simp)]
        exact EvP.pos (by omega) (ih _ _ _ _ _ _ (by omega) (by simp; omega))
    · rcases hr with rfl | ⟨rfl, hf⟩
      · rw [if_neg h]
        exact EvP.pos (by omega) (ih _ _ _ _ _ _ (by omega) (by simp; omega))
      · simp at h
theorem play_impl (l : List Gr) : EvP (fun k => impl_PlayWindow.f k l) (· = PlayR l) := by
  unfold PlayR
  simp only [impl_PlayWindow.f, impl_NewWindow.f, Option.bind_some]
  refine EvP.ite (fun h => EvP.some (by rw [if_pos (by omega)])) (fun h => ?_)
  rw [if_neg (by omega)]
  exact play_impl_l0 l (by omega) l.length 0 [] _ _ _ _ (by omega) rfl

theorem ack_size {a b c d s : Int} (hg : GW a b c d) (hs : Sz s) : a ≤ (if a + more a b s > 100000000 then 100000000 else a + more a b s) ∧ (if a + more a b s > 100000000 then 100000000 else a + more a b s) ≤ 100000000 ∧
    (if a + more a b s > 100000000 then 100000000 else a + more a b s) - a ≤ more a b s := by
  obtain ⟨m1, m2, _⟩ := more_in hg hs
  unfold GW at hg
  split <;> omega
theorem grow_good {a b c d : Int} {g : Gr} (hg : GW a b c d) (h : (GrowR a b c d g).2.2.2.2 = true) : GW (GrowR a b c d g).1 (GrowR a b c d g).2.1 (GrowR a b c d g).2.2.1 (GrowR a b c d g).2.2.2.1 := by
  have hg' := hg
  unfold GW at hg'
  unfold GrowR at h ⊢
  by_cases h1 : g.f0 = 1
  · rw [if_pos h1] at h ⊢
    unfold SentR at h ⊢
    split at h
    · rename_i hc
      rw [if_pos hc]
      obtain ⟨_, hs, hz⟩ := hc
      unfold Sz at hs
      unfold GW; dsimp only; omega
    · simp at h
  · rw [if_neg h1] at h ⊢
    by_cases h2 : g.f0 = 2
    · rw [if_pos h2] at h ⊢
      unfold AckR at h ⊢
      split at h
      · rename_i hc
        rw [if_pos hc]
        obtain ⟨_, hs, ht, hz⟩ := hc
        obtain ⟨z1, z2, z3⟩ := ack_size hg hs
        unfold Sz at hs
        split
        · unfold GW; dsimp only; omega
        · unfold GW; dsimp only; omega
      · simp at h
    · rw [if_neg h2] at h ⊢
      by_cases h3 : g.f0 = 3
      · rw [if_pos h3] at h ⊢
        unfold LostR at h ⊢
        split at h
        · rename_i hc
          rw [if_pos hc]
          obtain ⟨_, hs, ht, hn, hz⟩ := hc
          unfold Sz at hs; unfold Tk at hn
          have hh : 2400 ≤ half a ∧ half a ≤ 100000000 := by unfold half; split <;> omega
          split
          · unfold GW; dsimp only; omega
          · unfold GW; dsimp only; omega
        · simp at h
      · rw [if_neg h3] at h ⊢
        by_cases h4 : g.f0 = 4
        · rw [if_pos h4] at h ⊢
          unfold StalR at h ⊢
          rw [if_pos hg]
          unfold GW; dsimp only; omega
        · rw [if_neg h4] at h; simp at h
theorem play_good (l : List Gr) : ∀ (a b c d : Int) (ss : List Int), GW a b c d → (∀ x ∈ ss, 2400 ≤ x) →
    GW (play l a b c d ss).1 (play l a b c d ss).2.1 (play l a b c d ss).2.2.1 (play l a b c d ss).2.2.2.1 ∧ (∀ x ∈ (play l a b c d ss).2.2.2.2.1, 2400 ≤ x) ∧ (play l a b c d ss).2.2.2.2.1.length = ss.length + l.length := by
  induction l with
  | nil => intro a b c d ss hg hs; exact ⟨hg, hs, rfl⟩
  | cons g l ih =>
    intro a b c d ss hg hs
    rw [play]
    have hap : ∀ y : Int, 2400 ≤ y → ∀ x ∈ ss ++ [y], 2400 ≤ x := by
      intro y hy x hx
      rcases List.mem_append.1 hx with hx | hx
      · exact hs x hx
      · simp only [List.mem_singleton] at hx; omega
    by_cases h : (GrowR a b c d g).2.2.2.2 = true
    · rw [if_pos h]
      have hg2 := grow_good hg h
      obtain ⟨p1, p2, p3⟩ := ih _ _ _ _ (ss ++ [(GrowR a b c d g).1]) hg2 (hap _ (by unfold GW at hg2; omega))
      exact ⟨p1, p2, by rw [p3]; simp; omega⟩
    · rw [if_neg h]
      obtain ⟨p1, p2, p3⟩ := ih a b c d (ss ++ [a]) hg (hap _ (by unfold GW at hg; omega))
      exact ⟨p1, p2, by rw [p3]; simp; omega⟩
theorem PlayR_good (l : List Gr) : (∀ x ∈ (PlayR l).2.2.2.2.1, 2400 ≤ x) ∧ ((PlayR l).2.2.2.2.2 = true → GW (PlayR l).1 (PlayR l).2.1 (PlayR l).2.2.1 (PlayR l).2.2.2.1) ∧ (PlayR l).2.2.2.2.1.length ≤ 100 := by
  unfold PlayR
  by_cases h : l.length > 100
  · rw [if_pos h]; exact ⟨by simp, by simp, by simp⟩
  · rw [if_neg h]
    obtain ⟨p1, p2, p3⟩ := play_good l 12000 100000000 (-1) 0 [] (by unfold GW; omega) (by simp)
    exact ⟨p2, fun _ => p1, by rw [p3]; simp; omega⟩

/-! ### the law -/
theorem same_l0 (l : List Int) (n : Nat) : ∀ (i : Nat), i + n = l.length → l.length ≤ 1000000 → EvP (fun k => laws_sameInts.l0 k l l (l.length : Int) (i : Int)) (· = true) := by
  induction n with
  | zero =>
    intro i hi hz
    refine EvP.step (fun k => by rw [laws_sameInts.l0]) ?_
    exact EvP.neg (by omega) (EvP.some rfl)
  | succ n ih =>
    intro i hi hz
    refine EvP.step (fun k => by rw [laws_sameInts.l0]) ?_
    refine EvP.pos (by omega) (EvP.pos (by omega) (EvP.pos (by omega) (EvP.pos (by omega) (EvP.pos rfl ?_))))
    rw [w64 (n := (i : Int) + 1) (by omega) (by omega)]
    exact ih (i + 1) (by omega) hz
theorem same_ok (l : List Int) (hz : l.length ≤ 1000000) : EvP (fun k => laws_sameInts.f k l l) (· = true) := by
  simp only [laws_sameInts.f]
  exact EvP.pos (by simp) (same_l0 l l.length 0 (by omega) hz)
theorem l0_ok (ok : Bool) (l : List Int) (hl : ∀ x ∈ l, 2400 ≤ x) (hz : l.length ≤ 100) (a b c d : Int) (hg : ok = true → GW a b c d) (n : Nat) : ∀ (i : Nat), i + n = l.length →
    EvP (fun k => laws_FnAimd.l0 k ok l (l.length : Int) (i : Int) a b c d) (· = true) := by
  induction n with
  | zero =>
    intro i hi
    refine EvP.step (fun k => by rw [laws_FnAimd.l0]) ?_
    refine EvP.neg (by omega) (EvP.ite (fun h => ?_) (fun h => EvP.some rfl))
    rw [gw_impl]
    simp only [Option.bind_some]
    exact EvP.some (by simpa using hg h)
  | succ n ih =>
    intro i hi
    refine EvP.step (fun k => by rw [laws_FnAimd.l0]) ?_
    have hm : rd l (i : Int) ∈ l := rd_mem (by omega) (by omega)
    have := hl _ hm
    refine EvP.pos (by omega) (EvP.pos (by omega) (EvP.pos (by omega) (EvP.neg (by omega) ?_)))
    rw [w64 (n := (i : Int) + 1) (by omega) (by omega)]
    exact ih (i + 1) (by omega)
theorem j4_ok {l : List Int} (hl : Bytes l) : EvP (fun k => laws_FnAimd.j4 k l) (· = true) := by
  refine EvP.step (fun k => by rw [laws_FnAimd.j4]) ?_
  have hd : EvP (fun k => spec_DrawPlayWindow.f k l) (fun _ => True) := by
    simp only [spec_DrawPlayWindow.f]
    refine EvP.bind (grows_ok hl 0 0 (by omega) (by omega)) ?_
    intro p hp
    exact EvP.some trivial
  refine EvP.bind hd ?_
  intro gs _
  refine EvP.bind (play_impl gs) ?_
  rintro p rfl
  refine EvP.bind (play_spec gs) ?_
  rintro p rfl
  obtain ⟨p1, p2, p3⟩ := PlayR_good gs
  refine EvP.neg (by simp) ?_
  refine EvP.bind (same_ok (PlayR gs).2.2.2.2.1 (by omega)) ?_
  rintro t rfl
  refine EvP.step (fun k => by rw [laws_FnAimd.j5]) ?_
  exact EvP.neg (by simp) (l0_ok _ _ p1 p3 _ _ _ _ p2 (PlayR gs).2.2.2.2.1.length 0 (by omega))
theorem j3_ok {l : List Int} (hl : Bytes l) : EvP (fun k => laws_FnAimd.j3 k l false) (· = true) := by
  refine EvP.step (fun k => by rw [laws_FnAimd.j3]) ?_
  exact EvP.neg (by simp) (j4_ok hl)
theorem j2_ok {l : List Int} (hl : Bytes l) (s t g a b c d : Int) (h : t > c → a ≥ b → wrap64 (g * a) ≤ wrap64 (1200 * s)) : EvP (fun k => laws_FnAimd.j2 k l s t g false a b c d) (· = true) := by
  refine EvP.step (fun k => by rw [laws_FnAimd.j2]) ?_
  refine EvP.neg (by simp) (EvP.ite (fun h1 => EvP.ite (fun h2 => ?_) (fun _ => j3_ok hl)) (fun _ => j3_ok hl))
  have := h h1 h2
  rw [show decide (wrap64 (g * a) > wrap64 (1200 * s)) = false by simp; omega]
  exact j3_ok hl
theorem j0_ok {l : List Int} (hl : Bytes l) (a b c d s t : Int) (hg : GW a b c d) (hs : Sz s) (ht : Tk t) (hd : s ≤ d) :
    EvP (fun k => laws_FnAimd.j0 k l s t true false a b c d (AckR a b c d s t).1 (AckR a b c d s t).2.1 (AckR a b c d s t).2.2.1 (AckR a b c d s t).2.2.2.1) (· = true) := by
  have hg' := hg
  unfold GW at hg'
  have hs' := hs; unfold Sz at hs'
  obtain ⟨m1, m2, m3⟩ := more_in hg hs
  obtain ⟨z1, z2, z3⟩ := ack_size hg hs
  unfold AckR
  rw [if_pos ⟨hg, hs, ht, hd⟩]
  refine EvP.step (fun k => by rw [laws_FnAimd.j0]) ?_
  refine EvP.neg (by simp) (EvP.pos rfl ?_)
  by_cases hc : t > c
  · rw [if_pos hc]
    dsimp only
    have hcap : (if a + more a b s > 100000000 then 100000000 else a + more a b s) - a = more a b s ∨ (if a + more a b s > 100000000 then 100000000 else a + more a b s) = 100000000 := by split <;> omega
    generalize (if a + more a b s > 100000000 then 100000000 else a + more a b s) = z at z1 z2 z3 hcap ⊢
    have hg2 : GW z b c (d - s) := by unfold GW; omega
    rw [w64 (n := z - a) (by omega) (by omega), gw_impl]
    simp only [Option.bind_some]
    refine EvP.neg (by omega) (EvP.neg (by omega) ?_)
    rw [show (!decide (GW z b c (d - s))) = false by simp [hg2]]
    refine EvP.step (fun k => by rw [laws_FnAimd.j1]) ?_
    have h2 : t > c → a ≥ b → wrap64 ((z - a) * a) ≤ wrap64 (1200 * s) := by
      intro _ h
      have q1 : (z - a) * a ≤ more a b s * a := Int.mul_le_mul_of_nonneg_right z3 (by omega)
      have q2 := m3 (by omega)
      have q3 : 0 ≤ (z - a) * a := Int.mul_nonneg (by omega) (by omega)
      rw [w64 (by omega) (by omega), w64 (n := 1200 * s) (by omega) (by omega)]
      omega
    refine EvP.neg (by simp) (EvP.pos hc (EvP.ite (fun h => EvP.ite (fun h3 => j2_ok hl _ _ _ _ _ _ _ h2) (fun h3 => ?_)) (fun h => j2_ok hl _ _ _ _ _ _ _ h2)))
    have e : z = 100000000 := by
      rcases hcap with q | q
      · have : more a b s = s := by unfold more; rw [if_pos h]
        omega
      · exact q
    rw [show (z != 100000000) = false by simp [e]]
    exact j2_ok hl _ _ _ _ _ _ _ h2
  · rw [if_neg hc]
    dsimp only
    have hg2 : GW a b c (d - s) := by unfold GW; omega
    rw [w64 (n := a - a) (by omega) (by omega), gw_impl]
    simp only [Option.bind_some]
    refine EvP.neg (by omega) (EvP.pos (by omega) (EvP.pos (by omega) ?_))
    rw [show (!decide (GW a b c (d - s))) = false by simp [hg2]]
    refine EvP.step (fun k => by rw [laws_FnAimd.j1]) ?_
    exact EvP.neg (by simp) (EvP.neg hc (j2_ok hl _ _ _ _ _ _ _ (fun q => absurd q hc)))
theorem FnAimd : laws_FnAimd.Pure := by
  intro l0 l1 _ _ hb0 _ _ hb1
  have hl0 := bytes_of_wf hb0
  have hl1 := bytes_of_wf hb1
  refine EvP.rounds ?_
  simp only [laws_FnAimd.f]
  refine EvP.ite (fun _ => EvP.some rfl) (fun _ => ?_)
  refine EvP.bind (drawAcked_ok hl0) ?_
  rintro ⟨a, b, c, d, s, t⟩ -
  dsimp only
  refine EvP.bind (ack_impl a b c d s t) ?_
  rintro r rfl
  refine EvP.bind (ack_spec a b c d s t) ?_
  rintro r rfl
  refine EvP.neg (by simp) ?_
  have e : ∀ r : W5, (!(r.1 == r.1) || (!(r.2.1 == r.2.1) || (!(r.2.2.1 == r.2.2.1) || (!(r.2.2.2.1 == r.2.2.2.1))))) = false := by simp
  rw [e]
  by_cases hc : GW a b c d ∧ Sz s ∧ Tk t ∧ s ≤ d
  · obtain ⟨hg, hs, ht, hd⟩ := hc
    have ho : (AckR a b c d s t).2.2.2.2 = true := by
      unfold AckR
      rw [if_pos ⟨hg, hs, ht, hd⟩]
      split <;> rfl
    rw [ho]
    exact j0_ok hl1 a b c d s t hg hs ht hd
  · have ho : (AckR a b c d s t).2.2.2.2 = false := by unfold AckR; rw [if_neg hc]
    rw [ho]
    refine EvP.step (fun k => by rw [laws_FnAimd.j0]) ?_
    exact EvP.neg (by simp) (EvP.neg (by simp) (j4_ok hl1))
end Go.Proofs.Ytcngjidojibleaa.Pure
