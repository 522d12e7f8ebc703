/- Windows: what both packages make of them. -/
import Derived.Test.YtcngjidojibleaaCurAmongFnWindow
import Derived.Test.YtcngjidojibleaaInFnWindow
set_option linter.unusedVariables false
set_option linter.unusedSimpArgs false
namespace Go.Proofs.Ytcngjidojibleaa.CFnWindow
open Go.RowKit Go.Proofs.Ytcngjidojibleaa.B Go.Proofs.Ytcngjidojibleaa.PFnWindow Go.Proofs.YtcngjidojibleaaW.PrintWords Go.Proofs.YtcngjidojibleaaW.PrintLast Go.Proofs.YtcngjidojibleaaW.PrintMore

abbrev W5 := Int × Int × Int × Int × Bool
def GW (a b c d : Int) : Prop := (2400 ≤ a ∧ a ≤ 100000000) ∧ (2400 ≤ b ∧ b ≤ 100000000) ∧ (-1 ≤ c ∧ c ≤ 1000000000) ∧ (0 ≤ d ∧ d ≤ 100000000)
instance (a b c d : Int) : Decidable (GW a b c d) := by unfold GW; infer_instance
def Sz (n : Int) : Prop := 0 ≤ n ∧ n ≤ 1500
instance (n : Int) : Decidable (Sz n) := by unfold Sz; infer_instance
def Tk (n : Int) : Prop := 0 ≤ n ∧ n ≤ 1000000000
instance (n : Int) : Decidable (Tk n) := by unfold Tk; infer_instance
theorem gw_impl (a b c d : Int) : impl_GoodWindow.f a b c d = some (decide (GW a b c d)) := by
  unfold impl_GoodWindow.f GW
  simp only [in_impl, Option.bind_some]
  by_cases h1 : 2400 ≤ a ∧ a ≤ 100000000 <;> by_cases h2 : 2400 ≤ b ∧ b ≤ 100000000 <;> by_cases h3 : -1 ≤ c ∧ c ≤ 1000000000 <;> by_cases h4 : 0 ≤ d ∧ d ≤ 100000000 <;> simp [h1, h2, h3, h4]
theorem gw_spec (a b c d : Int) : spec_GoodWindow.f a b c d = some (decide (GW a b c d)) := by
  unfold spec_GoodWindow.f GW
  simp only [in_spec, Option.bind_some]
  by_cases h1 : 2400 ≤ a ∧ a ≤ 100000000 <;> by_cases h2 : 2400 ≤ b ∧ b ≤ 100000000 <;> by_cases h3 : -1 ≤ c ∧ c ≤ 1000000000 <;> by_cases h4 : 0 ≤ d ∧ d ≤ 100000000 <;> simp [h1, h2, h3, h4]
theorem sz_impl (n : Int) : impl_sizeOk.f n = some (decide (Sz n)) := by unfold impl_sizeOk.f; rw [in_impl]; rfl
theorem sz_spec (n : Int) : spec_l13Size.f n = some (decide (Sz n)) := by unfold spec_l13Size.f; rw [in_spec]; rfl
theorem tk_impl (n : Int) : impl_isTick.f n = some (decide (Tk n)) := by unfold impl_isTick.f; rw [in_impl]; rfl
theorem tk_spec (n : Int) : spec_l12Tick.f n = some (decide (Tk n)) := by unfold spec_l12Tick.f; rw [in_spec]; rfl

def half (a : Int) : Int := if a / 2 < 2400 then 2400 else a / 2
def LostR (a b c d s t n : Int) : W5 := if GW a b c d ∧ Sz s ∧ Tk t ∧ Tk n ∧ s ≤ d then (if t > c then (half a, half a, n, d - s, true) else (a, b, c, d - s, true)) else (0, 0, 0, 0, false)
def SentR (a b c d s : Int) : W5 := if GW a b c d ∧ Sz s ∧ d + s ≤ a then (a, b, c, d + s, true) else (0, 0, 0, 0, false)
def more (a b s : Int) : Int := if a < b then s else 1200 * s / a
def AckR (a b c d s t : Int) : W5 := if GW a b c d ∧ Sz s ∧ Tk t ∧ s ≤ d then (if t > c then ((if a + more a b s > 100000000 then 100000000 else a + more a b s), b, c, d - s, true) else (a, b, c, d - s, true)) else (0, 0, 0, 0, false)
def StalR (a b c d : Int) : W5 := if GW a b c d then (2400, b, -1, d, true) else (0, 0, 0, 0, false)
theorem tdiv_nn {a n : Int} (h : 0 ≤ a) : Int.tdiv a n = a / n := Int.tdiv_eq_ediv_of_nonneg h

theorem lost_impl_j (a b c d s t n : Int) (hg : GW a b c d) (hs : Sz s) (x : Bool) (hx : x = false → s ≤ d) :
    EvP (fun k => impl_LostBytes.j0 k s t n x a b c d) (· = if x = true then (0, 0, 0, 0, false) else if t > c then (half a, half a, n, d - s, true) else (a, b, c, d - s, true)) := by
  unfold GW at hg; unfold Sz at hs
  refine EvP.step (fun k => by rw [impl_LostBytes.j0]) ?_
  refine EvP.ite (fun h => EvP.some (by rw [if_pos h])) (fun h => ?_)
  have := hx (by simpa using h)
  rw [if_neg h, tdiv_nn (by omega), w64 (n := a / 2) (by omega) (by omega), w64 (n := d - s) (by omega) (by omega)]
  refine EvP.ite (fun h1 => EvP.some ?_) (fun h1 => EvP.some ?_)
  · rw [if_pos h1]
    have e : mx (a / 2) 2400 = half a := by unfold mx half; rfl
    rw [e]
  · rw [if_neg h1]
theorem lost_spec_j (a b c d s t n : Int) (hg : GW a b c d) (hs : Sz s) (x : Bool) (hx : x = false → s ≤ d) :
    EvP (fun k => spec_LostBytes.j0 k s t n x a b c d) (· = if x = true then (0, 0, 0, 0, false) else if t > c then (half a, half a, n, d - s, true) else (a, b, c, d - s, true)) := by
  unfold GW at hg; unfold Sz at hs
  refine EvP.step (fun k => by rw [spec_LostBytes.j0]) ?_
  refine EvP.ite (fun h => EvP.some (by rw [if_pos h])) (fun h => ?_)
  have := hx (by simpa using h)
  rw [if_neg h, tdiv_nn (by omega), w64 (n := a / 2) (by omega) (by omega), w64 (n := d - s) (by omega) (by omega)]
  unfold half
  refine EvP.ite (fun h1 => EvP.ite (fun h2 => EvP.some ?_) (fun h2 => EvP.some ?_)) (fun h1 => EvP.some ?_)
  · rw [if_pos h1, if_pos h2]
  · rw [if_pos h1, if_neg h2]
  · rw [if_neg h1]
theorem lost_impl_t (a b c d s t n : Int) : EvP (fun k => impl_LostBytes.j0 k s t n true a b c d) (· = (0, 0, 0, 0, false)) := by
  refine EvP.step (fun k => by rw [impl_LostBytes.j0]) ?_
  exact EvP.pos rfl (EvP.some rfl)
theorem lost_spec_t (a b c d s t n : Int) : EvP (fun k => spec_LostBytes.j0 k s t n true a b c d) (· = (0, 0, 0, 0, false)) := by
  refine EvP.step (fun k => by rw [spec_LostBytes.j0]) ?_
  exact EvP.pos rfl (EvP.some rfl)
theorem lost_impl (a b c d s t n : Int) : EvP (fun k => impl_LostBytes.f k a b c d s t n) (· = LostR a b c d s t n) := by
  unfold LostR
  simp only [impl_LostBytes.f]
  rw [gw_impl, sz_impl, tk_impl, tk_impl]
  simp only [Option.bind_some]
  refine EvP.ite (fun h1 => EvP.ite (fun h2 => EvP.ite (fun h3 => EvP.ite (fun h4 => ?_) (fun h4 => ?_)) (fun h3 => ?_)) (fun h2 => ?_)) (fun h1 => ?_)
  · have h1 := of_decide_eq_true h1; have h2 := of_decide_eq_true h2; have h3 := of_decide_eq_true h3; have h4 := of_decide_eq_true h4
    refine (lost_impl_j a b c d s t n h1 h2 _ (fun h => by simpa using h)).mono ?_
    rintro r rfl
    by_cases h5 : d < s
    · rw [if_pos (by simpa using h5), if_neg (fun q => by omega)]
    · rw [if_neg (by simpa using h5), if_pos (show GW a b c d ∧ Sz s ∧ Tk t ∧ Tk n ∧ s ≤ d from ⟨h1, h2, h3, h4, by omega⟩)]
  · rw [if_neg (fun q => h4 (decide_eq_true q.2.2.2.1))]; exact lost_impl_t ..
  · rw [if_neg (fun q => h3 (decide_eq_true q.2.2.1))]; exact lost_impl_t ..
  · rw [if_neg (fun q => h2 (decide_eq_true q.2.1))]; exact lost_impl_t ..
  · rw [if_neg (fun q => h1 (decide_eq_true q.1))]; exact lost_impl_t ..
theorem lost_spec (a b c d s t n : Int) : EvP (fun k => spec_LostBytes.f k a b c d s t n) (· = LostR a b c d s t n) := by
  unfold LostR
  simp only [spec_LostBytes.f]
  rw [gw_spec, sz_spec, tk_spec, tk_spec]
  simp only [Option.bind_some]
  refine EvP.ite (fun h1 => EvP.ite (fun h2 => EvP.ite (fun h3 => EvP.ite (fun h4 => ?_) (fun h4 => ?_)) (fun h3 => ?_)) (fun h2 => ?_)) (fun h1 => ?_)
  · have h1 := of_decide_eq_true h1; have h2 := of_decide_eq_true h2; have h3 := of_decide_eq_true h3; have h4 := of_decide_eq_true h4
    refine (lost_spec_j a b c d s t n h1 h2 _ (fun h => by simpa using h)).mono ?_
    rintro r rfl
    by_cases h5 : d < s
    · rw [if_pos (by simpa using h5), if_neg (fun q => by omega)]
    · rw [if_neg (by simpa using h5), if_pos (show GW a b c d ∧ Sz s ∧ Tk t ∧ Tk n ∧ s ≤ d from ⟨h1, h2, h3, h4, by omega⟩)]
  · rw [if_neg (fun q => h4 (decide_eq_true q.2.2.2.1))]; exact lost_spec_t ..
  · rw [if_neg (fun q => h3 (decide_eq_true q.2.2.1))]; exact lost_spec_t ..
  · rw [if_neg (fun q => h2 (decide_eq_true q.2.1))]; exact lost_spec_t ..
  · rw [if_neg (fun q => h1 (decide_eq_true q.1))]; exact lost_spec_t ..
theorem sent_spec (a b c d s : Int) : spec_SentBytes.f a b c d s = some (SentR a b c d s) := by
  unfold spec_SentBytes.f SentR
  rw [gw_spec, sz_spec]
  simp only [Option.bind_some]
  by_cases h1 : GW a b c d
  · by_cases h2 : Sz s
    · have h1' := h1; have h2' := h2
      unfold GW at h1'; unfold Sz at h2'
      rw [if_pos (by simpa using h1), if_pos (by simpa using h2), w64 (n := d + s) (by omega) (by omega)]
      by_cases h3 : d + s ≤ a
      · rw [if_neg (by omega), if_pos ⟨h1, h2, h3⟩]
      · rw [if_pos (by omega), if_neg (fun q => h3 q.2.2)]
    · rw [if_pos (by simpa using h1), if_neg (by simpa using h2), if_neg (fun q => h2 q.2.1)]
  · rw [if_neg (by simpa using h1), if_neg (fun q => h1 q.1)]
theorem stal_spec (a b c d : Int) : spec_StalledWindow.f a b c d = some (StalR a b c d) := by
  unfold spec_StalledWindow.f StalR
  rw [gw_spec]
  by_cases h1 : GW a b c d <;> simp [h1]
theorem stal_impl (a b c d : Int) : impl_StalledWindow.f a b c d = some (StalR a b c d) := by
  unfold impl_StalledWindow.f StalR
  rw [gw_impl]
  by_cases h1 : GW a b c d <;> simp [h1]
theorem sent_impl (a b c d s : Int) : impl_SentBytes.f a b c d s = some (SentR a b c d s) := by
  unfold impl_SentBytes.f SentR
  rw [gw_impl, sz_impl]
  simp only [Option.bind_some]
  by_cases h1 : GW a b c d
  · by_cases h2 : Sz s
    · have h1' := h1; have h2' := h2
      unfold GW at h1'; unfold Sz at h2'
      rw [if_pos (by simpa using h1), if_pos (by simpa using h2), w64 (n := d + s) (by omega) (by omega)]
      by_cases h3 : d + s ≤ a
      · rw [if_neg (by omega), if_pos ⟨h1, h2, h3⟩]
      · rw [if_pos (by omega), if_neg (fun q => h3 q.2.2)]
    · rw [if_pos (by simpa using h1), if_neg (by simpa using h2), if_neg (fun q => h2 q.2.1)]
  · rw [if_neg (by simpa using h1), if_neg (fun q => h1 q.1)]
theorem more_in {a b c d s : Int} (hg : GW a b c d) (hs : Sz s) : 0 ≤ more a b s ∧ more a b s ≤ 1500 ∧ (¬ a < b → more a b s * a ≤ 1200 * s) := by
  unfold GW at hg; unfold Sz at hs
  unfold more
  by_cases h : a < b
  · rw [if_pos h]; exact ⟨by omega, by omega, fun q => absurd h q⟩
  · rw [if_neg h]
    have h1 : 0 ≤ 1200 * s / a := Int.ediv_nonneg (by omega) (by omega)
    have h2 : 1200 * s / a * a ≤ 1200 * s := Int.ediv_mul_le _ (by omega)
    refine ⟨h1, ?_, fun _ => h2⟩
    have h3 : 1200 * s / a ≤ 1200 * s / 2400 := by
      apply Int.le_ediv_of_mul_le (by decide)
      have : 1200 * s / a * 2400 ≤ 1200 * s / a * a := Int.mul_le_mul_of_nonneg_left (by omega) h1
      omega
    omega
theorem ack_spec_j (a b c d s t : Int) (hg : GW a b c d) (hs : Sz s) (x : Bool) (hx : x = false → s ≤ d) :
    EvP (fun k => spec_AckedBytes.j0 k s t x a b c d) (· = if x = true then (0, 0, 0, 0, false) else if t > c then ((if a + more a b s > 100000000 then 100000000 else a + more a b s), b, c, d - s, true) else (a, b, c, d - s, true)) := by
  obtain ⟨m1, m2, _⟩ := more_in hg hs
  unfold GW at hg; unfold Sz at hs
  refine EvP.step (fun k => by rw [spec_AckedBytes.j0]) ?_
  refine EvP.ite (fun h => EvP.some (by rw [if_pos h])) (fun h => ?_)
  have := hx (by simpa using h)
  rw [if_neg h, w64 (n := d - s) (by omega) (by omega)]
  have fin : ∀ z : Int, EvP (fun k => spec_AckedBytes.j1 k z b c (d - s)) (· = ((if z > 100000000 then 100000000 else z), b, c, d - s, true)) := by
    intro z
    refine EvP.step (fun k => by rw [spec_AckedBytes.j1]) ?_
    exact EvP.ite (fun h1 => EvP.some (by rw [if_pos h1])) (fun h1 => EvP.some (by rw [if_neg h1]))
  refine EvP.ite (fun h1 => ?_) (fun h1 => EvP.some (by rw [if_neg h1]))
  rw [if_pos h1]
  unfold more at m1 m2 ⊢
  refine EvP.ite (fun h2 => ?_) (fun h2 => ?_)
  · rw [if_pos h2, w64 (n := a + s) (by omega) (by omega)]; exact fin _
  · rw [if_neg h2] at m1 m2 ⊢
    rw [w64 (n := 1200 * s) (by omega) (by omega), tdiv_nn (by omega), w64 (n := 1200 * s / a) (by omega) (by omega), w64 (n := a + 1200 * s / a) (by omega) (by omega)]
    exact EvP.neg (by omega) (fin _)
theorem ack_spec_t (a b c d s t : Int) : EvP (fun k => spec_AckedBytes.j0 k s t true a b c d) (· = (0, 0, 0, 0, false)) := by
  refine EvP.step (fun k => by rw [spec_AckedBytes.j0]) ?_
  exact EvP.pos rfl (EvP.some rfl)
theorem ack_spec (a b c d s t : Int) : EvP (fun k => spec_AckedBytes.f k a b c d s t) (· = AckR a b c d s t) := by
  unfold AckR
  simp only [spec_AckedBytes.f]
  rw [gw_spec, sz_spec, tk_spec]
  simp only [Option.bind_some]
  refine EvP.ite (fun h1 => EvP.ite (fun h2 => EvP.ite (fun h3 => ?_) (fun h3 => ?_)) (fun h2 => ?_)) (fun h1 => ?_)
  · have h1 := of_decide_eq_true h1; have h2 := of_decide_eq_true h2; have h3 := of_decide_eq_true h3
    refine (ack_spec_j a b c d s t h1 h2 _ (fun h => by simpa using h)).mono ?_
    rintro r rfl
    by_cases h5 : d < s
    · rw [if_pos (by simpa using h5), if_neg (fun q => by omega)]
    · rw [if_neg (by simpa using h5), if_pos (show GW a b c d ∧ Sz s ∧ Tk t ∧ s ≤ d from ⟨h1, h2, h3, by omega⟩)]
  · rw [if_neg (fun q => h3 (decide_eq_true q.2.2.1))]; exact ack_spec_t ..
  · rw [if_neg (fun q => h2 (decide_eq_true q.2.1))]; exact ack_spec_t ..
  · rw [if_neg (fun q => h1 (decide_eq_true q.1))]; exact ack_spec_t ..

/-! ### playing -/
abbrev Gr := S100
def GrowR (a b c d : Int) (g : Gr) : W5 := if g.f0 = 1 then SentR a b c d g.f1 else if g.f0 = 2 then AckR a b c d g.f1 g.f2 else if g.f0 = 3 then LostR a b c d g.f1 g.f2 g.f3 else if g.f0 = 4 then StalR a b c d else (a, b, c, d, false)
theorem grow_spec (a b c d : Int) (g : Gr) : EvP (fun k => spec_l13Grow.f k a b c d g.f0 g.f1 g.f2 g.f3) (fun r => (r.2.2.2.2 = true → r = GrowR a b c d g ∧ (g.f0 = 1 ∨ g.f0 = 2 ∨ g.f0 = 3 ∨ g.f0 = 4)) ∧ (r.2.2.2.2 = false → (GrowR a b c d g).2.2.2.2 = false)) := by
  simp only [spec_l13Grow.f]
  unfold GrowR
  refine EvP.ite (fun h1 => ?_) (fun h1 => EvP.ite (fun h2 => ?_) (fun h2 => EvP.ite (fun h3 => ?_) (fun h3 => EvP.ite (fun h4 => ?_) (fun h4 => ?_))))
  · rw [if_pos h1]
    refine EvP.bind0 ⟨_, sent_spec .., rfl⟩ ?_
    rintro r rfl
    exact EvP.some ⟨fun _ => ⟨rfl, .inl h1⟩, fun h => h⟩
  · rw [if_neg h1, if_pos h2]
    refine EvP.bind (ack_spec ..) ?_
    rintro r rfl
    exact EvP.some ⟨fun _ => ⟨rfl, .inr (.inl h2)⟩, fun h => h⟩
  · rw [if_neg h1, if_neg h2, if_pos h3]
    refine EvP.bind (lost_spec ..) ?_
    rintro r rfl
    exact EvP.some ⟨fun _ => ⟨rfl, .inr (.inr (.inl h3))⟩, fun h => h⟩
  · rw [if_neg h1, if_neg h2, if_neg h3, if_pos h4]
    refine EvP.bind0 ⟨_, stal_spec .., rfl⟩ ?_
    rintro r rfl
    exact EvP.some ⟨fun _ => ⟨rfl, .inr (.inr (.inr h4))⟩, fun h => h⟩
  · rw [if_neg h1, if_neg h2, if_neg h3, if_neg h4]
    exact EvP.some ⟨fun h => by simp at h, fun _ => by simp⟩
/-- What is left of a window behind grows, and the sizes on the way. -/
def play : List Gr → Int → Int → Int → Int → List Int → Int × Int × Int × Int × List Int × Bool
  | [], a, b, c, d, ss => (a, b, c, d, ss, true)
  | g :: l, a, b, c, d, ss => if (GrowR a b c d g).2.2.2.2 = true then play l (GrowR a b c d g).1 (GrowR a b c d g).2.1 (GrowR a b c d g).2.2.1 (GrowR a b c d g).2.2.2.1 (ss ++ [(GrowR a b c d g).1]) else play l a b c d (ss ++ [a])
theorem rdT_drop {l : List Gr} {n : Nat} (h : n < l.length) : l.drop n = rd_T100 l (n : Int) :: l.drop (n + 1) := by
  unfold rd_T100
  rw [Int.toNat_natCast, List.getD_eq_getElem?_getD, List.getElem?_eq_getElem h, Option.getD_some]
  exact (List.drop_eq_getElem_cons h)
theorem play_spec_l0 (l : List Gr) (hl : l.length ≤ 100) (n : Nat) : ∀ (i : Nat) (ss : List Int) (a b c d : Int), i + n = l.length → ss.length = i →
    EvP (fun k => spec_PlayWindow.l0 k ss l (l.length : Int) (i : Int) a b c d) (· = play (l.drop i) a b c d ss) := by
  induction n with
  | zero =>
    intro i ss a b c d hi hs
    refine EvP.step (fun k => by rw [spec_PlayWindow.l0]) ?_
    refine EvP.neg (by omega) (EvP.some ?_)
    rw [List.drop_eq_nil_of_le (by omega)]; rfl
  | succ n ih =>
    intro i ss a b c d hi hs
    refine EvP.step (fun k => by rw [spec_PlayWindow.l0]) ?_
    rw [rdT_drop (l := l) (n := i) (by omega), w64 (n := (i : Int) + 1) (by omega) (by omega), show ((i : Int) + 1) = ((i + 1 : Nat) : Int) by omega, play]
    refine EvP.pos (by omega) (EvP.pos (by omega) (EvP.pos (by omega) ?_))
    generalize rd_T100 l (i : Int) = g
    refine EvP.bind (grow_spec a b c d g) ?_
    intro r hr
    refine EvP.ite (fun h => ?_) (fun h => ?_)
    · obtain ⟨e, _⟩ := hr.1 h
      rw [← e, if_pos h]
      exact EvP.pos (by omega) (ih _ _ _ _ _ _ (by omega) (by simp; omega))
    · rw [if_neg (by rw [hr.2 (by simpa using h)]; simp)]
      exact EvP.pos (by omega) (ih _ _ _ _ _ _ (by omega) (by simp; omega))
def PlayR (l : List Gr) : Int × Int × Int × Int × List Int × Bool := if l.length > 100 then (0, 0, 0, 0, [], false) else play l 12000 100000000 (-1) 0 []
theorem play_spec (l : List Gr) : EvP (fun k => spec_PlayWindow.f k l) (· = PlayR l) := by
  unfold PlayR
  simp only [spec_PlayWindow.f, spec_NewWindow.f, Option.bind_some]
  refine EvP.ite (fun h => EvP.some (by rw [if_pos (by omega)])) (fun h => ?_)
  rw [if_neg (by omega)]
  exact play_spec_l0 l (by omega) l.length 0 [] _ _ _ _ (by omega) rfl

/-! ### drawing -/
theorem grows_l0 {l : List Int} (hl : Bytes l) (n : Nat) : ∀ (gs : List Gr) (x4 x5 a s : Int), x5 = n → gs.length + n ≤ 1000 → 0 ≤ a → a + 20 * n ≤ 4611686018427000000 →
    EvP (fun k => spec_l1Cur_grows.l0 k gs x4 x5 l a s) (fun r => a ≤ r.2.1 ∧ r.2.1 ≤ a + 20 * n) := by
  induction n with
  | zero =>
    intro gs x4 x5 a s hx hz h0 h1
    refine EvP.step (fun k => by rw [spec_l1Cur_grows.l0]) ?_
    exact EvP.neg (by omega) (EvP.some ⟨by simp, by simp⟩)
  | succ n ih =>
    intro gs x4 x5 a s hx hz h0 h1
    have fin : ∀ (x4 c z : Int) (g : Gr), a ≤ c → c ≤ a + 20 → EvP (fun k => if gs.length < 4398046511104 then spec_l1Cur_grows.l0 k (gs ++ [g]) x4 (wrap64 (x5 - 1)) l c z else none) (fun r => a ≤ r.2.1 ∧ r.2.1 ≤ a + 20 * ((n + 1 : Nat) : Int)) := by
      intro x4 c z g hc1 hc2
      refine EvP.pos (by omega) ?_
      refine (ih _ _ _ _ _ (by rw [w64 (by omega) (by omega)]; omega) (by simp; omega) (by omega) (by omega)).mono ?_
      intro r hr
      exact ⟨by omega, by omega⟩
    refine EvP.step (fun k => by rw [spec_l1Cur_grows.l0]) ?_
    refine EvP.pos (by omega) ?_
    refine EvP.bind0 (pick_ok hl a s 9 h0 (by omega)) ?_
    intro p hp
    refine EvP.bind0 (among_ok hl _ _ (by omega) (by omega) _ (by simp)) ?_
    intro q hq
    refine EvP.bind0 (pick_ok hl _ _ _ (by omega) (by omega)) ?_
    intro r hr
    refine EvP.bind0 (one_ok hl _ _ 3 (by omega) (by omega)) ?_
    intro t ht
    refine EvP.ite (fun _ => ?_) (fun _ => ?_)
    · refine EvP.bind0 (pick_ok hl _ _ 1600 (by omega) (by omega)) ?_
      intro u hu
      refine EvP.ite (fun _ => ?_) (fun _ => fin _ _ _ _ (by omega) (by omega))
      refine EvP.bind0 (one_ok hl _ _ 4 (by omega) (by omega)) ?_
      intro q hq
      exact EvP.ite (fun _ => fin _ _ _ _ (by omega) (by omega)) (fun _ => fin _ _ _ _ (by omega) (by omega))
    · refine EvP.ite (fun _ => ?_) (fun _ => fin _ _ _ _ (by omega) (by omega))
      refine EvP.bind0 (one_ok hl _ _ 4 (by omega) (by omega)) ?_
      intro q hq
      exact EvP.ite (fun _ => fin _ _ _ _ (by omega) (by omega)) (fun _ => fin _ _ _ _ (by omega) (by omega))
theorem grows_ok {l : List Int} (hl : Bytes l) (a s : Int) (h0 : 0 ≤ a) (h1 : a ≤ 4611686018426000000) :
    EvP (fun k => spec_l1Cur_grows.f k l a s) (fun r => a ≤ r.2.1 ∧ r.2.1 ≤ a + 3000) := by
  simp only [spec_l1Cur_grows.f]
  have hj : ∀ (x5 c z : Int), 0 ≤ x5 → x5 ≤ 101 → a ≤ c → c ≤ a + 20 → EvP (fun k => spec_l1Cur_grows.j0 k [] 0 x5 l c z) (fun r => a ≤ r.2.1 ∧ r.2.1 ≤ a + 3000) := by
    intro x5 c z hx1 hx2 hc1 hc2
    refine EvP.step (fun k => by rw [spec_l1Cur_grows.j0]) ?_
    refine (grows_l0 hl x5.toNat [] _ _ _ _ (by omega) (by simp; omega) (by omega) (by omega)).mono ?_
    intro r hr
    exact ⟨by omega, by omega⟩
  refine EvP.bind0 (pick_ok hl a s 30 h0 (by omega)) ?_
  intro p hp
  have hp2 := hp.2.2.1 (by omega)
  refine EvP.bind0 (one_ok hl _ _ 30 (by omega) (by omega)) ?_
  intro q hq
  refine EvP.ite (fun _ => ?_) (fun _ => hj _ _ _ (by omega) (by omega) (by omega) (by omega))
  refine EvP.bind0 (pick_ok hl _ _ 2 (by omega) (by omega)) ?_
  intro r hr
  have hr2 := hr.2.2.1 (by omega)
  rw [w64 (n := 100 + r.1) (by omega) (by omega)]
  exact hj _ _ _ (by omega) (by omega) (by omega) (by omega)
theorem window_ok {l : List Int} (hl : Bytes l) (a s : Int) (h0 : 0 ≤ a) (h1 : a ≤ 4611686018425000000) :
    EvP (fun k => spec_l1Cur_window.f k l a s) (fun r => a ≤ r.2.2.2.2.1 ∧ r.2.2.2.2.1 ≤ a + 3010) := by
  simp only [spec_l1Cur_window.f]
  have hj : ∀ (c z w x y v : Int), a ≤ c → c ≤ a + 3000 → EvP (fun k => spec_l1Cur_window.j0 k l c z w x y v) (fun r => a ≤ r.2.2.2.2.1 ∧ r.2.2.2.2.1 ≤ a + 3010) := by
    intro c z w x y v hc1 hc2
    refine EvP.step (fun k => by rw [spec_l1Cur_window.j0]) ?_
    refine EvP.bind0 (pick_ok hl _ _ 40 (by omega) (by omega)) ?_
    intro p hp
    refine EvP.ite (fun _ => ?_) (fun _ => EvP.ite (fun _ => ?_) (fun _ => EvP.ite (fun _ => EvP.some ⟨by dsimp only; omega, by dsimp only; omega⟩) (fun _ => EvP.some ⟨by dsimp only; omega, by dsimp only; omega⟩)))
    · refine EvP.bind0 (among_ok hl _ _ (by omega) (by omega) _ (by simp)) ?_
      intro q hq
      exact EvP.some ⟨by dsimp only; omega, by dsimp only; omega⟩
    · refine EvP.bind0 (among_ok hl _ _ (by omega) (by omega) _ (by simp)) ?_
      intro q hq
      exact EvP.some ⟨by dsimp only; omega, by dsimp only; omega⟩
  refine EvP.bind (grows_ok hl a s h0 (by omega)) ?_
  intro p hp
  refine EvP.bind (play_spec p.1) ?_
  rintro q rfl
  rw [gw_spec]
  simp only [Option.bind_some, spec_NewWindow.f]
  exact EvP.ite (fun _ => hj _ _ _ _ _ _ (by omega) (by omega)) (fun _ => hj _ _ _ _ _ _ (by omega) (by omega))
theorem drawAcked_ok {l : List Int} (hl : Bytes l) : EvP (fun k => spec_DrawAckedBytes.f k l) (fun _ => True) := by
  simp only [spec_DrawAckedBytes.f]
  refine EvP.bind (window_ok hl 0 0 (by omega) (by omega)) ?_
  intro p hp
  refine EvP.bind0 (pick_ok hl _ _ 1700 (by omega) (by omega)) ?_
  intro q hq
  refine EvP.bind0 (pick_ok hl _ _ 100 (by omega) (by omega)) ?_
  intro r hr
  exact EvP.some trivial
end Go.Proofs.Ytcngjidojibleaa.CFnWindow
