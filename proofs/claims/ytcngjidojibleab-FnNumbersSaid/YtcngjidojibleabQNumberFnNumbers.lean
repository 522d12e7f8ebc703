/- Packets' numbers: their lowest bytes, and what these tell; both packages. -/
import Derived.Test.YtcngjidojibleabQBeImplFnNumbers
import Derived.Test.YtcngjidojibleabQBeSpecFnNumbers
set_option linter.unusedVariables false
set_option linter.unusedSimpArgs false
namespace Go.Proofs.Ytcngjidojibleab.CFnNumbers
open Go Go.Proofs Go.Proofs.YtcngjidojibleabPM Go.Proofs.Ytcngjidojibleab.Q Go.Proofs.Ytcngjidojibleab.GFnNumbers

theorem in_impl (n a b : Int) : EvP (fun N => impl_in N n a b) (· = ((decide (a ≤ n ∧ n ≤ b), ()), ())) :=
  EvP.of (fun N => impl_in.eq N _ _ _) (EvP.ite (fun h => EvP.some (by simp [h])) (fun h => EvP.some (by simp [h])))
theorem in_spec (n a b : Int) : EvP (fun N => spec_l1In N n a b) (· = ((decide (a ≤ n ∧ n ≤ b), ()), ())) :=
  EvP.of (fun N => spec_l1In.eq N _ _ _) (EvP.ite (fun h => EvP.some (by simp [h])) (fun h => EvP.some (by simp [h])))
/-- How many bytes are told of a number so far beyond what was acknowledged; 0 where none do. -/
def szk (d : Int) : Nat := if d ≤ 127 then 1 else if d ≤ 32767 then 2 else if d ≤ 8388607 then 3 else if d ≤ 2147483647 then 4 else 0
def nbOk (n acked : Int) : Prop := (0 ≤ n ∧ n ≤ 4611686018427387903) ∧ (-1 ≤ acked ∧ acked ≤ n - 1)
instance (n acked : Int) : Decidable (nbOk n acked) := by unfold nbOk; exact inferInstance
/-- What both packages answer. -/
def nbOf (n acked : Int) : (ByteArray × (Bool × Unit)) × Unit := if nbOk n acked ∧ szk (n - acked) ≠ 0 then ((be (szk (n - acked)) n, (true, ())), ()) else ((⟨#[]⟩, (false, ())), ())
theorem nb_l {n d : Int} (hn : 0 ≤ n ∧ n ≤ 4611686018427387903) : EvP (fun N => impl_NumberBytes.l0 N n d 1) (· = if szk d = 0 then .inr ((), ()) else .inl ((be (szk d) n, (true, ())), ())) := by
  unfold szk
  have hu : IntKind.u64.wrap n = n := u64i (by omega) (by omega)
  refine EvP.step (fun N => impl_NumberBytes.l0.eq N _ _ _) (EvP.pos (by decide) (EvP.chk1 (by decide) ?_))
  rw [hu, show IntKind.i64.wrap (shlI .i64 1 (IntKind.i64.wrap (IntKind.i64.wrap (8 * 1) - 1)) - 1) = 127 from by decide +kernel, show IntKind.i64.wrap (1 + 1) = 2 from by decide +kernel]
  refine EvP.ite (fun h => EvP.to (bigEndian_ok n 1 hn.1 (by decide)) (EvP.some (by rw [if_pos h]; rfl))) (fun h => ?_)
  rw [if_neg h]
  refine EvP.step (fun N => impl_NumberBytes.l0.eq N _ _ _) (EvP.pos (by decide) (EvP.chk1 (by decide) ?_))
  rw [hu, show IntKind.i64.wrap (shlI .i64 1 (IntKind.i64.wrap (IntKind.i64.wrap (8 * 2) - 1)) - 1) = 32767 from by decide +kernel, show IntKind.i64.wrap (2 + 1) = 3 from by decide +kernel]
  refine EvP.ite (fun h => EvP.to (bigEndian_ok n 2 hn.1 (by decide)) (EvP.some (by rw [if_pos h]; rfl))) (fun h => ?_)
  rw [if_neg h]
  refine EvP.step (fun N => impl_NumberBytes.l0.eq N _ _ _) (EvP.pos (by decide) (EvP.chk1 (by decide) ?_))
  rw [hu, show IntKind.i64.wrap (shlI .i64 1 (IntKind.i64.wrap (IntKind.i64.wrap (8 * 3) - 1)) - 1) = 8388607 from by decide +kernel, show IntKind.i64.wrap (3 + 1) = 4 from by decide +kernel]
  refine EvP.ite (fun h => EvP.to (bigEndian_ok n 3 hn.1 (by decide)) (EvP.some (by rw [if_pos h]; rfl))) (fun h => ?_)
  rw [if_neg h]
  refine EvP.step (fun N => impl_NumberBytes.l0.eq N _ _ _) (EvP.pos (by decide) (EvP.chk1 (by decide) ?_))
  rw [hu, show IntKind.i64.wrap (shlI .i64 1 (IntKind.i64.wrap (IntKind.i64.wrap (8 * 4) - 1)) - 1) = 2147483647 from by decide +kernel, show IntKind.i64.wrap (4 + 1) = 5 from by decide +kernel]
  refine EvP.ite (fun h => EvP.to (bigEndian_ok n 4 hn.1 (by decide)) (EvP.some (by rw [if_pos h]; rfl))) (fun h => ?_)
  rw [if_neg h]
  exact EvP.step (fun N => impl_NumberBytes.l0.eq N _ _ _) (EvP.neg (by decide) (EvP.some rfl))
theorem NumberBytes_impl {n acked : Int} (h1 : -9223372036854775808 ≤ n) (h2 : n ≤ 9223372036854775807) : EvP (fun N => impl_NumberBytes N n acked) (· = nbOf n acked) := by
  refine EvP.of (fun N => impl_NumberBytes.eq N _ _) (EvP.to (a := ((!decide (nbOk n acked), ()), ())) ?_ ?_)
  · refine EvP.to (in_impl _ _ _) ?_
    by_cases h : 0 ≤ n ∧ n ≤ 4611686018427387903
    · refine EvP.no (by simp [h]) (EvP.to (in_impl _ _ _) (EvP.some ?_))
      rw [i64w (by omega) (by omega)]
      congr 2
      by_cases h3 : -1 ≤ acked ∧ acked ≤ n - 1
      · rw [decide_eq_true h3, decide_eq_true ⟨h, h3⟩]
      · rw [decide_eq_false h3, decide_eq_false (fun h' => h3 h'.2)]
    · exact EvP.yes (by simp only [decide_eq_false h]; rfl) (EvP.some (by rw [decide_eq_false (fun h' => h h'.1)]; rfl))
  · unfold nbOf
    by_cases h : nbOk n acked
    · refine EvP.no (by simp [h]) ?_
      rw [i64w (n := n - acked) (by have := h.1; have := h.2; omega) (by have := h.1; have := h.2; omega)]
      refine EvP.to (nb_l h.1) ?_
      by_cases hz : szk (n - acked) = 0
      · rw [if_pos hz, if_neg (fun h' => h'.2 hz)]
        exact EvP.some rfl
      · rw [if_neg hz, if_pos ⟨h, hz⟩]
        exact EvP.some rfl
    · rw [if_neg (fun h' => h h'.1)]
      exact EvP.yes (by simp [h]) (EvP.some rfl)
theorem size_l {n acked : Int} (h : nbOk n acked) : EvP (fun N => spec_l6Size N n acked) (· = ((((szk (n - acked) : Nat) : Int), ()), ())) := by
  refine EvP.of (fun N => spec_l6Size.eq N _ _) (EvP.to (a := if szk (n - acked) = 0 then .inr ((), ()) else .inl ((((szk (n - acked) : Nat) : Int), ()), ())) ?_ ?_)
  · have hd : IntKind.i64.wrap (n - acked) = n - acked := i64w (by have := h.1; have := h.2; omega) (by have := h.1; have := h.2; omega)
    generalize he : n - acked = d at hd
    unfold szk
    refine EvP.step (fun N => spec_l6Size.l0.eq N _ _ _) (EvP.pos (by decide) (EvP.chk1 (by decide) ?_))
    rw [he, hd, show IntKind.i64.wrap (shlI .i64 1 (IntKind.u64.wrap (IntKind.i64.wrap (IntKind.i64.wrap (8 * 1) - 1))) - 1) = 127 from by decide +kernel, show IntKind.i64.wrap (1 + 1) = 2 from by decide +kernel]
    refine EvP.ite (fun h => EvP.some (by rw [if_pos h]; rfl)) (fun h => ?_)
    rw [if_neg h]
    refine EvP.step (fun N => spec_l6Size.l0.eq N _ _ _) (EvP.pos (by decide) (EvP.chk1 (by decide) ?_))
    rw [he, hd, show IntKind.i64.wrap (shlI .i64 1 (IntKind.u64.wrap (IntKind.i64.wrap (IntKind.i64.wrap (8 * 2) - 1))) - 1) = 32767 from by decide +kernel, show IntKind.i64.wrap (2 + 1) = 3 from by decide +kernel]
    refine EvP.ite (fun h => EvP.some (by rw [if_pos h]; rfl)) (fun h => ?_)
    rw [if_neg h]
    refine EvP.step (fun N => spec_l6Size.l0.eq N _ _ _) (EvP.pos (by decide) (EvP.chk1 (by decide) ?_))
    rw [he, hd, show IntKind.i64.wrap (shlI .i64 1 (IntKind.u64.wrap (IntKind.i64.wrap (IntKind.i64.wrap (8 * 3) - 1))) - 1) = 8388607 from by decide +kernel, show IntKind.i64.wrap (3 + 1) = 4 from by decide +kernel]
    refine EvP.ite (fun h => EvP.some (by rw [if_pos h]; rfl)) (fun h => ?_)
    rw [if_neg h]
    refine EvP.step (fun N => spec_l6Size.l0.eq N _ _ _) (EvP.pos (by decide) (EvP.chk1 (by decide) ?_))
    rw [he, hd, show IntKind.i64.wrap (shlI .i64 1 (IntKind.u64.wrap (IntKind.i64.wrap (IntKind.i64.wrap (8 * 4) - 1))) - 1) = 2147483647 from by decide +kernel, show IntKind.i64.wrap (4 + 1) = 5 from by decide +kernel]
    refine EvP.ite (fun h => EvP.some (by rw [if_pos h]; rfl)) (fun h => ?_)
    rw [if_neg h]
    exact EvP.step (fun N => spec_l6Size.l0.eq N _ _ _) (EvP.neg (by decide) (EvP.some rfl))
  · by_cases hz : szk (n - acked) = 0
    · rw [if_pos hz, hz]; exact EvP.some rfl
    · rw [if_neg hz]; exact EvP.some rfl
theorem szk_le (d : Int) : szk d ≤ 4 := by unfold szk; (repeat' split) <;> omega
theorem NumberBytes_spec {n acked : Int} (h1 : -9223372036854775808 ≤ n) (h2 : n ≤ 9223372036854775807) : EvP (fun N => spec_NumberBytes N n acked) (· = nbOf n acked) := by
  refine EvP.of (fun N => spec_NumberBytes.eq N _ _) (EvP.to (a := ((!decide (nbOk n acked ∧ szk (n - acked) ≠ 0), ()), ())) ?_ ?_)
  · refine EvP.to (a := ((decide (nbOk n acked), ()), ())) ?_ ?_
    · refine EvP.of (fun N => spec_l6Said.eq N _ _) (EvP.to (in_spec _ _ _) ?_)
      by_cases h : 0 ≤ n ∧ n ≤ 4611686018427387903
      · refine EvP.yes (by simp [h]) (EvP.to (in_spec _ _ _) (EvP.some ?_))
        rw [i64w (by omega) (by omega)]
        congr 2
        by_cases h3 : -1 ≤ acked ∧ acked ≤ n - 1
        · rw [decide_eq_true h3, decide_eq_true ⟨h, h3⟩]
        · rw [decide_eq_false h3, decide_eq_false (fun h' => h3 h'.2)]
      · exact EvP.no (by simp only [decide_eq_false h]) (EvP.some (by rw [decide_eq_false (fun h' => h h'.1)]))
    · by_cases h : nbOk n acked
      · refine EvP.no (by simp [h]) (EvP.to (size_l h) (EvP.some ?_))
        congr 2
        by_cases hz : szk (n - acked) = 0
        · rw [decide_eq_true (by simp [hz]), decide_eq_false (fun h' => h'.2 hz)]; rfl
        · rw [decide_eq_false (by dsimp only; omega), decide_eq_true ⟨h, hz⟩]; rfl
      · exact EvP.yes (by simp [h]) (EvP.some (by rw [decide_eq_false (fun h' => h h'.1)]; rfl))
  · unfold nbOf
    by_cases h : nbOk n acked ∧ szk (n - acked) ≠ 0
    · rw [if_pos h]
      exact EvP.no (by simp only [decide_eq_true h]; rfl) (EvP.to (size_l h.1) (EvP.to (fixed_ok _ _ (Nat.le_trans (szk_le _) (by decide))) (EvP.some rfl)))
    · rw [if_neg h]
      exact EvP.yes (by simp only [decide_eq_false h]; rfl) (EvP.some rfl)

/-! ### a number told by its lowest bytes -/
/-- How far the lowest bytes reach. -/
def wide (size : Int) : Int := if size = 1 then 256 else if size = 2 then 65536 else if size = 3 then 16777216 else 4294967296
def noOk (largest low size : Int) : Prop := (-1 ≤ largest ∧ largest ≤ 4611686018427387902) ∧ (1 ≤ size ∧ size ≤ 4) ∧ (0 ≤ low ∧ low ≤ wide size - 1)
instance (a b c : Int) : Decidable (noOk a b c) := by unfold noOk; exact inferInstance
def noVal (largest low w : Int) : Int :=
  if largest + 1 - (largest + 1) % w + low ≤ largest + 1 - w / 2 ∧ largest + 1 - (largest + 1) % w + low < 4611686018427387904 - w then largest + 1 - (largest + 1) % w + low + w
  else if largest + 1 + w / 2 < largest + 1 - (largest + 1) % w + low ∧ w ≤ largest + 1 - (largest + 1) % w + low then largest + 1 - (largest + 1) % w + low - w
  else largest + 1 - (largest + 1) % w + low
def noOf (largest low size : Int) : (Int × (Bool × Unit)) × Unit := if noOk largest low size then ((noVal largest low (wide size), (true, ())), ()) else ((0, (false, ())), ())
theorem wide_cases {size : Int} (h : 1 ≤ size ∧ size ≤ 4) : (size = 1 ∧ wide size = 256) ∨ (size = 2 ∧ wide size = 65536) ∨ (size = 3 ∧ wide size = 16777216) ∨ (size = 4 ∧ wide size = 4294967296) := by
  have : size = 1 ∨ size = 2 ∨ size = 3 ∨ size = 4 := by omega
  rcases this with rfl | rfl | rfl | rfl <;> simp [wide]
theorem shl_wide {size : Int} (h : 1 ≤ size ∧ size ≤ 4) : shlI .i64 1 (IntKind.i64.wrap (8 * size)) = wide size ∧ shlI .i64 1 (IntKind.u64.wrap (IntKind.i64.wrap (8 * size))) = wide size ∧ 0 ≤ IntKind.i64.wrap (8 * size) ∧ 0 ≤ IntKind.u64.wrap (IntKind.i64.wrap (8 * size)) := by
  rcases wide_cases h with ⟨rfl, e⟩ | ⟨rfl, e⟩ | ⟨rfl, e⟩ | ⟨rfl, e⟩ <;> rw [e] <;> decide +kernel
theorem NumberOf_ok {largest low size : Int} : EvP (fun N => impl_NumberOf N largest low size) (· = noOf largest low size) := by
  refine EvP.of (fun N => impl_NumberOf.eq N _ _ _) (EvP.to (a := ((!decide (noOk largest low size), ()), ())) ?_ ?_)
  · refine EvP.to (in_impl _ _ _) ?_
    by_cases h1 : -1 ≤ largest ∧ largest ≤ 4611686018427387902
    · refine EvP.no (by simp only [decide_eq_true h1]; rfl) (EvP.to (in_impl _ _ _) ?_)
      by_cases h2 : 1 ≤ size ∧ size ≤ 4
      · obtain ⟨e1, _, e2, _⟩ := shl_wide h2
        refine EvP.no (by simp only [decide_eq_true h2]; rfl) (EvP.chk1 e2 (EvP.to (in_impl _ _ _) (EvP.some ?_)))
        rw [e1, i64w (by rcases wide_cases h2 with ⟨_, e⟩ | ⟨_, e⟩ | ⟨_, e⟩ | ⟨_, e⟩ <;> rw [e] <;> decide) (by rcases wide_cases h2 with ⟨_, e⟩ | ⟨_, e⟩ | ⟨_, e⟩ | ⟨_, e⟩ <;> rw [e] <;> decide)]
        congr 2
        by_cases h3 : 0 ≤ low ∧ low ≤ wide size - 1
        · rw [decide_eq_true h3, decide_eq_true ⟨h1, h2, h3⟩]
        · rw [decide_eq_false h3, decide_eq_false (fun h' => h3 h'.2.2)]
      · exact EvP.yes (by simp only [decide_eq_false h2]; rfl) (EvP.some (by rw [decide_eq_false (fun h' => h2 h'.2.1)]; rfl))
    · exact EvP.yes (by simp only [decide_eq_false h1]; rfl) (EvP.some (by rw [decide_eq_false (fun h' => h1 h'.1)]; rfl))
  · unfold noOf
    by_cases h : noOk largest low size
    · rw [if_pos h]
      obtain ⟨h1, h2, h3⟩ := h
      obtain ⟨e1, _, e2, _⟩ := shl_wide h2
      refine EvP.no (by simp only [decide_eq_true (show noOk largest low size from ⟨h1, h2, h3⟩)]; rfl) ?_
      rw [e1]
      have hw : wide size = 256 ∨ wide size = 65536 ∨ wide size = 16777216 ∨ wide size = 4294967296 := by rcases wide_cases h2 with ⟨_, e⟩ | ⟨_, e⟩ | ⟨_, e⟩ | ⟨_, e⟩ <;> omega
      clear e1
      generalize wide size = w at hw h3 ⊢
      refine EvP.chk1 e2 (EvP.nz (by omega) ?_)
      have a1 : IntKind.i64.wrap (largest + 1) = largest + 1 := i64w (by omega) (by omega)
      have a2 : Int.tmod (largest + 1) w = (largest + 1) % w := Int.tmod_eq_emod_of_nonneg (by omega)
      have a3 : 0 ≤ (largest + 1) % w ∧ (largest + 1) % w < w ∧ (largest + 1) % w ≤ largest + 1 := by rcases hw with rfl | rfl | rfl | rfl <;> omega
      have a4 : Int.tdiv w 2 = w / 2 := Int.tdiv_eq_ediv_of_nonneg (by omega)
      unfold noVal
      rw [a1, a2, a4]
      generalize (largest + 1) % w = m at a3 ⊢
      rw [i64w (n := w / 2) (by omega) (by omega), i64w (n := largest + 1 - m) (by omega) (by omega), i64w (n := largest + 1 - m + low) (by omega) (by omega), i64w (n := largest + 1 - w / 2) (by omega) (by omega), i64w (n := 4611686018427387904 - w) (by omega) (by omega), i64w (n := largest + 1 + w / 2) (by omega) (by omega)]
      generalize hc : largest + 1 - m + low = c
      refine EvP.to (a := ((decide (c ≤ largest + 1 - w / 2 ∧ c < 4611686018427387904 - w), ()), ())) (EvP.ite (fun h => EvP.some (by simp [h])) (fun h => EvP.some (by simp [h]))) ?_
      refine EvP.ite (fun h => EvP.some ?_) (fun h => EvP.ite (fun h4 => EvP.ite (fun h5 => EvP.some ?_) (fun h5 => EvP.some ?_)) (fun h4 => EvP.some ?_))
      · rw [if_pos h, i64w (by omega) (by omega)]
      · rw [if_neg h, if_pos ⟨h4, h5⟩, i64w (by omega) (by omega)]
      · rw [if_neg h, if_neg (fun h' => h5 h'.2)]
      · rw [if_neg h, if_neg (fun h' => h4 h'.1)]
    · rw [if_neg h]
      exact EvP.yes (by simp only [decide_eq_false h]; rfl) (EvP.some rfl)
theorem andNot_mask {a : Int} {j : Nat} (hj : j ≤ 62) (h0 : 0 ≤ a) (h1 : a < 9223372036854775808) : Go.bits .andNot .i64 a (2 ^ j - 1) = a - a % 2 ^ j := by
  obtain ⟨x, rfl⟩ := Int.eq_ofNat_of_zero_le h0
  have hp : 1 ≤ 2 ^ j := Nat.one_le_two_pow
  have hpj : 2 ^ j ≤ 2 ^ 62 := Nat.pow_le_pow_right (by decide) hj
  have ec : (2 : Int) ^ j - 1 = ((2 ^ j - 1 : Nat) : Int) := by push_cast [hp]; rfl
  have em : (x : Int) % 2 ^ j = ((x % 2 ^ j : Nat) : Int) := by push_cast; rfl
  rw [ec, em]
  simp only [Go.bits, BitVec.ofInt_natCast]
  change IntKind.i64.wrap (((BitVec.ofNat 64 x &&& ~~~BitVec.ofNat 64 (2 ^ j - 1)).toNat : Nat) : Int) = _
  have hx : x < 2 ^ 64 := by simp only [Nat.reducePow]; omega
  have hm : 2 ^ j - 1 < 2 ^ 64 := by simp only [Nat.reducePow] at hpj ⊢; omega
  have key : (BitVec.ofNat 64 x &&& ~~~BitVec.ofNat 64 (2 ^ j - 1)) + (BitVec.ofNat 64 x &&& BitVec.ofNat 64 (2 ^ j - 1)) = BitVec.ofNat 64 x := by
    rw [BitVec.add_eq_or_of_and_eq_zero]
    · ext i hi
      simp only [BitVec.getElem_or, BitVec.getElem_and, BitVec.getElem_not]
      cases (BitVec.ofNat 64 x)[i] <;> cases (BitVec.ofNat 64 (2 ^ j - 1))[i] <;> rfl
    · ext i hi
      simp only [BitVec.getElem_and, BitVec.getElem_not, BitVec.getElem_zero]
      cases (BitVec.ofNat 64 x)[i] <;> cases (BitVec.ofNat 64 (2 ^ j - 1))[i] <;> rfl
  have k2 := congrArg BitVec.toNat key
  have e1 : (BitVec.ofNat 64 x &&& BitVec.ofNat 64 (2 ^ j - 1)).toNat = x % 2 ^ j := by
    rw [BitVec.toNat_and, BitVec.toNat_ofNat, BitVec.toNat_ofNat, Nat.mod_eq_of_lt hx, Nat.mod_eq_of_lt hm, Nat.and_two_pow_sub_one_eq_mod]
  have e2 : (BitVec.ofNat 64 x &&& ~~~BitVec.ofNat 64 (2 ^ j - 1)).toNat ≤ x := by
    rw [BitVec.toNat_and, BitVec.toNat_ofNat, Nat.mod_eq_of_lt hx]
    exact Nat.and_le_left
  have hle : x % 2 ^ j ≤ x := Nat.mod_le _ _
  rw [BitVec.toNat_add, e1, BitVec.toNat_ofNat, Nat.mod_eq_of_lt hx] at k2
  generalize (BitVec.ofNat 64 x &&& ~~~BitVec.ofNat 64 (2 ^ j - 1)).toNat = y at *
  generalize x % 2 ^ j = z at *
  simp only [Nat.reducePow] at k2 hx
  have : y + z = x := by omega
  rw [wraps_i64 _ (by omega) (by simp only [Int.reducePow]; omega)]
  omega
theorem andNot_wide {a size : Int} (hs : 1 ≤ size ∧ size ≤ 4) (h0 : 0 ≤ a) (h1 : a < 9223372036854775808) : Go.bits .andNot .i64 a (wide size - 1) = a - a % wide size := by
  rcases wide_cases hs with ⟨_, e⟩ | ⟨_, e⟩ | ⟨_, e⟩ | ⟨_, e⟩ <;> rw [e]
  · exact andNot_mask (j := 8) (by decide) h0 h1
  · exact andNot_mask (j := 16) (by decide) h0 h1
  · exact andNot_mask (j := 24) (by decide) h0 h1
  · exact andNot_mask (j := 32) (by decide) h0 h1
theorem or_wide {a b size : Int} (hs : 1 ≤ size ∧ size ≤ 4) (h0 : 0 ≤ a) (h1 : a ≤ 4611686018427387904) (hb : 0 ≤ b ∧ b ≤ wide size - 1) : Go.bits .or .i64 (a - a % wide size) b = a - a % wide size + b := by
  rcases wide_cases hs with ⟨_, e⟩ | ⟨_, e⟩ | ⟨_, e⟩ | ⟨_, e⟩ <;> rw [e] at hb ⊢
  · have := bits_or_disj .i64 63 (by decide) wraps_i64 8 (a / 256) b (by omega) (by simp only [Int.reducePow]; omega) hb.1 (by simp only [Int.reducePow]; omega) (by simp only [Int.reducePow]; omega)
    simp only [Int.reducePow] at this
    rwa [show a / 256 * 256 = a - a % 256 by omega] at this
  · have := bits_or_disj .i64 63 (by decide) wraps_i64 16 (a / 65536) b (by omega) (by simp only [Int.reducePow]; omega) hb.1 (by simp only [Int.reducePow]; omega) (by simp only [Int.reducePow]; omega)
    simp only [Int.reducePow] at this
    rwa [show a / 65536 * 65536 = a - a % 65536 by omega] at this
  · have := bits_or_disj .i64 63 (by decide) wraps_i64 24 (a / 16777216) b (by omega) (by simp only [Int.reducePow]; omega) hb.1 (by simp only [Int.reducePow]; omega) (by simp only [Int.reducePow]; omega)
    simp only [Int.reducePow] at this
    rwa [show a / 16777216 * 16777216 = a - a % 16777216 by omega] at this
  · have := bits_or_disj .i64 63 (by decide) wraps_i64 32 (a / 4294967296) b (by omega) (by simp only [Int.reducePow]; omega) hb.1 (by simp only [Int.reducePow]; omega) (by simp only [Int.reducePow]; omega)
    simp only [Int.reducePow] at this
    rwa [show a / 4294967296 * 4294967296 = a - a % 4294967296 by omega] at this
theorem NumberOf_spec {largest low size : Int} : EvP (fun N => spec_NumberOf N largest low size) (· = noOf largest low size) := by
  refine EvP.of (fun N => spec_NumberOf.eq N _ _ _) (EvP.to (a := ((!decide (noOk largest low size), ()), ())) ?_ ?_)
  · refine EvP.to (in_spec _ _ _) ?_
    by_cases h1 : -1 ≤ largest ∧ largest ≤ 4611686018427387902
    · refine EvP.no (by simp only [decide_eq_true h1]; rfl) (EvP.to (in_spec _ _ _) ?_)
      by_cases h2 : 1 ≤ size ∧ size ≤ 4
      · obtain ⟨_, e1, _, e2⟩ := shl_wide h2
        refine EvP.no (by simp only [decide_eq_true h2]; rfl) (EvP.chk1 e2 (EvP.to (in_spec _ _ _) (EvP.some ?_)))
        rw [e1, i64w (by rcases wide_cases h2 with ⟨_, e⟩ | ⟨_, e⟩ | ⟨_, e⟩ | ⟨_, e⟩ <;> rw [e] <;> decide) (by rcases wide_cases h2 with ⟨_, e⟩ | ⟨_, e⟩ | ⟨_, e⟩ | ⟨_, e⟩ <;> rw [e] <;> decide)]
        congr 2
        by_cases h3 : 0 ≤ low ∧ low ≤ wide size - 1
        · rw [decide_eq_true h3, decide_eq_true ⟨h1, h2, h3⟩]
        · rw [decide_eq_false h3, decide_eq_false (fun h' => h3 h'.2.2)]
      · exact EvP.yes (by simp only [decide_eq_false h2]; rfl) (EvP.some (by rw [decide_eq_false (fun h' => h2 h'.2.1)]; rfl))
    · exact EvP.yes (by simp only [decide_eq_false h1]; rfl) (EvP.some (by rw [decide_eq_false (fun h' => h1 h'.1)]; rfl))
  · unfold noOf
    by_cases h : noOk largest low size
    · rw [if_pos h]
      obtain ⟨h1, h2, h3⟩ := h
      refine EvP.no (by simp only [decide_eq_true (show noOk largest low size from ⟨h1, h2, h3⟩)]; rfl) (EvP.to (a := ((noVal largest low (wide size), ()), ())) ?_ (EvP.some rfl))
      obtain ⟨_, e1, _, e2⟩ := shl_wide h2
      refine EvP.of (fun N => spec_l6Number.eq N _ _ _) (EvP.chk1 e2 ?_)
      rw [e1]
      have hw : wide size = 256 ∨ wide size = 65536 ∨ wide size = 16777216 ∨ wide size = 4294967296 := by rcases wide_cases h2 with ⟨_, e⟩ | ⟨_, e⟩ | ⟨_, e⟩ | ⟨_, e⟩ <;> omega
      have a1 : IntKind.i64.wrap (largest + 1) = largest + 1 := i64w (by omega) (by omega)
      have a5 : IntKind.i64.wrap (wide size - 1) = wide size - 1 := i64w (by omega) (by omega)
      rw [a1, a5, andNot_wide h2 (by omega) (by omega), or_wide h2 (by omega) (by omega) h3]
      clear e1 a5
      generalize wide size = w at hw h3 ⊢
      have a3 : 0 ≤ (largest + 1) % w ∧ (largest + 1) % w < w ∧ (largest + 1) % w ≤ largest + 1 := by rcases hw with rfl | rfl | rfl | rfl <;> omega
      have a4 : Int.tdiv w 2 = w / 2 := Int.tdiv_eq_ediv_of_nonneg (by omega)
      unfold noVal
      rw [a4]
      generalize (largest + 1) % w = m at a3 ⊢
      rw [i64w (n := w / 2) (by omega) (by omega), i64w (n := largest + 1 - w / 2) (by omega) (by omega), i64w (n := 4611686018427387904 - w) (by omega) (by omega), i64w (n := largest + 1 + w / 2) (by omega) (by omega)]
      generalize hc : largest + 1 - m + low = c
      refine EvP.to (a := ((decide (c ≤ largest + 1 - w / 2 ∧ c < 4611686018427387904 - w), ()), ())) (EvP.ite (fun h => EvP.some (by simp [h])) (fun h => EvP.some (by simp [h]))) ?_
      refine EvP.ite (fun h => EvP.some ?_) (fun h => EvP.ite (fun h4 => EvP.ite (fun h5 => EvP.some ?_) (fun h5 => EvP.some ?_)) (fun h4 => EvP.some ?_))
      · rw [if_pos h, i64w (by omega) (by omega)]
      · rw [if_neg h, if_pos ⟨h4, h5⟩, i64w (by omega) (by omega)]
      · rw [if_neg h, if_neg (fun h' => h5 h'.2)]
      · rw [if_neg h, if_neg (fun h' => h4 h'.1)]
    · rw [if_neg h]
      exact EvP.yes (by simp only [decide_eq_false h]; rfl) (EvP.some rfl)
/-- A number comes back from its lowest bytes. -/
theorem noVal_back {n acked largest : Int} (h : nbOk n acked) (hz : szk (n - acked) ≠ 0) (h1 : acked ≤ largest) (h2 : largest ≤ n - 1) : noOf largest (vof (be (szk (n - acked)) n)) ((szk (n - acked) : Nat) : Int) = ((n, (true, ())), ()) := by
  obtain ⟨h3, h4⟩ := h
  have hk : (szk (n - acked) = 1 ∧ n - acked ≤ 127) ∨ (szk (n - acked) = 2 ∧ n - acked ≤ 32767) ∨ (szk (n - acked) = 3 ∧ n - acked ≤ 8388607) ∨ (szk (n - acked) = 4 ∧ n - acked ≤ 2147483647) := by
    unfold szk at hz ⊢
    by_cases a : n - acked ≤ 127
    · rw [if_pos a]; omega
    · rw [if_neg a] at hz ⊢
      by_cases b : n - acked ≤ 32767
      · rw [if_pos b]; omega
      · rw [if_neg b] at hz ⊢
        by_cases c : n - acked ≤ 8388607
        · rw [if_pos c]; omega
        · rw [if_neg c] at hz ⊢
          by_cases d : n - acked ≤ 2147483647
          · rw [if_pos d]; omega
          · rw [if_neg d] at hz; exact absurd rfl hz
  rw [vof_be]
  have hw : ∀ (k : Nat) (w : Int), (256 : Int) ^ k = w → wide (k : Int) = w → (1 ≤ (k : Int) ∧ (k : Int) ≤ 4) → 256 ≤ w → w ≤ 4294967296 → n - acked ≤ w / 2 - 1 → (w = 256 ∨ w = 65536 ∨ w = 16777216 ∨ w = 4294967296) → noOf largest (n % 256 ^ k) (k : Int) = ((n, (true, ())), ()) := by
    intro k w e1 e2 e3 e4 e5 e6 e7
    unfold noOf
    rw [e1, e2]
    have hm : 0 ≤ n % w ∧ n % w < w := by rcases e7 with rfl | rfl | rfl | rfl <;> omega
    rw [if_pos (by refine ⟨by omega, e3, ?_⟩; rw [e2]; omega)]
    congr 2
    unfold noVal
    rcases e7 with rfl | rfl | rfl | rfl <;> (repeat' split) <;> omega
  rcases hk with ⟨e, h⟩ | ⟨e, h⟩ | ⟨e, h⟩ | ⟨e, h⟩ <;> rw [e]
  · exact hw 1 256 rfl rfl (by decide) (by decide) (by decide) (by omega) (by simp)
  · exact hw 2 65536 rfl rfl (by decide) (by decide) (by decide) (by omega) (by simp)
  · exact hw 3 16777216 rfl rfl (by decide) (by decide) (by decide) (by omega) (by simp)
  · exact hw 4 4294967296 rfl rfl (by decide) (by decide) (by decide) (by omega) (by simp)
end Go.Proofs.Ytcngjidojibleab.CFnNumbers
