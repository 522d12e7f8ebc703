/- The reference's reader: what its steps read. -/
import Derived.Test.YteichkkbhpdjcaaQVarSpecFnCut
set_option linter.unusedVariables false
set_option linter.unusedSimpArgs false
namespace Go.Proofs.Yteichkkbhpdjcaa.CFnCut
open Go Go.Proofs Go.Proofs.YteichkkbhpdjcaaPM Go.Proofs.Yteichkkbhpdjcaa.Q Go.Proofs.Yteichkkbhpdjcaa.GFnCut

/-- The reader's state: what is left; none where it stopped. -/
def rst (s : ByteArray) (a c : Int) : Option ByteArray := if c = 0 then some (s.extract a.toNat s.size) else none
theorem rst_none {s : ByteArray} {a c : Int} : rst s a c = none ↔ c ≠ 0 := by unfold rst; split <;> simp [*]
theorem rst_some {s m : ByteArray} {a c : Int} : rst s a c = some m ↔ c = 0 ∧ s.extract a.toNat s.size = m := by unfold rst; split <;> simp [*]
/-- A step of the reader did as told. -/
def RunS {α : Type} (p : PR α) (s : ByteArray) (a c : Int) (v : α) (q : (ByteArray × (Int × (Int × Unit))) × Unit) : Prop :=
  Run p (rst s a c) v (rst s q.1.2.1 q.1.2.2.1) ∧ q.1.1 = s ∧ 0 ≤ q.1.2.1 ∧ q.1.2.1 ≤ (s.size : Int)
theorem extract_drop {s : ByteArray} {a n : Nat} : (s.extract a s.size).extract n (s.extract a s.size).size = s.extract (a + n) s.size := bytesL_inj (by
  rw [bytesL_extract, bytesL_extract, bytesL_extract, ← bytesL_len, bytesL_extract, List.take_of_length_le (l := (List.drop a _)) (Nat.le_refl _), List.drop_drop])
theorem extract_head {s : ByteArray} {a n : Nat} : (s.extract a s.size).extract 0 n = s.extract a (a + n) := bytesL_inj (by
  rw [bytesL_extract, bytesL_extract, bytesL_extract, List.drop_zero, List.take_of_length_le (i := s.size) (by rw [bytesL_len]; exact Nat.le_refl _), List.drop_take, Nat.add_sub_cancel_left])
theorem take_spec {n : Int} (hn : 0 ≤ n) (hn2 : n < 4611686018427387904) {s : ByteArray} (hs : s.size ≤ 1000000) {a : Int} (h0 : 0 ≤ a) (h1 : a ≤ (s.size : Int)) (c : Int) : EvP (fun N => spec_l1R_take N n s a c) (fun r => RunS (tk n.toNat) s a c r.1.1 r.2 ∧ r.1.1.size ≤ n.toNat) := by
  refine EvP.of (fun N => spec_l1R_take.eq N _ _ _ _) ?_
  rw [i64w (n := (s.size : Int) - a) (by omega) (by omega)]
  refine EvP.to (a := (((), ()), ((s, (a, (if c = 0 ∧ (s.size : Int) - a < n then 1 else c, ()))), ()))) ?_ ?_
  · refine EvP.to (a := (((), (decide (c = 0 ∧ (s.size : Int) - a < n), ())), ((s, (a, (c, ()))), ()))) ?_ ?_
    · exact EvP.ite (fun h => EvP.some (by simp [h])) (fun h => EvP.some (by simp [h]))
    · exact EvP.ite (fun h => EvP.some (by rw [if_pos h])) (fun h => EvP.some (by rw [if_neg h]))
  · dsimp only
    have hx : (s.extract a.toNat s.size).size = s.size - a.toNat := extract_size (Nat.le_refl _)
    by_cases hc : c = 0
    · by_cases hl : (s.size : Int) - a < n
      · rw [if_pos ⟨hc, hl⟩]
        refine EvP.npos (by decide) (EvP.some ⟨⟨?_, rfl, h0, h1⟩, Nat.zero_le _⟩)
        unfold Run
        rw [show rst s a c = some (s.extract a.toNat s.size) from if_pos hc, show (some (s.extract a.toNat s.size)).bind (tk n.toNat) = tk n.toNat (s.extract a.toNat s.size) from rfl, show tk n.toNat (s.extract a.toNat s.size) = none by unfold tk; rw [if_pos (by omega)]]
        rfl
      · rw [if_neg (fun h => hl h.2)]
        refine EvP.nneg hc ?_
        rw [i64w (n := a + n) (by omega) (by omega), show a + n - n = a by omega, i64w (n := a) (by omega) (by omega)]
        refine EvP.chk3 h0 (by omega) (by omega) (EvP.some ⟨⟨?_, rfl, by dsimp only; omega, by dsimp only; omega⟩, ?_⟩)
        · unfold Run
          rw [show rst s a c = some (s.extract a.toNat s.size) from if_pos hc, show (some (s.extract a.toNat s.size)).bind (tk n.toNat) = tk n.toNat (s.extract a.toNat s.size) from rfl, show tk n.toNat (s.extract a.toNat s.size) = some ((s.extract a.toNat s.size).extract 0 n.toNat, (s.extract a.toNat s.size).extract n.toNat (s.extract a.toNat s.size).size) by unfold tk; rw [if_neg (by omega)]]
          refine ⟨?_, ?_⟩
          · dsimp only
            rw [extract_head]
            congr 1
            omega
          · show rst s (a + n) c = _
            unfold rst
            rw [if_pos hc]
            dsimp only
            rw [extract_drop]
            congr 2
            omega
        · dsimp only
          rw [extract_size (by omega)]; omega
    · rw [if_neg (fun h => hc h.1)]
      refine EvP.npos hc (EvP.some ⟨⟨?_, rfl, h0, h1⟩, Nat.zero_le _⟩)
      unfold Run
      rw [show rst s a c = none from if_neg hc]
      exact rfl
theorem RunS.seq {α β : Type} {p : PR α} {q : α → PR β} {s s' : ByteArray} {a c a' c' : Int} {v : α} {w : β} {r : (ByteArray × (Int × (Int × Unit))) × Unit} (h : Run p (rst s a c) v (rst s a' c')) (k : RunS (q v) s a' c' w r) : RunS (p.bind q) s a c w r := ⟨Run.seq h k.1, k.2⟩
theorem byte_spec {s : ByteArray} (hs : s.size ≤ 1000000) {a : Int} (h0 : 0 ≤ a) (h1 : a ≤ (s.size : Int)) (c : Int) : EvP (fun N => spec_l1R_take N 1 s a c) (fun r => (RunS rdByte s a c (vof r.1.1) r.2 ∧ 0 ≤ vof r.1.1 ∧ vof r.1.1 ≤ 255) ∧ r.1.1.size ≤ 7) := by
  refine (take_spec (n := 1) (by decide) (by decide) hs h0 h1 c).mono ?_
  rintro r ⟨⟨a1, a2, a3, a4⟩, a5⟩
  have a5 : r.1.1.size ≤ 1 := a5
  have hv := vof_range r.1.1
  have hv2 : vof r.1.1 ≤ 255 := by
    have : r.1.1.size = 0 ∨ r.1.1.size = 1 := by omega
    rcases this with e | e <;> rw [e] at hv <;> have := hv.2 <;> omega
  exact ⟨⟨⟨Run.map a1 fun _ => rfl, a2, a3, a4⟩, hv.1, hv2⟩, by omega⟩
theorem word_specR {s : ByteArray} (hs : s.size ≤ 1000000) {a : Int} (h0 : 0 ≤ a) (h1 : a ≤ (s.size : Int)) (c : Int) : EvP (fun N => spec_l1R_take N 4 s a c) (fun r => (RunS rdWord s a c (vof r.1.1) r.2 ∧ 0 ≤ vof r.1.1 ∧ vof r.1.1 ≤ 4294967295) ∧ r.1.1.size ≤ 7) := by
  refine (take_spec (n := 4) (by decide) (by decide) hs h0 h1 c).mono ?_
  rintro r ⟨⟨a1, a2, a3, a4⟩, a5⟩
  have a5 : r.1.1.size ≤ 4 := a5
  have hv := vof_range r.1.1
  have hv2 : vof r.1.1 ≤ 4294967295 := by
    have : r.1.1.size = 0 ∨ r.1.1.size = 1 ∨ r.1.1.size = 2 ∨ r.1.1.size = 3 ∨ r.1.1.size = 4 := by omega
    rcases this with e | e | e | e | e <;> rw [e] at hv <;> have := hv.2 <;> omega
  exact ⟨⟨⟨Run.map a1 fun _ => rfl, a2, a3, a4⟩, hv.1, hv2⟩, by omega⟩
theorem rest_specR {s : ByteArray} (hs : s.size ≤ 1000000) {a : Int} (h0 : 0 ≤ a) (h1 : a ≤ (s.size : Int)) (c : Int) : EvP (fun N => spec_l1R_take N ((s.size : Int) - a) s a c) (fun r => RunS rdRest s a c r.1.1 r.2) := by
  refine (take_spec (n := (s.size : Int) - a) (by omega) (by omega) hs h0 h1 c).mono ?_
  rintro r ⟨⟨a1, a2⟩, a5⟩
  refine ⟨?_, a2⟩
  unfold Run at a1 ⊢
  cases hr : rst s a c with
  | none => rw [hr] at a1; exact a1
  | some l =>
    rw [hr] at a1
    have hl : l.size = ((s.size : Int) - a).toNat := by
      have := (rst_some.1 hr).2
      rw [← this, extract_size (Nat.le_refl _)]
      omega
    have e : tk ((s.size : Int) - a).toNat l = some (l, ⟨#[]⟩) := by
      have := tk_app (s := l) (t := ⟨#[]⟩) hl.symm
      rwa [app_nil] at this
    rw [show (some l).bind (tk ((s.size : Int) - a).toNat) = tk ((s.size : Int) - a).toNat l from rfl, e] at a1
    exact a1
theorem num_spec {s : ByteArray} (hs : s.size ≤ 1000000) {a : Int} (h0 : 0 ≤ a) (h1 : a ≤ (s.size : Int)) (c : Int) : EvP (fun N => spec_l1R_num N s a c) (fun r => RunS rdNum s a c r.1.1 r.2 ∧ 0 ≤ r.1.1 ∧ r.1.1 < 4611686018427387904) := by
  refine EvP.of (fun N => spec_l1R_num.eq N _ _ _) (EvP.chk3 h0 h1 (Int.le_refl _) (EvP.to (Take_spec _) ?_))
  rw [Int.toNat_natCast]
  have hx : (s.extract a.toNat s.size).size = s.size - a.toNat := extract_size (Nat.le_refl _)
  have hr := TakeV_range (s.extract a.toNat s.size)
  generalize hl : s.extract a.toNat s.size = l at hx hr
  refine EvP.to (a := (((), ()), ((s, (a, (if (TakeV l).2 = 0 ∧ c = 0 then 1 else c, ()))), ()))) ?_ ?_
  · refine EvP.to (a := (((), (decide ((TakeV l).2 = 0 ∧ c = 0), ())), ((s, (a, (c, ()))), ()))) ?_ ?_
    · exact EvP.ite (fun h => EvP.some (by have h : (TakeV l).2 = 0 := h; simp [h])) (fun h => EvP.some (by have h : ¬ (TakeV l).2 = 0 := h; simp [h]))
    · exact EvP.ite (fun h => EvP.some (by rw [if_pos h])) (fun h => EvP.some (by rw [if_neg h]))
  · dsimp only
    rw [i64w (n := a + (TakeV l).2) (by omega) (by omega)]
    refine EvP.some ⟨⟨?_, rfl, by dsimp only; omega, by dsimp only; omega⟩, hr.1, hr.2.1⟩
    dsimp only
    by_cases hc : c = 0
    · unfold Run
      rw [show rst s a c = some l by unfold rst; rw [if_pos hc, hl], show (some l).bind rdNum = rdNum l from rfl]
      by_cases hz : (TakeV l).2 = 0
      · rw [show rdNum l = none by unfold rdNum; rw [if_pos hz], if_pos ⟨hz, hc⟩]
        rfl
      · rw [show rdNum l = some ((TakeV l).1, l.extract (TakeV l).2.toNat l.size) by unfold rdNum; rw [if_neg hz], if_neg (fun h => hz h.1)]
        refine ⟨rfl, ?_⟩
        unfold rst
        rw [if_pos hc, ← hl, extract_drop]
        congr 2
        rw [hl]
        omega
    · unfold Run
      rw [if_neg (fun h => hc h.2), show rst s a c = none from if_neg hc]
      exact if_neg hc
theorem text_spec {s : ByteArray} (hs : s.size ≤ 1000000) {a : Int} (h0 : 0 ≤ a) (h1 : a ≤ (s.size : Int)) (c : Int) : EvP (fun N => spec_l1R_text N s a c) (fun r => RunS rdCounted s a c r.1.1 r.2) := by
  refine EvP.of (fun N => spec_l1R_text.eq N _ _ _) (EvP.andK (num_spec hs h0 h1 c) ?_)
  rintro u ⟨⟨a1, a2, a3, a4⟩, b1, b2⟩
  rw [a2]
  refine EvP.andK (take_spec b1 b2 hs a3 a4 _) ?_
  rintro v ⟨⟨c1, c2, c3, c4⟩, _⟩
  have h8 := Run.bind (q := fun n : Int => tk n.toNat) a1 c1
  exact EvP.some ⟨h8, c2, c3, c4⟩
end Go.Proofs.Yteichkkbhpdjcaa.CFnCut
