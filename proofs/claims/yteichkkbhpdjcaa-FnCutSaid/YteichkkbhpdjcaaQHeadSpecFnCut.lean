/- The reference's headers, and how they are read. -/
import Derived.Test.YteichkkbhpdjcaaQHead
import Derived.Test.YteichkkbhpdjcaaQRdSpecFnCut
import Derived.Test.YteichkkbhpdjcaaQGoodHSpecFnCut
set_option linter.unusedVariables false
set_option linter.unusedSimpArgs false
namespace Go.Proofs.Yteichkkbhpdjcaa.CFnCut
open Go Go.Proofs Go.Proofs.YteichkkbhpdjcaaPM Go.Proofs.Yteichkkbhpdjcaa.Q Go.Proofs.Yteichkkbhpdjcaa.GFnCut

/-- Nothing more is read unless it is so. -/
def guardP (c : Prop) [Decidable c] : PR Unit := fun s => if c then some ((), s) else none
/-- An id with its length ahead. -/
def idP : PR ByteArray := rdByte.bind fun n => (guardP (n ≤ 20)).bind fun _ => tk n.toNat
def HeaderS (first short : Int) : PR Hd :=
  if first < 128 then (guardP (first / 16 % 4 = 0)).bind fun _ => (tk short.toNat).bind fun d => rdRest.bind fun p => PR.ret (mkH 5 (first % 16) 0 d nilS nilS p [])
  else rdWord.bind fun v => idP.bind fun d => idP.bind fun c =>
    if v = 0 then (guardP (first / 16 % 4 = 0)).bind fun _ => rdAll.bind fun l => PR.ret (mkH 4 (first % 16) v d c nilS nilS l)
    else (if first / 16 % 4 = 0 then rdCounted else PR.ret nilS).bind fun t => (if first / 16 % 4 = 3 then rdRest else rdCounted).bind fun p =>
      PR.ret (mkH (first / 16 % 4) (first % 16) v d c t p [])
theorem bind_iff {α β : Type} {p : PR α} {q : α → PR β} {s l : ByteArray} {y : β} : p.bind q s = some (y, l) ↔ ∃ x m, p s = some (x, m) ∧ q x m = some (y, l) :=
  ⟨PR.bind_some, fun ⟨x, m, h1, h2⟩ => by unfold PR.bind; rw [h1]; exact h2⟩
theorem guard_iff {c : Prop} [Decidable c] {s l : ByteArray} {y : Unit} : guardP c s = some (y, l) ↔ c ∧ s = l := by
  unfold guardP
  split <;> simp [*]
theorem ret_iff {α : Type} {v y : α} {s l : ByteArray} : PR.ret v s = some (y, l) ↔ v = y ∧ s = l := by unfold PR.ret; simp
/-- What the reference reads is what is read, where all is right. -/
theorem headS_iff {first short : Int} {s l : ByteArray} {h : Hd} : (HeaderS first short s = some (h, l) ∧ GoodH h.1 h.2.1 h.2.2.1 h.2.2.2.1 h.2.2.2.2.1 h.2.2.2.2.2.1 h.2.2.2.2.2.2.1 h.2.2.2.2.2.2.2.1) ↔ (HeaderP first short s = some (h, l) ∧ headOk first h) := by
  unfold HeaderS HeaderP headOk
  by_cases hf : first < 128
  · rw [if_pos hf, if_pos hf]
    simp only [bind_iff, guard_iff, ret_iff]
    constructor
    · rintro ⟨⟨_, _, ⟨h1, rfl⟩, d, m1, h2, p, m2, h3, rfl, rfl⟩, hg⟩
      exact ⟨⟨d, m1, h2, p, m2, h3, rfl, rfl⟩, fun _ => h1, hg⟩
    · rintro ⟨⟨d, m1, h2, p, m2, h3, rfl, rfl⟩, hq, hg⟩
      exact ⟨⟨(), _, ⟨hq (.inl rfl), rfl⟩, d, m1, h2, p, m2, h3, rfl, rfl⟩, hg⟩
  · rw [if_neg hf, if_neg hf]
    unfold idP
    simp only [bind_iff, guard_iff]
    constructor
    · rintro ⟨⟨v, m1, h1, d, m2, ⟨n, m3, h2, _, _, ⟨h3, rfl⟩, h4⟩, c, m4, ⟨k, m5, h5, _, _, ⟨h6, rfl⟩, h7⟩, h8⟩, hg⟩
      by_cases hv : v = 0
      · rw [if_pos hv] at h8
        simp only [bind_iff, guard_iff, ret_iff] at h8
        obtain ⟨_, _, ⟨h9, rfl⟩, w, m6, h10, rfl, rfl⟩ := h8
        refine ⟨⟨v, m1, h1, n, _, h2, d, m2, h4, k, _, h5, c, m4, h7, ?_⟩, fun _ => h9, hg⟩
        rw [if_pos hv]
        simp only [bind_iff, ret_iff]
        exact ⟨w, m6, h10, rfl, rfl⟩
      · rw [if_neg hv] at h8
        have h8' := h8
        simp only [bind_iff, ret_iff] at h8'
        obtain ⟨t, m6, h9, p, m7, h10, rfl, rfl⟩ := h8'
        refine ⟨⟨v, m1, h1, n, _, h2, d, m2, h4, k, _, h5, c, m4, h7, ?_⟩, fun hq => ?_, hg⟩
        · rw [if_neg hv]; exact h8
        · have e : (mkH (first / 16 % 4) (first % 16) v d c t p []).1 = first / 16 % 4 := rfl
          rw [e] at hq
          omega
    · rintro ⟨⟨v, m1, h1, n, m3, h2, d, m2, h4, k, m5, h5, c, m4, h7, h8⟩, hq, hg⟩
      have hd := (tk_size h4).1
      have hc := (tk_size h7).1
      have hdc : h.2.2.2.1 = d ∧ h.2.2.2.2.1 = c := by
        by_cases hv : v = 0
        · rw [if_pos hv] at h8
          simp only [bind_iff, ret_iff] at h8
          obtain ⟨w, m6, h10, rfl, rfl⟩ := h8
          exact ⟨rfl, rfl⟩
        · rw [if_neg hv] at h8
          simp only [bind_iff, ret_iff] at h8
          obtain ⟨t, m6, h9, p, m7, h10, rfl, rfl⟩ := h8
          exact ⟨rfl, rfl⟩
      have g1 := hg.1.1
      have g2 := hg.1.2.1
      rw [hdc.1] at g1
      rw [hdc.2] at g2
      refine ⟨⟨v, m1, h1, d, m2, ⟨n, m3, h2, (), _, ⟨by omega, rfl⟩, h4⟩, c, m4, ⟨k, m5, h5, (), _, ⟨by omega, rfl⟩, h7⟩, ?_⟩, hg⟩
      by_cases hv : v = 0
      · rw [if_pos hv] at h8 ⊢
        simp only [bind_iff, ret_iff, guard_iff] at h8 ⊢
        obtain ⟨w, m6, h10, rfl, rfl⟩ := h8
        exact ⟨(), _, ⟨hq (.inr rfl), rfl⟩, w, m6, h10, rfl, rfl⟩
      · rw [if_neg hv] at h8 ⊢
        exact h8
theorem Run.guard {c : Prop} [Decidable c] {st st' : Option ByteArray} (h : st' = if c then st else none) : Run (guardP c) st () st' := by
  subst h
  cases st with
  | none => show (if c then _ else _) = _; split <;> rfl
  | some s =>
    unfold Run
    rw [show (some s).bind (guardP c) = if c then some ((), s) else none from rfl]
    by_cases hc : c
    · rw [if_pos hc, if_pos hc]; exact ⟨rfl, rfl⟩
    · rw [if_neg hc, if_neg hc]
theorem id_spec {s : ByteArray} (hs : s.size ≤ 1000000) {a : Int} (h0 : 0 ≤ a) (h1 : a ≤ (s.size : Int)) (c : Int) : EvP (fun N => spec_l1R_id N s a c) (fun r => RunS idP s a c r.1.1 r.2) := by
  refine EvP.of (fun N => spec_l1R_id.eq N _ _ _) (EvP.andK (byte_spec hs h0 h1 c) ?_)
  rintro u ⟨⟨⟨a1, a2, a3, a4⟩, r1, r2⟩, z⟩
  refine EvP.to (big_ok _ z) ?_
  rw [a2]
  refine EvP.to (a := (((), ()), ((s, (u.2.1.2.1, (if u.2.1.2.2.1 = 0 ∧ 20 < vof u.1.1 then 3 else u.2.1.2.2.1, ()))), ()))) ?_ ?_
  · refine EvP.to (a := (((), (decide (u.2.1.2.2.1 = 0 ∧ 20 < vof u.1.1), ())), ((s, (u.2.1.2.1, (u.2.1.2.2.1, ()))), ()))) ?_ ?_
    · exact EvP.ite (fun h => EvP.some (by simp [h])) (fun h => EvP.some (by simp [h]))
    · exact EvP.ite (fun h => EvP.some (by rw [if_pos h])) (fun h => EvP.some (by rw [if_neg h]))
  · dsimp only
    refine EvP.andK (take_spec r1 (by omega) hs a3 a4 _) ?_
    rintro v ⟨⟨b1, b2, b3, b4⟩, _⟩
    refine EvP.some ⟨Run.seq (v := vof u.1.1) a1 (Run.seq (v := ()) (Run.guard ?_) b1), b2, b3, b4⟩
    unfold rst
    by_cases hc : u.2.1.2.2.1 = 0
    · by_cases h20 : 20 < vof u.1.1
      · rw [if_pos (show u.2.1.2.2.1 = 0 ∧ 20 < vof u.1.1 from ⟨hc, h20⟩), if_neg (by decide), if_neg (by omega)]
      · rw [if_neg (show ¬ (u.2.1.2.2.1 = 0 ∧ 20 < vof u.1.1) from fun h => h20 h.2), if_pos hc, if_pos (by omega)]
    · rw [if_neg (show ¬ (u.2.1.2.2.1 = 0 ∧ 20 < vof u.1.1) from fun h => hc h.1), if_neg hc]
      split <;> rfl
end Go.Proofs.Yteichkkbhpdjcaa.CFnCut
