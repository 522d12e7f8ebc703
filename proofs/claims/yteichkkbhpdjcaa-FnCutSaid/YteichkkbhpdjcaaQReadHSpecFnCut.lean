/- The reference's l2Header. -/
import Derived.Test.YteichkkbhpdjcaaQHeadSpecFnCut
set_option linter.unusedVariables false
set_option linter.unusedSimpArgs false
namespace Go.Proofs.Yteichkkbhpdjcaa.CFnCut
open Go Go.Proofs Go.Proofs.YteichkkbhpdjcaaPM Go.Proofs.Yteichkkbhpdjcaa.Q Go.Proofs.Yteichkkbhpdjcaa.GFnCut

theorem words_specR {s : ByteArray} (hs : s.size ≤ 900000) (p0 p1 p2 : Int) (p3 p4 p5 p6 : ByteArray) (q0 q1 q2 : Int) (q3 q4 q5 q6 : ByteArray) : ∀ (k : Nat) (a c : Int) (p : List Int), 0 ≤ a → a ≤ (s.size : Int) → (c = 0 → (s.size : Int) - a ≤ k) → p.length + k ≤ 1000000 →
    EvP (fun N => spec_l2Read.l0 N s a c p0 p1 p2 p3 p4 p5 p6 q0 q1 q2 q3 q4 q5 q6 p)
      (fun r => (WPost ((rst s a c).bind (rdWords k)) (rst s r.2.1.2.1 r.2.1.2.2.1) p r.2.2.2.2.1 ∧ r.2.1.1 = s ∧ 0 ≤ r.2.1.2.1 ∧ r.2.1.2.1 ≤ (s.size : Int)) ∧ r.2.2.2.1 = (q0, (q1, (q2, (q3, (q4, (q5, (q6, ((), ()))))))))) := by
  have stop : ∀ (k : Nat) (a c : Int) (p : List Int), 0 ≤ a → a ≤ (s.size : Int) → (c = 0 → (s.size : Int) = a) → EvP (fun N => spec_l2Read.l0 N s a c p0 p1 p2 p3 p4 p5 p6 q0 q1 q2 q3 q4 q5 q6 p)
      (fun r => (WPost ((rst s a c).bind (rdWords k)) (rst s r.2.1.2.1 r.2.1.2.2.1) p r.2.2.2.2.1 ∧ r.2.1.1 = s ∧ 0 ≤ r.2.1.2.1 ∧ r.2.1.2.1 ≤ (s.size : Int)) ∧ r.2.2.2.1 = (q0, (q1, (q2, (q3, (q4, (q5, (q6, ((), ()))))))))) := by
    intro k a c p h0 h1 h2
    refine EvP.step (fun N => spec_l2Read.l0.eq N _ _ _ _ _ _ _ _ _ _ _ _ _ _ _ _ _ _) ?_
    refine EvP.to (a := (((), ((), ((), (false, ())))), ((s, (a, (c, ()))), ((p0, (p1, (p2, (p3, (p4, (p5, (p6, ((), ())))))))), ((q0, (q1, (q2, (q3, (q4, (q5, (q6, ((), ())))))))), (p, ())))))) ?_ (EvP.no rfl (EvP.some ⟨⟨?_, rfl, h0, h1⟩, rfl⟩))
    · refine EvP.ite (fun hc => EvP.some ?_) (fun hc => EvP.some rfl)
      rw [decide_eq_false (by have := h2 hc; omega)]
    · dsimp only
      by_cases hc : c = 0
      · have e : s.extract a.toNat s.size = ⟨#[]⟩ := size_zero (by rw [extract_size (Nat.le_refl _)]; have := h2 hc; omega)
        have e2 : rst s a c = some ⟨#[]⟩ := by rw [show rst s a c = some (s.extract a.toNat s.size) from if_pos hc, e]
        rw [e2, show (some (⟨#[]⟩ : ByteArray)).bind (rdWords k) = some [] by show rdWords k ⟨#[]⟩ = _; cases k <;> (unfold rdWords; rw [if_pos size_nil])]
        exact ⟨by simp, rfl⟩
      · rw [show rst s a c = none from if_neg hc]
        exact rfl
  intro k
  induction k with
  | zero => exact fun a c p h0 h1 h2 h3 => stop 0 a c p h0 h1 fun hc => by have := h2 hc; omega
  | succ k ih =>
    intro a c p h0 h1 h2 h3
    by_cases hst : c = 0 ∧ a < (s.size : Int)
    · obtain ⟨hc, hlt⟩ := hst
      refine EvP.step (fun N => spec_l2Read.l0.eq N _ _ _ _ _ _ _ _ _ _ _ _ _ _ _ _ _ _) ?_
      refine EvP.to (a := (((), ((), ((), (true, ())))), ((s, (a, (c, ()))), ((p0, (p1, (p2, (p3, (p4, (p5, (p6, ((), ())))))))), ((q0, (q1, (q2, (q3, (q4, (q5, (q6, ((), ())))))))), (p, ())))))) (EvP.pos hc (EvP.some (by rw [decide_eq_true hlt]))) (EvP.yes rfl ?_)
      refine EvP.andK (word_specR (by omega) h0 h1 c) ?_
      rintro u ⟨⟨⟨a1, a2, a3, a4⟩, r1, r2⟩, z⟩
      refine EvP.to (big_ok _ z) (EvP.chk1 (show _ < (68719476736 : Nat) by dsimp only; omega) ?_)
      dsimp only
      rw [a2]
      have e2 : rst s a c = some (s.extract a.toNat s.size) := if_pos hc
      have hsz : (s.extract a.toNat s.size).size = s.size - a.toNat := extract_size (Nat.le_refl _)
      have hcs : (rst s a c).bind (rdWords (k + 1)) = (rdWord (s.extract a.toNat s.size)).bind fun x => (rdWords k x.2).map (x.1 :: ·) := by
        rw [e2]
        show rdWords (k + 1) _ = _
        conv => lhs; unfold rdWords
        rw [if_neg (by omega)]
      rw [hcs]
      rw [e2] at a1
      cases hw : rdWord (s.extract a.toNat s.size) with
      | none =>
        have h6 := Run.fails a1 hw
        rw [rst_none] at h6
        refine (stop k _ _ _ a3 a4 (fun h => absurd h h6)).mono ?_
        rintro r ⟨⟨b1, b2⟩, b3⟩
        refine ⟨⟨?_, b2⟩, b3⟩
        rw [show rst s u.2.1.2.1 u.2.1.2.2.1 = none from if_neg h6] at b1
        exact b1
      | some x =>
        obtain ⟨h6, h7⟩ := Run.gives a1 hw
        obtain ⟨h8, h9⟩ := rst_some.1 h7
        have hx2 : x.2.size + 4 = (s.extract a.toNat s.size).size := by
          have e9 := hw
          unfold rdWord at e9
          obtain ⟨y, h10, rfl⟩ := Option.map_eq_some_iff.1 e9
          exact (tk_size (x := y.1) (l := y.2) h10).2
        have hx3 : x.2.size = s.size - u.2.1.2.1.toNat := by rw [← h9, extract_size (Nat.le_refl _)]
        have h2' := h2 hc
        rw [h6]
        refine (ih u.2.1.2.1 u.2.1.2.2.1 (p ++ [x.1]) a3 a4 (fun _ => by omega) (by simp; omega)).mono ?_
        rintro r ⟨⟨b1, b2⟩, b3⟩
        refine ⟨⟨?_, b2⟩, b3⟩
        rw [h7, show (some x.2).bind (rdWords k) = rdWords k x.2 from rfl] at b1
        rw [show ((some x).bind fun x => (rdWords k x.2).map (x.1 :: ·)) = (rdWords k x.2).map (x.1 :: ·) from rfl]
        cases hk : rdWords k x.2 with
        | none => rw [hk] at b1; exact b1
        | some ws => rw [hk] at b1; exact ⟨by rw [b1.1]; simp, b1.2⟩
    · exact stop (k + 1) a c p h0 h1 fun hc => by
        have : ¬ a < (s.size : Int) := fun h => hst ⟨hc, h⟩
        omega
theorem words_all_s {s : ByteArray} {a c : Int} {st : Option ByteArray} {q : List Int} {k : Nat} (hk : (s.size : Int) - a ≤ k) (h0 : 0 ≤ a) (h : WPost ((rst s a c).bind (rdWords k)) st [] q) : Run rdAll (rst s a c) q st := by
  cases hr : rst s a c with
  | none => rw [hr] at h; exact h
  | some l =>
    have hl := (rst_some.1 hr).2
    have hsz : l.size = s.size - a.toNat := by rw [← hl, extract_size (Nat.le_refl _)]
    rw [hr, show (some l).bind (rdWords k) = rdWords k l from rfl, rdWords_fuel k l.size l (by omega) (Nat.le_refl _)] at h
    unfold Run
    rw [show (some l).bind rdAll = (rdWords l.size l).map fun l => (l, ⟨#[]⟩) from rfl]
    cases hk : rdWords l.size l with
    | none => rw [hk] at h; exact h
    | some ws => rw [hk] at h; exact ⟨by rw [h.1]; simp, h.2⟩
/-- What the reference reads behind a header's first byte, and what it says of its state. -/
theorem read_spec {s : ByteArray} (hs : s.size ≤ 900000) {short : Int} (hsh : 0 ≤ short) (hsh2 : short ≤ 20) : EvP (fun N => spec_l2Read N short s 0 0)
    (fun r => RunS (rdByte.bind fun b => (guardP (¬ b / 64 % 2 = 0)).bind fun _ => HeaderS b short) s 0 0 r.1.1 r.2) := by
  refine EvP.of (fun N => spec_l2Read.eq N _ _ _ _) (EvP.andK (byte_spec (by omega) (Int.le_refl _) (by omega) 0) ?_)
  rintro u ⟨⟨⟨a1, a2, a3, a4⟩, r1, r2⟩, z⟩
  refine EvP.to (big_ok _ z) ?_
  dsimp only
  rw [a2]
  generalize hb : vof u.1.1 = b at a1 r1 r2 ⊢
  obtain ⟨b1, b2, b3, b4, b5, b6⟩ := head_bits r1 r2
  rw [b4]
  have fin : ∀ {w : Hd} {q : (ByteArray × (Int × (Int × Unit))) × Unit}, RunS ((guardP (¬ b / 64 % 2 = 0)).bind fun _ => HeaderS b short) s u.2.1.2.1 u.2.1.2.2.1 w q → RunS (rdByte.bind fun b => (guardP (¬ b / 64 % 2 = 0)).bind fun _ => HeaderS b short) s 0 0 w q := fun h => ⟨Run.seq a1 h.1, h.2⟩
  refine EvP.nite (fun hc => ?_) (fun hc => ?_)
  · refine EvP.some (fin ⟨?_, rfl, a3, a4⟩)
    have e : rst s u.2.1.2.1 u.2.1.2.2.1 = none := if_neg hc
    dsimp only
    rw [e]
    exact rfl
  have e : rst s u.2.1.2.1 u.2.1.2.2.1 = some (s.extract u.2.1.2.1.toNat s.size) := if_pos hc
  refine EvP.ite (fun h64 => ?_) (fun h64 => ?_)
  · refine EvP.some (fin ⟨?_, rfl, a3, a4⟩)
    dsimp only
    rw [e, show rst s u.2.1.2.1 2 = none from if_neg (by decide)]
    unfold Run
    rw [show (some (s.extract u.2.1.2.1.toNat s.size)).bind ((guardP (¬ b / 64 % 2 = 0)).bind fun _ => HeaderS b short) = none by
      show ((guardP (¬ b / 64 % 2 = 0)) _).bind _ = none
      unfold guardP
      rw [if_neg (fun h => h (b2.1 h64))]; rfl]
  have fin2 : ∀ {w : Hd} {q : (ByteArray × (Int × (Int × Unit))) × Unit}, RunS (HeaderS b short) s u.2.1.2.1 u.2.1.2.2.1 w q → RunS (rdByte.bind fun b => (guardP (¬ b / 64 % 2 = 0)).bind fun _ => HeaderS b short) s 0 0 w q := fun h => fin ⟨Run.seq (v := ()) (Run.guard (by rw [if_pos (fun h' => h64 (b2.2 h'))])) h.1, h.2⟩
  unfold HeaderS at fin2
  rw [b5]
  refine EvP.ite (fun h128 => ?_) (fun h128 => ?_)
  · rw [if_pos h128] at fin2
    refine EvP.andK (Q := fun j => j.2.1 = (s, (u.2.1.2.1, ((if b / 16 % 4 = 0 then u.2.1.2.2.1 else 3), ()))) ∧ j.2.2.2.1 = (5, (b % 16, (0, (nilS, (nilS, (nilS, (nilS, ((), ()))))))))) ?_ ?_
    · refine EvP.nite (fun h48 => EvP.some ⟨?_, rfl⟩) (fun h48 => EvP.some ⟨?_, rfl⟩)
      · rw [if_neg (fun h => h48 (b3.2 h))]
      · rw [if_pos (b3.1 h48)]
    · rintro j ⟨c1, c2⟩
      rw [c1, c2]
      dsimp only
      refine EvP.andK (take_spec hsh (by omega) (by omega) a3 a4 _) ?_
      rintro d ⟨⟨d1, d2, d3, d4⟩, -⟩
      rw [d2, i64w (n := (s.size : Int) - d.2.1.2.1) (by omega) (by omega)]
      refine EvP.andK (rest_specR (by omega) d3 d4 _) ?_
      rintro p ⟨e1, e2, e3, e4⟩
      refine EvP.some (fin2 ⟨Run.seq (v := ()) (Run.guard ?_) (Run.seq d1 (Run.seq e1 (Run.ret _ _))), e2, e3, e4⟩)
      by_cases h : b / 16 % 4 = 0
      · rw [if_pos h, if_pos h]
      · rw [if_neg h, if_neg h]; exact if_neg (by decide)
  · rw [if_neg h128] at fin2
    refine EvP.andK (word_specR (by omega) a3 a4 _) ?_
    rintro w ⟨⟨⟨c1, c2, c3, c4⟩, s1, s2⟩, z2⟩
    refine EvP.to (big_ok _ z2) ?_
    dsimp only
    rw [c2]
    refine EvP.andK (id_spec (by omega) c3 c4 _) ?_
    rintro d ⟨d1, d2, d3, d4⟩
    rw [d2]
    refine EvP.andK (id_spec (by omega) d3 d4 _) ?_
    rintro c ⟨e1, e2, e3, e4⟩
    have fin3 : ∀ {x : Hd} {q : (ByteArray × (Int × (Int × Unit))) × Unit}, RunS (if vof w.1.1 = 0 then (guardP (b / 16 % 4 = 0)).bind fun _ => rdAll.bind fun l => PR.ret (mkH 4 (b % 16) (vof w.1.1) d.1.1 c.1.1 nilS nilS l)
        else (if b / 16 % 4 = 0 then rdCounted else PR.ret nilS).bind fun t => (if b / 16 % 4 = 3 then rdRest else rdCounted).bind fun p => PR.ret (mkH (b / 16 % 4) (b % 16) (vof w.1.1) d.1.1 c.1.1 t p [])) s c.2.1.2.1 c.2.1.2.2.1 x q → RunS (rdByte.bind fun b => (guardP (¬ b / 64 % 2 = 0)).bind fun _ => HeaderS b short) s 0 0 x q :=
      fun h => fin2 ⟨Run.seq c1 (Run.seq d1 (Run.seq e1 h.1)), h.2⟩
    rw [e2]
    refine EvP.ite (fun hv => ?_) (fun hv => ?_)
    · rw [if_pos hv] at fin3
      refine EvP.andK (Q := fun j => j.2.1 = (s, (c.2.1.2.1, ((if c.2.1.2.2.1 = 0 ∧ ¬ b / 16 % 4 = 0 then 3 else c.2.1.2.2.1), ()))) ∧ j.2.2.2.1 = (b / 16 % 4, (b % 16, (vof w.1.1, (d.1.1, (c.1.1, (nilS, (nilS, ((), ()))))))))) ?_ ?_
      · refine EvP.andK (Q := fun j => j.1.2.2.2.1 = decide (c.2.1.2.2.1 = 0 ∧ ¬ b / 16 % 4 = 0) ∧ j.2.1 = (s, (c.2.1.2.1, (c.2.1.2.2.1, ()))) ∧ j.2.2.2.1 = (b / 16 % 4, (b % 16, (vof w.1.1, (d.1.1, (c.1.1, (nilS, (nilS, ((), ()))))))))) ?_ ?_
        · refine EvP.ite (fun h => EvP.some ⟨?_, rfl, rfl⟩) (fun h => EvP.some ⟨?_, rfl, rfl⟩)
          · dsimp only
            by_cases h6 : b / 16 % 4 = 0
            · rw [decide_eq_true h6, decide_eq_false (fun hq => hq.2 h6)]; rfl
            · rw [decide_eq_false h6, decide_eq_true (show c.2.1.2.2.1 = 0 ∧ ¬ b / 16 % 4 = 0 from ⟨h, h6⟩)]; rfl
          · dsimp only
            rw [decide_eq_false (fun hq => h hq.1)]
        · rintro j ⟨f1, f2, f3⟩
          rw [f1, f2, f3]
          refine EvP.ite (fun h => EvP.some ⟨?_, rfl⟩) (fun h => EvP.some ⟨?_, rfl⟩)
          · rw [if_pos h]
          · rw [if_neg h]
      · rintro j ⟨f2, f3⟩
        rw [f2, f3]
        refine EvP.andK (words_specR hs _ _ _ _ _ _ _ 4 (b % 16) (vof w.1.1) d.1.1 c.1.1 _ _ ((s.size : Int) - c.2.1.2.1).toNat c.2.1.2.1 _ [] e3 e4 (fun _ => by omega) (by simp; omega)) ?_
        rintro l ⟨⟨g1, g2, g3, g4⟩, g5⟩
        rw [g5]
        refine EvP.some (fin3 ⟨Run.seq (v := ()) (Run.guard ?_) (Run.seq (words_all_s (by omega) e3 g1) (Run.ret _ _)), g2, g3, g4⟩)
        by_cases h : c.2.1.2.2.1 = 0
        · by_cases h6 : b / 16 % 4 = 0
          · rw [if_neg (fun hq => hq.2 h6), if_pos h6]
          · rw [if_pos (show c.2.1.2.2.1 = 0 ∧ ¬ b / 16 % 4 = 0 from ⟨h, h6⟩), if_neg h6]
            exact if_neg (by show ¬ ((3 : Int) = 0); decide)
        · rw [if_neg (fun hq => h hq.1), show rst s c.2.1.2.1 c.2.1.2.2.1 = none from if_neg h]
          split <;> rfl
    · rw [if_neg hv] at fin3
      refine EvP.andK (Q := fun j => RunS (if b / 16 % 4 = 0 then rdCounted else PR.ret nilS) s c.2.1.2.1 c.2.1.2.2.1 j.2.2.2.1.2.2.2.2.2.1 (j.2.1, ()) ∧ j.2.2.2.1 = (b / 16 % 4, (b % 16, (vof w.1.1, (d.1.1, (c.1.1, (j.2.2.2.1.2.2.2.2.2.1, (nilS, ((), ()))))))))) ?_ ?_
      · refine EvP.ite (fun h4 => ?_) (fun h4 => ?_)
        · refine EvP.andK (text_spec (by omega) e3 e4 _) ?_
          intro t f1
          refine EvP.some ⟨?_, rfl⟩
          rw [if_pos h4]
          exact f1
        · refine EvP.some ⟨?_, rfl⟩
          rw [if_neg h4]
          exact ⟨Run.ret _ _, rfl, e3, e4⟩
      · rintro j ⟨⟨f1, f2, f3, f4⟩, f5⟩
        dsimp only at f1 f2 f3 f4
        have x1 : j.2.2.2.1.1 = b / 16 % 4 := by rw [f5]
        rw [x1, f2]
        refine EvP.ite (fun h3 => ?_) (fun h3 => ?_)
        · rw [i64w (n := (s.size : Int) - j.2.1.2.1) (by omega) (by omega)]
          refine EvP.andK (rest_specR (by omega) f3 f4 _) ?_
          rintro p ⟨g1, g2, g3, g4⟩
          refine EvP.some (fin3 ⟨Run.seq f1 (Run.seq (st1 := rst s p.2.1.2.1 p.2.1.2.2.1) (v := p.1.1) ?_ ?_), g2, g3, g4⟩)
          · rw [if_pos h3]; exact g1
          · dsimp only
            rw [f5]
            exact Run.ret _ _
        · refine EvP.andK (text_spec (by omega) f3 f4 _) ?_
          rintro p ⟨g1, g2, g3, g4⟩
          refine EvP.some (fin3 ⟨Run.seq f1 (Run.seq (st1 := rst s p.2.1.2.1 p.2.1.2.2.1) (v := p.1.1) ?_ ?_), g2, g3, g4⟩)
          · rw [if_neg h3]; exact g1
          · dsimp only
            rw [f5]
            exact Run.ret _ _
theorem Header_spec (s : ByteArray) (hs : s.size ≤ 900000) (short : Int) (h0 : 0 ≤ short) (h20 : short ≤ 20) : EvP (fun N => spec_l2Header N s short) (RPost (readH s short)) := by
  refine EvP.of (fun N => spec_l2Header.eq N _ _) (EvP.andK (read_spec hs h0 h20) ?_)
  rintro u ⟨a1, a2, a3, a4⟩
  -- what is read, and whether it is good
  have e0 : rst s 0 0 = some s := by
    show some (s.extract 0 s.size) = some s
    rw [extract_all]
  rw [e0] at a1
  have hR : readH s short = if u.2.1.2.2.1 = 0 ∧ GoodH u.1.1.1 u.1.1.2.1 u.1.1.2.2.1 u.1.1.2.2.2.1 u.1.1.2.2.2.2.1 u.1.1.2.2.2.2.2.1 u.1.1.2.2.2.2.2.2.1 u.1.1.2.2.2.2.2.2.2.1 then some (u.1.1, u.2.1.2.1) else none := by
    unfold readH
    unfold Run at a1
    rw [show (some s).bind (rdByte.bind fun b => (guardP (¬ b / 64 % 2 = 0)).bind fun _ => HeaderS b short) = (rdByte s).bind fun x => ((guardP (¬ x.1 / 64 % 2 = 0)).bind fun _ => HeaderS x.1 short) x.2 from rfl] at a1
    cases hb : rdByte s with
    | none =>
      rw [hb] at a1
      have a1 : rst s u.2.1.2.1 u.2.1.2.2.1 = none := a1
      rw [if_neg (fun h => (rst_none.1 a1) h.1)]
      rfl
    | some x =>
      obtain ⟨b, l1⟩ := x
      rw [hb] at a1
      rw [show ((some (b, l1)).bind fun x => ((guardP (¬ x.1 / 64 % 2 = 0)).bind fun _ => HeaderS x.1 short) x.2) = ((guardP (¬ b / 64 % 2 = 0)) l1).bind fun y => HeaderS b short y.2 from rfl] at a1
      show (if b / 64 % 2 = 0 then none else (HeaderP b short l1).bind fun y => if headOk b y.1 then some (y.1, (s.size : Int) - (y.2.size : Int)) else none) = _
      by_cases h64 : b / 64 % 2 = 0
      · rw [show (guardP (¬ b / 64 % 2 = 0)) l1 = none by unfold guardP; rw [if_neg (fun h => h h64)]] at a1
        have a1 : rst s u.2.1.2.1 u.2.1.2.2.1 = none := a1
        rw [if_pos h64, if_neg (fun h => (rst_none.1 a1) h.1)]
      · rw [show (guardP (¬ b / 64 % 2 = 0)) l1 = some ((), l1) by unfold guardP; rw [if_pos h64]] at a1
        rw [if_neg h64]
        rw [show ((some ((), l1)).bind fun y => HeaderS b short y.2) = HeaderS b short l1 from rfl] at a1
        have hno : ∀ {y : Hd} {m : ByteArray}, HeaderP b short l1 = some (y, m) → headOk b y → HeaderS b short l1 = some (y, m) ∧ GoodH y.1 y.2.1 y.2.2.1 y.2.2.2.1 y.2.2.2.2.1 y.2.2.2.2.2.1 y.2.2.2.2.2.2.1 y.2.2.2.2.2.2.2.1 := fun h k => headS_iff.2 ⟨h, k⟩
        cases hS : HeaderS b short l1 with
        | none =>
          rw [hS] at a1
          have a1 : rst s u.2.1.2.1 u.2.1.2.2.1 = none := a1
          rw [if_neg (fun h => (rst_none.1 a1) h.1)]
          cases hP : HeaderP b short l1 with
          | none => rfl
          | some y =>
            obtain ⟨y, m⟩ := y
            show (if headOk b y then _ else none) = none
            rw [if_neg (fun hk => ?_)]
            have := (hno hP hk).1
            rw [hS] at this
            cases this
        | some y =>
          obtain ⟨y, m⟩ := y
          rw [hS] at a1
          obtain ⟨k1, k2⟩ : u.1.1 = y ∧ rst s u.2.1.2.1 u.2.1.2.2.1 = some m := a1
          obtain ⟨k3, k4⟩ := rst_some.1 k2
          by_cases hg : GoodH y.1 y.2.1 y.2.2.1 y.2.2.2.1 y.2.2.2.2.1 y.2.2.2.2.2.1 y.2.2.2.2.2.2.1 y.2.2.2.2.2.2.2.1
          · obtain ⟨hP, hk⟩ := headS_iff.1 ⟨hS, hg⟩
            rw [hP, k1, if_pos ⟨k3, hg⟩]
            show (if headOk b y then _ else none) = _
            rw [if_pos hk]
            have : m.size = s.size - u.2.1.2.1.toNat := by rw [← k4, extract_size (Nat.le_refl _)]
            dsimp only
            congr 2
            omega
          · rw [k1, if_neg (fun h => hg h.2)]
            cases hP : HeaderP b short l1 with
            | none => rfl
            | some z =>
              obtain ⟨z, n⟩ := z
              show (if headOk b z then _ else none) = none
              rw [if_neg (fun hk => ?_)]
              obtain ⟨h1, h2⟩ := hno hP hk
              rw [hS] at h1
              cases h1
              exact hg h2
  have hvl : u.2.1.2.2.1 = 0 → u.1.1.2.2.2.2.2.2.2.1.length ≤ 1000000 := fun hc => by
    unfold Run at a1
    cases hq : (some s).bind (rdByte.bind fun b => (guardP (¬ b / 64 % 2 = 0)).bind fun _ => HeaderS b short) with
    | none =>
      rw [hq] at a1
      exact absurd hc (rst_none.1 a1)
    | some y =>
      obtain ⟨y, m⟩ := y
      rw [hq] at a1
      have hq : (rdByte.bind fun b => (guardP (¬ b / 64 % 2 = 0)).bind fun _ => HeaderS b short) s = some (y, m) := hq
      obtain ⟨b, l1, h1, h2⟩ := PR.bind_some hq
      obtain ⟨_, l2, h3, h4⟩ := PR.bind_some h2
      obtain ⟨_, rfl⟩ := guard_iff.1 h3
      have hb := Less.byte _ _ _ h1
      rw [a1.1]
      dsimp only
      by_cases h128 : b < 128
      · unfold HeaderS at h4
        rw [if_pos h128] at h4
        simp only [bind_iff, guard_iff, ret_iff] at h4
        obtain ⟨_, _, _, d, m1, h5, p, m2, h6, rfl, rfl⟩ := h4
        exact Nat.zero_le _
      · unfold HeaderS idP at h4
        rw [if_neg h128] at h4
        simp only [bind_iff, guard_iff] at h4
        obtain ⟨v, m1, h5, d, m2, ⟨n, m3, h6, _, _, ⟨h7, rfl⟩, h8⟩, c, m4, ⟨k, m5, h9, _, _, ⟨h10, rfl⟩, h11⟩, h12⟩ := h4
        have x1 := Less.word _ _ _ h5
        have x2 := Less.byte _ _ _ h6
        have x3 := Less.tk _ _ _ _ h8
        have x4 := Less.byte _ _ _ h9
        have x5 := Less.tk _ _ _ _ h11
        by_cases hv : v = 0
        · rw [if_pos hv] at h12
          simp only [bind_iff, guard_iff, ret_iff] at h12
          obtain ⟨_, _, ⟨_, rfl⟩, w, m6, h13, rfl, rfl⟩ := h12
          unfold rdAll at h13
          obtain ⟨z, h14, h15⟩ := Option.map_eq_some_iff.1 h13
          cases h15
          have := rdWords_len h14
          dsimp only [mkH]
          omega
        · rw [if_neg hv] at h12
          simp only [bind_iff, ret_iff] at h12
          obtain ⟨t, m6, h13, p, m7, h14, rfl, rfl⟩ := h12
          exact Nat.zero_le _
  rw [hR]
  refine EvP.andK (Q := fun j => j.2.2.1.2.1 = u.2.1.2.1 ∧ (j.2.2.1.2.2.1 = 0 ↔ (u.2.1.2.2.1 = 0 ∧ GoodH u.1.1.1 u.1.1.2.1 u.1.1.2.2.1 u.1.1.2.2.2.1 u.1.1.2.2.2.2.1 u.1.1.2.2.2.2.2.1 u.1.1.2.2.2.2.2.2.1 u.1.1.2.2.2.2.2.2.2.1)) ∧ j.2.2.2.1 = u.1.1) ?_ ?_
  · refine EvP.andK (Q := fun j => j.1.2.2.2.1 = decide (u.2.1.2.2.1 = 0 ∧ ¬ GoodH u.1.1.1 u.1.1.2.1 u.1.1.2.2.1 u.1.1.2.2.2.1 u.1.1.2.2.2.2.1 u.1.1.2.2.2.2.2.1 u.1.1.2.2.2.2.2.2.1 u.1.1.2.2.2.2.2.2.2.1) ∧ j.2.2.1 = u.2.1 ∧ j.2.2.2.1 = u.1.1) ?_ ?_
    · refine EvP.ite (fun hc => EvP.to (good_spec _ _ _ _ _ _ _ _ (hvl hc)) (EvP.some ⟨?_, rfl, rfl⟩)) (fun hc => EvP.some ⟨?_, rfl, rfl⟩)
      · dsimp only
        by_cases hg : GoodH u.1.1.1 u.1.1.2.1 u.1.1.2.2.1 u.1.1.2.2.2.1 u.1.1.2.2.2.2.1 u.1.1.2.2.2.2.2.1 u.1.1.2.2.2.2.2.2.1 u.1.1.2.2.2.2.2.2.2.1
        · rw [decide_eq_true hg, decide_eq_false (fun h => h.2 hg)]; rfl
        · rw [decide_eq_false hg, decide_eq_true (show u.2.1.2.2.1 = 0 ∧ ¬ _ from ⟨hc, hg⟩)]; rfl
      · dsimp only
        rw [decide_eq_false (fun h => hc h.1)]
    · rintro j ⟨f1, f2, f3⟩
      rw [f1, f2, f3]
      refine EvP.ite (fun h => EvP.some ⟨rfl, ?_, rfl⟩) (fun h => EvP.some ⟨rfl, ?_, rfl⟩)
      · exact ⟨fun hx => absurd hx (by show ¬ ((3 : Int) = 0); decide), fun hx => absurd hx.2 h.2⟩
      · exact ⟨fun hx => ⟨hx, Classical.byContradiction fun hn => h ⟨hx, hn⟩⟩, fun hx => hx.1⟩
  · rintro j ⟨f1, f2, f3⟩
    refine EvP.nite (fun h => ?_) (fun h => ?_)
    · rw [if_neg (fun hx => h (f2.2 hx))]
      exact EvP.some ⟨h, rfl, rfl⟩
    · rw [if_pos (f2.1 h), f1, f3]
      exact EvP.some rfl
end Go.Proofs.Yteichkkbhpdjcaa.CFnCut
