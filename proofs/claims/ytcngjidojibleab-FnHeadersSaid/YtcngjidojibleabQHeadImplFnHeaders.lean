/- The program's headers: which are good, and how one is read. -/
import Derived.Test.YtcngjidojibleabQHead
import Derived.Test.YtcngjidojibleabQCurImplFnHeaders
import Derived.Test.YtcngjidojibleabQInFnHeaders
set_option linter.unusedVariables false
set_option linter.unusedSimpArgs false
namespace Go.Proofs.Ytcngjidojibleab.CFnHeaders
open Go Go.Proofs Go.Proofs.YtcngjidojibleabPM Go.Proofs.Ytcngjidojibleab.Q Go.Proofs.Ytcngjidojibleab.GFnHeaders

theorem words_dead (p0 p1 p2 : Int) (p3 p4 p5 p6 : ByteArray) (q0 q1 q2 : Int) (q3 q4 q5 q6 : ByteArray) (l : ByteArray) (p : List Int) :
    EvP (fun N => impl_cursor_header.l0 N l true p0 p1 p2 p3 p4 p5 p6 q0 q1 q2 q3 q4 q5 q6 p)
      (fun r => cst r.2.1.1 r.2.1.2.1 = none ∧ r.2.2.2.1 = (q0, (q1, (q2, (q3, (q4, (q5, (q6, ((), ()))))))))) := by
  refine EvP.step (fun N => impl_cursor_header.l0.eq N _ _ _ _ _ _ _ _ _ _ _ _ _ _ _ _ _) ?_
  refine EvP.to (a := (((), ((), ((), (false, ())))), ((l, (true, ())), ((p0, (p1, (p2, (p3, (p4, (p5, (p6, ((), ())))))))), ((q0, (q1, (q2, (q3, (q4, (q5, (q6, ((), ())))))))), (p, ())))))) (EvP.nite (fun _ => EvP.some rfl) (fun _ => EvP.some rfl)) (EvP.no rfl (EvP.some ⟨rfl, rfl⟩))
theorem words_impl (p0 p1 p2 : Int) (p3 p4 p5 p6 : ByteArray) (q0 q1 q2 : Int) (q3 q4 q5 q6 : ByteArray) : ∀ (k : Nat) (l : ByteArray) (sh : Bool) (p : List Int), l.size ≤ k → p.length + k ≤ 1000000 →
    EvP (fun N => impl_cursor_header.l0 N l sh p0 p1 p2 p3 p4 p5 p6 q0 q1 q2 q3 q4 q5 q6 p)
      (fun r => WPost ((cst l sh).bind (rdWords k)) (cst r.2.1.1 r.2.1.2.1) p r.2.2.2.2.1 ∧ r.2.2.2.1 = (q0, (q1, (q2, (q3, (q4, (q5, (q6, ((), ()))))))))) := by
  intro k
  induction k with
  | zero =>
    intro l sh p hl hp
    cases sh with
    | true => exact (words_dead p0 p1 p2 p3 p4 p5 p6 q0 q1 q2 q3 q4 q5 q6 l p).mono fun r h => ⟨h.1, h.2⟩
    | false =>
      refine EvP.step (fun N => impl_cursor_header.l0.eq N _ _ _ _ _ _ _ _ _ _ _ _ _ _ _ _ _) ?_
      have e : l = ⟨#[]⟩ := size_zero (by omega)
      refine EvP.to (a := (((), ((), ((), (false, ())))), ((l, (false, ())), ((p0, (p1, (p2, (p3, (p4, (p5, (p6, ((), ())))))))), ((q0, (q1, (q2, (q3, (q4, (q5, (q6, ((), ())))))))), (p, ())))))) (EvP.nneg e (EvP.some rfl)) (EvP.no rfl (EvP.some ⟨?_, rfl⟩))
      subst e
      rw [show (cst ⟨#[]⟩ false).bind (rdWords 0) = some [] by show rdWords 0 ⟨#[]⟩ = _; unfold rdWords; rw [if_pos size_nil]]
      exact ⟨by simp, rfl⟩
  | succ k ih =>
    intro l sh p hl hp
    cases sh with
    | true => exact (words_dead p0 p1 p2 p3 p4 p5 p6 q0 q1 q2 q3 q4 q5 q6 l p).mono fun r h => ⟨h.1, h.2⟩
    | false =>
      refine EvP.step (fun N => impl_cursor_header.l0.eq N _ _ _ _ _ _ _ _ _ _ _ _ _ _ _ _ _) ?_
      by_cases e : l = ⟨#[]⟩
      · refine EvP.to (a := (((), ((), ((), (false, ())))), ((l, (false, ())), ((p0, (p1, (p2, (p3, (p4, (p5, (p6, ((), ())))))))), ((q0, (q1, (q2, (q3, (q4, (q5, (q6, ((), ())))))))), (p, ())))))) (EvP.nneg e (EvP.some rfl)) (EvP.no rfl (EvP.some ⟨?_, rfl⟩))
        subst e
        rw [show (cst ⟨#[]⟩ false).bind (rdWords (k + 1)) = some [] by show rdWords (k + 1) ⟨#[]⟩ = _; unfold rdWords; rw [if_pos size_nil]]
        exact ⟨by simp, rfl⟩
      · have hs : l.size ≠ 0 := fun h => e (size_zero h)
        refine EvP.to (a := (((), ((), ((), (true, ())))), ((l, (false, ())), ((p0, (p1, (p2, (p3, (p4, (p5, (p6, ((), ())))))))), ((q0, (q1, (q2, (q3, (q4, (q5, (q6, ((), ())))))))), (p, ())))))) (EvP.npos e (EvP.some rfl)) ?_
        refine EvP.yes rfl (EvP.andK (word_impl l false) ?_)
        rintro u ⟨⟨h1, h2, h3⟩, h4, h5⟩
        refine EvP.to (number_ok _ h4) (EvP.chk1 (show _ < (68719476736 : Nat) by dsimp only; omega) ?_)
        dsimp only
        rw [i64w (by omega) (by omega)]
        have hcs : (cst l false).bind (rdWords (k + 1)) = (rdWord l).bind fun x => (rdWords k x.2).map (x.1 :: ·) := by
          show rdWords (k + 1) l = _
          conv => lhs; unfold rdWords
          rw [if_neg hs]
        rw [hcs]
        cases hw : rdWord l with
        | none =>
          have h6 := Run.fails (s := l) h1 hw
          rw [cst_none] at h6
          rw [h6]
          exact (words_dead p0 p1 p2 p3 p4 p5 p6 q0 q1 q2 q3 q4 q5 q6 _ _).mono fun r h => ⟨h.1, h.2⟩
        | some x =>
          obtain ⟨h6, h7⟩ := Run.gives (s := l) h1 hw
          rw [cst_some] at h7
          obtain ⟨h7, h8⟩ := h7
          rw [h7, h6, h8]
          have hsz : x.2.size ≤ k := by
            have e9 := hw
            unfold rdWord at e9
            obtain ⟨y, h9, rfl⟩ := Option.map_eq_some_iff.1 e9
            have := tk_size (x := y.1) (l := y.2) h9
            dsimp only
            omega
          refine (ih x.2 false (p ++ [x.1]) hsz (by simp; omega)).mono ?_
          rintro r ⟨a, b⟩
          refine ⟨?_, b⟩
          rw [show (cst x.2 false).bind (rdWords k) = rdWords k x.2 from rfl] at a
          rw [show ((some x).bind fun x => (rdWords k x.2).map (x.1 :: ·)) = (rdWords k x.2).map (x.1 :: ·) from rfl]
          cases hk : rdWords k x.2 with
          | none => rw [hk] at a; exact a
          | some ws => rw [hk] at a; exact ⟨by rw [a.1]; simp, a.2⟩
theorem header_impl {first short : Int} (h0 : 0 ≤ first) (h1 : first ≤ 255) (hs : 0 ≤ short) (l : ByteArray) (hl : l.size ≤ 900000) (sh : Bool) :
    EvP (fun N => impl_cursor_header N first short l sh) (fun r => Run (HeaderP first short) (cst l sh) r.1.1 (cst r.2.1.1 r.2.1.2.1)) := by
  obtain ⟨b1, b2, b3, b4, b5, b6⟩ := head_bits h0 h1
  refine EvP.of (fun N => impl_cursor_header.eq N _ _ _ _) ?_
  rw [b4, b6]
  unfold HeaderP
  refine EvP.ite (fun h => ?_) (fun h => ?_)
  · rw [if_pos (b1.1 h)]
    refine EvP.andK (take_impl hs l sh) ?_
    rintro u ⟨a1, -, -⟩
    refine EvP.andK (rest_impl _ _) ?_
    intro v a2
    exact EvP.some (Run.seq a1 (Run.seq a2 (Run.ret _ _)))
  · rw [if_neg (fun h' => h (b1.2 h'))]
    refine EvP.andK (word_impl l sh) ?_
    rintro u ⟨⟨a1, r1, r2⟩, z1, y1⟩
    refine EvP.to (number_ok _ z1) (EvP.andK (byte_impl _ _) ?_)
    rintro v ⟨a2, r3, r4, y2⟩
    refine EvP.andK (take_impl r3 _ _) ?_
    rintro d ⟨a3, -, y3⟩
    refine EvP.andK (byte_impl _ _) ?_
    rintro m ⟨a4, r5, r6, y4⟩
    refine EvP.andK (take_impl r5 _ _) ?_
    rintro c ⟨a5, -, y5⟩
    dsimp only
    rw [i64w (n := vof u.1.1) (by omega) (by omega)]
    have key : ∀ {w : Hd} {st : Option ByteArray}, Run (if vof u.1.1 = 0 then rdAll.bind fun l => PR.ret (mkH 4 (first % 16) (vof u.1.1) d.1.1 c.1.1 nilS nilS l) else (if first / 16 % 4 = 0 then rdCounted else PR.ret nilS).bind fun t => (if first / 16 % 4 = 3 then rdRest else rdCounted).bind fun p =>
        PR.ret (mkH (first / 16 % 4) (first % 16) (vof u.1.1) d.1.1 c.1.1 t p [])) (cst c.2.1.1 c.2.1.2.1) w st → Run (rdWord.bind fun v => rdByte.bind fun n => (tk n.toNat).bind fun d => rdByte.bind fun m => (tk m.toNat).bind fun c =>
      if v = 0 then rdAll.bind fun l => PR.ret (mkH 4 (first % 16) v d c nilS nilS l)
      else (if first / 16 % 4 = 0 then rdCounted else PR.ret nilS).bind fun t => (if first / 16 % 4 = 3 then rdRest else rdCounted).bind fun p =>
        PR.ret (mkH (first / 16 % 4) (first % 16) v d c t p [])) (cst l sh) w st := fun h => Run.seq a1 (Run.seq a2 (Run.seq a3 (Run.seq a4 (Run.seq a5 h))))
    refine EvP.ite (fun hv => ?_) (fun hv => ?_)
    · refine EvP.andK (words_impl 0 0 0 _ _ _ _ 4 (first % 16) (vof u.1.1) d.1.1 c.1.1 _ _ c.2.1.1.size c.2.1.1 c.2.1.2.1 [] (Nat.le_refl _) (by simp; omega)) ?_
      rintro r ⟨a6, a7⟩
      refine EvP.some (key ?_)
      rw [if_pos hv]
      dsimp only
      rw [a7]
      refine Run.seq (v := r.2.2.2.2.1) ?_ (Run.ret _ _)
      exact words_all a6
    · refine EvP.andK (Q := fun j => Run (if first / 16 % 4 = 0 then rdCounted else PR.ret nilS) (cst c.2.1.1 c.2.1.2.1) j.2.2.2.1.2.2.2.2.2.1 (cst j.2.1.1 j.2.1.2.1) ∧ j.2.2.2.1 = (first / 16 % 4, (first % 16, (vof u.1.1, (d.1.1, (c.1.1, (j.2.2.2.1.2.2.2.2.2.1, (nilS, ((), ()))))))))) ?_ ?_
      · refine EvP.ite (fun h4 => ?_) (fun h4 => ?_)
        · refine EvP.andK (counted_impl _ _) ?_
          rintro t ⟨a6, -⟩
          refine EvP.some ⟨?_, rfl⟩
          rw [if_pos h4]
          exact a6
        · refine EvP.some ⟨?_, rfl⟩
          rw [if_neg h4]
          exact Run.ret _ _
      · rintro j ⟨a6, a7⟩
        have e1 : j.2.2.2.1.1 = first / 16 % 4 := by rw [a7]
        rw [e1]
        refine EvP.ite (fun h3 => ?_) (fun h3 => ?_)
        · refine EvP.andK (rest_impl _ _) ?_
          intro p a8
          refine EvP.some (key ?_)
          rw [if_neg hv]
          refine Run.seq a6 (Run.seq (st1 := cst p.2.1.1 p.2.1.2.1) (v := p.1.1) ?_ ?_)
          · rw [if_pos h3]; exact a8
          · dsimp only
            rw [a7]
            exact Run.ret _ _
        · refine EvP.andK (counted_impl _ _) ?_
          rintro p ⟨a8, -⟩
          refine EvP.some (key ?_)
          rw [if_neg hv]
          refine Run.seq a6 (Run.seq (st1 := cst p.2.1.1 p.2.1.2.1) (v := p.1.1) ?_ ?_)
          · rw [if_neg h3]; exact a8
          · dsimp only
            rw [a7]
            exact Run.ret _ _
end Go.Proofs.Ytcngjidojibleab.CFnHeaders
