/- The bytes of a good frame: the other package's, kind by kind. -/
import Derived.Test.YtbfkfhadcmpndaaQFramePFnFrames
set_option linter.unusedVariables false
set_option linter.unusedSimpArgs false
namespace Go.Proofs.Ytbfkfhadcmpndaa.CFnFrames
open Go Go.Proofs Go.Proofs.YtbfkfhadcmpndaaPM Go.Proofs.Ytbfkfhadcmpndaa.Q Go.Proofs.Ytbfkfhadcmpndaa.GFnFrames

theorem ack_s {p : Fm} : ∀ (s l : List (Int × Int)) (L : List (Int × Int)) (o : ByteArray), L = l ++ s → 0 < l.length → p.2.2.2.2.2.2.1 = L → rngB (before l) s = true → (0 ≤ before l ∧ before l ≤ 4611686018427387903) → L.length ≤ 1000 → o.size + 16 * s.length ≤ 1000000 →
    EvP (fun N => spec_l1Bytes.l1 N L (L.length : Int) o (l.length : Int) p.1 p.2.1 p.2.2.1 p.2.2.2.1 p.2.2.2.2.1 p.2.2.2.2.2.1 p.2.2.2.2.2.2.1) (fun z => z.1.1 = o ++ rngW (before l) s) := by
  intro s
  induction s with
  | nil =>
    intro l L o e _ _ _ _ _ _
    rw [List.append_nil] at e
    subst e
    refine EvP.step (fun N => spec_l1Bytes.l1.eq N _ _ _ _ _ _ _ _ _ _ _) (EvP.neg (by omega) (EvP.some ?_))
    show o = o ++ nilS
    rw [app_nil]
  | cons x s ih =>
    intro l L o e h0 hr hb hp hl ho
    have hlen : L.length = l.length + (s.length + 1) := by rw [e, List.length_append, List.length_cons]
    rw [List.length_cons] at ho
    unfold rngB at hb
    rw [Bool.and_eq_true, decide_eq_true_eq] at hb
    obtain ⟨⟨b1, b2, ⟨b3, b4⟩, b5⟩, hb⟩ := hb
    refine EvP.step (fun N => spec_l1Bytes.l1.eq N _ _ _ _ _ _ _ _ _ _ _) (EvP.pos (by omega) ?_)
    have hx : rdS RSh L (Int.toNat (l.length : Int)) = x := by rw [e]; exact rd_at l x s
    have hw : IntKind.i64.wrap ((l.length : Int) - 1) = (l.length : Int) - 1 := i64w (by omega) (by omega)
    have hy : (rdS RSh L (Int.toNat ((l.length : Int) - 1))).1 = before l := by rw [e]; exact rd_before h0 x s
    have hw2 : IntKind.i64.wrap ((l.length : Int) + 1) = (((l ++ [x]).length : Nat) : Int) := by rw [i64w (by omega) (by omega), List.length_append]; rfl
    have hw3 : IntKind.i64.wrap (IntKind.i64.wrap (before l - x.2) - 2) = before l - x.2 - 2 := by rw [i64w (n := before l - x.2) (by omega) (by omega), i64w (by omega) (by omega)]
    have hw4 : IntKind.i64.wrap (x.2 - x.1) = x.2 - x.1 := i64w (by omega) (by omega)
    simp only [hr, hx, hw, hy, hw2, hw3, hw4]
    have s1 := (vsz_pos (before l - x.2 - 2)).2
    have s2 := (vsz_pos (x.2 - x.1)).2
    refine EvP.to (a := (((), (o ++ (vbs (before l - x.2 - 2) ++ vbs (x.2 - x.1)), ())), (p, ()))) (EvP.chk2 (by omega) (by omega) (EvP.pos (by omega) (EvP.chk2 (by omega) (by omega) (EvP.to (var_spec (by omega) (by omega)) (EvP.to (var_spec (by omega) (by omega)) (EvP.chk1 (by simp only [vbs_size]; omega) (EvP.chk1 (by simp only [ByteArray.size_append, vbs_size]; omega) (EvP.some (by rw [← hr]))))))))) ?_
    have hi := ih (l ++ [x]) L (o ++ (vbs (before l - x.2 - 2) ++ vbs (x.2 - x.1))) (by rw [e, List.append_assoc]; rfl) (by simp) hr (by rw [before_app]; exact hb) (by rw [before_app]; omega) hl (by rw [ByteArray.size_append, ByteArray.size_append, vbs_size, vbs_size]; omega)
    refine hi.mono fun z hz => ?_
    rw [hz, before_app, ByteArray.append_assoc]
    rfl
theorem bytes_spec {k a b c : Int} {fin : Bool} {d : ByteArray} {r : List (Int × Int)} (h : goodB k a b c fin d r = true) : EvP (fun N => spec_l1Bytes N k a b c fin d r) (fun z => z.1.1 = fb k a b c fin d r) := by
  obtain ⟨hk, hd, ⟨a1, a2⟩, ⟨b1, b2⟩, ⟨c1, c2⟩, he⟩ := good_f h
  have s1 := (vsz_pos a).2
  have s2 := (vsz_pos b).2
  have s3 := (vsz_pos c).2
  have s4 := (vsz_pos (d.size : Int)).2
  have s5 := (vsz_pos k).2
  have s6 := (vsz_pos 49).2
  refine EvP.of (fun N => spec_l1Bytes.eq N _ _ _ _ _ _ _) ?_
  rcases kinds_of hk with rfl | rfl | rfl | rfl | rfl | rfl | rfl | rfl | rfl | rfl | rfl | rfl | rfl | rfl | rfl
  · repeat first | (with_reducible refine EvP.neg ?_ ?_; exact (by decide)) | (with_reducible refine EvP.pos (c := _) ?_ ?_; exact rfl) | (with_reducible refine EvP.to (var_spec ?_ ?_) ?_; (focus (try dsimp only [mkF]); omega); (focus (try dsimp only [mkF]); omega)) | (with_reducible refine EvP.chk1 ?_ ?_; (focus (try dsimp only [mkF]); simp only [ByteArray.size_append, vbs_size, be_size, cntW_size, size_nil]; omega)) | ((with_reducible refine EvP.some ?_); exact rfl)
  · repeat first | (with_reducible refine EvP.neg ?_ ?_; exact (by decide)) | (with_reducible refine EvP.pos (c := _) ?_ ?_; exact rfl) | (with_reducible refine EvP.to (var_spec ?_ ?_) ?_; (focus (try dsimp only [mkF]); omega); (focus (try dsimp only [mkF]); omega)) | (with_reducible refine EvP.chk1 ?_ ?_; (focus (try dsimp only [mkF]); simp only [ByteArray.size_append, vbs_size, be_size, cntW_size, size_nil]; omega)) | ((with_reducible refine EvP.some ?_); exact rfl)
  · obtain ⟨x, l, rfl, hl, ⟨x1, x2, x3⟩, hr⟩ := ack_ext (k := 2) h
    have q2 := (vsz_pos x.2).2
    have q3 := (vsz_pos ((l.length : Nat) : Int)).2
    have q4 := (vsz_pos (x.2 - x.1)).2
    repeat first | (with_reducible refine EvP.neg ?_ ?_; exact (by decide)) | (with_reducible refine EvP.pos (c := _) ?_ ?_; exact rfl) | (with_reducible refine EvP.to (var_spec ?_ ?_) ?_; (focus (try dsimp only [mkF]); omega); (focus (try dsimp only [mkF]); omega)) | (with_reducible refine EvP.chk1 ?_ ?_; (focus (try dsimp only [mkF]); simp only [ByteArray.size_append, vbs_size, be_size, cntW_size, size_nil]; omega)) | ((with_reducible refine EvP.some ?_); exact rfl)
    refine EvP.chk1 (by rw [List.length_cons]; omega) ?_
    simp only [show rdS RSh (x :: l) 0 = x from rfl, i64w (n := x.2 - x.1) (by omega) (by omega), show IntKind.i64.wrap (((x :: l).length : Int) - 1) = ((l.length : Nat) : Int) by rw [List.length_cons, i64w (by omega) (by omega)]; omega]
    repeat first | (with_reducible refine EvP.neg ?_ ?_; exact (by decide)) | (with_reducible refine EvP.pos (c := _) ?_ ?_; exact rfl) | (with_reducible refine EvP.to (var_spec ?_ ?_) ?_; (focus (try dsimp only [mkF]); omega); (focus (try dsimp only [mkF]); omega)) | (with_reducible refine EvP.chk1 ?_ ?_; (focus (try dsimp only [mkF]); simp only [ByteArray.size_append, vbs_size, be_size, cntW_size, size_nil]; omega)) | ((with_reducible refine EvP.some ?_); exact rfl)
    refine EvP.chk1 (by rw [List.length_cons]; omega) (EvP.chk1 (by rw [List.length_cons]; omega) ?_)
    repeat first | (with_reducible refine EvP.neg ?_ ?_; exact (by decide)) | (with_reducible refine EvP.pos (c := _) ?_ ?_; exact rfl) | (with_reducible refine EvP.to (var_spec ?_ ?_) ?_; (focus (try dsimp only [mkF]); omega); (focus (try dsimp only [mkF]); omega)) | (with_reducible refine EvP.chk1 ?_ ?_; (focus (try dsimp only [mkF]); simp only [ByteArray.size_append, vbs_size, be_size, cntW_size, size_nil]; omega)) | ((with_reducible refine EvP.some ?_); exact rfl)
    have hw : (vbs 2 ++ (((vbs x.2 ++ vbs a) ++ vbs ((l.length : Nat) : Int)) ++ vbs (x.2 - x.1))).size ≤ 100 := by simp only [ByteArray.size_append, vbs_size]; omega
    generalize e : vbs 2 ++ (((vbs x.2 ++ vbs a) ++ vbs ((l.length : Nat) : Int)) ++ vbs (x.2 - x.1)) = W at hw
    have hl0 : EvP (fun N => spec_l1Bytes.l1 N (x :: l) ((x :: l).length : Int) W 0 2 a b c fin d (x :: l)) (fun z => z.1.1 = W ++ rngW x.1 l) := by
      refine EvP.step (fun N => spec_l1Bytes.l1.eq N _ _ _ _ _ _ _ _ _ _ _) (EvP.pos (by rw [List.length_cons]; omega) ?_)
      refine EvP.to (a := (((), (W, ())), (mkF 2 a b c fin d (x :: l), ()))) (EvP.chk2 (by omega) (by rw [List.length_cons]; omega) (EvP.neg (by omega) (EvP.some rfl))) ?_
      exact ack_s (p := mkF 2 a b c fin d (x :: l)) l [x] (x :: l) W rfl (by simp) rfl hr ⟨x1, by show x.1 ≤ _; omega⟩ (by rw [List.length_cons]; omega) (by omega)
    refine EvP.andK hl0 ?_
    rintro z z1
    refine EvP.some ?_
    show z.1.1 = vbs 2 ++ ackW a (x :: l)
    rw [z1, ← e, ByteArray.append_assoc]
    rfl
  · repeat first | (with_reducible refine EvP.neg ?_ ?_; exact (by decide)) | (with_reducible refine EvP.pos (c := _) ?_ ?_; exact rfl) | (with_reducible refine EvP.to (var_spec ?_ ?_) ?_; (focus (try dsimp only [mkF]); omega); (focus (try dsimp only [mkF]); omega)) | (with_reducible refine EvP.chk1 ?_ ?_; (focus (try dsimp only [mkF]); simp only [ByteArray.size_append, vbs_size, be_size, cntW_size, size_nil]; omega)) | ((with_reducible refine EvP.some ?_); exact rfl)
  · repeat first | (with_reducible refine EvP.neg ?_ ?_; exact (by decide)) | (with_reducible refine EvP.pos (c := _) ?_ ?_; exact rfl) | (with_reducible refine EvP.to (var_spec ?_ ?_) ?_; (focus (try dsimp only [mkF]); omega); (focus (try dsimp only [mkF]); omega)) | (with_reducible refine EvP.chk1 ?_ ?_; (focus (try dsimp only [mkF]); simp only [ByteArray.size_append, vbs_size, be_size, cntW_size, size_nil]; omega)) | ((with_reducible refine EvP.some ?_); exact rfl)
  · repeat first | (with_reducible refine EvP.neg ?_ ?_; exact (by decide)) | (with_reducible refine EvP.pos (c := _) ?_ ?_; exact rfl) | (with_reducible refine EvP.to (var_spec ?_ ?_) ?_; (focus (try dsimp only [mkF]); omega); (focus (try dsimp only [mkF]); omega)) | (with_reducible refine EvP.chk1 ?_ ?_; (focus (try dsimp only [mkF]); simp only [ByteArray.size_append, vbs_size, be_size, cntW_size, size_nil]; omega)) | ((with_reducible refine EvP.some ?_); exact rfl)
  · repeat first | (with_reducible refine EvP.neg ?_ ?_; exact (by decide)) | (with_reducible refine EvP.pos (c := _) ?_ ?_; exact rfl) | (with_reducible refine EvP.to (var_spec ?_ ?_) ?_; (focus (try dsimp only [mkF]); omega); (focus (try dsimp only [mkF]); omega)) | (with_reducible refine EvP.chk1 ?_ ?_; (focus (try dsimp only [mkF]); simp only [ByteArray.size_append, vbs_size, be_size, cntW_size, size_nil]; omega)) | ((with_reducible refine EvP.some ?_); exact rfl)
  · obtain ⟨k1, k2⟩ := strK_f b fin
    have s7 := (vsz_pos (strK b fin)).2
    have s8 := offW_size b
    refine EvP.to (var_spec (by omega) (by omega)) (EvP.to (var_spec (by omega) (by omega)) ?_)
    repeat first | (with_reducible refine EvP.neg ?_ ?_; exact (by decide)) | (with_reducible refine EvP.pos (c := _) ?_ ?_; exact rfl) | (with_reducible refine EvP.to (var_spec ?_ ?_) ?_; (focus (try dsimp only [mkF]); omega); (focus (try dsimp only [mkF]); omega)) | (with_reducible refine EvP.chk1 ?_ ?_; (focus (try dsimp only [mkF]); simp only [ByteArray.size_append, vbs_size, be_size, cntW_size, size_nil]; omega)) | ((with_reducible refine EvP.some ?_); exact rfl)
    refine EvP.to (a := (((), ((if b = 0 then 10 else 14), (offW b, ()))), (mkF 8 a b c fin d r, ()))) (EvP.nite (fun h => EvP.to (var_spec b1 (by omega)) (EvP.some ?_)) (fun h => EvP.some ?_)) ?_
    · rw [if_neg h, offW, if_neg h]; rfl
    · subst h; rfl
    refine EvP.to (a := (((), (strK b fin, ())), (mkF 8 a b c fin d r, ()))) (EvP.sel (fun h => EvP.some ?_) (fun h => EvP.some ?_)) ?_
    · have h : fin = true := h
      subst h
      have o1 : Go.bits .or .i64 10 1 = 11 := by decide +kernel
      have o2 : Go.bits .or .i64 14 1 = 15 := by decide +kernel
      unfold strK
      dsimp only [mkF]
      split
      · rw [o1]; rfl
      · rw [o2]; rfl
    · have h : fin = false := h
      subst h
      unfold strK
      split <;> rfl
    repeat first | (with_reducible refine EvP.neg ?_ ?_; exact (by decide)) | (with_reducible refine EvP.pos (c := _) ?_ ?_; exact rfl) | (with_reducible refine EvP.to (var_spec ?_ ?_) ?_; (focus (try dsimp only [mkF]); omega); (focus (try dsimp only [mkF]); omega)) | (with_reducible refine EvP.chk1 ?_ ?_; (focus (try dsimp only [mkF]); simp only [ByteArray.size_append, vbs_size, be_size, cntW_size, size_nil]; omega)) | ((with_reducible refine EvP.some ?_); exact rfl)
  · repeat first | (with_reducible refine EvP.neg ?_ ?_; exact (by decide)) | (with_reducible refine EvP.pos (c := _) ?_ ?_; exact rfl) | (with_reducible refine EvP.to (var_spec ?_ ?_) ?_; (focus (try dsimp only [mkF]); omega); (focus (try dsimp only [mkF]); omega)) | (with_reducible refine EvP.chk1 ?_ ?_; (focus (try dsimp only [mkF]); simp only [ByteArray.size_append, vbs_size, be_size, cntW_size, size_nil]; omega)) | ((with_reducible refine EvP.some ?_); exact rfl)
  · repeat first | (with_reducible refine EvP.neg ?_ ?_; exact (by decide)) | (with_reducible refine EvP.pos (c := _) ?_ ?_; exact rfl) | (with_reducible refine EvP.to (var_spec ?_ ?_) ?_; (focus (try dsimp only [mkF]); omega); (focus (try dsimp only [mkF]); omega)) | (with_reducible refine EvP.chk1 ?_ ?_; (focus (try dsimp only [mkF]); simp only [ByteArray.size_append, vbs_size, be_size, cntW_size, size_nil]; omega)) | ((with_reducible refine EvP.some ?_); exact rfl)
  · have he : (decide (b ≤ a) && (decide (1 ≤ (d.size : Int) ∧ (d.size : Int) ≤ 20) && decide (c ≤ 255))) = true := he
    simp only [Bool.and_eq_true, decide_eq_true_eq] at he
    repeat first | (with_reducible refine EvP.neg ?_ ?_; exact (by decide)) | (with_reducible refine EvP.pos (c := _) ?_ ?_; exact rfl) | (with_reducible refine EvP.to (var_spec ?_ ?_) ?_; (focus (try dsimp only [mkF]); omega); (focus (try dsimp only [mkF]); omega)) | (with_reducible refine EvP.chk1 ?_ ?_; (focus (try dsimp only [mkF]); simp only [ByteArray.size_append, vbs_size, be_size, cntW_size, size_nil]; omega)) | ((with_reducible refine EvP.some ?_); exact rfl)
    refine EvP.to (fixed_ok _ 1 (by decide)) ?_
    repeat first | (with_reducible refine EvP.neg ?_ ?_; exact (by decide)) | (with_reducible refine EvP.pos (c := _) ?_ ?_; exact rfl) | (with_reducible refine EvP.to (var_spec ?_ ?_) ?_; (focus (try dsimp only [mkF]); omega); (focus (try dsimp only [mkF]); omega)) | (with_reducible refine EvP.chk1 ?_ ?_; (focus (try dsimp only [mkF]); simp only [ByteArray.size_append, vbs_size, be_size, cntW_size, size_nil]; omega)) | ((with_reducible refine EvP.some ?_); exact rfl)
    refine EvP.to (fixed_ok _ 1 (by decide)) ?_
    repeat first | (with_reducible refine EvP.neg ?_ ?_; exact (by decide)) | (with_reducible refine EvP.pos (c := _) ?_ ?_; exact rfl) | (with_reducible refine EvP.to (var_spec ?_ ?_) ?_; (focus (try dsimp only [mkF]); omega); (focus (try dsimp only [mkF]); omega)) | (with_reducible refine EvP.chk1 ?_ ?_; (focus (try dsimp only [mkF]); simp only [ByteArray.size_append, vbs_size, be_size, cntW_size, size_nil]; omega)) | ((with_reducible refine EvP.some ?_); exact rfl)
  · repeat first | (with_reducible refine EvP.neg ?_ ?_; exact (by decide)) | (with_reducible refine EvP.pos (c := _) ?_ ?_; exact rfl) | (with_reducible refine EvP.to (var_spec ?_ ?_) ?_; (focus (try dsimp only [mkF]); omega); (focus (try dsimp only [mkF]); omega)) | (with_reducible refine EvP.chk1 ?_ ?_; (focus (try dsimp only [mkF]); simp only [ByteArray.size_append, vbs_size, be_size, cntW_size, size_nil]; omega)) | ((with_reducible refine EvP.some ?_); exact rfl)
  · repeat first | (with_reducible refine EvP.neg ?_ ?_; exact (by decide)) | (with_reducible refine EvP.pos (c := _) ?_ ?_; exact rfl) | (with_reducible refine EvP.to (var_spec ?_ ?_) ?_; (focus (try dsimp only [mkF]); omega); (focus (try dsimp only [mkF]); omega)) | (with_reducible refine EvP.chk1 ?_ ?_; (focus (try dsimp only [mkF]); simp only [ByteArray.size_append, vbs_size, be_size, cntW_size, size_nil]; omega)) | ((with_reducible refine EvP.some ?_); exact rfl)
  · repeat first | (with_reducible refine EvP.neg ?_ ?_; exact (by decide)) | (with_reducible refine EvP.pos (c := _) ?_ ?_; exact rfl) | (with_reducible refine EvP.to (var_spec ?_ ?_) ?_; (focus (try dsimp only [mkF]); omega); (focus (try dsimp only [mkF]); omega)) | (with_reducible refine EvP.chk1 ?_ ?_; (focus (try dsimp only [mkF]); simp only [ByteArray.size_append, vbs_size, be_size, cntW_size, size_nil]; omega)) | ((with_reducible refine EvP.some ?_); exact rfl)
  · repeat first | (with_reducible refine EvP.neg ?_ ?_; exact (by decide)) | (with_reducible refine EvP.pos (c := _) ?_ ?_; exact rfl) | (with_reducible refine EvP.to (var_spec ?_ ?_) ?_; (focus (try dsimp only [mkF]); omega); (focus (try dsimp only [mkF]); omega)) | (with_reducible refine EvP.chk1 ?_ ?_; (focus (try dsimp only [mkF]); simp only [ByteArray.size_append, vbs_size, be_size, cntW_size, size_nil]; omega)) | ((with_reducible refine EvP.some ?_); exact rfl)
end Go.Proofs.Ytbfkfhadcmpndaa.CFnFrames
