/- The bytes of a good frame: both packages write the same. -/
import Derived.Test.YtbfkfhadcmpndaaQFrameDFnFrames
import Derived.Test.YtbfkfhadcmpndaaQVarPutFnFrames
import Derived.Test.YtbfkfhadcmpndaaQBeImplFnFrames
import Derived.Test.YtbfkfhadcmpndaaQBeSpecFnFrames
set_option linter.unusedVariables false
set_option linter.unusedSimpArgs false
namespace Go.Proofs.Ytbfkfhadcmpndaa.CFnFrames
open Go Go.Proofs Go.Proofs.YtbfkfhadcmpndaaPM Go.Proofs.Ytbfkfhadcmpndaa.Q Go.Proofs.Ytbfkfhadcmpndaa.GFnFrames

def cntW (d : ByteArray) : ByteArray := vbs (d.size : Int) ++ d
theorem cntW_size (d : ByteArray) : (cntW d).size = vsz (d.size : Int) + d.size := by unfold cntW; rw [ByteArray.size_append, vbs_size]
def rngW : Int → List (Int × Int) → ByteArray
  | _, [] => nilS
  | p, x :: r => (vbs (p - x.2 - 2) ++ vbs (x.2 - x.1)) ++ rngW x.1 r
def ackW (a : Int) (r : List (Int × Int)) : ByteArray := match r with
  | [] => nilS
  | x :: l => (((vbs x.2 ++ vbs a) ++ vbs ((l.length : Nat) : Int)) ++ vbs (x.2 - x.1)) ++ rngW x.1 l
def strK (b : Int) (fin : Bool) : Int := (if b = 0 then 10 else 14) + (if fin = true then 1 else 0)
def offW (b : Int) : ByteArray := if b = 0 then nilS else vbs b
/-- The bytes of a good frame. -/
def fb (k a b c : Int) (fin : Bool) (d : ByteArray) (r : List (Int × Int)) : ByteArray :=
  if k = 2 then vbs 2 ++ ackW a r
  else if k = 4 then ((vbs 4 ++ vbs a) ++ vbs b) ++ vbs c
  else if k = 5 then (vbs 5 ++ vbs a) ++ vbs b
  else if k = 17 then (vbs 17 ++ vbs a) ++ vbs b
  else if k = 16 then vbs 16 ++ vbs a
  else if k = 6 then (vbs 6 ++ vbs a) ++ cntW d
  else if k = 7 then vbs 7 ++ cntW d
  else if k = 8 then ((vbs (strK b fin) ++ vbs a) ++ offW b) ++ cntW d
  else if k = 24 then ((((vbs 24 ++ vbs a) ++ vbs b) ++ be 1 (d.size : Int)) ++ d) ++ be 1 c
  else if k = 26 then vbs 26 ++ d
  else if k = 27 then vbs 27 ++ d
  else if k = 28 then ((vbs 28 ++ vbs a) ++ vbs b) ++ cntW d
  else if k = 48 then vbs 49 ++ cntW d
  else vbs k
theorem rngW_size : ∀ (r : List (Int × Int)) (p : Int), (rngW p r).size ≤ 16 * r.length
  | [], _ => Nat.zero_le _
  | x :: r, p => by
    unfold rngW
    have := rngW_size r x.1
    have := (vsz_pos (p - x.2 - 2)).2
    have := (vsz_pos (x.2 - x.1)).2
    rw [ByteArray.size_append, ByteArray.size_append, vbs_size, vbs_size, List.length_cons]
    omega
theorem kinds_of {k : Int} (h : hasM k shapeT = true) : k = 0 ∨ k = 1 ∨ k = 2 ∨ k = 4 ∨ k = 5 ∨ k = 6 ∨ k = 7 ∨ k = 8 ∨ k = 16 ∨ k = 17 ∨ k = 24 ∨ k = 26 ∨ k = 27 ∨ k = 28 ∨ k = 48 := by
  refine Classical.byContradiction fun hn => ?_
  simp only [not_or] at hn
  obtain ⟨n1, n2, n3, n4, n5, n6, n7, n8, n9, n10, n11, n12, n13, n14, n15⟩ := hn
  simp only [hasM, shapeT, findM] at h
  simp [*, eq_comm] at h
/-- What is known of a good frame. -/
theorem good_f {k a b c : Int} {fin : Bool} {d : ByteArray} {r : List (Int × Int)} (h : goodB k a b c fin d r = true) : hasM k shapeT = true ∧ (d.size : Int) ≤ 200 ∧ VarN a ∧ VarN b ∧ VarN c ∧ extB k a b c d r = true := by
  unfold goodB at h
  rw [Bool.and_eq_true] at h
  obtain ⟨h1, h2, h3, h4, h5⟩ := named_f h.1
  exact ⟨h1, h2, h3, h4, h5, h.2⟩
theorem counted_i {s : ByteArray} (h : s.size ≤ 1000000) : EvP (fun N => impl_counted N s) (· = ((cntW s, ()), ())) := by
  refine EvP.of (fun N => impl_counted.eq N _) (EvP.to (varint_impl (by omega) (by omega)) (EvP.chk1 ?_ (EvP.some rfl)))
  dsimp only
  rw [vbs_size]
  have := (vsz_pos (s.size : Int)).2
  omega
theorem ack_l {h : Int × Int} {tl : List (Int × Int)} {p : Fm} {q : Int × Int} (hh : 0 ≤ h.1 ∧ h.1 ≤ 4611686018427387903) (hr : p.2.2.2.2.2.2.1 = h :: tl) : ∀ (s l : List (Int × Int)) (o : ByteArray), tl = l ++ s → rngB (before (h :: l)) s = true → (0 ≤ before (h :: l) ∧ before (h :: l) ≤ 4611686018427387903) → tl.length ≤ 1000 → o.size + 16 * s.length ≤ 1000000 →
    EvP (fun N => impl_Frame_ackBytes.l0 N tl (tl.length : Int) o (l.length : Int) p.1 p.2.1 p.2.2.1 p.2.2.2.1 p.2.2.2.2.1 p.2.2.2.2.2.1 p.2.2.2.2.2.2.1 q.1 q.2) (fun z => z.1.1 = o ++ rngW (before (h :: l)) s ∧ z.2.1 = p) := by
  intro s
  induction s with
  | nil =>
    intro l o e _ _ _ _
    rw [List.append_nil] at e
    subst e
    refine EvP.step (fun N => impl_Frame_ackBytes.l0.eq N _ _ _ _ _ _ _ _ _ _ _ _ _) (EvP.neg (by omega) (EvP.some ⟨?_, rfl⟩))
    show o = o ++ nilS
    rw [app_nil]
  | cons x s ih =>
    intro l o e hb hp hl ho
    have hlen : tl.length = l.length + (s.length + 1) := by rw [e, List.length_append, List.length_cons]
    rw [List.length_cons] at ho
    unfold rngB at hb
    rw [Bool.and_eq_true, decide_eq_true_eq] at hb
    obtain ⟨⟨b1, b2, ⟨b3, b4⟩, b5⟩, hb⟩ := hb
    refine EvP.step (fun N => impl_Frame_ackBytes.l0.eq N _ _ _ _ _ _ _ _ _ _ _ _ _) (EvP.pos (by omega) (EvP.chk2 (by omega) (by omega) (EvP.chk2 (by omega) (by rw [hr, List.length_cons]; omega) ?_)))
    have hx : rdS RSh tl (Int.toNat (l.length : Int)) = x := by rw [e]; exact rd_at l x s
    have hy : (rdS RSh p.2.2.2.2.2.2.1 (Int.toNat (l.length : Int))).1 = before (h :: l) := by
      have := rd_before (l := h :: l) (by simp) x s
      rw [hr, e]
      rw [List.length_cons] at this
      rw [show (((l.length + 1 : Nat) : Int) - 1) = (l.length : Int) by omega] at this
      exact this
    have hw2 : IntKind.i64.wrap ((l.length : Int) + 1) = (((l ++ [x]).length : Nat) : Int) := by rw [i64w (by omega) (by omega), List.length_append]; rfl
    have hw3 : IntKind.i64.wrap (IntKind.i64.wrap (before (h :: l) - x.2) - 2) = before (h :: l) - x.2 - 2 := by rw [i64w (n := before (h :: l) - x.2) (by omega) (by omega), i64w (by omega) (by omega)]
    have hw4 : IntKind.i64.wrap (x.2 - x.1) = x.2 - x.1 := i64w (by omega) (by omega)
    simp only [hx, hy, hw2, hw3, hw4]
    have s1 := (vsz_pos (before (h :: l) - x.2 - 2)).2
    have s2 := (vsz_pos (x.2 - x.1)).2
    refine EvP.to (varint_impl (by omega) (by omega)) (EvP.to (varint_impl (by omega) (by omega)) (EvP.chk1 (by simp only [vbs_size]; omega) (EvP.chk1 (by simp only [ByteArray.size_append, vbs_size]; omega) ?_)))
    have hi := ih (l ++ [x]) (o ++ (vbs (before (h :: l) - x.2 - 2) ++ vbs (x.2 - x.1))) (by rw [e, List.append_assoc]; rfl) (by rw [show h :: (l ++ [x]) = (h :: l) ++ [x] from rfl, before_app]; exact hb) (by rw [show h :: (l ++ [x]) = (h :: l) ++ [x] from rfl, before_app]; omega) hl (by rw [ByteArray.size_append, ByteArray.size_append, vbs_size, vbs_size]; omega)
    refine hi.mono fun z hz => ⟨?_, hz.2⟩
    rw [hz.1, show h :: (l ++ [x]) = (h :: l) ++ [x] from rfl, before_app, ByteArray.append_assoc]
    rfl
theorem ack_ext {k a b c : Int} {fin : Bool} {d : ByteArray} {r : List (Int × Int)} (h : goodB 2 a b c fin d r = true) : ∃ x l, r = x :: l ∧ l.length ≤ 19 ∧ (0 ≤ x.1 ∧ x.1 ≤ x.2 ∧ x.2 ≤ 4611686018427387903) ∧ rngB x.1 l = true := by
  obtain ⟨_, _, _, _, _, he⟩ := good_f h
  have he : (decide (1 ≤ (r.length : Int) ∧ (r.length : Int) ≤ 20) && rngB topP r) = true := he
  rw [Bool.and_eq_true, decide_eq_true_eq] at he
  cases r with
  | nil => exact absurd he.1.1 (by simp)
  | cons x l =>
    have h2 := he.2
    unfold rngB at h2
    rw [Bool.and_eq_true, decide_eq_true_eq] at h2
    obtain ⟨⟨b1, b2, ⟨b3, b4⟩, b5⟩, hb⟩ := h2
    exact ⟨x, l, rfl, by have := he.1.2; rw [List.length_cons] at this; omega, ⟨b1, b2, b4⟩, hb⟩
theorem ack_impl {a b c : Int} {fin : Bool} {d : ByteArray} {r : List (Int × Int)} (h : goodB 2 a b c fin d r = true) : EvP (fun N => impl_Frame_ackBytes N 2 a b c fin d r) (fun z => z.1.1 = ackW a r ∧ z.2.1 = mkF 2 a b c fin d r) := by
  obtain ⟨_, hd, ⟨va, va'⟩, hvb, hvc, _⟩ := good_f h
  obtain ⟨x, l, rfl, hl, ⟨x1, x2, x3⟩, hr⟩ := ack_ext (k := 2) h
  refine EvP.of (fun N => impl_Frame_ackBytes.eq N _ _ _ _ _ _ _) (EvP.chk1 (by rw [List.length_cons]; omega) ?_)
  simp only [show rdS RSh (x :: l) 0 = x from rfl, i64w (n := x.2 - x.1) (by omega) (by omega), show IntKind.i64.wrap (((x :: l).length : Int) - 1) = ((l.length : Nat) : Int) by rw [List.length_cons, i64w (by omega) (by omega)]; omega]
  have s1 := (vsz_pos x.2).2
  have s2 := (vsz_pos a).2
  have s3 := (vsz_pos ((l.length : Nat) : Int)).2
  have s4 := (vsz_pos (x.2 - x.1)).2
  refine EvP.to (varint_impl (by omega) (by omega)) (EvP.to (varint_impl va (by omega)) (EvP.chk1 (by simp only [vbs_size]; omega) (EvP.to (varint_impl (by omega) (by omega)) (EvP.chk1 (by simp only [ByteArray.size_append, vbs_size]; omega) (EvP.to (varint_impl (by omega) (by omega)) (EvP.chk1 (by simp only [ByteArray.size_append, vbs_size]; omega) (EvP.chk2 (by rw [List.length_cons]; omega) (Int.le_refl _) ?_)))))))
  have hc : cut (x :: l) 1 (((x :: l).length : Nat) : Int) = l := by
    simp [cut]
  rw [hc]
  refine EvP.andK (ack_l (h := x) (tl := l) (p := mkF 2 a b c fin d (x :: l)) (q := x) ⟨x1, by omega⟩ rfl l [] _ rfl hr ⟨x1, by show x.1 ≤ _; omega⟩ (by omega) (by simp only [ByteArray.size_append, vbs_size]; omega)) ?_
  rintro z ⟨z1, z2⟩
  exact EvP.some ⟨z1, z2⟩
end Go.Proofs.Ytbfkfhadcmpndaa.CFnFrames
