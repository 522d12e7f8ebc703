/- A good frame is read back from its bytes. -/
import Derived.Test.YtbfkfhadcmpndaaQFrameXFnFrames
import Derived.Test.YtbfkfhadcmpndaaQFramePFnFrames
set_option linter.unusedVariables false
set_option linter.unusedSimpArgs false
namespace Go.Proofs.Ytbfkfhadcmpndaa.CFnFrames
open Go Go.Proofs Go.Proofs.YtbfkfhadcmpndaaPM Go.Proofs.Ytbfkfhadcmpndaa.Q Go.Proofs.Ytbfkfhadcmpndaa.GFnFrames

theorem named_z {k a b c : Int} {fin : Bool} {d : ByteArray} {r : List (Int × Int)} (h : namedB k a b c fin d r = true) : (k ≠ 8 → fin = false) ∧ (k ≠ 2 → r = []) ∧ ((shp k).2 = false → d = nilS) ∧ ((shp k).1 ≤ 0 → a = 0) ∧ ((shp k).1 ≤ 1 → b = 0) ∧ ((shp k).1 ≤ 2 → c = 0) := by
  simp only [namedB, preB, numB, Bool.and_eq_true, Bool.or_eq_true, decide_eq_true_eq, Bool.not_eq_true'] at h
  obtain ⟨⟨_, _, h1, h2, h3⟩, ⟨_, h4⟩, ⟨_, h5⟩, ⟨_, h6⟩⟩ := h
  refine ⟨fun e => h2.resolve_right e, fun e => List.eq_nil_of_length_eq_zero ?_, fun e => h1.resolve_left (by rw [e]; decide), fun e => h4.resolve_left (by omega), fun e => h5.resolve_left (by omega), fun e => h6.resolve_left (by omega)⟩
  have := h3.resolve_right e
  omega
theorem ranges_at {a : Int} (ha : 0 ≤ a ∧ a ≤ 4611686018427387903) {x : Int × Int} {l : List (Int × Int)} (hl : l.length ≤ 19) (hx : 0 ≤ x.1 ∧ x.1 ≤ x.2 ∧ x.2 ≤ 4611686018427387903) (hb : rngB x.1 l = true) (t : ByteArray) :
    EvP (fun N => impl_cursor_ranges N x.2 (vbs a ++ (vbs ((l.length : Nat) : Int) ++ (vbs (x.2 - x.1) ++ (rngW x.1 l ++ t)))) false) (· = ((a, ((), ())), ((t, (false, ())), (x :: l, ())))) := by
  refine EvP.of (fun N => impl_cursor_ranges.eq N _ _ _) (EvP.to (number_at ha _) (EvP.to (number_at ⟨by omega, by omega⟩ _) (EvP.to (number_at ⟨by omega, by omega⟩ _) ?_)))
  dsimp only
  rw [show IntKind.i64.wrap (x.2 - (x.2 - x.1)) = x.1 by rw [i64w (by omega) (by omega)]; omega]
  have hi := ranges_l a t l [x] 0 (by simp) (by rw [List.length_singleton]; omega) (by omega) hb ⟨hx.1, by show x.1 ≤ _; omega⟩
  rw [Nat.zero_add] at hi
  refine EvP.andK hi ?_
  rintro z hz
  refine EvP.some ?_
  rw [hz]
  rfl
theorem stream_at {a b : Int} {fin : Bool} {d : ByteArray} (ha : 0 ≤ a ∧ a ≤ 4611686018427387903) (hb : 0 ≤ b ∧ b ≤ 4611686018427387903) (hd : (d.size : Int) ≤ 200) (t : ByteArray) :
    EvP (fun N => impl_cursor_stream N (strK b fin) (vbs a ++ (offW b ++ (vbs (d.size : Int) ++ (d ++ t)))) false) (· = (((8, (a, (b, (0, (fin, (d, ((), ()))))))), ()), ((t, (false, ())), ()))) := by
  have o1 : Go.bits .and .i64 10 4 = 0 ∧ Go.bits .and .i64 11 4 = 0 ∧ Go.bits .and .i64 14 4 = 4 ∧ Go.bits .and .i64 15 4 = 4 := by decide +kernel
  have o2 : Go.bits .and .i64 10 1 = 0 ∧ Go.bits .and .i64 11 1 = 1 ∧ Go.bits .and .i64 14 1 = 0 ∧ Go.bits .and .i64 15 1 = 1 := by decide +kernel
  have o3 : Go.bits .and .i64 10 2 = 2 ∧ Go.bits .and .i64 11 2 = 2 ∧ Go.bits .and .i64 14 2 = 2 ∧ Go.bits .and .i64 15 2 = 2 := by decide +kernel
  obtain ⟨p1, p2, p3, p4⟩ := o1
  obtain ⟨q1, q2, q3, q4⟩ := o2
  obtain ⟨r1, r2, r3, r4⟩ := o3
  refine EvP.of (fun N => impl_cursor_stream.eq N _ _ _) (EvP.to (number_at ha _) ?_)
  refine EvP.to (a := (((), ((), ((), ()))), ((vbs (d.size : Int) ++ (d ++ t), (false, ())), ((0, (0, (0, (0, (false, (nilS, ((), ()))))))), ((8, (a, (b, (0, (fin, (nilS, ((), ()))))))), ()))))) ?_ ?_
  · by_cases h : b = 0
    · subst h
      cases fin with
      | true => exact EvP.nneg p2 (EvP.some (by rw [show strK 0 true = 11 from rfl, q2, show offW 0 = nilS from rfl, nil_app]; rfl))
      | false => exact EvP.nneg p1 (EvP.some (by rw [show strK 0 false = 10 from rfl, q1, show offW 0 = nilS from rfl, nil_app]; rfl))
    · have ho : offW b = vbs b := if_neg h
      rw [ho]
      cases fin with
      | true =>
        rw [show strK b true = 15 by unfold strK; rw [if_neg h]; rfl]
        exact EvP.npos (by rw [p4]; decide) (EvP.to (number_at hb _) (EvP.some (by rw [q4]; rfl)))
      | false =>
        rw [show strK b false = 14 by unfold strK; rw [if_neg h]; rfl]
        exact EvP.npos (by rw [p3]; decide) (EvP.to (number_at hb _) (EvP.some (by rw [q3]; rfl)))
  have hk : ¬ Go.bits .and .i64 (strK b fin) 2 = 0 := by
    have : strK b fin = 10 ∨ strK b fin = 11 ∨ strK b fin = 14 ∨ strK b fin = 15 := by unfold strK; split <;> split <;> omega
    rcases this with e | e | e | e <;> rw [e]
    · rw [r1]; decide
    · rw [r2]; decide
    · rw [r3]; decide
    · rw [r4]; decide
  exact EvP.npos hk (EvP.to (counted_at (by omega) t) (EvP.some rfl))
/-- How a frame's bytes begin, and how the rest is read. -/
def FAt (k a b c : Int) (fin : Bool) (d : ByteArray) (r : List (Int × Int)) (t : ByteArray) : Prop :=
  ∃ (K : Int) (L : ByteArray), fb k a b c fin d r ++ t = vbs K ++ L ∧ (0 ≤ K ∧ K ≤ 4611686018427387903) ∧ EvP (fun N => impl_cursor_frame N K L false) (· = ((mkF k a b c fin d r, (true, ())), ((t, (false, ())), ())))
theorem frame_at {k a b c : Int} {fin : Bool} {d : ByteArray} {r : List (Int × Int)} (h : goodB k a b c fin d r = true) (t : ByteArray) : FAt k a b c fin d r t := by
  have hg := h
  obtain ⟨hk, hd, ⟨a1, a2⟩, ⟨b1, b2⟩, ⟨c1, c2⟩, he⟩ := good_f h
  unfold goodB at h
  rw [Bool.and_eq_true] at h
  obtain ⟨z1, z2, z3, z4, z5, z6⟩ := named_z h.1
  rcases kinds_of hk with rfl | rfl | rfl | rfl | rfl | rfl | rfl | rfl | rfl | rfl | rfl | rfl | rfl | rfl | rfl
  · obtain rfl := z1 (by decide); obtain rfl := z2 (by decide); obtain rfl := z3 rfl; obtain rfl := z4 (by decide); obtain rfl := z5 (by decide); obtain rfl := z6 (by decide)
    refine ⟨0, t, rfl, by decide, EvP.of (fun N => impl_cursor_frame.eq N _ _ _) ?_⟩
    repeat first | ((with_reducible refine EvP.neg ?_ ?_); exact (by decide)) | ((with_reducible refine EvP.pos (c := _) ?_ ?_); exact rfl) | dsimp only | ((with_reducible refine EvP.to (number_at ?_ _) ?_); exact ⟨by omega, by omega⟩) | ((with_reducible refine EvP.to (counted_at ?_ _) ?_); omega) | ((with_reducible refine EvP.to (take_at ?_ _) ?_); omega) | ((with_reducible refine EvP.to (byte_at ?_ _) ?_); exact ⟨by omega, by omega⟩) | ((with_reducible refine EvP.some ?_); exact rfl)
  · obtain rfl := z1 (by decide); obtain rfl := z2 (by decide); obtain rfl := z3 rfl; obtain rfl := z4 (by decide); obtain rfl := z5 (by decide); obtain rfl := z6 (by decide)
    refine ⟨1, t, rfl, by decide, EvP.of (fun N => impl_cursor_frame.eq N _ _ _) ?_⟩
    repeat first | ((with_reducible refine EvP.neg ?_ ?_); exact (by decide)) | ((with_reducible refine EvP.pos (c := _) ?_ ?_); exact rfl) | dsimp only | ((with_reducible refine EvP.to (number_at ?_ _) ?_); exact ⟨by omega, by omega⟩) | ((with_reducible refine EvP.to (counted_at ?_ _) ?_); omega) | ((with_reducible refine EvP.to (take_at ?_ _) ?_); omega) | ((with_reducible refine EvP.to (byte_at ?_ _) ?_); exact ⟨by omega, by omega⟩) | ((with_reducible refine EvP.some ?_); exact rfl)
  · obtain rfl := z1 (by decide); obtain rfl := z3 rfl; obtain rfl := z5 (by decide); obtain rfl := z6 (by decide)
    obtain ⟨x, l, rfl, hl, hx, hr⟩ := ack_ext (k := 2) hg
    refine ⟨2, vbs x.2 ++ (vbs a ++ (vbs ((l.length : Nat) : Int) ++ (vbs (x.2 - x.1) ++ (rngW x.1 l ++ t)))), ?_, by decide, EvP.of (fun N => impl_cursor_frame.eq N _ _ _) ?_⟩
    · show (vbs 2 ++ ((((vbs x.2 ++ vbs a) ++ vbs ((l.length : Nat) : Int)) ++ vbs (x.2 - x.1)) ++ rngW x.1 l)) ++ t = _
      simp only [ByteArray.append_assoc]
    · repeat first | ((with_reducible refine EvP.neg ?_ ?_); exact (by decide)) | ((with_reducible refine EvP.pos (c := _) ?_ ?_); exact rfl) | dsimp only | ((with_reducible refine EvP.to (number_at ?_ _) ?_); exact ⟨by omega, by omega⟩) | ((with_reducible refine EvP.to (counted_at ?_ _) ?_); omega) | ((with_reducible refine EvP.to (take_at ?_ _) ?_); omega) | ((with_reducible refine EvP.to (byte_at ?_ _) ?_); exact ⟨by omega, by omega⟩) | ((with_reducible refine EvP.some ?_); exact rfl)
      exact EvP.to (ranges_at ⟨a1, a2⟩ hl hx hr t) (EvP.some rfl)
  · obtain rfl := z1 (by decide); obtain rfl := z2 (by decide); obtain rfl := z3 rfl
    refine ⟨4, vbs a ++ (vbs b ++ (vbs c ++ t)), ?_, by decide, EvP.of (fun N => impl_cursor_frame.eq N _ _ _) ?_⟩
    · show (((vbs 4 ++ vbs a) ++ vbs b) ++ vbs c) ++ t = _
      simp only [ByteArray.append_assoc]
    · repeat first | ((with_reducible refine EvP.neg ?_ ?_); exact (by decide)) | ((with_reducible refine EvP.pos (c := _) ?_ ?_); exact rfl) | dsimp only | ((with_reducible refine EvP.to (number_at ?_ _) ?_); exact ⟨by omega, by omega⟩) | ((with_reducible refine EvP.to (counted_at ?_ _) ?_); omega) | ((with_reducible refine EvP.to (take_at ?_ _) ?_); omega) | ((with_reducible refine EvP.to (byte_at ?_ _) ?_); exact ⟨by omega, by omega⟩) | ((with_reducible refine EvP.some ?_); exact rfl)
  · obtain rfl := z1 (by decide); obtain rfl := z2 (by decide); obtain rfl := z3 rfl; obtain rfl := z6 (by decide)
    refine ⟨5, vbs a ++ (vbs b ++ t), ?_, by decide, EvP.of (fun N => impl_cursor_frame.eq N _ _ _) ?_⟩
    · show ((vbs 5 ++ vbs a) ++ vbs b) ++ t = _
      simp only [ByteArray.append_assoc]
    · repeat first | ((with_reducible refine EvP.neg ?_ ?_); exact (by decide)) | ((with_reducible refine EvP.pos (c := _) ?_ ?_); exact rfl) | dsimp only | ((with_reducible refine EvP.to (number_at ?_ _) ?_); exact ⟨by omega, by omega⟩) | ((with_reducible refine EvP.to (counted_at ?_ _) ?_); omega) | ((with_reducible refine EvP.to (take_at ?_ _) ?_); omega) | ((with_reducible refine EvP.to (byte_at ?_ _) ?_); exact ⟨by omega, by omega⟩) | ((with_reducible refine EvP.some ?_); exact rfl)
  · obtain rfl := z1 (by decide); obtain rfl := z2 (by decide); obtain rfl := z5 (by decide); obtain rfl := z6 (by decide)
    refine ⟨6, vbs a ++ (vbs (d.size : Int) ++ (d ++ t)), ?_, by decide, EvP.of (fun N => impl_cursor_frame.eq N _ _ _) ?_⟩
    · show ((vbs 6 ++ vbs a) ++ (vbs (d.size : Int) ++ d)) ++ t = _
      simp only [ByteArray.append_assoc]
    · repeat first | ((with_reducible refine EvP.neg ?_ ?_); exact (by decide)) | ((with_reducible refine EvP.pos (c := _) ?_ ?_); exact rfl) | dsimp only | ((with_reducible refine EvP.to (number_at ?_ _) ?_); exact ⟨by omega, by omega⟩) | ((with_reducible refine EvP.to (counted_at ?_ _) ?_); omega) | ((with_reducible refine EvP.to (take_at ?_ _) ?_); omega) | ((with_reducible refine EvP.to (byte_at ?_ _) ?_); exact ⟨by omega, by omega⟩) | ((with_reducible refine EvP.some ?_); exact rfl)
  · obtain rfl := z1 (by decide); obtain rfl := z2 (by decide); obtain rfl := z4 (by decide); obtain rfl := z5 (by decide); obtain rfl := z6 (by decide)
    refine ⟨7, vbs (d.size : Int) ++ (d ++ t), ?_, by decide, EvP.of (fun N => impl_cursor_frame.eq N _ _ _) ?_⟩
    · show (vbs 7 ++ (vbs (d.size : Int) ++ d)) ++ t = _
      simp only [ByteArray.append_assoc]
    · repeat first | ((with_reducible refine EvP.neg ?_ ?_); exact (by decide)) | ((with_reducible refine EvP.pos (c := _) ?_ ?_); exact rfl) | dsimp only | ((with_reducible refine EvP.to (number_at ?_ _) ?_); exact ⟨by omega, by omega⟩) | ((with_reducible refine EvP.to (counted_at ?_ _) ?_); omega) | ((with_reducible refine EvP.to (take_at ?_ _) ?_); omega) | ((with_reducible refine EvP.to (byte_at ?_ _) ?_); exact ⟨by omega, by omega⟩) | ((with_reducible refine EvP.some ?_); exact rfl)
  · obtain rfl := z2 (by decide); obtain rfl := z6 (by decide)
    obtain ⟨k1, k2⟩ := strK_f b fin
    refine ⟨strK b fin, vbs a ++ (offW b ++ (vbs (d.size : Int) ++ (d ++ t))), ?_, by omega, EvP.of (fun N => impl_cursor_frame.eq N _ _ _) ?_⟩
    · show (((vbs (strK b fin) ++ vbs a) ++ offW b) ++ (vbs (d.size : Int) ++ d)) ++ t = _
      simp only [ByteArray.append_assoc]
    · repeat ((with_reducible refine EvP.neg ?_ ?_); omega)
      refine EvP.to (in_i _ _ _) (EvP.no ?_ (EvP.to (stream_at ⟨a1, a2⟩ ⟨b1, b2⟩ hd t) (EvP.some rfl)))
      dsimp only
      rw [decide_eq_true (by omega)]
      rfl
  · obtain rfl := z1 (by decide); obtain rfl := z2 (by decide); obtain rfl := z3 rfl; obtain rfl := z5 (by decide); obtain rfl := z6 (by decide)
    refine ⟨16, vbs a ++ t, ?_, by decide, EvP.of (fun N => impl_cursor_frame.eq N _ _ _) ?_⟩
    · show (vbs 16 ++ vbs a) ++ t = _
      simp only [ByteArray.append_assoc]
    · repeat first | ((with_reducible refine EvP.neg ?_ ?_); exact (by decide)) | ((with_reducible refine EvP.pos (c := _) ?_ ?_); exact rfl) | dsimp only | ((with_reducible refine EvP.to (number_at ?_ _) ?_); exact ⟨by omega, by omega⟩) | ((with_reducible refine EvP.to (counted_at ?_ _) ?_); omega) | ((with_reducible refine EvP.to (take_at ?_ _) ?_); omega) | ((with_reducible refine EvP.to (byte_at ?_ _) ?_); exact ⟨by omega, by omega⟩) | ((with_reducible refine EvP.some ?_); exact rfl)
  · obtain rfl := z1 (by decide); obtain rfl := z2 (by decide); obtain rfl := z3 rfl; obtain rfl := z6 (by decide)
    refine ⟨17, vbs a ++ (vbs b ++ t), ?_, by decide, EvP.of (fun N => impl_cursor_frame.eq N _ _ _) ?_⟩
    · show ((vbs 17 ++ vbs a) ++ vbs b) ++ t = _
      simp only [ByteArray.append_assoc]
    · repeat first | ((with_reducible refine EvP.neg ?_ ?_); exact (by decide)) | ((with_reducible refine EvP.pos (c := _) ?_ ?_); exact rfl) | dsimp only | ((with_reducible refine EvP.to (number_at ?_ _) ?_); exact ⟨by omega, by omega⟩) | ((with_reducible refine EvP.to (counted_at ?_ _) ?_); omega) | ((with_reducible refine EvP.to (take_at ?_ _) ?_); omega) | ((with_reducible refine EvP.to (byte_at ?_ _) ?_); exact ⟨by omega, by omega⟩) | ((with_reducible refine EvP.some ?_); exact rfl)
  · obtain rfl := z1 (by decide); obtain rfl := z2 (by decide)
    have he : (decide (b ≤ a) && (decide (1 ≤ (d.size : Int) ∧ (d.size : Int) ≤ 20) && decide (c ≤ 255))) = true := he
    simp only [Bool.and_eq_true, decide_eq_true_eq] at he
    refine ⟨24, vbs a ++ (vbs b ++ (be 1 (d.size : Int) ++ (d ++ (be 1 c ++ t)))), ?_, by decide, EvP.of (fun N => impl_cursor_frame.eq N _ _ _) ?_⟩
    · show (((((vbs 24 ++ vbs a) ++ vbs b) ++ be 1 (d.size : Int)) ++ d) ++ be 1 c) ++ t = _
      simp only [ByteArray.append_assoc]
    · repeat first | ((with_reducible refine EvP.neg ?_ ?_); exact (by decide)) | ((with_reducible refine EvP.pos (c := _) ?_ ?_); exact rfl) | dsimp only | ((with_reducible refine EvP.to (number_at ?_ _) ?_); exact ⟨by omega, by omega⟩) | ((with_reducible refine EvP.to (counted_at ?_ _) ?_); omega) | ((with_reducible refine EvP.to (take_at ?_ _) ?_); omega) | ((with_reducible refine EvP.to (byte_at ?_ _) ?_); exact ⟨by omega, by omega⟩) | ((with_reducible refine EvP.some ?_); exact rfl)
  · obtain rfl := z1 (by decide); obtain rfl := z2 (by decide); obtain rfl := z4 (by decide); obtain rfl := z5 (by decide); obtain rfl := z6 (by decide)
    have he : decide ((d.size : Int) = 8) = true := he
    have he := of_decide_eq_true he
    refine ⟨26, d ++ t, ?_, by decide, EvP.of (fun N => impl_cursor_frame.eq N _ _ _) ?_⟩
    · show (vbs 26 ++ d) ++ t = _
      simp only [ByteArray.append_assoc]
    · repeat first | ((with_reducible refine EvP.neg ?_ ?_); exact (by decide)) | ((with_reducible refine EvP.pos (c := _) ?_ ?_); exact rfl) | dsimp only | ((with_reducible refine EvP.to (number_at ?_ _) ?_); exact ⟨by omega, by omega⟩) | ((with_reducible refine EvP.to (counted_at ?_ _) ?_); omega) | ((with_reducible refine EvP.to (take_at ?_ _) ?_); omega) | ((with_reducible refine EvP.to (byte_at ?_ _) ?_); exact ⟨by omega, by omega⟩) | ((with_reducible refine EvP.some ?_); exact rfl)
  · obtain rfl := z1 (by decide); obtain rfl := z2 (by decide); obtain rfl := z4 (by decide); obtain rfl := z5 (by decide); obtain rfl := z6 (by decide)
    have he : decide ((d.size : Int) = 8) = true := he
    have he := of_decide_eq_true he
    refine ⟨27, d ++ t, ?_, by decide, EvP.of (fun N => impl_cursor_frame.eq N _ _ _) ?_⟩
    · show (vbs 27 ++ d) ++ t = _
      simp only [ByteArray.append_assoc]
    · repeat first | ((with_reducible refine EvP.neg ?_ ?_); exact (by decide)) | ((with_reducible refine EvP.pos (c := _) ?_ ?_); exact rfl) | dsimp only | ((with_reducible refine EvP.to (number_at ?_ _) ?_); exact ⟨by omega, by omega⟩) | ((with_reducible refine EvP.to (counted_at ?_ _) ?_); omega) | ((with_reducible refine EvP.to (take_at ?_ _) ?_); omega) | ((with_reducible refine EvP.to (byte_at ?_ _) ?_); exact ⟨by omega, by omega⟩) | ((with_reducible refine EvP.some ?_); exact rfl)
  · obtain rfl := z1 (by decide); obtain rfl := z2 (by decide); obtain rfl := z6 (by decide)
    refine ⟨28, vbs a ++ (vbs b ++ (vbs (d.size : Int) ++ (d ++ t))), ?_, by decide, EvP.of (fun N => impl_cursor_frame.eq N _ _ _) ?_⟩
    · show (((vbs 28 ++ vbs a) ++ vbs b) ++ (vbs (d.size : Int) ++ d)) ++ t = _
      simp only [ByteArray.append_assoc]
    · repeat first | ((with_reducible refine EvP.neg ?_ ?_); exact (by decide)) | ((with_reducible refine EvP.pos (c := _) ?_ ?_); exact rfl) | dsimp only | ((with_reducible refine EvP.to (number_at ?_ _) ?_); exact ⟨by omega, by omega⟩) | ((with_reducible refine EvP.to (counted_at ?_ _) ?_); omega) | ((with_reducible refine EvP.to (take_at ?_ _) ?_); omega) | ((with_reducible refine EvP.to (byte_at ?_ _) ?_); exact ⟨by omega, by omega⟩) | ((with_reducible refine EvP.some ?_); exact rfl)
  · obtain rfl := z1 (by decide); obtain rfl := z2 (by decide); obtain rfl := z4 (by decide); obtain rfl := z5 (by decide); obtain rfl := z6 (by decide)
    refine ⟨49, vbs (d.size : Int) ++ (d ++ t), ?_, by decide, EvP.of (fun N => impl_cursor_frame.eq N _ _ _) ?_⟩
    · show (vbs 49 ++ (vbs (d.size : Int) ++ d)) ++ t = _
      simp only [ByteArray.append_assoc]
    · repeat first | ((with_reducible refine EvP.neg ?_ ?_); exact (by decide)) | ((with_reducible refine EvP.pos (c := _) ?_ ?_); exact rfl) | dsimp only | ((with_reducible refine EvP.to (number_at ?_ _) ?_); exact ⟨by omega, by omega⟩) | ((with_reducible refine EvP.to (counted_at ?_ _) ?_); omega) | ((with_reducible refine EvP.to (take_at ?_ _) ?_); omega) | ((with_reducible refine EvP.to (byte_at ?_ _) ?_); exact ⟨by omega, by omega⟩) | ((with_reducible refine EvP.some ?_); exact rfl)
end Go.Proofs.Ytbfkfhadcmpndaa.CFnFrames
