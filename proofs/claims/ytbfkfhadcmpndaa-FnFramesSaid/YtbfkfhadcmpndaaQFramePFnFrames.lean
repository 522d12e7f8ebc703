/- The bytes of a good frame: the program's, kind by kind. -/
import Derived.Test.YtbfkfhadcmpndaaQFrameBFnFrames
set_option linter.unusedVariables false
set_option linter.unusedSimpArgs false
namespace Go.Proofs.Ytbfkfhadcmpndaa.CFnFrames
open Go Go.Proofs Go.Proofs.YtbfkfhadcmpndaaPM Go.Proofs.Ytbfkfhadcmpndaa.Q Go.Proofs.Ytbfkfhadcmpndaa.GFnFrames

theorem strK_f (b : Int) (fin : Bool) : 10 ≤ strK b fin ∧ strK b fin ≤ 15 := by
  unfold strK
  split <;> split <;> omega
theorem offW_size (b : Int) : (offW b).size ≤ 8 := by
  unfold offW
  have := (vsz_pos b).2
  split
  · exact Nat.zero_le _
  · rw [vbs_size]; exact this
theorem stream_impl {a b c : Int} {fin : Bool} {d : ByteArray} {r : List (Int × Int)} (hd : (d.size : Int) ≤ 200) (ha : VarN a) (hb : VarN b) :
    EvP (fun N => impl_Frame_streamBytes N 8 a b c fin d r) (fun z => z.1.1 = ((vbs (strK b fin) ++ vbs a) ++ offW b) ++ cntW d ∧ z.2.1 = mkF 8 a b c fin d r) := by
  obtain ⟨a1, a2⟩ := ha
  obtain ⟨b1, b2⟩ := hb
  obtain ⟨k1, k2⟩ := strK_f b fin
  have s1 := (vsz_pos a).2
  have s2 := (vsz_pos (strK b fin)).2
  have s3 := (vsz_pos (d.size : Int)).2
  have s4 := offW_size b
  refine EvP.of (fun N => impl_Frame_streamBytes.eq N _ _ _ _ _ _ _) ?_
  refine EvP.to (a := (((), ((if b = 0 then 10 else 14), (offW b, ()))), (mkF 8 a b c fin d r, ()))) (EvP.nite (fun h => EvP.to (varint_impl b1 (by omega)) (EvP.some ?_)) (fun h => EvP.some ?_)) ?_
  · rw [if_neg h, offW, if_neg h]; rfl
  · subst h; rfl
  refine EvP.to (a := (((), (strK b fin, ())), (mkF 8 a b c fin d r, ()))) (EvP.sel (fun h => EvP.some ?_) (fun h => EvP.some ?_)) ?_
  · have h : fin = true := h
    subst h
    have o1 : Go.bits .or .i64 10 1 = 11 := by decide +kernel
    have o2 : Go.bits .or .i64 14 1 = 15 := by decide +kernel
    unfold strK
    dsimp only [mkF]
    split
    · rw [o1]; rfl
    · rw [o2]; rfl
  · have h : fin = false := h
    subst h
    unfold strK
    split <;> rfl
  refine EvP.to (varint_impl (by (try dsimp only); omega) (by (try dsimp only); omega)) (EvP.to (varint_impl (by (try dsimp only [mkF]); omega) (by (try dsimp only [mkF]); omega)) (EvP.chk1 (by focus (try dsimp only [mkF]); simp only [ByteArray.size_append, vbs_size, be_size, cntW_size, size_nil]; omega) (EvP.chk1 (by focus (try dsimp only [mkF]); simp only [ByteArray.size_append, vbs_size, be_size, cntW_size, size_nil]; omega) (EvP.to (counted_i (by (try dsimp only [mkF]); omega)) (EvP.chk1 (by focus (try dsimp only [mkF]); simp only [ByteArray.size_append, vbs_size, be_size, cntW_size, size_nil]; omega) (EvP.some ⟨rfl, rfl⟩))))))
theorem bytes_impl {k a b c : Int} {fin : Bool} {d : ByteArray} {r : List (Int × Int)} (h : goodB k a b c fin d r = true) : EvP (fun N => impl_Frame_bytes N k a b c fin d r) (fun z => z.1.1 = fb k a b c fin d r ∧ z.2.1 = mkF k a b c fin d r) := by
  obtain ⟨hk, hd, ⟨a1, a2⟩, ⟨b1, b2⟩, ⟨c1, c2⟩, he⟩ := good_f h
  have s1 := (vsz_pos a).2
  have s2 := (vsz_pos b).2
  have s3 := (vsz_pos c).2
  have s4 := (vsz_pos (d.size : Int)).2
  have s5 := (vsz_pos k).2
  have s6 := (vsz_pos 49).2
  refine EvP.of (fun N => impl_Frame_bytes.eq N _ _ _ _ _ _ _) ?_
  rcases kinds_of hk with rfl | rfl | rfl | rfl | rfl | rfl | rfl | rfl | rfl | rfl | rfl | rfl | rfl | rfl | rfl
  · repeat first | (with_reducible refine EvP.neg ?_ ?_; exact (by decide)) | (with_reducible refine EvP.pos (c := _) ?_ ?_; exact rfl) | (with_reducible refine EvP.to (varint_impl ?_ ?_) ?_; (focus (try dsimp only [mkF]); omega); (focus (try dsimp only [mkF]); omega)) | (with_reducible refine EvP.to (counted_i ?_) ?_; (focus (try dsimp only [mkF]); omega)) | (with_reducible refine EvP.chk1 ?_ ?_; (focus (try dsimp only [mkF]); simp only [ByteArray.size_append, vbs_size, be_size, cntW_size, size_nil]; omega)) | (with_reducible refine EvP.some ?_; exact ⟨rfl, rfl⟩)
  · repeat first | (with_reducible refine EvP.neg ?_ ?_; exact (by decide)) | (with_reducible refine EvP.pos (c := _) ?_ ?_; exact rfl) | (with_reducible refine EvP.to (varint_impl ?_ ?_) ?_; (focus (try dsimp only [mkF]); omega); (focus (try dsimp only [mkF]); omega)) | (with_reducible refine EvP.to (counted_i ?_) ?_; (focus (try dsimp only [mkF]); omega)) | (with_reducible refine EvP.chk1 ?_ ?_; (focus (try dsimp only [mkF]); simp only [ByteArray.size_append, vbs_size, be_size, cntW_size, size_nil]; omega)) | (with_reducible refine EvP.some ?_; exact ⟨rfl, rfl⟩)
  · obtain ⟨x, l, e, hl, _⟩ := ack_ext (k := 2) h
    refine EvP.to (varint_impl (by omega) (by omega)) (EvP.pos rfl (EvP.andK (ack_impl h) ?_))
    rintro z ⟨z1, z2⟩
    refine EvP.chk1 ?_ (EvP.some ⟨by rw [z1]; rfl, z2⟩)
    have q1 := rngW_size l x.1
    have q2 := (vsz_pos x.2).2
    have q3 := (vsz_pos ((l.length : Nat) : Int)).2
    have q4 := (vsz_pos (x.2 - x.1)).2
    rw [z1, e]
    unfold ackW
    focus (try dsimp only [mkF]); simp only [ByteArray.size_append, vbs_size, be_size, cntW_size, size_nil]; omega
  · repeat first | (with_reducible refine EvP.neg ?_ ?_; exact (by decide)) | (with_reducible refine EvP.pos (c := _) ?_ ?_; exact rfl) | (with_reducible refine EvP.to (varint_impl ?_ ?_) ?_; (focus (try dsimp only [mkF]); omega); (focus (try dsimp only [mkF]); omega)) | (with_reducible refine EvP.to (counted_i ?_) ?_; (focus (try dsimp only [mkF]); omega)) | (with_reducible refine EvP.chk1 ?_ ?_; (focus (try dsimp only [mkF]); simp only [ByteArray.size_append, vbs_size, be_size, cntW_size, size_nil]; omega)) | (with_reducible refine EvP.some ?_; exact ⟨rfl, rfl⟩)
  · repeat first | (with_reducible refine EvP.neg ?_ ?_; exact (by decide)) | (with_reducible refine EvP.pos (c := _) ?_ ?_; exact rfl) | (with_reducible refine EvP.to (varint_impl ?_ ?_) ?_; (focus (try dsimp only [mkF]); omega); (focus (try dsimp only [mkF]); omega)) | (with_reducible refine EvP.to (counted_i ?_) ?_; (focus (try dsimp only [mkF]); omega)) | (with_reducible refine EvP.chk1 ?_ ?_; (focus (try dsimp only [mkF]); simp only [ByteArray.size_append, vbs_size, be_size, cntW_size, size_nil]; omega)) | (with_reducible refine EvP.some ?_; exact ⟨rfl, rfl⟩)
  · repeat first | (with_reducible refine EvP.neg ?_ ?_; exact (by decide)) | (with_reducible refine EvP.pos (c := _) ?_ ?_; exact rfl) | (with_reducible refine EvP.to (varint_impl ?_ ?_) ?_; (focus (try dsimp only [mkF]); omega); (focus (try dsimp only [mkF]); omega)) | (with_reducible refine EvP.to (counted_i ?_) ?_; (focus (try dsimp only [mkF]); omega)) | (with_reducible refine EvP.chk1 ?_ ?_; (focus (try dsimp only [mkF]); simp only [ByteArray.size_append, vbs_size, be_size, cntW_size, size_nil]; omega)) | (with_reducible refine EvP.some ?_; exact ⟨rfl, rfl⟩)
  · repeat first | (with_reducible refine EvP.neg ?_ ?_; exact (by decide)) | (with_reducible refine EvP.pos (c := _) ?_ ?_; exact rfl) | (with_reducible refine EvP.to (varint_impl ?_ ?_) ?_; (focus (try dsimp only [mkF]); omega); (focus (try dsimp only [mkF]); omega)) | (with_reducible refine EvP.to (counted_i ?_) ?_; (focus (try dsimp only [mkF]); omega)) | (with_reducible refine EvP.chk1 ?_ ?_; (focus (try dsimp only [mkF]); simp only [ByteArray.size_append, vbs_size, be_size, cntW_size, size_nil]; omega)) | (with_reducible refine EvP.some ?_; exact ⟨rfl, rfl⟩)
  · refine EvP.to (varint_impl (by omega) (by omega)) ?_
    repeat first | (with_reducible refine EvP.neg ?_ ?_; exact (by decide)) | (with_reducible refine EvP.pos (c := _) ?_ ?_; exact rfl) | (with_reducible refine EvP.to (varint_impl ?_ ?_) ?_; (focus (try dsimp only [mkF]); omega); (focus (try dsimp only [mkF]); omega)) | (with_reducible refine EvP.to (counted_i ?_) ?_; (focus (try dsimp only [mkF]); omega)) | (with_reducible refine EvP.chk1 ?_ ?_; (focus (try dsimp only [mkF]); simp only [ByteArray.size_append, vbs_size, be_size, cntW_size, size_nil]; omega)) | (with_reducible refine EvP.some ?_; exact ⟨rfl, rfl⟩)
    refine EvP.andK (stream_impl hd ⟨a1, a2⟩ ⟨b1, b2⟩) ?_
    rintro z ⟨z1, z2⟩
    exact EvP.some ⟨z1, z2⟩
  · repeat first | (with_reducible refine EvP.neg ?_ ?_; exact (by decide)) | (with_reducible refine EvP.pos (c := _) ?_ ?_; exact rfl) | (with_reducible refine EvP.to (varint_impl ?_ ?_) ?_; (focus (try dsimp only [mkF]); omega); (focus (try dsimp only [mkF]); omega)) | (with_reducible refine EvP.to (counted_i ?_) ?_; (focus (try dsimp only [mkF]); omega)) | (with_reducible refine EvP.chk1 ?_ ?_; (focus (try dsimp only [mkF]); simp only [ByteArray.size_append, vbs_size, be_size, cntW_size, size_nil]; omega)) | (with_reducible refine EvP.some ?_; exact ⟨rfl, rfl⟩)
  · repeat first | (with_reducible refine EvP.neg ?_ ?_; exact (by decide)) | (with_reducible refine EvP.pos (c := _) ?_ ?_; exact rfl) | (with_reducible refine EvP.to (varint_impl ?_ ?_) ?_; (focus (try dsimp only [mkF]); omega); (focus (try dsimp only [mkF]); omega)) | (with_reducible refine EvP.to (counted_i ?_) ?_; (focus (try dsimp only [mkF]); omega)) | (with_reducible refine EvP.chk1 ?_ ?_; (focus (try dsimp only [mkF]); simp only [ByteArray.size_append, vbs_size, be_size, cntW_size, size_nil]; omega)) | (with_reducible refine EvP.some ?_; exact ⟨rfl, rfl⟩)
  · have he : (decide (b ≤ a) && (decide (1 ≤ (d.size : Int) ∧ (d.size : Int) ≤ 20) && decide (c ≤ 255))) = true := he
    simp only [Bool.and_eq_true, decide_eq_true_eq] at he
    repeat first | (with_reducible refine EvP.neg ?_ ?_; exact (by decide)) | (with_reducible refine EvP.pos (c := _) ?_ ?_; exact rfl) | (with_reducible refine EvP.to (varint_impl ?_ ?_) ?_; (focus (try dsimp only [mkF]); omega); (focus (try dsimp only [mkF]); omega)) | (with_reducible refine EvP.to (counted_i ?_) ?_; (focus (try dsimp only [mkF]); omega)) | (with_reducible refine EvP.chk1 ?_ ?_; (focus (try dsimp only [mkF]); simp only [ByteArray.size_append, vbs_size, be_size, cntW_size, size_nil]; omega)) | (with_reducible refine EvP.some ?_; exact ⟨rfl, rfl⟩)
    refine EvP.to (bigEndian_ok _ 1 (by rw [u64i (by omega) (by omega)]; omega) (by decide)) ?_
    simp only [u64i (n := (d.size : Int)) (by omega) (by omega), u64i (n := c) (by omega) (by omega)]
    repeat first | (with_reducible refine EvP.neg ?_ ?_; exact (by decide)) | (with_reducible refine EvP.pos (c := _) ?_ ?_; exact rfl) | (with_reducible refine EvP.to (varint_impl ?_ ?_) ?_; (focus (try dsimp only [mkF]); omega); (focus (try dsimp only [mkF]); omega)) | (with_reducible refine EvP.to (counted_i ?_) ?_; (focus (try dsimp only [mkF]); omega)) | (with_reducible refine EvP.chk1 ?_ ?_; (focus (try dsimp only [mkF]); simp only [ByteArray.size_append, vbs_size, be_size, cntW_size, size_nil]; omega)) | (with_reducible refine EvP.some ?_; exact ⟨rfl, rfl⟩)
    refine EvP.to (bigEndian_ok _ 1 (by omega) (by decide)) ?_
    repeat first | (with_reducible refine EvP.neg ?_ ?_; exact (by decide)) | (with_reducible refine EvP.pos (c := _) ?_ ?_; exact rfl) | (with_reducible refine EvP.to (varint_impl ?_ ?_) ?_; (focus (try dsimp only [mkF]); omega); (focus (try dsimp only [mkF]); omega)) | (with_reducible refine EvP.to (counted_i ?_) ?_; (focus (try dsimp only [mkF]); omega)) | (with_reducible refine EvP.chk1 ?_ ?_; (focus (try dsimp only [mkF]); simp only [ByteArray.size_append, vbs_size, be_size, cntW_size, size_nil]; omega)) | (with_reducible refine EvP.some ?_; exact ⟨rfl, rfl⟩)
  · repeat first | (with_reducible refine EvP.neg ?_ ?_; exact (by decide)) | (with_reducible refine EvP.pos (c := _) ?_ ?_; exact rfl) | (with_reducible refine EvP.to (varint_impl ?_ ?_) ?_; (focus (try dsimp only [mkF]); omega); (focus (try dsimp only [mkF]); omega)) | (with_reducible refine EvP.to (counted_i ?_) ?_; (focus (try dsimp only [mkF]); omega)) | (with_reducible refine EvP.chk1 ?_ ?_; (focus (try dsimp only [mkF]); simp only [ByteArray.size_append, vbs_size, be_size, cntW_size, size_nil]; omega)) | (with_reducible refine EvP.some ?_; exact ⟨rfl, rfl⟩)
  · repeat first | (with_reducible refine EvP.neg ?_ ?_; exact (by decide)) | (with_reducible refine EvP.pos (c := _) ?_ ?_; exact rfl) | (with_reducible refine EvP.to (varint_impl ?_ ?_) ?_; (focus (try dsimp only [mkF]); omega); (focus (try dsimp only [mkF]); omega)) | (with_reducible refine EvP.to (counted_i ?_) ?_; (focus (try dsimp only [mkF]); omega)) | (with_reducible refine EvP.chk1 ?_ ?_; (focus (try dsimp only [mkF]); simp only [ByteArray.size_append, vbs_size, be_size, cntW_size, size_nil]; omega)) | (with_reducible refine EvP.some ?_; exact ⟨rfl, rfl⟩)
  · repeat first | (with_reducible refine EvP.neg ?_ ?_; exact (by decide)) | (with_reducible refine EvP.pos (c := _) ?_ ?_; exact rfl) | (with_reducible refine EvP.to (varint_impl ?_ ?_) ?_; (focus (try dsimp only [mkF]); omega); (focus (try dsimp only [mkF]); omega)) | (with_reducible refine EvP.to (counted_i ?_) ?_; (focus (try dsimp only [mkF]); omega)) | (with_reducible refine EvP.chk1 ?_ ?_; (focus (try dsimp only [mkF]); simp only [ByteArray.size_append, vbs_size, be_size, cntW_size, size_nil]; omega)) | (with_reducible refine EvP.some ?_; exact ⟨rfl, rfl⟩)
  · repeat first | (with_reducible refine EvP.neg ?_ ?_; exact (by decide)) | (with_reducible refine EvP.pos (c := _) ?_ ?_; exact rfl) | (with_reducible refine EvP.to (varint_impl ?_ ?_) ?_; (focus (try dsimp only [mkF]); omega); (focus (try dsimp only [mkF]); omega)) | (with_reducible refine EvP.to (counted_i ?_) ?_; (focus (try dsimp only [mkF]); omega)) | (with_reducible refine EvP.chk1 ?_ ?_; (focus (try dsimp only [mkF]); simp only [ByteArray.size_append, vbs_size, be_size, cntW_size, size_nil]; omega)) | (with_reducible refine EvP.some ?_; exact ⟨rfl, rfl⟩)
end Go.Proofs.Ytbfkfhadcmpndaa.CFnFrames
