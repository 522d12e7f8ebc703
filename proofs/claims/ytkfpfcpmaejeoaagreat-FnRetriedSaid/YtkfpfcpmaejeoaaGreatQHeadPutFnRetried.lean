/- Both packages write a good header's bytes as told. -/
import Derived.Test.YtkfpfcpmaejeoaaGreatQHeadPutAFnRetried
set_option linter.unusedVariables false
set_option linter.unusedSimpArgs false
namespace Go.Proofs.YtkfpfcpmaejeoaaGreat.CFnRetried
open Go Go.Proofs Go.Proofs.YtkfpfcpmaejeoaaGreatPM Go.Proofs.YtkfpfcpmaejeoaaGreat.Q Go.Proofs.YtkfpfcpmaejeoaaGreat.GFnRetried

theorem ids_impl (f b v : Int) (d c t p : ByteArray) (l : List Int) (hd : d.size ≤ 255) (hc : c.size ≤ 255) : EvP (fun N => impl_Header_ids_2 N f b v d c t p l) (· = ((idb d ++ idb c, ()), (mkH f b v d c t p l, ()))) := by
  refine EvP.of (fun N => impl_Header_ids_2.eq N _ _ _ _ _ _ _ _) (EvP.to (byteCounted_impl d hd) (EvP.to (byteCounted_impl c hc) (EvP.chk1 ?_ (EvP.some rfl))))
  dsimp only
  rw [idb_size, idb_size]
  omega
theorem wordsW_impl (h : Hd) (C : ByteArray) (l : List Int) (hl : l.length ≤ 1000) (hC : C.size ≤ 1000) (hw : ∀ n ∈ l, 0 ≤ n ∧ n ≤ 4294967295) :
    EvP (fun N => impl_Header_bytes_2.l0 N l (l.length : Int) C 0 h.1 h.2.1 h.2.2.1 h.2.2.2.1 h.2.2.2.2.1 h.2.2.2.2.2.1 h.2.2.2.2.2.2.1 h.2.2.2.2.2.2.2.1) (· = ((C ++ wordsB l, ()), (h, ()))) := by
  refine EvP.count (f := fun N i (a : ByteArray) => impl_Header_bytes_2.l0 N l (l.length : Int) a i h.1 h.2.1 h.2.2.1 h.2.2.2.1 h.2.2.2.2.1 h.2.2.2.2.2.1 h.2.2.2.2.2.2.1 h.2.2.2.2.2.2.2.1) (n := l.length) (inv := fun i a => a = C ++ wordsB (l.take i)) ?_ ?_ 0 C (by omega) (by show C = C ++ nilS; rw [app_nil])
  · rintro i a hi rfl next
    refine EvP.step (fun N => impl_Header_bytes_2.l0.eq N _ _ _ _ _ _ _ _ _ _ _ _) (EvP.pos (by omega) (EvP.chk2 (by omega) (by omega) ?_))
    rw [Int.toNat_natCast]
    have hg : l.getD i 0 = l[i] := by rw [List.getD_eq_getElem?_getD, List.getElem?_eq_getElem hi]; rfl
    have hn := hw _ (List.getElem_mem hi)
    rw [hg, u64i hn.1 (by omega)]
    refine EvP.to (bigEndian_ok _ 4 hn.1 (by decide)) (EvP.chk1 ?_ ?_)
    · dsimp only
      rw [ByteArray.size_append, wordsB_size, be_size, List.length_take]
      omega
    · rw [show IntKind.i64.wrap ((i : Int) + 1) = ((i + 1 : Nat) : Int) by rw [i64w (by omega) (by omega)]; omega]
      refine next _ ?_
      rw [List.take_succ_eq_append_getElem hi, wordsB_snoc, app_assoc]
  · rintro a rfl
    refine EvP.step (fun N => impl_Header_bytes_2.l0.eq N _ _ _ _ _ _ _ _ _ _ _ _) (EvP.neg (by omega) (EvP.some ?_))
    rw [List.take_length]
theorem hb_impl {f b v : Int} {d c t p : ByteArray} {l : List Int} (g : GoodH f b v d c t p l) : EvP (fun N => impl_Header_bytes_2 N f b v d c t p l) (fun r => r.1.1 = hbOf f b v d c t p l) := by
  obtain ⟨g1, g2, ⟨g3, g3'⟩, g4, g5⟩ := g.1
  refine EvP.of (fun N => impl_Header_bytes_2.eq N _ _ _ _ _ _ _ _) ?_
  unfold hbOf
  refine EvP.ite (fun h5 => ?_) (fun h5 => ?_)
  · rw [if_pos h5, i64w (by omega) (by omega), u64i (by omega) (by omega)]
    refine EvP.to (bigEndian_ok _ 1 (by omega) (by decide)) (EvP.chk1 ?_ (EvP.chk1 ?_ (EvP.some ?_))) <;> dsimp only
    · rw [be_size]; omega
    · rw [ByteArray.size_append, be_size]; omega
    · rw [app_assoc]
  rw [if_neg h5]
  refine EvP.ite (fun h4 => ?_) (fun h4 => ?_)
  · rw [if_pos h4, i64w (by omega) (by omega), u64i (by omega) (by omega)]
    obtain ⟨hl, hw⟩ := list_of g h4
    refine EvP.to (bigEndian_ok _ 1 (by omega) (by decide)) (EvP.to (bigEndian_ok 0 4 (by decide) (by decide)) (EvP.chk1 ?_ (EvP.to (ids_impl f b v d c t p l (by omega) (by omega)) (EvP.chk1 ?_ ?_)))) <;> dsimp only
    · rw [be_size, be_size]; omega
    · simp only [ByteArray.size_append, be_size, idb_size]; omega
    · refine EvP.to (wordsW_impl (mkH f b v d c t p l) _ l (by omega) (by simp only [ByteArray.size_append, be_size, idb_size]; omega) hw) (EvP.some ?_)
      dsimp only
      simp only [app_assoc]
  rw [if_neg h4]
  obtain ⟨⟨f0, f3⟩, ⟨v0, v1⟩⟩ := form_of g h5 h4
  rw [i64w (n := 16 * f) (by omega) (by omega), i64w (n := 192 + 16 * f) (by omega) (by omega), i64w (by omega) (by omega), u64i (n := 192 + 16 * f + b) (by omega) (by omega), u64i (n := v) (by omega) (by omega)]
  refine EvP.to (bigEndian_ok _ 1 (by omega) (by decide)) (EvP.to (bigEndian_ok v 4 (by omega) (by decide)) (EvP.chk1 ?_ (EvP.to (ids_impl f b v d c t p l (by omega) (by omega)) (EvP.chk1 ?_ ?_))))
  · dsimp only; rw [be_size, be_size]; omega
  · dsimp only; simp only [ByteArray.size_append, be_size, idb_size]; omega
  have ht : (if f = 0 then vbs (t.size : Int) ++ t else nilS).size ≤ 300 := by
    have := vsz_pos (t.size : Int)
    split
    · rw [ByteArray.size_append, vbs_size]; omega
    · exact Nat.zero_le _
  refine EvP.to (a := (((), ((((be 1 (192 + 16 * f + b) ++ be 4 v) ++ (idb d ++ idb c)) ++ (if f = 0 then vbs (t.size : Int) ++ t else nilS)), ())), (mkH f b v d c t p l, ()))) ?_ ?_
  · refine EvP.ite (fun h0 => ?_) (fun h0 => ?_)
    · rw [if_pos (show f = 0 from h0)]
      refine EvP.to (counted_impl2 t (by omega)) (EvP.chk1 ?_ (EvP.some rfl))
      have := vsz_pos (t.size : Int)
      dsimp only; simp only [ByteArray.size_append, be_size, idb_size, vbs_size]; omega
    · rw [if_neg (show ¬ f = 0 from h0), app_nil]
      exact EvP.some rfl
  generalize (if f = 0 then vbs (t.size : Int) ++ t else nilS) = tt at ht ⊢
  refine EvP.to (a := (((), (((((be 1 (192 + 16 * f + b) ++ be 4 v) ++ (idb d ++ idb c)) ++ tt) ++ (if f = 3 then nilS else be 2 (16384 + (p.size : Int)))), ())), (mkH f b v d c t p l, ()))) ?_ ?_
  · refine EvP.nite (fun h0 => ?_) (fun h0 => ?_)
    · rw [if_neg (show ¬ f = 3 from h0)]
      dsimp only [mkH]
      rw [i64w (by omega) (by omega), u64i (by omega) (by omega)]
      refine EvP.to (bigEndian_ok _ 2 (by omega) (by decide)) (EvP.chk1 ?_ (EvP.some rfl))
      dsimp only; simp only [ByteArray.size_append, be_size, idb_size]; omega
    · rw [if_pos (show f = 3 from h0), app_nil]
      exact EvP.some rfl
  have hpp : (if f = 3 then nilS else be 2 (16384 + (p.size : Int))).size ≤ 2 := by
    split
    · exact Nat.zero_le _
    · rw [be_size]; exact Nat.le_refl _
  refine EvP.chk1 ?_ (EvP.some ?_)
  · dsimp only [mkH]; simp only [ByteArray.size_append, be_size, idb_size]; omega
  · dsimp only [mkH]; simp only [app_assoc]
theorem HeaderBytes_impl (f b v : Int) (d c t p : ByteArray) (l : List Int) (hl : l.length ≤ 2000000) : EvP (fun N => impl_HeaderBytes N f b v d c t p l) (· = hwOf f b v d c t p l) := by
  refine EvP.of (fun N => impl_HeaderBytes.eq N _ _ _ _ _ _ _ _) (EvP.to (good_impl f b v d c t p l hl) ?_)
  unfold hwOf
  refine EvP.selnb rfl (fun h => ?_) (fun h => ?_)
  · rw [if_neg h]; exact EvP.some rfl
  · rw [if_pos h]
    refine EvP.andK (hb_impl h) fun r hr => EvP.some ?_
    rw [hr]
end Go.Proofs.YtkfpfcpmaejeoaaGreat.CFnRetried
