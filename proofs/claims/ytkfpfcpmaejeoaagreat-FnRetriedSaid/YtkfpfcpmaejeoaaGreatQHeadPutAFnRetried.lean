/- The reference writes a good header's bytes as told. -/
import Derived.Test.YtkfpfcpmaejeoaaGreatQHeadW
import Derived.Test.YtkfpfcpmaejeoaaGreatQVarPutFnRetried
import Derived.Test.YtkfpfcpmaejeoaaGreatQGoodHImplFnRetried
import Derived.Test.YtkfpfcpmaejeoaaGreatQGoodHSpecFnRetried
set_option linter.unusedVariables false
set_option linter.unusedSimpArgs false
namespace Go.Proofs.YtkfpfcpmaejeoaaGreat.CFnRetried
open Go Go.Proofs Go.Proofs.YtkfpfcpmaejeoaaGreatPM Go.Proofs.YtkfpfcpmaejeoaaGreat.Q Go.Proofs.YtkfpfcpmaejeoaaGreat.GFnRetried

theorem byteCounted_impl (s : ByteArray) (h : s.size ≤ 255) : EvP (fun N => impl_byteCounted N s) (· = ((idb s, ()), ())) := by
  refine EvP.of (fun N => impl_byteCounted.eq N _) ?_
  rw [u64i (by omega) (by omega)]
  refine EvP.to (bigEndian_ok _ 1 (by omega) (by decide)) (EvP.chk1 ?_ (EvP.some rfl))
  dsimp only
  rw [be_size]
  omega
theorem id_spec (s : ByteArray) (h : s.size ≤ 255) : EvP (fun N => spec_l2Id N s) (· = ((idb s, ()), ())) := by
  refine EvP.of (fun N => spec_l2Id.eq N _) ?_
  refine EvP.to (fixed_ok _ 1 (by decide)) (EvP.chk1 ?_ (EvP.some rfl))
  dsimp only
  rw [be_size]
  omega
theorem idb_size (d : ByteArray) : (idb d).size = 1 + d.size := by unfold idb; rw [ByteArray.size_append, be_size]
theorem counted_impl2 (s : ByteArray) (h : s.size ≤ 1000000) : EvP (fun N => impl_counted N s) (· = ((vbs (s.size : Int) ++ s, ()), ())) := by
  refine EvP.of (fun N => impl_counted.eq N _) (EvP.to (varint_impl (by omega) (by omega)) (EvP.chk1 ?_ (EvP.some rfl)))
  have := vsz_pos (s.size : Int)
  dsimp only
  rw [vbs_size]
  omega
theorem wordsW_spec (h : Hd) (C : ByteArray) (l : List Int) (hl : l.length ≤ 1000) (hC : C.size ≤ 1000) :
    EvP (fun N => spec_l2Bytes.l0 N l (l.length : Int) C 0 h.1 h.2.1 h.2.2.1 h.2.2.2.1 h.2.2.2.2.1 h.2.2.2.2.2.1 h.2.2.2.2.2.2.1 h.2.2.2.2.2.2.2.1) (· = ((C ++ wordsB l, ()), (h, ()))) := by
  refine EvP.count (f := fun N i (a : ByteArray) => spec_l2Bytes.l0 N l (l.length : Int) a i h.1 h.2.1 h.2.2.1 h.2.2.2.1 h.2.2.2.2.1 h.2.2.2.2.2.1 h.2.2.2.2.2.2.1 h.2.2.2.2.2.2.2.1) (n := l.length) (inv := fun i a => a = C ++ wordsB (l.take i)) ?_ ?_ 0 C (by omega) (by show C = C ++ nilS; rw [app_nil])
  · rintro i a hi rfl next
    refine EvP.step (fun N => spec_l2Bytes.l0.eq N _ _ _ _ _ _ _ _ _ _ _ _) (EvP.pos (by omega) (EvP.chk2 (by omega) (by omega) ?_))
    rw [Int.toNat_natCast]
    have hg : l.getD i 0 = l[i] := by rw [List.getD_eq_getElem?_getD, List.getElem?_eq_getElem hi]; rfl
    rw [hg]
    refine EvP.to (fixed_ok _ 4 (by decide)) (EvP.chk1 ?_ ?_)
    · dsimp only
      rw [ByteArray.size_append, wordsB_size, be_size, List.length_take]
      omega
    · rw [show IntKind.i64.wrap ((i : Int) + 1) = ((i + 1 : Nat) : Int) by rw [i64w (by omega) (by omega)]; omega]
      refine next _ ?_
      rw [List.take_succ_eq_append_getElem hi, wordsB_snoc, app_assoc]
  · rintro a rfl
    refine EvP.step (fun N => spec_l2Bytes.l0.eq N _ _ _ _ _ _ _ _ _ _ _ _) (EvP.neg (by omega) (EvP.some ?_))
    rw [List.take_length]
theorem first_tab : ∀ b : Fin 16, Go.bits .or .i64 64 ((b : Nat) : Int) = 64 + ((b : Nat) : Int) ∧ Go.bits .or .i64 192 ((b : Nat) : Int) = 192 + ((b : Nat) : Int) ∧
    ∀ f : Fin 4, Go.bits .or .i64 (Go.bits .or .i64 192 (shlI .i64 ((f : Nat) : Int) 4)) ((b : Nat) : Int) = 192 + 16 * ((f : Nat) : Int) + ((b : Nat) : Int) := by decide +kernel
theorem first_bits {b : Int} (h0 : 0 ≤ b) (h1 : b ≤ 15) : Go.bits .or .i64 64 b = 64 + b ∧ Go.bits .or .i64 192 b = 192 + b ∧ ∀ {f : Int}, 0 ≤ f → f ≤ 3 → Go.bits .or .i64 (Go.bits .or .i64 192 (shlI .i64 f 4)) b = 192 + 16 * f + b := by
  obtain ⟨n, rfl⟩ := Int.eq_ofNat_of_zero_le h0
  have := first_tab ⟨n, by omega⟩
  refine ⟨this.1, this.2.1, fun {f} hf0 hf1 => ?_⟩
  obtain ⟨m, rfl⟩ := Int.eq_ofNat_of_zero_le hf0
  exact this.2.2 ⟨m, by omega⟩
theorem form_of {f b v : Int} {d c t p : ByteArray} {l : List Int} (g : GoodH f b v d c t p l) (h5 : f ≠ 5) (h4 : f ≠ 4) : (0 ≤ f ∧ f ≤ 3) ∧ (1 ≤ v ∧ v ≤ 4294967295) := by
  rcases g.2.2.2 with h | h | h
  · exact ⟨h.1, h.2.1⟩
  · exact absurd h.1 h4
  · exact absurd h.1 h5
theorem list_of {f b v : Int} {d c t p : ByteArray} {l : List Int} (g : GoodH f b v d c t p l) (h4 : f = 4) : l.length ≤ 20 ∧ ∀ n ∈ l, 0 ≤ n ∧ n ≤ 4294967295 := by
  rcases g.2.2.2 with h | h | h
  · have := h.1; omega
  · exact ⟨h.2.2.2.1.2, h.2.2.2.2⟩
  · have := h.1; omega
theorem hb_spec {f b v : Int} {d c t p : ByteArray} {l : List Int} (g : GoodH f b v d c t p l) : EvP (fun N => spec_l2Bytes N f b v d c t p l) (· = ((hbOf f b v d c t p l, ()), ())) := by
  obtain ⟨g1, g2, ⟨g3, g3'⟩, g4, g5⟩ := g.1
  obtain ⟨b1, b2, b3⟩ := first_bits g3 g3'
  refine EvP.of (fun N => spec_l2Bytes.eq N _ _ _ _ _ _ _ _) ?_
  unfold hbOf
  refine EvP.ite (fun h5 => ?_) (fun h5 => ?_)
  · rw [if_pos h5, b1]
    refine EvP.to (fixed_ok _ 1 (by decide)) (EvP.chk1 ?_ (EvP.chk1 ?_ (EvP.some ?_))) <;> dsimp only
    · rw [be_size]; omega
    · rw [ByteArray.size_append, be_size]; omega
    · rw [app_assoc]
  rw [if_neg h5]
  refine EvP.ite (fun h4 => ?_) (fun h4 => ?_)
  · rw [if_pos h4, b2]
    obtain ⟨hl, hw⟩ := list_of g h4
    refine EvP.to (fixed_ok _ 1 (by decide)) (EvP.to (fixed_ok 0 4 (by decide)) (EvP.chk1 ?_ (EvP.to (id_spec d (by omega)) (EvP.chk1 ?_ (EvP.to (id_spec c (by omega)) (EvP.chk1 ?_ ?_)))))) <;> dsimp only
    · rw [be_size, be_size]; omega
    · simp only [ByteArray.size_append, be_size, idb_size]; omega
    · simp only [ByteArray.size_append, be_size, idb_size]; omega
    · refine EvP.to (wordsW_spec (mkH f b v d c t p l) _ l (by omega) (by simp only [ByteArray.size_append, be_size, idb_size]; omega)) (EvP.some ?_)
      dsimp only
      simp only [app_assoc]
  rw [if_neg h4]
  obtain ⟨⟨f0, f3⟩, ⟨v0, v1⟩⟩ := form_of g h5 h4
  rw [b3 f0 f3]
  refine EvP.to (fixed_ok _ 1 (by decide)) (EvP.to (fixed_ok v 4 (by decide)) (EvP.chk1 ?_ (EvP.to (id_spec d (by omega)) (EvP.chk1 ?_ (EvP.to (id_spec c (by omega)) (EvP.chk1 ?_ ?_))))))
  · dsimp only; rw [be_size, be_size]; omega
  · dsimp only; simp only [ByteArray.size_append, be_size, idb_size]; omega
  · dsimp only; simp only [ByteArray.size_append, be_size, idb_size]; omega
  have ht : (if f = 0 then vbs (t.size : Int) ++ t else nilS).size ≤ 300 := by
    have := vsz_pos (t.size : Int)
    split
    · rw [ByteArray.size_append, vbs_size]; omega
    · exact Nat.zero_le _
  refine EvP.to (a := (((), (((((be 1 (192 + 16 * f + b) ++ be 4 v) ++ idb d) ++ idb c) ++ (if f = 0 then vbs (t.size : Int) ++ t else nilS)), ())), (mkH f b v d c t p l, ()))) ?_ ?_
  · refine EvP.ite (fun h0 => ?_) (fun h0 => ?_)
    · rw [if_pos (show f = 0 from h0)]
      have := vsz_pos (t.size : Int)
      refine EvP.to (var_spec (by omega) (by omega)) (EvP.chk1 ?_ (EvP.chk1 ?_ (EvP.some rfl)))
      · dsimp only; rw [vbs_size]; omega
      · dsimp only; simp only [ByteArray.size_append, be_size, idb_size, vbs_size]; omega
    · rw [if_neg (show ¬ f = 0 from h0), app_nil]
      exact EvP.some rfl
  generalize (if f = 0 then vbs (t.size : Int) ++ t else nilS) = tt at ht ⊢
  dsimp only [mkH]
  refine EvP.nite (fun h0 => ?_) (fun h0 => ?_)
  · rw [if_neg (show ¬ f = 3 from h0), or_i64 (n := (p.size : Int)) (by omega) 14 1 16384 (by decide) (by decide) (by decide) (by simp only [Int.reducePow]; omega) (by omega)]
    refine EvP.to (fixed_ok _ 2 (by decide)) (EvP.chk1 ?_ (EvP.chk1 ?_ (EvP.some ?_))) <;> dsimp only
    · simp only [ByteArray.size_append, be_size, idb_size]; omega
    · simp only [ByteArray.size_append, be_size, idb_size]; omega
    · rw [Int.add_comm (p.size : Int)]; simp only [app_assoc]
  · rw [if_pos (show f = 3 from h0)]
    refine EvP.chk1 ?_ (EvP.some ?_)
    · simp only [ByteArray.size_append, be_size, idb_size]; omega
    · simp only [app_assoc, nil_app]
/-- What both packages answer. -/
def hwOf (f b v : Int) (d c t p : ByteArray) (l : List Int) : (ByteArray × (Bool × Unit)) × Unit := if GoodH f b v d c t p l then ((hbOf f b v d c t p l, (true, ())), ()) else ((nilS, (false, ())), ())
end Go.Proofs.YtkfpfcpmaejeoaaGreat.CFnRetried
