/- The packet that asks to come again: both packages make the same. -/
import Derived.Test.YtkfpfcpmaejeoaaGreatQHeadPutAFnRetried
import Derived.Test.YtkfpfcpmaejeoaaGreatQTagFnRetried
set_option linter.unusedVariables false
set_option linter.unusedSimpArgs false
namespace Go.Proofs.YtkfpfcpmaejeoaaGreat.CFnRetried
open Go Go.Proofs Go.Proofs.YtkfpfcpmaejeoaaGreatPM Go.Proofs.YtkfpfcpmaejeoaaGreat.Q Go.Proofs.YtkfpfcpmaejeoaaGreat.GFnRetried

abbrev Hd7 := Int × (Int × (Int × (ByteArray × (ByteArray × (ByteArray × (ByteArray × (Unit × Unit)))))))
def mkH7 (f b v : Int) (d c t p : ByteArray) : Hd7 := (f, (b, (v, (d, (c, (t, (p, ((), ()))))))))
theorem ids_nil (f b v : Int) (d c t p : ByteArray) (hd : d.size ≤ 255) (hc : c.size ≤ 255) : EvP (fun N => impl_Header_ids N f b v d c t p) (· = ((idb d ++ idb c, ()), (mkH7 f b v d c t p, ()))) := by
  refine EvP.of (fun N => impl_Header_ids.eq N _ _ _ _ _ _ _) (EvP.to (byteCounted_impl d hd) (EvP.to (byteCounted_impl c hc) (EvP.chk1 ?_ (EvP.some rfl))))
  dsimp only
  rw [idb_size, idb_size]
  omega
/-- What asks to come again. -/
def hb3 (v : Int) (c scid token : ByteArray) : ByteArray := hbOf 3 0 v c scid nilS token []
theorem hb_nil {v : Int} {c scid token : ByteArray} (hv : 1 ≤ v ∧ v ≤ 4294967295) (hc : c.size ≤ 20) (hs : scid.size ≤ 20) (ht : token.size ≤ 1200) :
    EvP (fun N => impl_Header_bytes N 3 0 v c scid nilS token) (· = ((hb3 v c scid token, ()), (mkH7 3 0 v c scid nilS token, ()))) := by
  refine EvP.of (fun N => impl_Header_bytes.eq N _ _ _ _ _ _ _) (EvP.neg (by decide) (EvP.neg (by decide) ?_))
  rw [i64w (n := 16 * 3) (by omega) (by omega), i64w (n := 192 + 16 * 3) (by omega) (by omega), i64w (by omega) (by omega), u64i (n := 192 + 16 * 3 + 0) (by omega) (by omega), u64i (n := v) (by omega) (by omega)]
  refine EvP.to (bigEndian_ok _ 1 (by omega) (by decide)) (EvP.to (bigEndian_ok v 4 (by omega) (by decide)) (EvP.chk1 ?_ (EvP.to (ids_nil 3 0 v c scid nilS token (by omega) (by omega)) (EvP.chk1 ?_ ?_))))
  · dsimp only; rw [be_size, be_size]; omega
  · dsimp only; simp only [ByteArray.size_append, be_size, idb_size]; omega
  refine EvP.to (EvP.neg (by dsimp only [mkH7]; decide) (EvP.some rfl)) (EvP.to (EvP.nneg rfl (EvP.some rfl)) (EvP.chk1 ?_ (EvP.some ?_)))
  · dsimp only [mkH7]; simp only [ByteArray.size_append, be_size, idb_size]; omega
  · dsimp only [mkH7]
    rw [hb3, hbOf, if_neg (by decide), if_neg (by decide), if_neg (by decide), if_pos rfl]
    simp only [app_assoc]
    rfl
def rpOk (f b v : Int) (d c t p : ByteArray) (l : List Int) (token scid : ByteArray) : Prop := GoodH f b v d c t p l ∧ f = 0 ∧ (1 ≤ (token.size : Int) ∧ (token.size : Int) ≤ 200) ∧ ¬ 20 < (scid.size : Int)
instance (f b v : Int) (d c t p : ByteArray) (l : List Int) (token scid : ByteArray) : Decidable (rpOk f b v d c t p l token scid) := by unfold rpOk; infer_instance
/-- The tag of what asks to come again. -/
def rtag (v : Int) (d c scid token : ByteArray) : ByteArray := sealF rkey rnonce (idb d ++ hb3 v c scid token) ⟨#[]⟩
def rpR (f b v : Int) (d c t p : ByteArray) (l : List Int) (token scid : ByteArray) : (Hd7 × (Bool × Unit)) × Unit :=
  if rpOk f b v d c t p l token scid then ((mkH7 3 0 v c scid nilS (token ++ rtag v d c scid token), (true, ())), ()) else ((mkH7 0 0 0 nilS nilS nilS nilS, (false, ())), ())
theorem rp_of {f b v : Int} {d c t p : ByteArray} {l : List Int} {token scid : ByteArray} (h : rpOk f b v d c t p l token scid) : (1 ≤ v ∧ v ≤ 4294967295) ∧ d.size ≤ 20 ∧ c.size ≤ 20 ∧ scid.size ≤ 20 ∧ 1 ≤ token.size ∧ token.size ≤ 200 := by
  obtain ⟨g, h1, h2, h3⟩ := h
  have h4 := (form_of g (by omega) (by omega)).2
  obtain ⟨g1, g2, _⟩ := g.1
  omega
theorem hb3_size {v : Int} {c scid token : ByteArray} (hc : c.size ≤ 20) (hs : scid.size ≤ 20) (ht : token.size ≤ 200) : (hb3 v c scid token).size ≤ 300 := by
  rw [hb3, hbOf, if_neg (by decide), if_neg (by decide), if_neg (by decide), if_pos rfl]
  have : nilS.size = 0 := rfl
  simp only [ByteArray.size_append, be_size, idb_size]
  omega
theorem tagR_of {d q : ByteArray} (h : d.size ≤ 20) (h2 : q.size ≤ 1000) : tagR d q = ((sealF rkey rnonce (idb d ++ q) ⟨#[]⟩, (true, ())), ()) := by
  rw [tagR, if_neg (by omega)]
  rfl
theorem Retry_impl (f b v : Int) (d c t p : ByteArray) (l : List Int) (token scid : ByteArray) (hl : l.length ≤ 2000000) : EvP (fun N => impl_RetryPacket N f b v d c t p l token scid) (· = rpR f b v d c t p l token scid) := by
  refine EvP.of (fun N => impl_RetryPacket.eq N _ _ _ _ _ _ _ _ _ _) (EvP.to (a := (((), ((), (!(decide (rpOk f b v d c t p l token scid)), ()))), (mkH f b v d c t p l, (mkH7 0 0 0 nilS nilS nilS nilS, ())))) ?_ ?_)
  · refine EvP.to (good_impl f b v d c t p l hl) (EvP.nite (fun a1 => EvP.some ?_) (fun a1 => EvP.nite (fun a2 => EvP.some ?_) (fun a2 => EvP.to (in_impl _ 1 200) (EvP.nite (fun a3 => EvP.some ?_) (fun a3 => EvP.some ?_)))))
    · rw [decide_eq_false (fun h => a1 h.1)]; rfl
    · rw [decide_eq_false (fun h => a2 h.2.1)]; rfl
    · rw [decide_eq_false (fun h => a3 h.2.2.1)]; rfl
    · by_cases a4 : 20 < (scid.size : Int)
      · rw [decide_eq_true a4, decide_eq_false (fun h : rpOk f b v d c t p l token scid => h.2.2.2 a4)]; rfl
      · rw [decide_eq_false a4, decide_eq_true (show rpOk f b v d c t p l token scid from ⟨a1, a2, a3, a4⟩)]; rfl
  · refine EvP.nite (fun h => EvP.some ?_) (fun h => ?_)
    · rw [rpR, if_neg h]; rfl
    · obtain ⟨h1, h2, h3, h4, h5, h6⟩ := rp_of h
      have hz := hb3_size (v := v) h3 h4 h6
      refine EvP.to (hb_nil h1 h3 h4 (by omega)) (EvP.to (Tag_impl d (hb3 v c scid token)) ?_)
      rw [tagR_of h2 (by omega)]
      refine EvP.chk1 ?_ (EvP.some ?_)
      · dsimp only [mkH7]; rw [sealF_size]; have : (⟨#[]⟩ : ByteArray).size = 0 := rfl; omega
      · rw [rpR, if_pos h]; rfl
theorem Retry_spec (f b v : Int) (d c t p : ByteArray) (l : List Int) (token scid : ByteArray) (hl : l.length ≤ 2000000) : EvP (fun N => spec_RetryPacket N f b v d c t p l token scid) (· = rpR f b v d c t p l token scid) := by
  refine EvP.of (fun N => spec_RetryPacket.eq N _ _ _ _ _ _ _ _ _ _) (EvP.to (a := (((), ((), (!(decide (rpOk f b v d c t p l token scid)), ()))), (mkH f b v d c t p l, (mkH7 0 0 0 nilS nilS nilS nilS, ())))) ?_ ?_)
  · refine EvP.to (good_spec f b v d c t p l hl) (EvP.nite (fun a1 => EvP.some ?_) (fun a1 => EvP.nite (fun a2 => EvP.some ?_) (fun a2 => EvP.to (in_spec _ 1 200) (EvP.nite (fun a3 => EvP.some ?_) (fun a3 => EvP.some ?_)))))
    · rw [decide_eq_false (fun h => a1 h.1)]; rfl
    · rw [decide_eq_false (fun h => a2 h.2.1)]; rfl
    · rw [decide_eq_false (fun h => a3 h.2.2.1)]; rfl
    · by_cases a4 : 20 < (scid.size : Int)
      · rw [decide_eq_true a4, decide_eq_false (fun h : rpOk f b v d c t p l token scid => h.2.2.2 a4)]; rfl
      · rw [decide_eq_false a4, decide_eq_true (show rpOk f b v d c t p l token scid from ⟨a1, a2, a3, a4⟩)]; rfl
  · refine EvP.nite (fun h => EvP.some ?_) (fun h => ?_)
    · rw [rpR, if_neg h]; rfl
    · obtain ⟨h1, h2, h3, h4, h5, h6⟩ := rp_of h
      have hz := hb3_size (v := v) h3 h4 h6
      have g : GoodH 3 0 v c scid nilS token [] := by
        refine ⟨⟨by omega, by omega, ⟨by decide, by decide⟩, by decide, by omega⟩, .inr rfl, .inr rfl, .inl ⟨by decide, h1, ?_⟩⟩
        intro e
        rw [e] at h5
        exact absurd h5 (by decide)
      refine EvP.to (hb_spec g) (EvP.to (a := ((rtag v d c scid token, ()), ())) (l10Tag_ok h2 (by dsimp only [mkH, mkH7]; rw [← hb3]; omega)) (EvP.chk1 ?_ (EvP.some ?_)))
      · dsimp only; rw [rtag, sealF_size]; have : (⟨#[]⟩ : ByteArray).size = 0 := rfl; omega
      · rw [rpR, if_pos h]; rfl
end Go.Proofs.YtkfpfcpmaejeoaaGreat.CFnRetried
