/- The keyed hash: what both packages give. -/
import Derived.Test.YtknoemdkfhkkhaaQShaTwoFnDerived
set_option linter.unusedVariables false
set_option linter.unusedSimpArgs false
namespace Go.Proofs.Ytknoemdkfhkkhaa.CFnDerived
open Go Go.Proofs Go.Proofs.YtknoemdkfhkkhaaPM Go.Proofs.Ytknoemdkfhkkhaa.Q Go.Proofs.Ytknoemdkfhkkhaa.GFnDerived

theorem bytesL_Zb : ∀ k, bytesL (Zb k) = List.replicate k (0 : Int)
  | 0 => rfl
  | k + 1 => by rw [Zb, bytesL_append, bytesL_Zb k, List.replicate_succ]; rfl
theorem shaF_size (s : ByteArray) : (shaF s).size = 32 := by rw [shaF, strL_size, outL_len]
/-- Bytes, each with one laid over it. -/
def mx (c : Int) (l : List Int) : List Int := l.map fun x => Go.bits .xor .u8 x c
theorem mx_len (c : Int) (l : List Int) : (mx c l).length = l.length := List.length_map _
theorem take_one {l : List Int} {i : Nat} (h : i < l.length) : l.take (i + 1) = l.take i ++ [l.getD i 0] := by
  rw [List.take_add_one, List.getD_eq_getElem?_getD, List.getElem?_eq_getElem h]; rfl
theorem mx_one (c : Int) {l : List Int} {i : Nat} (h : i < l.length) : mx c (l.take (i + 1)) = mx c (l.take i) ++ [Go.bits .xor .u8 (l.getD i 0) c] := by
  rw [take_one h, mx, List.map_append]; rfl
theorem set_front {A Z : List Int} {i : Nat} (hA : A.length = i) (h : i < Z.length) (v : Int) : (A ++ Z.drop i).set i v = (A ++ [v]) ++ Z.drop (i + 1) := by
  subst hA
  rw [List.set_append_right _ _ (Nat.le_refl _), Nat.sub_self, List.drop_eq_getElem_cons h, List.set_cons_zero, List.append_assoc]
  rfl
theorem getD_front {A Z : List Int} {i : Nat} (hA : A.length = i) : (A ++ Z.drop i).getD i 0 = Z.getD i 0 := by
  subst hA
  simp [List.getD_eq_getElem?_getD, List.getElem?_append_right, List.getElem?_drop]
theorem padded_impl (key : ByteArray) (c : Int) (hk : key.size ≤ 1000000) : EvP (fun N => impl_padded N key c) (· = ((strL (mx c (bytesL key)), ()), ())) := by
  refine EvP.of (fun N => impl_padded.eq N _ _) ?_
  have hl : (bytesL key).length ≤ 1000000 := by rw [bytesL_len]; exact hk
  generalize bytesL key = l at hl
  refine EvP.to (a := ((((), ()), (mx c l, ())))) ?_ (EvP.some rfl)
  refine EvP.count (f := fun N i (a : List Int) => impl_padded.l0 N c (l.length : Int) i a) (n := l.length) (inv := fun i a => a = mx c (l.take i) ++ l.drop i) ?_ ?_ 0 _ (Nat.zero_le _) rfl
  · rintro i a hi rfl next
    have hA : (mx c (l.take i)).length = i := by rw [mx_len, List.length_take, Nat.min_eq_left (Nat.le_of_lt hi)]
    have hlen : (mx c (l.take i) ++ l.drop i).length = l.length := by rw [List.length_append, hA, List.length_drop]; omega
    refine EvP.step (fun N => impl_padded.l0.eq N _ _ _ _) (EvP.pos (by omega) (EvP.chk2 (by omega) (by omega) (EvP.chk2 (by omega) (by omega) ?_)))
    rw [Int.toNat_natCast, getD_front hA, set_front hA hi, show IntKind.i64.wrap ((i : Int) + 1) = ((i + 1 : Nat) : Int) by rw [i64w (by omega) (by omega)]; omega]
    exact next _ (by rw [mx_one c hi])
  · rintro a rfl
    refine EvP.step (fun N => impl_padded.l0.eq N _ _ _ _) (EvP.neg (by omega) (EvP.some ?_))
    rw [List.take_length, List.drop_length, List.append_nil]
/-- A key's block. -/
def keyH (k : ByteArray) : ByteArray := if 64 < (k.size : Int) then shaF k else k
theorem keyH_size (k : ByteArray) : (keyH k).size ≤ 64 := by
  unfold keyH
  split
  · rw [shaF_size]; decide
  · omega
def blk (k : ByteArray) : ByteArray := k ++ Zb (64 - k.size)
theorem blk_size {k : ByteArray} (h : k.size ≤ 64) : (blk k).size = 64 := by rw [blk, ByteArray.size_append, Zb_size]; omega
def hmacB (b s : ByteArray) : ByteArray := shaF (strL (mx 92 (bytesL b)) ++ shaF (strL (mx 54 (bytesL b)) ++ s))
/-- The keyed hash. -/
def hmacF (k s : ByteArray) : ByteArray := hmacB (blk (keyH k)) s
theorem hmacF_size (k s : ByteArray) : (hmacF k s).size = 32 := shaF_size _
theorem hmac_impl (k s : ByteArray) (hk : k.size ≤ 100000) (hs : s.size ≤ 100000) : EvP (fun N => impl_hmac N k s) (· = ((hmacF k s, ()), ())) := by
  refine EvP.of (fun N => impl_hmac.eq N _ _) (EvP.to (a := ((keyH k, ()), ())) ?_ ?_)
  · unfold keyH
    by_cases h : 64 < (k.size : Int)
    · rw [if_pos h]; exact EvP.pos h (EvP.to (sha_impl k (by omega)) (EvP.some rfl))
    · rw [if_neg h]; exact EvP.neg h (EvP.some rfl)
  · have hz := keyH_size k
    unfold hmacF
    generalize keyH k = q at hz
    have hb := blk_size hz
    dsimp only
    rw [i64w (n := 64 - (q.size : Int)) (by omega) (by omega)]
    refine EvP.to (a := ((Zb (64 - q.size), ()), ())) (EvP.of (fun N => strings_Repeat.eq N _ _) (EvP.chk1 (by omega) (EvP.chk1 (by omega) (EvP.chk1 (by rw [one_size]; omega) (EvP.some (by rw [show Int.toNat (64 - (q.size : Int)) = 64 - q.size by omega, repL_zero])))))) ?_
    dsimp only
    rw [show q ++ Zb (64 - q.size) = blk q from rfl]
    have e1 : ∀ c, (strL (mx c (bytesL (blk q)))).size = 64 := fun c => by rw [strL_size, mx_len, bytesL_len, hb]
    refine EvP.chk1 (by rw [Zb_size]; omega) (EvP.to (padded_impl (blk q) 92 (by omega)) (EvP.to (padded_impl (blk q) 54 (by omega)) (EvP.chk1 (by (try dsimp only); rw [e1]; omega) ?_)))
    refine EvP.to (sha_impl _ (by rw [ByteArray.size_append]; (try dsimp only); rw [e1]; omega)) (EvP.chk1 (by (try dsimp only); rw [e1, shaF_size]; omega) ?_)
    exact EvP.to (sha_impl _ (by rw [ByteArray.size_append]; (try dsimp only); rw [e1, shaF_size]; omega)) (EvP.some rfl)
theorem keyRow {q : ByteArray} (h : q.size ≤ 64) : ((bytesL q).take (min (bytesL q).length (List.replicate 64 (0 : Int)).length)) ++ ((List.replicate 64 (0 : Int)).drop (min (bytesL q).length (List.replicate 64 (0 : Int)).length)) = bytesL (blk q) := by
  rw [blk, bytesL_append, bytesL_Zb, List.length_replicate, bytesL_len, Nat.min_eq_left h, List.take_of_length_le (by rw [bytesL_len]; exact Nat.le_refl _), List.drop_replicate]
theorem pads_spec (s : ByteArray) (p q : List Int) {l : List Int} (hl : l.length = 64) :
    EvP (fun N => spec_l4H_hmac.l0 N s (l.length : Int) 0 p q l (List.replicate 64 0) (List.replicate 64 0)) (· = ((((), ((), ((), ()))), ((p, (q, ())), (l, (mx 54 l, (mx 92 l, ()))))))) := by
  refine EvP.count (f := fun N i (a : List Int × List Int) => spec_l4H_hmac.l0 N s (l.length : Int) i p q l a.1 a.2) (n := 64)
    (inv := fun i a => a = (mx 54 (l.take i) ++ (List.replicate 64 (0 : Int)).drop i, mx 92 (l.take i) ++ (List.replicate 64 (0 : Int)).drop i)) ?_ ?_ 0 (List.replicate 64 0, List.replicate 64 0) (Nat.zero_le _) rfl
  · rintro i a hi rfl next
    have hA : ∀ c, (mx c (l.take i)).length = i := fun c => by rw [mx_len, List.length_take, hl]; omega
    have hlen : ∀ c, (mx c (l.take i) ++ (List.replicate 64 (0 : Int)).drop i).length = 64 := fun c => by rw [List.length_append, hA, List.length_drop, List.length_replicate]; omega
    have h54 := hlen 54
    have h92 := hlen 92
    refine EvP.step (fun N => spec_l4H_hmac.l0.eq N _ _ _ _ _ _ _ _) (EvP.pos (by omega) (EvP.chk2 (by omega) (by omega) (EvP.chk2 (by omega) (by (try dsimp only); omega) (EvP.chk2 (by omega) (by (try dsimp only); omega) ?_))))
    dsimp only
    rw [Int.toNat_natCast, set_front (hA 54) (by rw [List.length_replicate]; exact hi), set_front (hA 92) (by rw [List.length_replicate]; exact hi), show IntKind.i64.wrap ((i : Int) + 1) = ((i + 1 : Nat) : Int) by rw [i64w (by omega) (by omega)]; omega]
    exact next (_, _) (by rw [mx_one 54 (by omega), mx_one 92 (by omega)])
  · rintro a rfl
    refine EvP.step (fun N => spec_l4H_hmac.l0.eq N _ _ _ _ _ _ _ _) (EvP.neg (by omega) (EvP.some ?_))
    dsimp only
    rw [List.take_of_length_le (by omega), List.drop_replicate, show 64 - 64 = 0 from rfl, List.replicate_zero, List.append_nil, List.append_nil]
theorem hmac_spec (k s : ByteArray) (hk : k.size ≤ 100000) (hs : s.size ≤ 100000) : EvP (fun N => spec_l4H_hmac N k s K64 H8) (· = ((hmacF k s, ()), ((K64, (H8, ())), ()))) := by
  refine EvP.of (fun N => spec_l4H_hmac.eq N _ _ _ _) (EvP.to (a := (((), (keyH k, ())), ((K64, (H8, ())), ()))) ?_ ?_)
  · unfold keyH
    by_cases h : 64 < (k.size : Int)
    · rw [if_pos h]; exact EvP.pos h (EvP.to (sum_spec k (by omega)) (EvP.some rfl))
    · rw [if_neg h]; exact EvP.neg h (EvP.some rfl)
  · have hz := keyH_size k
    unfold hmacF
    generalize keyH k = q at hz
    have hb := blk_size hz
    dsimp only
    rw [keyRow hz]
    have e1 : ∀ c, (strL (mx c (bytesL (blk q)))).size = 64 := fun c => by rw [strL_size, mx_len, bytesL_len, hb]
    refine EvP.to (pads_spec s K64 H8 (by rw [bytesL_len, hb])) (EvP.chk1 (by (try dsimp only); rw [e1]; omega) ?_)
    refine EvP.to (sum_spec _ (by (try dsimp only); rw [ByteArray.size_append, e1]; omega)) (EvP.chk1 (by (try dsimp only); rw [e1, shaF_size]; omega) ?_)
    exact EvP.to (sum_spec _ (by (try dsimp only); rw [ByteArray.size_append, e1, shaF_size]; omega)) (EvP.some rfl)
end Go.Proofs.Ytknoemdkfhkkhaa.CFnDerived
