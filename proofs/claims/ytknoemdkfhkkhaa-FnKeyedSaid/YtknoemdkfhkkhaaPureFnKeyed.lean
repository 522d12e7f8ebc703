/- FnKeyed: both packages key alike, the keyed hash is RFC 2104's, and a long key is as its hash. -/
import Derived.Test.YtknoemdkfhkkhaaQHmacFullFnKeyed
import Derived.Test.YtknoemdkfhkkhaaSFnKeyed
set_option linter.unusedVariables false
set_option linter.unusedSimpArgs false
namespace Go.Proofs.Ytknoemdkfhkkhaa.Pure
open Go Go.Proofs Go.Proofs.YtknoemdkfhkkhaaPM Go.Proofs.Ytknoemdkfhkkhaa.Q Go.Proofs.Ytknoemdkfhkkhaa.CFnKeyed Go.Proofs.Ytknoemdkfhkkhaa.GFnKeyed

theorem blk_getD {k : ByteArray} {i : Nat} : (bytesL (blk k)).getD i 0 = if (i : Int) < (k.size : Int) then (bytesL k).getD i 0 else 0 := by
  rw [blk, bytesL_append, bytesL_Zb]
  split
  · next h => simp only [List.getD_eq_getElem?_getD]; rw [List.getElem?_append_left (by rw [bytesL_len]; omega)]
  · next h =>
    simp only [List.getD_eq_getElem?_getD]
    rw [List.getElem?_append_right (by rw [bytesL_len]; omega)]
    cases e : (List.replicate (64 - k.size) (0 : Int))[i - (bytesL k).length]? with
    | none => rfl
    | some x => exact List.eq_of_mem_replicate (List.mem_of_getElem? e)
theorem pads_law (o d : ByteArray) {k : ByteArray} (hk : k.size ≤ 64) :
    EvP (fun N => laws_FnKeyed.l0 N o d k ((List.replicate 64 (0 : Int)).length : Int) 0 (List.replicate 64 0) (List.replicate 64 0)) (· = ((((), ((), ())), (mx 54 (bytesL (blk k)), (mx 92 (bytesL (blk k)), ()))))) := by
  have hl : (bytesL (blk k)).length = 64 := by rw [bytesL_len, blk_size hk]
  have hg : ∀ i : Nat, _ := fun i => blk_getD (k := k) (i := i)
  generalize hL : bytesL (blk k) = l at hl hg
  rw [show ((List.replicate 64 (0 : Int)).length : Int) = 64 from rfl]
  refine EvP.count (f := fun N i (a : List Int × List Int) => laws_FnKeyed.l0 N o d k 64 i a.1 a.2) (n := 64)
    (inv := fun i a => a = (mx 54 (l.take i) ++ (List.replicate 64 (0 : Int)).drop i, mx 92 (l.take i) ++ (List.replicate 64 (0 : Int)).drop i)) ?_ ?_ 0 (List.replicate 64 0, List.replicate 64 0) (Nat.zero_le _) rfl
  · rintro i a hi rfl next
    have hA : ∀ c, (mx c (l.take i)).length = i := fun c => by rw [mx_len, List.length_take, hl]; omega
    have hlen : ∀ c, (mx c (l.take i) ++ (List.replicate 64 (0 : Int)).drop i).length = 64 := fun c => by rw [List.length_append, hA, List.length_drop, List.length_replicate]; omega
    have h54 := hlen 54
    have h92 := hlen 92
    refine EvP.step (fun N => laws_FnKeyed.l0.eq N _ _ _ _ _ _ _) (EvP.pos (by omega) ?_)
    dsimp only
    refine EvP.to (a := (((), ((), ((if (i : Int) < (k.size : Int) then (bytesL k).getD i 0 else 0), ()))), (mx 54 (l.take i) ++ (List.replicate 64 (0 : Int)).drop i, (mx 92 (l.take i) ++ (List.replicate 64 (0 : Int)).drop i, ())))) (EvP.ite (fun h => EvP.chk2 (by omega) h (EvP.some ?_)) (fun h => EvP.some ?_)) ?_
    · rw [if_pos h, Int.toNat_natCast]
    · rw [if_neg h]
    dsimp only
    refine EvP.chk2 (by omega) (by omega) (EvP.chk2 (by omega) (by omega) ?_)
    rw [Int.toNat_natCast, ← hg i, set_front (hA 54) (by rw [List.length_replicate]; exact hi), set_front (hA 92) (by rw [List.length_replicate]; exact hi), show IntKind.i64.wrap ((i : Int) + 1) = ((i + 1 : Nat) : Int) by rw [i64w (by omega) (by omega)]; omega]
    exact next (_, _) (by rw [mx_one 54 (by omega), mx_one 92 (by omega)])
  · rintro a rfl
    refine EvP.step (fun N => laws_FnKeyed.l0.eq N _ _ _ _ _ _ _) (EvP.neg (by omega) (EvP.some ?_))
    dsimp only
    rw [List.take_of_length_le (by omega), List.drop_replicate, show 64 - 64 = 0 from rfl, List.replicate_zero, List.append_nil, List.append_nil]
theorem FnKeyed (a0 : List Int) (h0 : ∀ n ∈ a0, 0 ≤ n ∧ n ≤ 255) (s0 : a0.length ≤ 140737488351232) : ∃ N, laws_FnKeyed N a0 = some ((true, ()), ()) := by
  refine EvP.fin (EvP.of (fun k => laws_FnKeyed.eq k _) (EvP.ite (fun _ => EvP.some rfl) (fun _ => EvP.andK (spec_DrawHmacSha_s h0) ?_)))
  rintro ⟨⟨k, s, ⟨⟩⟩, ⟨⟩⟩ -
  refine EvP.to (Hmac_impl k s) (EvP.to (Hmac_spec k s) ?_)
  refine EvP.to (a := ((false, ()), ())) (EvP.no (by simp) (EvP.some (by simp))) (EvP.no rfl ?_)
  by_cases hz : 2000 < (k.size : Int) ∨ 2000 < (s.size : Int)
  · rw [show hmacR k s = _ from if_pos hz]
    exact EvP.yes rfl (EvP.some rfl)
  · rw [show hmacR k s = _ from if_neg hz]
    refine EvP.no rfl ?_
    refine EvP.to (a := .inr ((keyH k, ()), ())) ?_ (EvP.inr ?_)
    · unfold keyH
      by_cases h : 64 < (k.size : Int)
      · rw [if_pos h]
        refine EvP.pos h (EvP.to (Sha256_impl k) ?_)
        rw [show sha256 k = _ from if_neg (by omega)]
        refine EvP.to (Hmac_impl _ s) ?_
        have e1 := shaF_size k
        rw [show hmacR (shaF k) s = _ from if_neg (by omega)]
        refine EvP.to (a := ((false, ()), ())) (EvP.no rfl (EvP.some ?_)) (EvP.no rfl (EvP.some rfl))
        have e2 : hmacF (shaF k) s = hmacF k s := by
          unfold hmacF keyH
          rw [if_pos h, if_neg (by omega)]
        dsimp only
        rw [e2, decide_eq_true rfl]
        rfl
      · rw [if_neg h]
        exact EvP.neg h (EvP.some rfl)
    · have hq := keyH_size k
      have e3 : ∀ c, (strL (mx c (bytesL (blk (keyH k))))).size = 64 := fun c => by rw [strL_size, mx_len, bytesL_len, blk_size hq]
      refine EvP.to (pads_law s (hmacF k s) hq) (EvP.chk1 (by (try dsimp only); rw [e3]; omega) ?_)
      dsimp only
      refine EvP.to (Sha256_impl _) ?_
      rw [show sha256 (strL (mx 54 (bytesL (blk (keyH k)))) ++ s) = _ from if_neg (by rw [ByteArray.size_append, e3]; omega)]
      refine EvP.chk1 (by (try dsimp only); rw [e3, shaF_size]; omega) (EvP.to (Sha256_impl _) ?_)
      dsimp only
      rw [show sha256 (strL (mx 92 (bytesL (blk (keyH k)))) ++ shaF (strL (mx 54 (bytesL (blk (keyH k)))) ++ s)) = _ from if_neg (by rw [ByteArray.size_append, e3, shaF_size]; omega)]
      exact EvP.yes rfl (EvP.yes rfl (EvP.some (by rw [hmacF, hmacB, decide_eq_true rfl])))
end Go.Proofs.Ytknoemdkfhkkhaa.Pure
