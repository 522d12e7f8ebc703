/- FnRetried: both packages make the same packet that asks to come again; it goes back, with the token and a tag over all of it. -/
import Derived.Test.YtkfpfcpmaejeoaaGreatQRetryFnRetried
import Derived.Test.YtkfpfcpmaejeoaaGreatQHeadPutFnRetried
import Derived.Test.YtkfpfcpmaejeoaaGreatQSameHFnRetried
import Derived.Test.YtkfpfcpmaejeoaaGreatSFnRetried
set_option linter.unusedVariables false
set_option linter.unusedSimpArgs false
namespace Go.Proofs.YtkfpfcpmaejeoaaGreat.Pure
open Go Go.Proofs Go.Proofs.YtkfpfcpmaejeoaaGreatPM Go.Proofs.YtkfpfcpmaejeoaaGreat.Q Go.Proofs.YtkfpfcpmaejeoaaGreat.CFnRetried Go.Proofs.YtkfpfcpmaejeoaaGreat.GFnRetried

theorem FnRetried (a0 : List Int) (h0 : ∀ n ∈ a0, 0 ≤ n ∧ n ≤ 255) (s0 : a0.length ≤ 140737488351232) : ∃ N, laws_FnRetried N a0 = some ((true, ()), ()) := by
  refine EvP.fin (EvP.of (fun k => laws_FnRetried.eq k _) (EvP.ite (fun _ => EvP.some rfl) (fun _ => EvP.andK (spec_DrawRetryPacket_s h0) ?_)))
  intro u q
  obtain ⟨_, _, _, _, _, _, _, _, _, _, hv, _⟩ := q
  obtain ⟨⟨⟨f, b, v, d, c, t, p, l, ⟨⟩⟩, token, scid, ⟨⟩⟩, ⟨⟩⟩ := u
  dsimp only at hv
  refine EvP.to (Retry_impl f b v d c t p l token scid (by omega)) (EvP.to (Retry_spec f b v d c t p l token scid (by omega)) ?_)
  by_cases g : rpOk f b v d c t p l token scid
  · rw [show rpR f b v d c t p l token scid = _ from if_pos g]
    obtain ⟨h1, h2, h3, h4, h5, h6⟩ := rp_of g
    have hz := hb3_size (v := v) h3 h4 h6
    have ht : (rtag v d c scid token).size = 16 := by rw [rtag, sealF_size]; rfl
    have gH : GoodH 3 0 v c scid nilS token [] := by
      refine ⟨⟨by omega, by omega, ⟨by decide, by decide⟩, by decide, by omega⟩, .inr rfl, .inr rfl, .inl ⟨by decide, h1, ?_⟩⟩
      intro e
      rw [e] at h5
      exact absurd h5 (by decide)
    dsimp only [mkH7]
    refine EvP.to (EvP.no (by simp) (EvP.to (sameHeaders_ok _ _ _ _ _ _ _ [] (by decide)) (EvP.some rfl))) (EvP.no rfl (EvP.no rfl ?_))
    dsimp only
    have hsz : (token ++ rtag v d c scid token).size = token.size + 16 := by rw [ByteArray.size_append, ht]
    refine EvP.to (EvP.nneg rfl (EvP.nneg rfl (EvP.nneg rfl (EvP.nneg ?_ (EvP.chk2 (by (try dsimp only); omega) (by (try dsimp only); omega) (EvP.some rfl)))))) (EvP.no ?_ ?_)
    · try dsimp only
      rw [i64w (by omega) (by omega)]
      omega
    · dsimp only
      rw [show Int.toNat (token.size : Int) = token.size by omega, extract_app_one rfl]
      simp
    · refine EvP.to (HeaderBytes_impl 3 0 v c scid nilS token [] (by decide)) ?_
      rw [show hwOf 3 0 v c scid nilS token [] = _ from if_pos gH]
      refine EvP.to (Tag_impl d (hb3 v c scid token)) ?_
      rw [tagR_of h2 (by omega)]
      refine EvP.yes rfl (EvP.yes rfl (EvP.chk3 (by (try dsimp only); omega) (by (try dsimp only); omega) (by (try dsimp only); omega) (EvP.some ?_)))
      dsimp only
      rw [show Int.toNat (token.size : Int) = token.size by omega, show Int.toNat ((token ++ rtag v d c scid token).size : Int) = (token ++ rtag v d c scid token).size by omega, extract_app_two rfl (by rw [ByteArray.size_append])]
      rw [decide_eq_true (show sealF rkey rnonce (idb d ++ hb3 v c scid token) ⟨#[]⟩ = rtag v d c scid token from rfl)]
  · rw [show rpR f b v d c t p l token scid = _ from if_neg g]
    refine EvP.to (EvP.no (by simp) (EvP.to (sameHeaders_ok _ _ _ _ _ _ _ [] (by decide)) (EvP.some rfl))) (EvP.no rfl (EvP.yes rfl (EvP.some rfl)))
end Go.Proofs.YtkfpfcpmaejeoaaGreat.Pure
