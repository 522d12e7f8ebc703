/- FnTokens: a token that was minted is right for its address as long as it lives, under the first or the second key. -/
import Derived.Test.YtakemokmdlogoaaQTokenSpecFnTokens
import Derived.Test.YtakemokmdlogoaaQTurnedNFnTokens
import Derived.Test.YtakemokmdlogoaaQLawNumFnTokens
import Derived.Test.YtakemokmdlogoaaSFnTokens
set_option linter.unusedVariables false
set_option linter.unusedSimpArgs false
namespace Go.Proofs.Ytakemokmdlogoaa.Pure
open Go Go.Proofs Go.Proofs.YtakemokmdlogoaaPM Go.Proofs.Ytakemokmdlogoaa.Q Go.Proofs.Ytakemokmdlogoaa.G128 Go.Proofs.Ytakemokmdlogoaa.CFnTokens Go.Proofs.Ytakemokmdlogoaa.GFnTokens

section
variable {key nonce address m0 : ByteArray} {m1 : Int} {m2 : Bool}
theorem mintF_size : (mintF key nonce address m0 m1 m2).size = 25 + nonce.size + m0.size := by
  rw [mintF, ByteArray.size_append, ByteArray.size_append, fbB_size, mintS_size]; omega
theorem mint_first (hn : nonce.size = 12) : (bytesL (mintF key nonce address m0 m1 m2)).getD 0 0 = if m2 = true then 1 else 0 := by
  rw [mintF, bytesL_append, bytesL_append]
  cases m2 <;> rfl
theorem mint_cut (hn : nonce.size = 12) : (mintF key nonce address m0 m1 m2).extract 0 1 = fbB m2 ∧ (mintF key nonce address m0 m1 m2).extract 1 13 = nonce ∧ (mintF key nonce address m0 m1 m2).extract 13 (mintF key nonce address m0 m1 m2).size = mintS key nonce address m0 m1 m2 := by
  have hf := fbB_size m2
  have hs := mintF_size (key := key) (nonce := nonce) (address := address) (m0 := m0) (m1 := m1) (m2 := m2)
  have hz := mintS_size key nonce address m0 m1 m2
  refine ⟨?_, ?_, ?_⟩
  · rw [mintF, app_assoc]; exact extract_app_one hf.symm
  · rw [mintF, extract_app_left (by rw [ByteArray.size_append]; omega)]; exact extract_app_two hf.symm (by omega)
  · rw [hs, mintF]; exact extract_app_two (by rw [ByteArray.size_append]; omega) (by rw [ByteArray.size_append]; omega)
theorem opn_mint (h : MintOk key nonce address m0 m1) : opn key address (mintF key nonce address m0 m1 m2) = ((be 8 m1 ++ m0, (true, ())), ()) := by
  unfold MintOk at h
  obtain ⟨e1, e2, e3⟩ := mint_cut (key := key) (address := address) (m0 := m0) (m1 := m1) (m2 := m2) h.2.1
  unfold opn
  rw [e1, e2, e3, mintS]
  exact open_seal h.1 h.2.1 (by rw [ByteArray.size_append, fbB_size]; omega) (by rw [ByteArray.size_append, be_size]; omega)
/-- What one key that is right tells. -/
theorem right_key (h : MintOk key nonce address m0 m1) {now life : Int} (hn : 0 ≤ now ∧ now ≤ 1000000000) (hlf : 0 ≤ life ∧ life ≤ 1000000) {keys : List ByteArray} {i : Nat} (hi : i < keys.length) (hl : keys.length ≤ 1000) (hk : keys.getD i ⟨#[]⟩ = key) {p0 : ByteArray} {p1 : Int} {p2 : Bool} :
    EvP (fun N => impl_CheckToken.l0 N address (mintF key nonce address m0 m1 m2) now life keys (keys.length : Int) (i : Int) p0 p1 p2)
      (· = if Late now life m1 then .inl (((), (4, ())), (((⟨#[]⟩ : ByteArray), (0, (false, ()))), ())) else .inl (((), (0, ())), ((m0, (m1, (m2, ()))), ()))) := by
  have h3 := h
  unfold MintOk at h3
  have hs := mintF_size (key := key) (nonce := nonce) (address := address) (m0 := m0) (m1 := m1) (m2 := m2)
  refine loop_open (by omega) (by omega) (by omega) hi hl (fun h2 => ?_) (fun t h2 => ?_)
  · rw [hk, opn_mint h] at h2; cases h2
  · rw [hk, opn_mint h] at h2
    cases h2
    have e1 : (be 8 m1 ++ m0).extract 0 8 = be 8 m1 := extract_app_one (be_size _ _).symm
    have e2 : (be 8 m1 ++ m0).extract 8 (be 8 m1 ++ m0).size = m0 := extract_app_two (be_size _ _).symm (by rw [ByteArray.size_append, be_size])
    have e3 : vof (be 8 m1) = m1 := by rw [vof_be, Int.emod_eq_of_lt (by omega) (by simp only [Int.reducePow]; omega)]
    rw [e1, e2, e3, i64w (n := m1) (by omega) (by omega), u64i (n := now) (by omega) (by omega), i64w (n := now - m1) (by omega) (by omega), mint_first h3.2.1]
    refine ⟨by rw [ByteArray.size_append, be_size]; omega, fun h4 => ?_, fun h4 => ?_⟩
    · rw [if_pos (show Late now life m1 from h4)]
    · rw [if_neg (show ¬Late now life m1 from h4)]
      cases m2 <;> rfl
theorem mint_b (hn : nonce.size = 12) : (bytesL (mintF key nonce address m0 m1 m2)).getD 0 0 ≤ 1 := by
  rw [mint_first hn]; split <;> decide
theorem check_one (h : MintOk key nonce address m0 m1) {now life : Int} (hn : 0 ≤ now ∧ now ≤ 1000000000) (hlf : 0 ≤ life ∧ life ≤ 1000000) :
    EvP (fun N => impl_CheckToken N [key] address (mintF key nonce address m0 m1 m2) now life) (· = if Late now life m1 then ((((⟨#[]⟩ : ByteArray), (0, (false, ()))), (4, ())), ()) else (((m0, (m1, (m2, ()))), (0, ())), ())) := by
  have h3 := h
  unfold MintOk at h3
  have hs := mintF_size (key := key) (nonce := nonce) (address := address) (m0 := m0) (m1 := m1) (m2 := m2)
  refine check_impl (by omega) (by omega) h3.2.2.1 hn hlf (mint_b h3.2.1) (fun k hk => by rw [List.mem_singleton.1 hk]; exact h3.1) (by simp) (by simp) ((right_key h hn hlf (by simp) (by simp) rfl).mono fun r hr => ?_)
  subst hr
  split
  · exact ⟨fun x e => by cases e; rfl, fun x e => by cases e⟩
  · exact ⟨fun x e => by cases e; rfl, fun x e => by cases e⟩
theorem check_two (h : MintOk key nonce address m0 m1) {now life : Int} (hn : 0 ≤ now ∧ now ≤ 1000000000) (hlf : 0 ≤ life ∧ life ≤ 1000000) {k : ByteArray} (hk : k.size = 16) (hlt : ¬ Late now life m1) :
    EvP (fun N => impl_CheckToken N [k, key] address (mintF key nonce address m0 m1 m2) now life) (fun r => (¬ TagRight k ((mintF key nonce address m0 m1 m2).extract 1 13) ((mintF key nonce address m0 m1 m2).extract 0 1 ++ address) ((mintF key nonce address m0 m1 m2).extract 13 (mintF key nonce address m0 m1 m2).size)) → r = (((m0, (m1, (m2, ()))), (0, ())), ())) := by
  have h3 := h
  unfold MintOk at h3
  have hs := mintF_size (key := key) (nonce := nonce) (address := address) (m0 := m0) (m1 := m1) (m2 := m2)
  refine check_impl (by omega) (by omega) h3.2.2.1 hn hlf (mint_b h3.2.1) (fun k' hk' => ?_) (by simp) (by simp) ?_
  · simp only [List.mem_cons, List.not_mem_nil, or_false] at hk'
    rcases hk' with rfl | rfl
    · exact hk
    · exact h3.1
  · refine loop_open (by omega) (by omega) (by omega) (by simp) (by simp) (fun h2 => ?_) (fun t h2 => ?_)
    · refine (right_key h hn hlf (i := 1) (keys := [k, key]) (by simp) (by simp) rfl).mono fun r hr => ?_
      rw [if_neg hlt] at hr
      subst hr
      exact ⟨fun x e => by cases e; exact fun _ => rfl, fun x e => by cases e⟩
    · have h4 : opn k address (mintF key nonce address m0 m1 m2) = ((t, (true, ())), ()) := h2
      have h5 : OpenOk k ((mintF key nonce address m0 m1 m2).extract 1 13) ((mintF key nonce address m0 m1 m2).extract 0 1 ++ address) ((mintF key nonce address m0 m1 m2).extract 13 (mintF key nonce address m0 m1 m2).size) ∧ TagRight k ((mintF key nonce address m0 m1 m2).extract 1 13) ((mintF key nonce address m0 m1 m2).extract 0 1 ++ address) ((mintF key nonce address m0 m1 m2).extract 13 (mintF key nonce address m0 m1 m2).size) := by
        by_cases hq : OpenOk k ((mintF key nonce address m0 m1 m2).extract 1 13) ((mintF key nonce address m0 m1 m2).extract 0 1 ++ address) ((mintF key nonce address m0 m1 m2).extract 13 (mintF key nonce address m0 m1 m2).size) ∧ TagRight k ((mintF key nonce address m0 m1 m2).extract 1 13) ((mintF key nonce address m0 m1 m2).extract 0 1 ++ address) ((mintF key nonce address m0 m1 m2).extract 13 (mintF key nonce address m0 m1 m2).size)
        · exact hq
        · unfold opn at h4
          rw [openR_no hq] at h4
          cases h4
      have h6 : t.size = (mintF key nonce address m0 m1 m2).size - 29 := by
        unfold opn openR at h4
        rw [if_pos h5] at h4
        injection h4 with h4 _
        injection h4 with h4 _
        rw [← h4, ctr_size, extract_size (by omega), extract_size (by omega)]
        omega
      refine ⟨by omega, fun _ => ⟨fun x e => by cases e; exact fun hno => absurd h5.2 hno, fun x e => by cases e⟩, fun _ => ⟨fun x e => by cases e; exact fun hno => absurd h5.2 hno, fun x e => by cases e⟩⟩
theorem Age_impl (hm : m0.size ≤ 20) (h1 : 0 ≤ m1 ∧ m1 ≤ 1000000000) {now : Int} (hn : m1 ≤ now ∧ now ≤ 1000000000) : EvP (fun N => impl_AgeOf N m0 m1 m2 now) (· = ((now - m1, (true, ())), ())) := by
  refine EvP.of (fun N => impl_AgeOf.eq N _ _ _ _) (EvP.to (goodMinted_ok m0 m1 m2) (EvP.nneg ⟨hm, h1⟩ (EvP.to (isTime_ok now) (EvP.nneg (by omega) (EvP.neg (by omega) (EvP.some ?_))))))
  rw [i64w (by omega) (by omega)]
end
theorem FnTokens (a0 : List Int) (h0 : ∀ n ∈ a0, 0 ≤ n ∧ n ≤ 255) (s0 : a0.length ≤ 140737488351232) (a1 : List Int) (h1 : ∀ n ∈ a1, 0 ≤ n ∧ n ≤ 255) (s1 : a1.length ≤ 140737488351232) : ∃ N, laws_FnTokens N a0 a1 = some ((true, ()), ()) := by
  refine EvP.fin (EvP.of (fun k => laws_FnTokens.eq k _ _) (EvP.ite (fun _ => EvP.some rfl) (fun _ => EvP.andK (spec_DrawMintToken_s h0) ?_)))
  rintro ⟨⟨key, nonce, address, ⟨m0, m1, m2, ⟨⟩⟩, ⟨⟩⟩, ⟨⟩⟩ -
  refine EvP.to (Mint_impl key nonce address m0 m1 m2) (EvP.to (Mint_spec key nonce address m0 m1 m2) ?_)
  refine EvP.to (a := (((), (false, ())), ((m0, (m1, (m2, ()))), ()))) (EvP.no (by simp) (EvP.some (by simp))) (EvP.no rfl ?_)
  by_cases h : MintOk key nonce address m0 m1
  · rw [show mintR key nonce address m0 m1 m2 = _ from if_pos h]
    have h3 := h
    unfold MintOk at h3
    refine EvP.no rfl (EvP.andK (lawNumber_ok h1 s1) ?_)
    rintro ⟨⟨x, ⟨⟩⟩, ⟨⟩⟩ ⟨hx1, hx2⟩
    dsimp only at hx1 hx2
    dsimp only
    rw [Int.tmod_eq_emod_of_nonneg hx1]
    have hy1 := Int.emod_nonneg x (show (1000 : Int) ≠ 0 by decide)
    have hy2 := Int.emod_lt_of_pos x (show (0 : Int) < 1000 by decide)
    generalize x % 1000 = y at hy1 hy2
    rw [i64w (n := m1 + y) (by omega) (by omega), i64w (n := m1 + y + 1) (by omega) (by omega)]
    refine EvP.ite (fun _ => EvP.some rfl) (fun hlt => ?_)
    have hL : ¬ Late (m1 + y) y m1 := by unfold Late; omega
    refine EvP.to (check_one (m2 := m2) h (by omega) (by omega)) ?_
    rw [if_neg hL]
    refine EvP.to (Age_impl (m2 := m2) h3.2.2.2.1 h3.2.2.2.2 (by omega)) ?_
    refine EvP.to (a := (((), (false, ())), ((m0, (m1, (m2, ()))), ((m0, (m1, (m2, ()))), ())))) ?_ (EvP.no rfl ?_)
    · refine EvP.nneg rfl (EvP.no (by simp) (EvP.no rfl (EvP.some ?_)))
      dsimp only
      rw [decide_eq_true (show m1 + y - m1 = y by omega)]
      rfl
    · dsimp only
      refine EvP.to (check_one (m2 := m2) h (by omega) (by omega)) ?_
      rw [if_pos (show Late (m1 + y + 1) y m1 by unfold Late; omega)]
      refine EvP.nneg rfl ?_
      refine EvP.to (a := .inr (((), ()), ((m0, (m1, (m2, ()))), ((m0, (m1, (m2, ()))), (((⟨#[]⟩ : ByteArray), (0, (false, ()))), ()))))) ?_ (EvP.inr ?_)
      · refine EvP.ite (fun h0 => ?_) (fun _ => EvP.some rfl)
        rw [i64w (n := m1 - 1) (by omega) (by omega)]
        refine EvP.to (check_one (m2 := m2) h (by omega) (by omega)) ?_
        rw [if_pos (show Late (m1 - 1) y m1 by unfold Late; omega)]
        exact EvP.nneg rfl (EvP.some rfl)
      · refine EvP.andK (lawNumber_ok h1 s1) ?_
        rintro ⟨⟨z, ⟨⟩⟩, ⟨⟩⟩ ⟨hz1, hz2⟩
        dsimp only at hz1 hz2
        refine EvP.andK (turnedN_ok (by (try dsimp only); omega) (by (try dsimp only); omega) hz1 hz2) ?_
        rintro ⟨⟨k, ⟨⟩⟩, ⟨⟩⟩ ⟨hk, -⟩
        dsimp only at hk
        dsimp only
        have hs := mintF_size (key := key) (nonce := nonce) (address := address) (m0 := m0) (m1 := m1) (m2 := m2)
        refine EvP.andK (check_spec (k := k) (address := address) (token := mintF key nonce address m0 m1 m2) (now := m1 + y) (life := y) (by omega) (by omega) h3.2.2.1 (by omega) (by omega) (mint_b h3.2.1) (by omega)) ?_
        intro r hr
        refine EvP.andK (check_two (m2 := m2) h (now := m1 + y) (life := y) (by omega) (by omega) (by omega) hL) ?_
        intro r2 hr2
        refine EvP.nite (fun _ => EvP.some rfl) (fun h4 => ?_)
        rw [hr2 (hr.1 h4)]
        exact EvP.pos rfl (EvP.some (by simp))
  · rw [show mintR key nonce address m0 m1 m2 = _ from if_neg h]
    exact EvP.yes rfl (EvP.some rfl)
end Go.Proofs.Ytakemokmdlogoaa.Pure
