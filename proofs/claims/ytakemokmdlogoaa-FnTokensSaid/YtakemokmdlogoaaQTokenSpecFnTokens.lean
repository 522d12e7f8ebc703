/- The reference looks at a token under one key. -/
import Derived.Test.YtakemokmdlogoaaQTokenFnTokens
set_option linter.unusedVariables false
set_option linter.unusedSimpArgs false
namespace Go.Proofs.Ytakemokmdlogoaa.CFnTokens
open Go Go.Proofs Go.Proofs.YtakemokmdlogoaaPM Go.Proofs.Ytakemokmdlogoaa.Q Go.Proofs.Ytakemokmdlogoaa.G128 Go.Proofs.Ytakemokmdlogoaa.GFnTokens

def openS (key nonce beside sealed : ByteArray) : ByteArray × (Bool × Unit) := if TagRight key nonce beside sealed then (ctr key nonce 2 (sealed.extract 0 (sealed.size - 16)), (true, ())) else (⟨#[]⟩, (false, ()))
def afterS (key : ByteArray) : (Unit × (Unit × (ByteArray × Unit))) × (List Int × (List Int × Unit)) := (((), ((), (aes key (zs 16), ()))), (L 176 (KW key), (L 256 sb, ())))
theorem open_spec {key nonce beside sealed : ByteArray} (hn : nonce.size = 12) (h1 : beside.size ≤ 1500) (h2 : 16 ≤ sealed.size) (h3 : sealed.size ≤ 1516) :
    EvP (fun N => spec_l5K_open N nonce beside sealed (aes key (zs 16)) (L 176 (KW key)) (L 256 sb)) (· = (openS key nonce beside sealed, afterS key)) := by
  have e1 : (sealed.extract 0 (sealed.size - 16)).size ≤ 1500 := by rw [extract_size (by omega)]; omega
  refine EvP.of (fun N => spec_l5K_open.eq N _ _ _ _ _ _) ?_
  rw [i64w (n := (sealed.size : Int) - 16) (by omega) (by omega), show Int.toNat ((sealed.size : Int) - 16) = sealed.size - 16 by omega, Int.toNat_natCast]
  refine EvP.to (a := (((), ((!(decide (TagRight key nonce beside sealed))), ())), (((), ((), (aes key (zs 16), ()))), (L 176 (KW key), (L 256 sb, ()))))) (EvP.neg (by omega) (EvP.chk2 (by omega) (by omega) (EvP.to (tag_spec hn (by omega) (by omega)) (EvP.chk3 (by omega) (by omega) (by omega) (EvP.some (congrArg (fun z : Bool => ((((), ((!z), ())), (((), ((), (aes key (zs 16), ()))), (L 176 (KW key), (L 256 sb, ()))))  : (Unit × (Bool × Unit)) × ((Unit × (Unit × (ByteArray × Unit))) × (List Int × (List Int × Unit))))) (dec_eq (fun h => h) (fun h => h)))))))) (EvP.nite (fun h => EvP.some ?_) (fun h => ?_))
  · rw [openS, if_neg h]; rfl
  · exact EvP.chk2 (by omega) (by omega) (EvP.to (count_spec hn (by omega)) (EvP.some (by rw [openS, if_pos h]; rfl)))
theorem check_spec {k address token : ByteArray} {now life : Int} (ht : 37 ≤ token.size) (ht2 : token.size ≤ 57) (ha : 1 ≤ address.size ∧ address.size ≤ 18) (hn : 0 ≤ now ∧ now ≤ 1000000000) (hlf : 0 ≤ life ∧ life ≤ 1000000) (hb : (bytesL token).getD 0 0 ≤ 1)
    (hk : k.size = 16) : EvP (fun N => spec_CheckToken N [k] address token now life) (fun r => r.1.2.1 = 3 ↔ ¬ TagRight k (token.extract 1 13) (token.extract 0 1 ++ address) (token.extract 13 token.size)) := by
  have e0 : (token.extract 0 1).size = 1 := by rw [extract_size (by omega)]
  have e1 : (token.extract 1 13).size = 12 := by rw [extract_size (by omega)]
  have e3 : (token.extract 13 token.size).size = token.size - 13 := by rw [extract_size (by omega)]
  refine EvP.of (fun N => spec_CheckToken.eq N _ _ _ _ _) (EvP.to (a := (((), (false, ())), (((⟨#[]⟩ : ByteArray), (0, (false, ()))), ()))) ?_ (EvP.no rfl ?_))
  · have hl : (1 : Int) ≤ (([k] : List ByteArray).length : Int) ∧ (([k] : List ByteArray).length : Int) ≤ 2 := ⟨by show (1 : Int) ≤ 1; decide, by show (1 : Int) ≤ 2; decide⟩
    generalize (([k] : List ByteArray).length : Int) = ln at hl
    refine EvP.to (in_spec ln 1 2) ?_
    refine EvP.nneg hl ?_
    refine EvP.to (l10Address_ok _) ?_
    refine EvP.nneg ha ?_
    refine EvP.to (in_spec _ 0 1000000000) ?_
    refine EvP.nneg hn ?_
    refine EvP.to (in_spec _ 0 1000000) (EvP.some ?_)
    rw [decide_eq_true hlf]; rfl
  · refine EvP.to (a := .inr (((), ()), (((⟨#[]⟩ : ByteArray), (0, (false, ()))), ()))) ?_ (EvP.inr ?_)
    · refine EvP.step (fun N => spec_CheckToken.l0.eq N _ _ _ _ _ _ _ _ _ _ _) (EvP.pos (by simp) (EvP.chk2 (by omega) (by simp) (EvP.nneg (show ((([k] : List ByteArray).getD (Int.toNat 0) (⟨#[]⟩ : ByteArray)).size : Int) = 16 by show (k.size : Int) = 16; omega) ?_)))
      exact EvP.step (fun N => spec_CheckToken.l0.eq N _ _ _ _ _ _ _ _ _ _ _) (EvP.neg (by rw [i64w (by omega) (by omega)]; simp) (EvP.some rfl))
    · refine EvP.andK (Q := fun r => r.1.2.1 = 3 ↔ ¬ TagRight k (token.extract 1 13) (token.extract 0 1 ++ address) (token.extract 13 token.size)) (EvP.of (fun N => spec_l10Check.eq N _ _ _ _ _) ?_) (fun r h => EvP.some h)
      refine EvP.to (a := (((), (false, ())), (((⟨#[]⟩ : ByteArray), (0, (false, ()))), ()))) ?_ (EvP.no rfl ?_)
      · refine EvP.to (in_spec _ 37 57) (EvP.nneg (by omega) (EvP.chk1 (by omega) (EvP.some ?_)))
        rw [decide_eq_false (by omega)]
      · refine EvP.andK (Q := fun r => (TagRight k (token.extract 1 13) (token.extract 0 1 ++ address) (token.extract 13 token.size) → ∃ x, r = .inl x ∧ x.1.2.1 ≠ 3) ∧ (¬ TagRight k (token.extract 1 13) (token.extract 0 1 ++ address) (token.extract 13 token.size) → ∃ x, r = .inr x)) ?_ ?_
        · refine EvP.step (fun N => spec_l10Check.l0.eq N _ _ _ _ _ _ _ _ _ _) (EvP.pos (by simp) (EvP.chk2 (by omega) (by simp) ?_))
          rw [show (([k] : List ByteArray).getD (Int.toNat 0) (⟨#[]⟩ : ByteArray)) = k from rfl]
          refine EvP.to (key_spec hk) (EvP.chk1 (by omega) (EvP.chk1 (by omega) (EvP.chk1 (by omega) (EvP.chk2 (by omega) (by omega) ?_))))
          rw [Int.toNat_natCast]
          refine EvP.to (open_spec (key := k) e1 (by rw [ByteArray.size_append]; omega) (by omega) (by omega)) ?_
          by_cases h : TagRight k (token.extract 1 13) (token.extract 0 1 ++ address) (token.extract 13 token.size)
          · rw [openS, if_pos h]
            have e8 : (ctr k (token.extract 1 13) 2 ((token.extract 13 token.size).extract 0 ((token.extract 13 token.size).size - 16))).size = token.size - 29 := by rw [ctr_size, extract_size (by omega)]; omega
            generalize ctr k (token.extract 1 13) 2 ((token.extract 13 token.size).extract 0 ((token.extract 13 token.size).size - 16)) = t at e8
            have e9 : (t.extract 0 8).size ≤ 8 := by rw [extract_size (by omega)]; omega
            refine EvP.no rfl (EvP.chk1 (by omega) (EvP.chk1 (by (try dsimp only); omega) (EvP.andK (big64_ok _ e9) fun r hr => EvP.chk2 (by (try dsimp only); omega) (by omega) ?_)))
            dsimp only
            refine EvP.andK (Q := fun _ => True) ?_ (fun z _ => EvP.sel (fun _ => EvP.some ⟨fun _ => ⟨_, rfl, by simp⟩, fun h2 => absurd h h2⟩) (fun _ => EvP.some ⟨fun _ => ⟨_, rfl, by simp⟩, fun h2 => absurd h h2⟩))
            exact EvP.ite (fun _ => EvP.some trivial) (fun _ => EvP.ite (fun _ => EvP.some trivial) (fun _ => EvP.some trivial))
          · rw [openS, if_neg h]
            refine EvP.yes rfl ?_
            exact EvP.step (fun N => spec_l10Check.l0.eq N _ _ _ _ _ _ _ _ _ _) (EvP.neg (by rw [i64w (by omega) (by omega)]; simp) (EvP.some ⟨fun h2 => absurd h2 h, fun _ => ⟨_, rfl⟩⟩))
        · rintro r ⟨h1, h2⟩
          by_cases h : TagRight k (token.extract 1 13) (token.extract 0 1 ++ address) (token.extract 13 token.size)
          · obtain ⟨x, rfl, hx⟩ := h1 h
            exact EvP.inl (EvP.some ⟨fun e => absurd e hx, fun e => absurd h e⟩)
          · obtain ⟨x, rfl⟩ := h2 h
            exact EvP.inr (EvP.some ⟨fun _ => h, fun _ => rfl⟩)
end Go.Proofs.Ytakemokmdlogoaa.CFnTokens
