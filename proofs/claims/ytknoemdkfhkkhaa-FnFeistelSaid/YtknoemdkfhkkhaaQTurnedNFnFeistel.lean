/- A text with one bit turned. -/
import Derived.Test.YtknoemdkfhkkhaaQAesKWFnFeistel
set_option linter.unusedVariables false
set_option linter.unusedSimpArgs false
namespace Go.Proofs.Ytknoemdkfhkkhaa.CFnFeistel
open Go Go.Proofs Go.Proofs.YtknoemdkfhkkhaaPM Go.Proofs.Ytknoemdkfhkkhaa.Q Go.Proofs.Ytknoemdkfhkkhaa.GFnFeistel

theorem shl_tabN : ∀ m : Fin 8, shlI .u8 1 (IntKind.u64.wrap ((m : Nat) : Int)) = ((1 <<< (m : Nat) : Nat) : Int) ∧ (1 <<< (m : Nat)) < 256 ∧ (1 <<< (m : Nat)) ≠ 0 := by decide +kernel
theorem turnedN_ok {s : ByteArray} (hs0 : 0 < s.size) (hs : s.size ≤ 1000000) {k : Int} (h0 : 0 ≤ k) (h1 : k < 1000003) :
    EvP (fun N => laws_turned N s k) (fun r => r.1.1.size = s.size ∧ ∃ p, p < s.size ∧ byteAt r.1.1 p ≠ byteAt s p ∧ ∀ i, i ≠ p → byteAt r.1.1 i = byteAt s i) := by
  refine EvP.of (fun n => laws_turned.eq n _ _) ?_
  obtain ⟨m, rfl⟩ := Int.eq_ofNat_of_zero_le h0
  obtain ⟨n, hn⟩ : ∃ n, n = s.size := ⟨_, rfl⟩
  have e1 : IntKind.i64.wrap (8 * ((bytesL s).length : Int)) = ((8 * n : Nat) : Int) := by rw [bytesL_len, ← hn, i64w (by omega) (by omega)]; omega
  have e2 : Int.tmod (m : Int) ((8 * n : Nat) : Int) = ((m % (8 * n) : Nat) : Int) := by rw [Int.tmod_eq_emod_of_nonneg (by omega)]; omega
  have hmn : m % (8 * n) < 8 * n := Nat.mod_lt _ (by omega)
  generalize m % (8 * n) = q at e2 hmn
  have e3 : Int.tdiv ((q : Nat) : Int) 8 = ((q / 8 : Nat) : Int) := by rw [Int.tdiv_eq_ediv_of_nonneg (by omega)]; omega
  have e4 : IntKind.i64.wrap ((q / 8 : Nat) : Int) = ((q / 8 : Nat) : Int) := i64w (by omega) (by omega)
  have e5 : Int.tmod ((q : Nat) : Int) 8 = ((q % 8 : Nat) : Int) := by rw [Int.tmod_eq_emod_of_nonneg (by omega)]; omega
  obtain ⟨t1, t2, t3⟩ := shl_tabN ⟨q % 8, by omega⟩
  simp only at t1 t2 t3
  rw [e1, e2, e3, e4, e5, t1]
  have hi : q / 8 < n := by omega
  have hf := byteAt_lt s
  rw [bytesL_L, ← hn]
  simp only [Int.toNat_natCast, L_len]
  rw [L_at hi, xor_u8 (hf _) t2, L_set]
  have hb : By (fun j => if j = q / 8 then byteAt s (q / 8) ^^^ 1 <<< (q % 8) else byteAt s j) := fun j => by
    dsimp only
    split
    · exact xor_lt (hf _) t2
    · exact hf j
  have hsz : (strL (L n (fun j => if j = q / 8 then byteAt s (q / 8) ^^^ 1 <<< (q % 8) else byteAt s j))).size = n := by rw [strL_size, L_len]
  refine EvP.nz (by omega) (EvP.chk2 (by omega) (by omega) (EvP.chk1 (u64_range _).1 (EvP.chk2 (by omega) (by omega) (EvP.some ⟨hsz, q / 8, hi, ?_, fun i hne => ?_⟩))))
  · rw [byteAt_strL hb _ hi, if_pos rfl]
    intro h
    have h3 := congrArg (fun x => byteAt s (q / 8) ^^^ x) h
    simp only [Nat.xor_self, ← Nat.xor_assoc, Nat.zero_xor] at h3
    exact t3 h3
  · by_cases hlt : i < n
    · rw [byteAt_strL hb _ hlt, if_neg hne]
    · have z1 : ∀ (u : ByteArray), u.size ≤ i → byteAt u i = 0 := fun u hu => by
        unfold byteAt
        rw [List.getD_eq_getElem?_getD, List.getElem?_eq_none (by rw [bytesL_len]; exact hu)]
        rfl
      dsimp only
      rw [z1 _ (by omega), z1 s (by omega)]
end Go.Proofs.Ytknoemdkfhkkhaa.CFnFeistel
