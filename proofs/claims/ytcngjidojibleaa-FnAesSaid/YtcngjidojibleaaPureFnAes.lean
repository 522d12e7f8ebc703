/- FnAes: for every key and block that are drawn both packages encrypt alike; what is encrypted comes back, either way round; another block becomes another; the keys of rounds begin with the key. -/
import Derived.Test.YtcngjidojibleaaQAesBlockFnAes
import Derived.Test.YtcngjidojibleaaQDrawFnAes
set_option linter.unusedVariables false
set_option linter.unusedSimpArgs false
namespace Go.Proofs.Ytcngjidojibleaa.Pure
open Go Go.Proofs Go.Proofs.YtcngjidojibleaaPM Go.Proofs.Ytcngjidojibleaa.Q Go.Proofs.Ytcngjidojibleaa.CFnAes Go.Proofs.Ytcngjidojibleaa.GFnAes

theorem block_ok {l : List Int} (hl : Bytes l) (a s : Int) (h0 : 0 ≤ a) (h1 : a ≤ 1000000000) :
    EvP (fun N => spec_l1Cur_block N l a s) (fun r => CuP l a 100 r.2) := by
  refine EvP.of (fun N => spec_l1Cur_block.eq N l a s) (EvP.andK (one_ok hl 30 a s h0 (by omega)) ?_)
  rintro ⟨⟨x, ⟨⟩⟩, ⟨l1, a1, s1, ⟨⟩⟩, ⟨⟩⟩ ⟨hl1, h2, h3⟩
  obtain rfl : l1 = l := hl1
  dsimp only at h2 h3 ⊢
  refine EvP.sel (fun _ => ?_) (fun _ => ?_)
  · refine EvP.andK (among_ok hl [0, 15, 17] (by decide) a1 s1 (by omega) (by omega)) ?_
    rintro ⟨⟨n, ⟨⟩⟩, ⟨l2, a2, s2, ⟨⟩⟩, ⟨⟩⟩ ⟨hn, hl2, h4, h5⟩
    obtain rfl : l2 = l1 := hl2
    dsimp only at hn h4 h5 ⊢
    have hn2 : 0 ≤ n ∧ n ≤ 17 := by simp at hn; omega
    refine EvP.andK (sized_ok hl n a2 s2 hn2.1 (by omega) (by omega) (by omega)) ?_
    rintro ⟨⟨⟨⟩, ⟨⟩⟩, ⟨l3, a3, s3, ⟨⟩⟩, ⟨p, ⟨⟩⟩⟩ ⟨⟨hl3, h6, h7⟩, _⟩
    dsimp only at h6 h7
    exact EvP.some ⟨hl3, by dsimp only; omega, by dsimp only; omega⟩
  · refine EvP.andK (one_ok hl 8 a1 s1 (by omega) (by omega)) ?_
    rintro ⟨⟨x, ⟨⟩⟩, ⟨l2, a2, s2, ⟨⟩⟩, ⟨⟩⟩ ⟨hl2, h4, h5⟩
    obtain rfl : l2 = l1 := hl2
    dsimp only at h4 h5 ⊢
    refine EvP.sel (fun _ => EvP.some ⟨rfl, by dsimp only; omega, by dsimp only; omega⟩) (fun _ => ?_)
    refine EvP.andK (sized_ok hl 16 a2 s2 (by decide) (by decide) (by omega) (by omega)) ?_
    rintro ⟨⟨⟨⟩, ⟨⟩⟩, ⟨l3, a3, s3, ⟨⟩⟩, ⟨p, ⟨⟩⟩⟩ ⟨⟨hl3, h6, h7⟩, _⟩
    dsimp only at h6 h7
    exact EvP.some ⟨hl3, by dsimp only; omega, by dsimp only; omega⟩
theorem draw_ok {l : List Int} (hl : Bytes l) : EvP (fun k => spec_DrawAesBlock k l) (fun _ => True) := by
  refine EvP.of (fun k => spec_DrawAesBlock.eq k _) (EvP.andK (block_ok hl 0 0 (by decide) (by decide)) ?_)
  rintro ⟨⟨x, ⟨⟩⟩, ⟨l1, a1, s1, ⟨⟩⟩, ⟨⟩⟩ ⟨hl1, h2, h3⟩
  obtain rfl : l1 = l := hl1
  dsimp only at h2 h3 ⊢
  exact EvP.andK (block_ok hl a1 s1 (by omega) (by omega)) fun _ _ => EvP.some trivial
theorem number_ok {l : List Int} (hl : Bytes l) (hs : l.length ≤ 140737488351232) : EvP (fun k => laws_numberOf k l) (fun r => 0 ≤ r.1.1 ∧ r.1.1 < 1000003) := by
  refine EvP.of (fun k => laws_numberOf.eq k _) (EvP.andK (Q := fun r => 0 ≤ r.1.1 ∧ r.1.1 < 1000003) ?_ fun r h => EvP.some h)
  refine EvP.count (f := fun N i (n : Int) => laws_numberOf.l0 N l (l.length : Int) n i) (n := l.length) (inv := fun i n => 0 ≤ n ∧ n < 1000003) ?_ ?_ 0 0 (by omega) ⟨by decide, by decide⟩
  · intro i n hi ⟨h1, h2⟩ next
    refine EvP.step (fun k => laws_numberOf.l0.eq k _ _ _ _) ?_
    have e3 : IntKind.i64.wrap ((i : Int) + 1) = ((i + 1 : Nat) : Int) := by rw [i64w (by omega) (by omega)]; omega
    have hx := Bytes.getD hl (Int.toNat (i : Int))
    rw [e3, i64w (n := 31 * n) (by omega) (by omega), i64w (n := l.getD (Int.toNat (i : Int)) 0) (by omega) (by omega), i64w (n := 31 * n + l.getD (Int.toNat (i : Int)) 0) (by omega) (by omega), Int.tmod_eq_emod_of_nonneg (by omega)]
    exact EvP.pos (by omega) (EvP.chk2 (by omega) (by omega) (next _ ⟨Int.emod_nonneg _ (by decide), Int.emod_lt_of_pos _ (by decide)⟩))
  · intro n h
    exact EvP.step (fun k => laws_numberOf.l0.eq k _ _ _ _) (EvP.neg (by omega) (EvP.some h))
theorem shl_tab : ∀ m : Fin 8, shlI .u8 1 (IntKind.u64.wrap ((m : Nat) : Int)) = ((1 <<< (m : Nat) : Nat) : Int) ∧ (1 <<< (m : Nat)) < 256 ∧ (1 <<< (m : Nat)) ≠ 0 := by decide +kernel
theorem turned_ok {s : ByteArray} (hs : s.size = 16) {k : Int} (h0 : 0 ≤ k) (h1 : k < 1000003) : EvP (fun N => laws_turned N s k) (fun r => r.1.1.size = 16 ∧ r.1.1 ≠ s) := by
  refine EvP.of (fun n => laws_turned.eq n _ _) ?_
  obtain ⟨m, rfl⟩ := Int.eq_ofNat_of_zero_le h0
  have e1 : IntKind.i64.wrap (8 * ((bytesL s).length : Int)) = 128 := by rw [bytesL_len, hs]; rfl
  have e2 : Int.tmod (m : Int) 128 = ((m % 128 : Nat) : Int) := by rw [Int.tmod_eq_emod_of_nonneg (by omega)]; omega
  have e3 : Int.tdiv ((m % 128 : Nat) : Int) 8 = ((m % 128 / 8 : Nat) : Int) := by rw [Int.tdiv_eq_ediv_of_nonneg (by omega)]; omega
  have e4 : IntKind.i64.wrap ((m % 128 / 8 : Nat) : Int) = ((m % 128 / 8 : Nat) : Int) := i64w (by omega) (by omega)
  have e5 : Int.tmod ((m % 128 : Nat) : Int) 8 = ((m % 128 % 8 : Nat) : Int) := by rw [Int.tmod_eq_emod_of_nonneg (by omega)]; omega
  obtain ⟨t1, t2, t3⟩ := shl_tab ⟨m % 128 % 8, by omega⟩
  simp only at t1 t2 t3
  rw [e1, e2, e3, e4, e5, t1]
  have hi : m % 128 / 8 < 16 := by omega
  have hf := byteAt_lt s
  rw [bytesL_L, hs]
  simp only [Int.toNat_natCast, L_len]
  rw [L_at hi, xor_u8 (hf _) t2, L_set]
  refine EvP.chk (by decide) (EvP.chk2 (by omega) (by omega) (EvP.chk1 (u64_range _).1 (EvP.chk2 (by omega) (by omega) (EvP.some ⟨size16 _, fun h => ?_⟩))))
  dsimp only at h
  have hb : By (fun j => if j = m % 128 / 8 then byteAt s (m % 128 / 8) ^^^ 1 <<< (m % 128 % 8) else byteAt s j) := fun j => by
    dsimp only
    split
    · exact xor_lt (hf _) t2
    · exact hf j
  have h2 := byteAt_strL hb (n := 16) _ hi
  rw [h, if_pos rfl] at h2
  have h3 := congrArg (fun x => byteAt s (m % 128 / 8) ^^^ x) h2
  simp only [Nat.xor_self, ← Nat.xor_assoc, Nat.zero_xor] at h3
  exact t3 h3.symm
theorem Back_impl (k s : ByteArray) (hk : k.size = 16) (hs : s.size = 16) : EvP (fun N => impl_AesBack N k s) (· = ((aesBack k s, (true, ())), ())) := by
  refine EvP.of (fun n => impl_AesBack.eq n _ _) ?_
  refine EvP.to (a := ((false, ()), ())) (EvP.to (EvP.of (fun n => impl_isKey.eq n _) (EvP.some rfl)) (EvP.no (by simp [hk]) (EvP.to (EvP.of (fun n => impl_isBlock.eq n _) (EvP.some rfl)) (EvP.some (by simp [hs]))))) (EvP.no rfl ?_)
  refine EvP.andK (cipherOf_ok hk) ?_
  rintro r ⟨hb, hr⟩
  rw [hr]
  exact EvP.to (decrypt_ok (KW_by k) hb hs) (EvP.some rfl)
theorem Keys_impl (k : ByteArray) (hk : k.size = 16) : EvP (fun N => impl_RoundKeys N k) (· = ((strL (L 176 (KW k)), (true, ())), ())) := by
  refine EvP.of (fun n => impl_RoundKeys.eq n _) (EvP.to (EvP.of (fun n => impl_isKey.eq n _) (EvP.some rfl)) (EvP.no (by simp [hk]) (EvP.andK (cipherOf_ok hk) ?_)))
  rintro r ⟨hb, hr⟩
  exact EvP.some (by rw [hr]; rfl)
theorem strL_cut (l : List Int) (a b : Nat) : (strL l).extract a b = strL ((l.take b).drop a) := by
  apply ByteArray.ext
  unfold strL
  apply Array.ext'
  simp [ByteArray.data_extract, Array.toList_extract, List.extract_eq_take_drop, List.map_take, List.map_drop, List.drop_take]
theorem keys_begin (k : ByteArray) (hk : k.size = 16) : (strL (L 176 (KW k))).extract 0 16 = k := by
  rw [strL_cut, L_take (by decide), List.drop_zero]
  exact str_back hk fun i hi => kst_low 40 i hi
theorem FnAes (a0 : List Int) (h0 : ∀ n ∈ a0, 0 ≤ n ∧ n ≤ 255) (s0 : a0.length ≤ 140737488351232) (a1 : List Int) (h1 : ∀ n ∈ a1, 0 ≤ n ∧ n ≤ 255) (s1 : a1.length ≤ 140737488351232) : ∃ N, laws_FnAes N a0 a1 = some ((true, ()), ()) := by
  refine EvP.fin (EvP.of (fun k => laws_FnAes.eq k _ _) ?_)
  refine EvP.ite (fun _ => EvP.some rfl) (fun _ => ?_)
  refine EvP.andK (draw_ok h0) ?_
  rintro ⟨⟨k, b, ⟨⟩⟩, ⟨⟩⟩ -
  dsimp only
  refine EvP.to (AesBlock_impl k b) (EvP.to (AesBlock_spec k b) (EvP.to (a := ((false, ()), ())) ?_ (EvP.no rfl ?_)))
  · exact EvP.no (by simp) (EvP.some (by simp))
  · by_cases hkb : k.size = 16 ∧ b.size = 16
    · obtain ⟨hk, hb⟩ := hkb
      have e : aesOf k b = ((aes k b, (true, ())), ()) := if_pos ⟨hk, hb⟩
      rw [e]
      have hs : (aes k b).size = 16 := size16 _
      have hd : (aesBack k b).size = 16 := size16 _
      refine EvP.no rfl (EvP.to (Back_impl k _ hk hs) (EvP.to (Back_impl k b hk hb) (EvP.to (AesBlock_impl k _) (EvP.andK (number_ok h1 s1) ?_))))
      rintro ⟨⟨n, ⟨⟩⟩, ⟨⟩⟩ ⟨hn1, hn2⟩
      refine EvP.andK (turned_ok hb hn1 hn2) ?_
      rintro ⟨⟨t, ⟨⟩⟩, ⟨⟩⟩ ⟨ht1, ht2⟩
      dsimp only at ht1 ht2 ⊢
      refine EvP.to (AesBlock_impl k t) (EvP.to (Keys_impl k hk) ?_)
      have e2 : aesOf k (aesBack k b) = ((aes k (aesBack k b), (true, ())), ()) := if_pos ⟨hk, hd⟩
      have e3 : aesOf k t = ((aes k t, (true, ())), ()) := if_pos ⟨hk, ht1⟩
      rw [e2, e3]
      refine EvP.yes rfl (EvP.yes rfl (EvP.yes rfl (EvP.yes rfl (EvP.yes rfl (EvP.pos (back_aes k hb) (EvP.pos (aes_back k hb) (EvP.npos (fun h => ht2 (aes_inj k ht1 hb h)) ?_)))))))
      have hsz : (strL (L 176 (KW k))).size = 176 := by rw [strL_size, L_len]
      refine EvP.pos (by dsimp only; rw [hsz]; rfl) (EvP.chk1 (by dsimp only; rw [hsz]; decide) (EvP.some ?_))
      dsimp only
      rw [keys_begin k hk]
      simp
    · have e : aesOf k b = ((⟨#[]⟩, (false, ())), ()) := if_neg hkb
      rw [e]
      exact EvP.yes rfl (EvP.some (by simp))
end Go.Proofs.Ytcngjidojibleaa.Pure
