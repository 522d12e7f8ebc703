/- The reference seals so too. -/
import Derived.Test.YtkfpfcpmaejeoaaGreatQGcmWFnRetried
import Derived.Test.YtkfpfcpmaejeoaaGreatQPolySpecFnRetried
import Derived.Test.YtkfpfcpmaejeoaaGreatQAesSpecFnRetried
set_option linter.unusedVariables false
set_option linter.unusedSimpArgs false
namespace Go.Proofs.YtkfpfcpmaejeoaaGreat.CFnRetried
open Go Go.Proofs Go.Proofs.YtkfpfcpmaejeoaaGreatPM Go.Proofs.YtkfpfcpmaejeoaaGreat.Q Go.Proofs.YtkfpfcpmaejeoaaGreat.G128 Go.Proofs.YtkfpfcpmaejeoaaGreat.GFnRetried

theorem full_l0 : ∀ (k : Nat) (t : ByteArray), k < 16 → (t.size + k) % 16 = 0 → t.size + k ≤ 1000000 → EvP (fun N => spec_l5Full.l0 N t) (· = ((t ++ zs k, ()), ())) := by
  intro k
  induction k with
  | zero =>
    intro t h1 h2 h3
    refine EvP.step (fun N => spec_l5Full.l0.eq N _) (EvP.nneg (by rw [Int.tmod_eq_emod_of_nonneg (by omega)]; omega) (EvP.some ?_))
    rw [show zs 0 = (⟨#[]⟩ : ByteArray) from rfl, app_nil]
  | succ k ih =>
    intro t h1 h2 h3
    have e1 : (⟨#[0]⟩ : ByteArray).size = 1 := rfl
    refine EvP.step (fun N => spec_l5Full.l0.eq N _) (EvP.npos (by rw [Int.tmod_eq_emod_of_nonneg (by omega)]; omega) (EvP.chk1 (by omega) ?_))
    have := ih (t ++ ⟨#[0]⟩) (by omega) (by rw [ByteArray.size_append, e1]; omega) (by rw [ByteArray.size_append, e1]; omega)
    rw [app_assoc, ← zs_succ] at this
    exact this
theorem full_ok {s : ByteArray} (hs : s.size ≤ 100000) : EvP (fun N => spec_l5Full N s) (· = ((fz s, ()), ())) :=
  EvP.of (fun N => spec_l5Full.eq N _) (EvP.to (full_l0 ((16 - s.size % 16) % 16) s (by omega) (by omega) (by omega)) (EvP.some rfl))
theorem key_spec {key : ByteArray} (hk : key.size = 16) : EvP (fun N => spec_l5Key N key) (· = (((), ()), (((), ((), (aes key (zs 16), ()))), (L 176 (KW key), (L 256 sb, ()))))) := by
  refine EvP.of (fun N => spec_l5Key.eq N _) (EvP.andK (keys_spec hk) fun r hr => EvP.andK table_spec fun u hu => ?_)
  rw [hr, hu]
  exact EvP.to (with_ok (KW_by key) (zs_size 16)) (EvP.some rfl)
section
variable {key : ByteArray} {h : ByteArray} {p1 p2 : List Int}
theorem count_in {n q : Nat} {text : ByteArray} (hn : text.size = n) (hl : n ≤ 1000000) (nonce : ByteArray) (block : ByteArray) (hb : block.size = 16) (s : Nat → Nat) (hss : By s)
    (hs : ∀ j, j / 16 = q → s j = byteAt block (j % 16)) (hlt : 16 * q < n) :
    EvP (fun N => spec_l5K_count.l1 N nonce text ((16 * q : Nat) : Int) block 0 h p1 p2 (L (16 * q) (fun j => byteAt text j ^^^ s j))) (· = (((), ((), ())), (((), ((), (h, ()))), (p1, (p2, (L (min (16 * (q + 1)) n) (fun j => byteAt text j ^^^ s j), ())))))) := by
  refine EvP.count (f := fun N k (p : List Int) => spec_l5K_count.l1 N nonce text ((16 * q : Nat) : Int) block k h p1 p2 p) (n := min (16 * (q + 1)) n - 16 * q) (inv := fun k p => p = L (16 * q + k) (fun j => byteAt text j ^^^ s j)) ?_ ?_ 0 _ (by omega) rfl
  · rintro k p hk rfl next
    refine EvP.step (fun N => spec_l5K_count.l1.eq N _ _ _ _ _ _ _ _ _) ?_
    have e1 : IntKind.i64.wrap (((16 * q : Nat) : Int) + (k : Int)) = ((16 * q + k : Nat) : Int) := by rw [i64w (by omega) (by omega)]; omega
    have e2 : IntKind.i64.wrap ((k : Int) + 1) = ((k + 1 : Nat) : Int) := by rw [i64w (by omega) (by omega)]; omega
    rw [e1, e2, hn, hb]
    refine EvP.to (a := (((), ((), (true, ()))), (((), ((), (h, ()))), (p1, (p2, (L (16 * q + k) (fun j => byteAt text j ^^^ s j), ())))))) (EvP.pos (by omega) (EvP.some (by rw [decide_eq_true (by omega)]))) (EvP.yes rfl (EvP.chk2 (by omega) (by omega) (EvP.chk2 (by omega) (by omega) (EvP.chk1 (by (try dsimp only); rw [L_len]; unfold most; omega) ?_))))
    simp only [Int.toNat_natCast]
    rw [byteAt_bytesL, byteAt_bytesL, xor_u8 (byteAt_lt _ _) (byteAt_lt _ _), L_one, L_append]
    refine next _ ?_
    rw [← Nat.add_assoc]
    refine L_eq fun j hj => ?_
    by_cases h : j < 16 * q + k
    · rw [if_pos h]
    · rw [if_neg h, show j = 16 * q + k by omega, hs _ (by omega), show (16 * q + k) % 16 = k by omega]
  · rintro p rfl
    refine EvP.step (fun N => spec_l5K_count.l1.eq N _ _ _ _ _ _ _ _ _) ?_
    have e1 : IntKind.i64.wrap (((16 * q : Nat) : Int) + ((min (16 * (q + 1)) n - 16 * q : Nat) : Int)) = ((min (16 * (q + 1)) n : Nat) : Int) := by rw [i64w (by omega) (by omega)]; omega
    rw [e1, hn, show 16 * q + (min (16 * (q + 1)) n - 16 * q) = min (16 * (q + 1)) n by omega]
    refine EvP.to (a := (((), ((), (false, ()))), (((), ((), (h, ()))), (p1, (p2, (L (min (16 * (q + 1)) n) (fun j => byteAt text j ^^^ s j), ())))))) ?_ (EvP.no rfl (EvP.some rfl))
    exact EvP.ite (fun h => EvP.some (by rw [decide_eq_false (by omega)])) (fun h => EvP.some rfl)
theorem count_spec {nonce text : ByteArray} (hn : nonce.size = 12) (ht : text.size ≤ 1000000) :
    EvP (fun N => spec_l5K_count N nonce text h (L 176 (KW key)) (L 256 sb)) (· = ((ctr key nonce 2 text, ()), (((), ((), (h, ()))), (L 176 (KW key), (L 256 sb, ()))))) := by
  refine EvP.of (fun N => spec_l5K_count.eq N _ _ _ _ _) ?_
  have hS : By (ctrByte key nonce 2) := ctrByte_lt key _ 2
  have inner : ∀ (d q : Nat), (text.size + 15) / 16 ≤ q + d → q ≤ (text.size + 15) / 16 → EvP (fun N => spec_l5K_count.l0 N nonce text ((16 * q : Nat) : Int) h (L 176 (KW key)) (L 256 sb) (L (min (16 * q) text.size) (fun j => byteAt text j ^^^ ctrByte key nonce 2 j)))
      (· = (((), ()), (((), ((), (h, ()))), (L 176 (KW key), (L 256 sb, (L text.size (fun j => byteAt text j ^^^ ctrByte key nonce 2 j), ())))))) := by
    intro d
    induction d with
    | zero =>
      intro q h1 h2
      refine EvP.step (fun N => spec_l5K_count.l0.eq N _ _ _ _ _ _ _) (EvP.neg (by omega) (EvP.some ?_))
      rw [Nat.min_eq_right (by omega)]
    | succ d ih =>
      intro q h1 h2
      refine EvP.step (fun N => spec_l5K_count.l0.eq N _ _ _ _ _ _ _) ?_
      by_cases hlt : 16 * q < text.size
      · refine EvP.pos (by omega) ?_
        have e0 : IntKind.i64.wrap (2 + (IntKind.i64.wrap (Int.tdiv ((16 * q : Nat) : Int) 16))) = (((2 + q) % 4294967296 : Nat) : Int) := by
          rw [Int.tdiv_eq_ediv_of_nonneg (by omega), i64w (n := ((16 * q : Nat) : Int) / 16) (by omega) (by omega), i64w (by omega) (by omega)]
          omega
        rw [e0]
        refine EvP.to (fixed_ok _ 4 (by decide)) (EvP.chk1 (by (try dsimp only); rw [be_size]; omega) ?_)
        refine EvP.to (with_ok (KW_by key) (by (try dsimp only); rw [ByteArray.size_append, be_size]; omega)) ?_
        have hblk : strL (L 16 (encN sb (KW key) 10 (byteAt (nonce ++ be 4 (((2 + q) % 4294967296 : Nat) : Int))))) = ctrBlock key nonce 2 q := rfl
        rw [hblk, Nat.min_eq_left (by omega)]
        refine EvP.to (count_in rfl ht nonce (ctrBlock key nonce 2 q) (size16 _) (ctrByte key nonce 2) hS (fun j hj => by unfold ctrByte; rw [hj]) hlt) ?_
        have e2 : IntKind.i64.wrap (((16 * q : Nat) : Int) + 16) = ((16 * (q + 1) : Nat) : Int) := by rw [i64w (by omega) (by omega)]; omega
        dsimp only
        rw [e2]
        exact ih (q + 1) (by omega) (by omega)
      · refine EvP.neg (by omega) (EvP.some ?_)
        rw [Nat.min_eq_right (by omega)]
  have := inner ((text.size + 15) / 16) 0 (by omega) (by omega)
  rw [show min (16 * 0) text.size = 0 by omega] at this
  exact EvP.to this (EvP.some rfl)
theorem tag_spec {nonce beside sealed : ByteArray} (hn : nonce.size = 12) (h1 : beside.size ≤ 90000) (h2 : sealed.size ≤ 90000) :
    EvP (fun N => spec_l5K_tag N nonce beside sealed (aes key (zs 16)) (L 176 (KW key)) (L 256 sb)) (· = ((tagF key nonce beside sealed, ()), (((), ((), (aes key (zs 16), ()))), (L 176 (KW key), (L 256 sb, ()))))) := by
  have f1 := fz_size beside
  have f2 := fz_size sealed
  refine EvP.of (fun N => spec_l5K_tag.eq N _ _ _ _ _ _) (EvP.to (full_ok (by omega)) (EvP.to (full_ok (by omega)) (EvP.chk1 (by (try dsimp only); omega) ?_)))
  rw [i64w (n := 8 * (beside.size : Int)) (by omega) (by omega), i64w (n := 8 * (sealed.size : Int)) (by omega) (by omega)]
  refine EvP.to (fixed_ok _ 8 (by decide)) (EvP.chk1 (by (try dsimp only); rw [ByteArray.size_append, be_size]; omega) (EvP.to (fixed_ok _ 8 (by decide)) (EvP.chk1 (by (try dsimp only); rw [ByteArray.size_append, ByteArray.size_append, be_size, be_size]; omega) ?_)))
  have hg := gtext_size beside sealed
  dsimp only
  rw [show ((fz beside ++ fz sealed) ++ be 8 (8 * (beside.size : Int))) ++ be 8 (8 * (sealed.size : Int)) = gtext beside sealed from app_assoc _ _ _]
  refine EvP.to (ghash_spec (aes_size _ _) (by omega) (gtext_16 _ _)) (EvP.to (told_spec _) (EvP.chk1 (by omega) ?_))
  have e4 : (⟨#[0, 0, 0, 1]⟩ : ByteArray) = be 4 1 := rfl
  rw [e4]
  refine EvP.to (with_ok (KW_by key) (by rw [ByteArray.size_append, be_size, hn])) ?_
  have hA : strL (L 16 (encN sb (KW key) 10 (byteAt (nonce ++ be 4 1)))) = aes key (nonce ++ be 4 1) := rfl
  dsimp only
  rw [hA, bytesL_L (tOf _), bytesL_L (aes _ _), tOf_size, aes_size]
  refine EvP.to (xor_ok (byteAt_lt _) (byteAt_lt _) (Nat.le_refl 16) (by decide)) (EvP.some ?_)
  rw [tagF, xs, tOf_size]
  rfl
theorem seal_spec {nonce beside text : ByteArray} (hn : nonce.size = 12) (h1 : beside.size ≤ 90000) (h2 : text.size ≤ 90000) :
    EvP (fun N => spec_l5K_seal N nonce beside text (aes key (zs 16)) (L 176 (KW key)) (L 256 sb)) (· = ((sealF key nonce beside text, ()), (((), ((), (aes key (zs 16), ()))), (L 176 (KW key), (L 256 sb, ()))))) := by
  refine EvP.of (fun N => spec_l5K_seal.eq N _ _ _ _ _ _) (EvP.to (count_spec hn (by omega)) (EvP.to (tag_spec hn h1 (by (try dsimp only); rw [ctr_size]; exact h2)) (EvP.chk1 (by (try dsimp only); rw [ctr_size, tagF_size]; omega) (EvP.some rfl))))
end
end Go.Proofs.YtkfpfcpmaejeoaaGreat.CFnRetried
