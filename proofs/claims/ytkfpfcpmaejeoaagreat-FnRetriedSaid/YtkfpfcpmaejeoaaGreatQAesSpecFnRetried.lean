/- The reference's AES, by places. -/
import Derived.Test.YtkfpfcpmaejeoaaGreatQAesKeysFnRetried
set_option linter.unusedVariables false
set_option linter.unusedSimpArgs false
namespace Go.Proofs.YtkfpfcpmaejeoaaGreat.CFnRetried
open Go Go.Proofs Go.Proofs.YtkfpfcpmaejeoaaGreatPM Go.Proofs.YtkfpfcpmaejeoaaGreat.Q Go.Proofs.YtkfpfcpmaejeoaaGreat.GFnRetried

theorem keys_spec_l {k0 : Nat → Nat} (h0 : By k0) :
    EvP (fun N => spec_l3Keys.l0 N 1 4 (L 16 k0)) (fun r => r.2.1 = L 176 (KS k0 40).2) := by
  refine EvP.count (f := fun N i (a : Int × List Int) => spec_l3Keys.l0 N a.1 (i + 4) a.2) (n := 40) (inv := fun i a => a.1 = (((KS k0 i).1 : Nat) : Int) ∧ a.2 = L (4 * (4 + i)) (KS k0 i).2) ?_ ?_ 0 (1, L 16 k0) (by decide) ⟨rfl, rfl⟩
  · rintro i ⟨_, _⟩ hi ⟨rfl, rfl⟩ next
    obtain ⟨ho, hw⟩ := KS_by h0 i
    have hks : KS k0 (i + 1) = (ko (4 + i) (KS k0 i).1, kw sb (4 + i) (KS k0 i).1 (KS k0 i).2 4) := rfl
    generalize hq : KS k0 i = q at *
    obtain ⟨o, w⟩ := q
    dsimp only at ho hw hks ⊢
    have hd : (i : Int) + 4 = ((4 + i : Nat) : Int) := by omega
    refine EvP.step (fun n => spec_l3Keys.l0.eq n _ _ _) ?_
    rw [hd]
    generalize hdd : 4 + i = d at *
    have e1 : IntKind.i64.wrap (4 * (d : Int)) = ((4 * d : Nat) : Int) := by rw [i64w (by omega) (by omega)]; omega
    have e2 : IntKind.i64.wrap (((4 * d : Nat) : Int) - 4) = ((4 * d - 4 : Nat) : Int) := by rw [i64w (by omega) (by omega)]; omega
    have e3 : Int.tmod (d : Int) 4 = ((d % 4 : Nat) : Int) := by rw [Int.tmod_eq_emod_of_nonneg (by omega)]; omega
    have e4 : IntKind.i64.wrap ((d : Int) + 1) = ((i + 1 : Nat) : Int) + 4 := by rw [i64w (by omega) (by omega)]; omega
    have e5 : ((L (4 * d) w).drop (4 * d - 4)).take 4 = L 4 (fun k => w (4 * d - 4 + k)) := L_cut (by omega)
    have e10 : 4 * d - (4 * d - 4) = 4 := by omega
    rw [e1, e2, e3, e4]
    simp only [Int.toNat_natCast, e10, e5, L_len]
    refine EvP.pos (by omega) (EvP.chk3 (by omega) (by omega) (by omega) (EvP.chk1 (by unfold most; omega) ?_))
    refine EvP.to (a := (((), (((ko d o : Nat) : Int), (L 4 (kt sb d o w), ()))), (L (4 * d) w, ((), ())))) ?_ ?_
    · refine EvP.ite (fun hm => ?_) (fun hm => EvP.some ?_)
      · have hm' : d % 4 = 0 := by omega
        have g : ∀ k, k < 4 → (L 4 (fun k => w (4 * d - 4 + k))).getD k 0 = ((w (4 * d - 4 + k) : Nat) : Int) := fun k hk => L_at hk
        simp only [g 0 (by decide), g 1 (by decide), g 2 (by decide), g 3 (by decide)]
        refine EvP.chk1 (by omega) (EvP.to (sub_spec (hw _)) (EvP.chk1 (by omega) (EvP.to (sub_spec (hw _)) (EvP.chk1 (by omega) (EvP.to (sub_spec (hw _)) (EvP.chk1 (by omega) (EvP.to (sub_spec (hw _)) (EvP.to (mulGf_spec ho (b := 2) (by decide)) (EvP.some ?_)))))))))
        dsimp only
        rw [xor_u8 (sb_lt (hw _)) ho, show ko d o = gf o 2 by unfold ko; rw [if_pos hm']]
        refine congrArg (fun l => (((), (((gf o 2 : Nat) : Int), (l, ()))), (L (4 * d) w, ((), ())))) ?_
        have hk : ∀ k, kt sb d o w k = if k = 0 then sb (w (4 * d - 3)) ^^^ o else sb (w (4 * d - 4 + (k + 1) % 4)) := fun k => by unfold kt; rw [if_pos hm']
        show _ = [(((kt sb d o w 0) : Nat) : Int), (((kt sb d o w 1) : Nat) : Int), (((kt sb d o w 2) : Nat) : Int), (((kt sb d o w 3) : Nat) : Int)]
        rw [hk, hk, hk, hk, if_pos rfl, if_neg (by decide), if_neg (by decide), if_neg (by decide), show 4 * d - 4 + 1 = 4 * d - 3 by omega]
      · have hm' : ¬ d % 4 = 0 := by omega
        rw [show ko d o = o by unfold ko; rw [if_neg hm'], L_eq (f := kt sb d o w) (g := fun k => w (4 * d - 4 + k)) fun k _ => by unfold kt; rw [if_neg hm']]
    · dsimp only
      refine EvP.to (a := (((), ()), (L (4 * d + 4) (kw sb d o w 4), ((), ())))) ?_ (next (((ko d o : Nat) : Int), L (4 * d + 4) (kw sb d o w 4)) ⟨by rw [hks], by rw [hks, show 4 * (4 + (i + 1)) = 4 * d + 4 by omega]⟩)
      have hkb : By (kt sb d o w) := fun k => By.kt sbl ho hw k
      rw [L_len]
      refine EvP.count (f := fun N j (p : List Int) => spec_l3Keys.l1 N ((ko d o : Nat) : Int) (d : Int) (L 4 (kt sb d o w)) ((4 : Nat) : Int) j p) (n := 4) (inv := fun j p => p = L (4 * d + j) (kw sb d o w j)) ?_ ?_ 0 _ (by decide) (kw_zero d o w).symm
      · rintro j p hj rfl next
        refine EvP.step (fun n => spec_l3Keys.l1.eq n _ _ _ _ _ _) ?_
        have e6 : IntKind.i64.wrap (((4 * d : Nat) : Int) - 16) = ((4 * d - 16 : Nat) : Int) := by rw [i64w (by omega) (by omega)]; omega
        have e7 : IntKind.i64.wrap (((4 * d - 16 : Nat) : Int) + (j : Int)) = ((4 * d + j - 16 : Nat) : Int) := by rw [i64w (by omega) (by omega)]; omega
        have e8 : IntKind.i64.wrap ((j : Int) + 1) = ((j + 1 : Nat) : Int) := by rw [i64w (by omega) (by omega)]; omega
        rw [e1, e6, e7, e8]
        simp only [Int.toNat_natCast, L_len]
        rw [L_at hj, L_at (by omega : 4 * d + j - 16 < 4 * d + j), kw_at (by omega), xor_u8 (hw _) (hkb _), kw_next (by omega)]
        refine EvP.pos (by omega) (EvP.chk2 (by omega) (by omega) (EvP.chk2 (by omega) (by omega) (EvP.chk1 (by unfold most; omega) (next _ rfl))))
      · rintro p rfl
        exact EvP.step (fun n => spec_l3Keys.l1.eq n _ _ _ _ _ _) (EvP.neg (by omega) (EvP.some rfl))
  · rintro ⟨_, _⟩ ⟨rfl, rfl⟩
    exact EvP.step (fun n => spec_l3Keys.l0.eq n _ _ _) (EvP.neg (by omega) (EvP.some rfl))
theorem keys_spec {s : ByteArray} (hs : s.size = 16) : EvP (fun N => spec_l3Keys N s) (fun r => r.2.1 = L 176 (KS (byteAt s) 40).2) := by
  refine EvP.of (fun k => spec_l3Keys.eq k _) ?_
  rw [bytesL_L, hs]
  refine EvP.andK (keys_spec_l (byteAt_lt s)) ?_
  intro q h
  exact EvP.some h
theorem table_spec : EvP (fun N => spec_l3Table N) (fun r => r.2.1 = L 256 sb) := by
  refine EvP.of (fun k => spec_l3Table.eq k) ?_
  rw [L_zero, L_len]
  refine EvP.andK (Q := fun r => r.2.1 = L 256 sb) ?_ (fun r h => EvP.some h)
  refine EvP.count (f := fun N i (p : List Int) => spec_l3Table.l0 N ((256 : Nat) : Int) i p) (n := 256) (inv := fun i p => p = L 256 (fun j => if j < i then sb j else 0)) ?_ ?_ 0 _ (by decide) rfl
  · rintro i p hi rfl next
    refine EvP.step (fun k => spec_l3Table.l0.eq k _ _ _) ?_
    have e3 : IntKind.i64.wrap ((i : Int) + 1) = ((i + 1 : Nat) : Int) := by rw [i64w (by omega) (by omega)]; omega
    have e4 : IntKind.u8.wrap (i : Int) = (i : Int) := u8i (by omega) (by omega)
    rw [e3, e4]
    simp only [Int.toNat_natCast, L_len]
    refine EvP.pos (by omega) (EvP.to (sub_spec hi) (EvP.chk2 (by omega) (by omega) ?_))
    dsimp only
    rw [L_set]
    refine next _ (L_eq fun j hj => ?_)
    by_cases e : j = i
    · subst e; rw [if_pos rfl, if_pos (by omega)]
    · rw [if_neg e]
      by_cases h : j < i
      · rw [if_pos h, if_pos (by omega)]
      · rw [if_neg h, if_neg (by omega)]
  · rintro p rfl
    refine EvP.step (fun k => spec_l3Table.l0.eq k _ _ _) (EvP.neg (by omega) (EvP.some ?_))
    exact L_eq fun j hj => if_pos hj

theorem xor_ok {f g : Nat → Nat} (hf : By f) (hg : By g) {n m : Nat} (hnm : n ≤ m) (hn : n < 68719476736) : EvP (fun N => spec_l3Xor N (L n f) (L m g)) (· = (((), ()), (L n (fun i => f i ^^^ g i), ()))) := by
  refine EvP.of (fun k => spec_l3Xor.eq k _ _) ?_
  simp only [L_len, Int.toNat_natCast]
  rw [L_zero]
  have hs : smallI (n : Int) = true := by
    show Nat.blt n 68719476736 = true
    simpa [Nat.blt_eq] using hn
  refine EvP.chk (by simp [hs]) (EvP.to (a := (((), ()), (L n (fun i => f i ^^^ g i), ()))) ?_ (EvP.some rfl))
  refine EvP.count (f := fun N i (p : List Int) => spec_l3Xor.l0 N (L n f) (L m g) (n : Int) i p) (n := n) (inv := fun i p => p = L n (fun j => if j < i then f j ^^^ g j else 0)) ?_ ?_ 0 _ (by omega) (L_eq fun j _ => by rw [if_neg (by omega)])
  · rintro i p hi rfl next
    refine EvP.step (fun k => spec_l3Xor.l0.eq k _ _ _ _ _) ?_
    have e3 : IntKind.i64.wrap ((i : Int) + 1) = ((i + 1 : Nat) : Int) := by rw [i64w (by omega) (by omega)]; omega
    rw [e3]
    simp only [Int.toNat_natCast, L_len]
    rw [L_at hi, L_at (by omega : i < m), xor_u8 (hf i) (hg i), L_set]
    refine EvP.pos (by omega) (EvP.chk2 (by omega) (by omega) (EvP.chk2 (by omega) (by omega) (EvP.chk2 (by omega) (by omega) (next _ (L_eq fun j hj => ?_)))))
    by_cases e : j = i
    · subst e; rw [if_pos rfl, if_pos (by omega)]
    · rw [if_neg e]
      by_cases h : j < i
      · rw [if_pos h, if_pos (by omega)]
      · rw [if_neg h, if_neg (by omega)]
  · rintro p rfl
    refine EvP.step (fun k => spec_l3Xor.l0.eq k _ _ _ _ _) (EvP.neg (by omega) (EvP.some ?_))
    rw [L_eq (g := fun i => f i ^^^ g i) fun j hj => if_pos hj]

theorem mix_ok {c f : Nat → Nat} (hc : By c) (hf : By f) : EvP (fun N => spec_l3Mix N (L 4 f) (L 4 c)) (· = (((), ()), (L 4 (mq c f 0), ()))) := by
  refine EvP.of (fun k => spec_l3Mix.eq k _ _) ?_
  rw [L_zero, L_len]
  refine EvP.to (a := (((), ()), (L 4 (mq c f 0), ()))) ?_ (EvP.some rfl)
  refine EvP.count (f := fun N i (p : List Int) => spec_l3Mix.l0 N (L 4 f) (L 4 c) ((4 : Nat) : Int) i p) (n := 4) (inv := fun i p => p = L 4 (fun j => if j < i then mq c f 0 j else 0)) ?_ ?_ 0 _ (by decide) rfl
  · rintro i p hi rfl next
    refine EvP.step (fun n => spec_l3Mix.l0.eq n _ _ _ _ _) (EvP.pos (by omega) ?_)
    have e9 : IntKind.i64.wrap ((i : Int) + 1) = ((i + 1 : Nat) : Int) := by rw [i64w (by omega) (by omega)]; omega
    rw [e9]
    refine EvP.to (a := (((), ()), (L 4 (fun j => if j < i + 1 then mq c f 0 j else 0), ()))) ?_ (next _ rfl)
    refine EvP.count (f := fun N k (p : List Int) => spec_l3Mix.l1 N (L 4 f) (L 4 c) (i : Int) ((4 : Nat) : Int) (i : Int) k p) (n := 4) (inv := fun k p => p = L 4 (fun j => if j = i then pm c f 0 i k else if j < i then mq c f 0 j else 0)) ?_ ?_ 0 _ (by decide) ?_
    · rintro k p hk rfl next
      refine EvP.step (fun n => spec_l3Mix.l1.eq n _ _ _ _ _ _ _) (EvP.pos (by omega) ?_)
      have e1 : IntKind.i64.wrap ((i : Int) + (k : Int)) = ((i + k : Nat) : Int) := by rw [i64w (by omega) (by omega)]; omega
      have e2 : Int.tmod ((i + k : Nat) : Int) 4 = (((i + k) % 4 : Nat) : Int) := by rw [Int.tmod_eq_emod_of_nonneg (by omega)]; omega
      have e3 : IntKind.i64.wrap ((k : Int) + 1) = ((k + 1 : Nat) : Int) := by rw [i64w (by omega) (by omega)]; omega
      rw [e1, e2, e3]
      simp only [Int.toNat_natCast, L_len]
      rw [L_at hk, L_at (by omega : (i + k) % 4 < 4)]
      refine EvP.chk2 (by omega) (by omega) (EvP.chk2 (by omega) (by omega) (EvP.chk2 (by omega) (by omega) (EvP.to (mulGf_spec (hc k) (hf _)) (EvP.chk2 (by omega) (by omega) ?_))))
      dsimp only
      rw [L_at hi, if_pos rfl, xor_u8 (pm_lt hc 0 i k) (gf_lt (hc k)), L_set]
      refine next _ (L_eq fun j hj => ?_)
      by_cases e : j = i
      · rw [if_pos e, if_pos e]
        show _ = pm c f 0 i k ^^^ gf (c k) (f (0 + (i + k) % 4))
        rw [Nat.zero_add]
      · rw [if_neg e, if_neg e, if_neg e]
    · rintro p rfl
      refine EvP.step (fun n => spec_l3Mix.l1.eq n _ _ _ _ _ _ _) (EvP.neg (by omega) (EvP.some ?_))
      refine congrArg (fun l => (((), ()), (l, ()))) (L_eq fun j hj => ?_)
      by_cases e : j = i
      · subst e; rw [if_pos rfl, if_pos (by omega), pm4]
      · rw [if_neg e]
        by_cases h : j < i
        · rw [if_pos h, if_pos (by omega)]
        · rw [if_neg h, if_neg (by omega)]
    · refine L_eq fun j hj => ?_
      by_cases e : j = i
      · subst e; rw [if_neg (by omega), if_pos rfl]; rfl
      · rw [if_neg e]
  · rintro p rfl
    refine EvP.step (fun n => spec_l3Mix.l0.eq n _ _ _ _ _) (EvP.neg (by omega) (EvP.some ?_))
    rw [L_eq (g := mq c f 0) fun j hj => if_pos hj]

theorem tab_ok {f : Nat → Nat} (hf : By f) (G p0 : List Int) (r : Int) : EvP (fun N => spec_l3With.l1 N G (L 256 sb) (L 16 f) r 0 p0 (List.replicate 16 (0 : Int))) (· = (((), ()), (p0, ((), (L 16 (sh 1 fun i => sb (f i)), ()))))) := by
  rw [L_zero]
  refine EvP.count (f := fun N i (p : List Int) => spec_l3With.l1 N G (L 256 sb) (L 16 f) r i p0 p) (n := 4) (inv := fun i p => p = L 16 (fun j => if j < 4 * i then sh 1 (fun i => sb (f i)) j else 0)) ?_ ?_ 0 _ (by decide) rfl
  · rintro i p hi rfl next
    refine EvP.step (fun n => spec_l3With.l1.eq n _ _ _ _ _ _ _) (EvP.pos (by omega) ?_)
    have e9 : IntKind.i64.wrap ((i : Int) + 1) = ((i + 1 : Nat) : Int) := by rw [i64w (by omega) (by omega)]; omega
    rw [e9]
    refine EvP.to (a := (((), ()), (p0, ((), (L 16 (fun j => if j < 4 * (i + 1) then sh 1 (fun i => sb (f i)) j else 0), ()))))) ?_ (next _ rfl)
    refine EvP.count (f := fun N k (p : List Int) => spec_l3With.l2 N G (L 256 sb) (L 16 f) r (i : Int) k p0 p) (n := 4) (inv := fun k p => p = L 16 (fun j => if j < 4 * i + k then sh 1 (fun i => sb (f i)) j else 0)) ?_ ?_ 0 _ (by decide) rfl
    · rintro k p hk rfl next
      refine EvP.step (fun n => spec_l3With.l2.eq n _ _ _ _ _ _ _ _) ?_
      have e1 : IntKind.i64.wrap ((i : Int) + (k : Int)) = ((i + k : Nat) : Int) := by rw [i64w (by omega) (by omega)]; omega
      have e2 : Int.tmod ((i + k : Nat) : Int) 4 = (((i + k) % 4 : Nat) : Int) := by rw [Int.tmod_eq_emod_of_nonneg (by omega)]; omega
      have e3 : IntKind.i64.wrap (4 * (((i + k) % 4 : Nat) : Int)) = ((4 * ((i + k) % 4) : Nat) : Int) := by rw [i64w (by omega) (by omega)]; omega
      have e4 : IntKind.i64.wrap (((4 * ((i + k) % 4) : Nat) : Int) + (k : Int)) = ((4 * ((i + k) % 4) + k : Nat) : Int) := by rw [i64w (by omega) (by omega)]; omega
      have e5 : IntKind.i64.wrap (4 * (i : Int)) = ((4 * i : Nat) : Int) := by rw [i64w (by omega) (by omega)]; omega
      have e6 : IntKind.i64.wrap (((4 * i : Nat) : Int) + (k : Int)) = ((4 * i + k : Nat) : Int) := by rw [i64w (by omega) (by omega)]; omega
      have e7 : IntKind.i64.wrap ((k : Int) + 1) = ((k + 1 : Nat) : Int) := by rw [i64w (by omega) (by omega)]; omega
      have e8 : (L 16 f).getD (4 * ((i + k) % 4) + k) 0 = ((f (4 * ((i + k) % 4) + k) : Nat) : Int) := L_at (by omega)
      have hfi := hf (4 * ((i + k) % 4) + k)
      rw [e1, e2, e3, e4, e5, e6, e7]
      simp only [Int.toNat_natCast, L_len, e8]
      rw [L_at hfi, L_set]
      refine EvP.pos (by omega) (EvP.chk2 (by omega) (by omega) (EvP.chk2 (by omega) (by omega) (EvP.chk2 (by omega) (by omega) (next _ (L_eq fun j hj => ?_)))))
      by_cases e : j = 4 * i + k
      · subst e
        rw [if_pos rfl, if_pos (by omega)]
        unfold sh shx
        rw [show (4 * i + k) / 4 = i by omega, show (4 * i + k) % 4 = k by omega, Nat.one_mul]
      · rw [if_neg e]
        by_cases h : j < 4 * i + k
        · rw [if_pos h, if_pos (by omega)]
        · rw [if_neg h, if_neg (by omega)]
    · rintro p rfl
      exact EvP.step (fun n => spec_l3With.l2.eq n _ _ _ _ _ _ _ _) (EvP.neg (by omega) (EvP.some rfl))
  · rintro p rfl
    refine EvP.step (fun n => spec_l3With.l1.eq n _ _ _ _ _ _ _) (EvP.neg (by omega) (EvP.some ?_))
    rw [L_eq (g := sh 1 fun i => sb (f i)) fun j hj => if_pos (by omega)]
theorem cols_ok {f : Nat → Nat} (hf : By f) (G o p0 : List Int) (r : Int) : EvP (fun N => spec_l3With.l3 N G o r 0 p0 (L 16 f) []) (· = (((), ()), (p0, ((), (L 16 f, (L 16 (mx fw f), ())))))) := by
  refine EvP.count (f := fun N i (p : List Int) => spec_l3With.l3 N G o r i p0 (L 16 f) p) (n := 4) (inv := fun i p => p = L (4 * i) (mx fw f)) ?_ ?_ 0 _ (by decide) rfl
  · rintro i p hi rfl next
    refine EvP.step (fun n => spec_l3With.l3.eq n _ _ _ _ _ _ _) ?_
    have e1 : IntKind.i64.wrap (4 * (i : Int)) = ((4 * i : Nat) : Int) := by rw [i64w (by omega) (by omega)]; omega
    have e2 : IntKind.i64.wrap (((4 * i : Nat) : Int) + 4) = ((4 * i + 4 : Nat) : Int) := by rw [i64w (by omega) (by omega)]; omega
    have e3 : IntKind.i64.wrap ((i : Int) + 1) = ((i + 1 : Nat) : Int) := by rw [i64w (by omega) (by omega)]; omega
    rw [e1, e2, e3]
    have e4 : 4 * i + 4 - 4 * i = 4 := by omega
    have e5 : ((L 16 f).drop (4 * i)).take 4 = L 4 (fun j => f (4 * i + j)) := L_cut (by omega)
    simp only [Int.toNat_natCast, L_len, e4, e5]
    refine EvP.pos (by omega) (EvP.chk3 (by omega) (by omega) (by omega) (EvP.to (mix_ok (c := fw) fw_lt (f := fun j => f (4 * i + j)) (fun j => hf _)) (EvP.chk1 ?_ ?_)))
    · dsimp only; rw [L_len]; unfold most; omega
    · dsimp only
      rw [L_append]
      refine next _ ?_
      rw [show 4 * i + 4 = 4 * (i + 1) by omega]
      refine L_eq fun j hj => ?_
      by_cases h : j < 4 * i
      · rw [if_pos h]
      · rw [if_neg h]
        unfold mx mq
        rw [show 4 * (j / 4) = 4 * i by omega, show j - 4 * i = j % 4 by omega]
        simp only [Nat.zero_add]
  · rintro p rfl
    exact EvP.step (fun n => spec_l3With.l3.eq n _ _ _ _ _ _ _) (EvP.neg (by omega) (EvP.some rfl))
theorem cut_L {n a b : Nat} {f : Nat → Nat} (hb : b ≤ n) : cut (L n f) ((a : Nat) : Int) ((b : Nat) : Int) = L (b - a) (fun i => f (a + i)) := by
  unfold cut
  rw [Int.toNat_natCast, Int.toNat_natCast, L_take hb, L_drop]
theorem with_ok {w : Nat → Nat} (hw : By w) {s : ByteArray} (hs : s.size = 16) : EvP (fun N => spec_l3With N (L 176 w) (L 256 sb) s) (· = ((strL (L 16 (encN sb w 10 (byteAt s))), ()), ())) := by
  have hf := byteAt_lt s
  refine EvP.of (fun k => spec_l3With.eq k _ _ _) ?_
  rw [bytesL_L, hs, show cut (L 176 w) 0 16 = L 16 (fun i => w (16 * 0 + i)) from cut_L (n := 176) (a := 0) (b := 16) (by decide)]
  simp only [L_len]
  refine EvP.chk1 (by decide) (EvP.to (xor_ok hf (g := fun i => w (16 * 0 + i)) (fun i => hw _) (Nat.le_refl _) (by decide)) (EvP.andK (Q := fun x => x.1.1 = L 16 (encN sb w 10 (byteAt s))) ?_ fun x hx => EvP.some (by rw [hx])))
  refine EvP.count (f := fun N i (a : List Int × List Int) => spec_l3With.l0 N (L 176 w) (L 256 sb) a.1 i a.2) (n := 11) (inv := fun i a => 1 ≤ i ∧ a.1 = L 16 (encN sb w (i - 1) (byteAt s))) ?_ ?_ 1 (_, L 16 (byteAt s)) (by decide) ⟨by decide, rfl⟩
  · rintro i ⟨_, q⟩ hi ⟨h1, rfl⟩ next
    obtain ⟨r, rfl⟩ : ∃ r, i = r + 1 := ⟨i - 1, by omega⟩
    have hg : By (encN sb w r (byteAt s)) := By.encN hw sbl hf r
    have hg1 : By (fun i => sb (encN sb w r (byteAt s) i)) := fun i => sb_lt (hg i)
    dsimp only
    refine EvP.step (fun k => spec_l3With.l0.eq k _ _ _ _ _) (EvP.pos (by omega) ?_)
    have e1 : IntKind.i64.wrap (16 * ((r + 1 : Nat) : Int)) = ((16 * (r + 1) : Nat) : Int) := by rw [i64w (by omega) (by omega)]; omega
    have e2 : IntKind.i64.wrap (((16 * (r + 1) : Nat) : Int) + 16) = ((16 * (r + 1) + 16 : Nat) : Int) := by rw [i64w (by omega) (by omega)]; omega
    have e3 : IntKind.i64.wrap (((r + 1 : Nat) : Int) + 1) = ((r + 1 + 1 : Nat) : Int) := by rw [i64w (by omega) (by omega)]; omega
    rw [e1, e2, e3, Nat.add_sub_cancel, cut_L (by omega : 16 * (r + 1) + 16 ≤ 176), show 16 * (r + 1) + 16 - 16 * (r + 1) = 16 by omega]
    simp only [L_len]
    refine EvP.to (tab_ok hg _ q _) ?_
    have hm : By (if r + 1 < 10 then mx fw (sh 1 fun i => sb (encN sb w r (byteAt s) i)) else sh 1 fun i => sb (encN sb w r (byteAt s) i)) := by
      split
      · exact By.mx fw_lt
      · exact hg1.sh 1
    refine EvP.to (a := ((L 16 (if r + 1 < 10 then mx fw (sh 1 fun i => sb (encN sb w r (byteAt s) i)) else sh 1 fun i => sb (encN sb w r (byteAt s) i)), ()), (q, ((), ((), ()))))) ?_ ?_
    · refine EvP.ite (fun h => ?_) (fun h => EvP.some ?_)
      · rw [if_pos (by omega)]
        exact EvP.to (cols_ok (hg1.sh 1) _ _ q _) (EvP.some rfl)
      · rw [if_neg (by omega)]
    · refine EvP.chk3 (by omega) (by omega) (by omega) (EvP.to (xor_ok hm (g := fun i => w (16 * (r + 1) + i)) (fun i => hw _) (Nat.le_refl _) (by decide)) (next (_, q) ⟨by omega, rfl⟩))
  · rintro ⟨_, q⟩ ⟨_, rfl⟩
    exact EvP.step (fun k => spec_l3With.l0.eq k _ _ _ _ _) (EvP.neg (by omega) (EvP.some rfl))
end Go.Proofs.YtkfpfcpmaejeoaaGreat.CFnRetried
