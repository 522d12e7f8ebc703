/- What both packages give as the words of the rounds and as the first state. -/
import Derived.Test.YthkjjombaoffcaaGreatDoorQShaKFnRendezvous
import Derived.Test.YthkjjombaoffcaaGreatDoorQList
set_option linter.unusedVariables false
set_option linter.unusedSimpArgs false
namespace Go.Proofs.YthkjjombaoffcaaGreatDoor.CFnRendezvous
open Go Go.Proofs Go.Proofs.YthkjjombaoffcaaGreatDoorPM Go.Proofs.YthkjjombaoffcaaGreatDoor.Q Go.Proofs.YthkjjombaoffcaaGreatDoor.GFnRendezvous

theorem ev400 {β : Type} {g : Nat → Option β} {r : β} (h : ∀ n, g (n + 400) = some r) : EvP g (· = r) :=
  EvP.from 400 (fun n hn => by obtain ⟨m, rfl⟩ : ∃ m, n = m + 400 := ⟨n - 400, by omega⟩; exact h m) rfl
theorem first_ok : EvP (fun N => impl_firstState N) (· = (((), ()), (H8, ()))) := ev400 fun n => by rw [impl_firstState_T_eq]; exact first_T n
theorem words8_ok : EvP (fun N => spec_l4Words N 8 2) (· = (((), ()), (H8, ()))) := ev400 fun n => by rw [spec_l4Words_T_eq]; exact words8_T n
theorem K64_len : K64.length = 64 := by decide
theorem F64_len : F64.length = 64 := by decide
theorem P64_len : P64.length = 64 := by decide
theorem H8_len : H8.length = 8 := by decide
theorem K64_take {i : Nat} (h : i < 64) : K64.take (i + 1) = K64.take i ++ [K64.getD i 0] := by
  have hl : i < K64.length := by rw [K64_len]; exact h
  rw [List.take_succ_eq_append_getElem hl, List.getD_eq_getElem?_getD, List.getElem?_eq_getElem hl]
  rfl
theorem round_ok : EvP (fun N => impl_RoundWords N) (· = (((), ()), (K64, ()))) := by
  refine EvP.of (fun N => impl_RoundWords.eq N) (EvP.to (a := (((), ()), (K64, ()))) ?_ (EvP.some rfl))
  refine EvP.of (fun N => impl_behindPoint_2.eq N _) (EvP.to (a := (((), ()), (F64, ()))) (ev400 fun n => by rw [impl_primes_T_eq]; exact primes_T n) ?_)
  refine EvP.to (a := (((), ()), (F64, (K64, ())))) ?_ (EvP.some rfl)
  have hF := F64_len
  refine EvP.count (f := fun N i (a : List Int) => impl_behindPoint_2.l0 N (F64.length : Int) i F64 a) (n := 64) (inv := fun i a => a = K64.take i) ?_ ?_ 0 _ (by omega) rfl
  · rintro i a hi rfl next
    refine EvP.step (fun N => impl_behindPoint_2.l0.eq N _ _ _ _) (EvP.pos (by omega) (EvP.chk2 (by omega) (by omega) ?_))
    have hc : ∀ n, cbOk n i = true := fun n => (List.all_eq_true.1 (cb_T n)) i (List.mem_range.2 hi)
    refine EvP.andK (Q := fun r => fArOk .mul r.1.1 4751297606875873280 = true ∧ fToOk .u64 (fAr .mul r.1.1 4751297606875873280) = true ∧ IntKind.u32.wrap (fToI .u64 (fAr .mul r.1.1 4751297606875873280)) = K64.getD i 0) ?_ ?_
    · have h0 := hc 0
      unfold cbOk at h0
      cases e : math_Cbrt_T 0 (F64.getD i 0) with
      | none => rw [e] at h0; cases h0
      | some r =>
        rw [e] at h0
        simp only [Bool.and_eq_true, decide_eq_true_eq] at h0
        rw [Int.toNat_natCast]
        refine EvP.from (r := r) 0 (fun n _ => ?_) ⟨h0.1, h0.2.1, by rw [w_u32_eq]; exact h0.2.2⟩
        rw [math_Cbrt_T_eq]
        exact e
    · rintro r ⟨h1, h2, h3⟩
      refine EvP.chk h1 (EvP.chk h2 (EvP.chk1 (show _ < (68719476736 : Nat) by rw [List.length_take, K64_len]; omega) ?_))
      rw [h3, show IntKind.i64.wrap ((i : Int) + 1) = ((i + 1 : Nat) : Int) by rw [i64w (by omega) (by omega)]; omega, ← K64_take hi]
      exact next _ rfl
  · rintro a rfl
    refine EvP.step (fun N => impl_behindPoint_2.l0.eq N _ _ _ _) (EvP.neg (by omega) (EvP.some ?_))
    rw [List.take_of_length_le (by rw [K64_len]; exact Nat.le_refl _)]
theorem root_ok {i : Nat} (h : i < 64) : EvP (fun N => spec_l4Root N (P64.getD i 0) 3) (fun r => r.1.1 = K64.getD i 0) := by
  have hc : ∀ n, rtOk (n + 60) i = true := by
    intro n
    by_cases h1 : i < 16
    · exact (List.all_eq_true.1 (rt_T0 n)) i (List.mem_range'.2 ⟨i, h1, by omega⟩)
    by_cases h2 : i < 32
    · exact (List.all_eq_true.1 (rt_T1 n)) i (List.mem_range'.2 ⟨i - 16, by omega, by omega⟩)
    by_cases h3 : i < 48
    · exact (List.all_eq_true.1 (rt_T2 n)) i (List.mem_range'.2 ⟨i - 32, by omega, by omega⟩)
    · exact (List.all_eq_true.1 (rt_T3 n)) i (List.mem_range'.2 ⟨i - 48, by omega, by omega⟩)
  have hs : ∀ n, ∃ r, spec_l4Root_T (n + 60) (P64.getD i 0) 3 = some r ∧ r.1.1 = K64.getD i 0 := by
    intro n
    have h0 := hc n
    unfold rtOk at h0
    cases e : spec_l4Root_T (n + 60) (P64.getD i 0) 3 with
    | none => rw [e] at h0; cases h0
    | some r => rw [e] at h0; exact ⟨r, rfl, of_decide_eq_true h0⟩
  refine EvP.from (r := ((K64.getD i 0, ()), ())) 60 (fun n hn => ?_) rfl
  obtain ⟨m, rfl⟩ : ∃ m, n = m + 60 := ⟨n - 60, by omega⟩
  rw [spec_l4Root_T_eq]
  obtain ⟨⟨⟨x, ⟨⟩⟩, ⟨⟩⟩, e, hx⟩ := hs m
  rw [e, ← hx]
theorem words_ok : EvP (fun N => spec_l4Words N 64 3) (· = (((), ()), (K64, ()))) := by
  refine EvP.of (fun N => spec_l4Words.eq N _ _) (EvP.to (a := (((), ()), (P64, ()))) (ev400 fun n => by rw [spec_l4Primes_T_eq]; exact primes_S n) ?_)
  refine EvP.to (a := (((), ()), (P64, (K64, ())))) ?_ (EvP.some rfl)
  have hF := P64_len
  refine EvP.count (f := fun N i (a : List Int) => spec_l4Words.l0 N 3 (P64.length : Int) i P64 a) (n := 64) (inv := fun i a => a = K64.take i) ?_ ?_ 0 _ (by omega) rfl
  · rintro i a hi rfl next
    refine EvP.step (fun N => spec_l4Words.l0.eq N _ _ _ _ _) (EvP.pos (by omega) (EvP.chk2 (by omega) (by omega) ?_))
    rw [Int.toNat_natCast]
    refine EvP.andK (root_ok hi) ?_
    intro r h3
    refine EvP.chk1 (show _ < (68719476736 : Nat) by rw [List.length_take, K64_len]; omega) ?_
    rw [h3, show IntKind.i64.wrap ((i : Int) + 1) = ((i + 1 : Nat) : Int) by rw [i64w (by omega) (by omega)]; omega, ← K64_take hi]
    exact next _ rfl
  · rintro a rfl
    refine EvP.step (fun N => spec_l4Words.l0.eq N _ _ _ _ _) (EvP.neg (by omega) (EvP.some ?_))
    rw [List.take_of_length_le (by rw [K64_len]; exact Nat.le_refl _)]
end Go.Proofs.YthkjjombaoffcaaGreatDoor.CFnRendezvous
