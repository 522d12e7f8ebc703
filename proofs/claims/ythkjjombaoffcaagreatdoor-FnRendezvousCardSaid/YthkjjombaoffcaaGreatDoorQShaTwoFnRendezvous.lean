/- The hash of a text: the specification's is the same (its words laid once). -/
import Derived.Test.YthkjjombaoffcaaGreatDoorQShaPadFnRendezvous
import Derived.Test.YthkjjombaoffcaaGreatDoorQBeSpecFnRendezvous
set_option linter.unusedVariables false
set_option linter.unusedSimpArgs false
namespace Go.Proofs.YthkjjombaoffcaaGreatDoor.CFnRendezvous
open Go Go.Proofs Go.Proofs.YthkjjombaoffcaaGreatDoorPM Go.Proofs.YthkjjombaoffcaaGreatDoor.Q Go.Proofs.YthkjjombaoffcaaGreatDoor.GFnRendezvous

theorem zeros_spec (n : Int) (p q : List Int) : ∀ (k : Nat) (t : ByteArray), k < 64 → (t.size + k) % 64 = 56 → t.size + k ≤ 2000000 →
    EvP (fun N => spec_l4H_sum_2.l0 N n t p q) (· = (((), (t ++ Zb k, ())), ((p, (q, ())), ()))) := by
  intro k
  induction k with
  | zero =>
    intro t h1 h2 h3
    refine EvP.step (fun N => spec_l4H_sum_2.l0.eq N _ _ _ _) (EvP.nneg (by rw [tmod64]; omega) (EvP.some ?_))
    rw [Zb, app_nil]
  | succ k ih =>
    intro t h1 h2 h3
    refine EvP.step (fun N => spec_l4H_sum_2.l0.eq N _ _ _ _) (EvP.npos (by rw [tmod64]; omega) (EvP.chk1 (by omega) ?_))
    have := ih (t ++ ⟨#[0]⟩) (by omega) (by rw [ByteArray.size_append, one_size]; omega) (by rw [ByteArray.size_append, one_size]; omega)
    rw [app_assoc] at this
    exact this
theorem blocks_spec {t : ByteArray} {m : Nat} (ht : t.size = 64 * m) (hm : m ≤ 1000000) : ∀ (d i : Nat), i + d = m →
    EvP (fun N => spec_l4H_sum_2.l1 N t (runB t i) ((64 * i : Nat) : Int) K64 H8) (· = ((runB t m, ()), ((K64, (H8, ())), ()))) := by
  intro d
  induction d with
  | zero =>
    intro i hi
    obtain rfl : i = m := by omega
    exact EvP.step (fun N => spec_l4H_sum_2.l1.eq N _ _ _ _ _) (EvP.neg (by omega) (EvP.some rfl))
  | succ d ih =>
    intro i hi
    refine EvP.step (fun N => spec_l4H_sum_2.l1.eq N _ _ _ _ _) (EvP.pos (by omega) ?_)
    rw [i64w (n := ((64 * i : Nat) : Int) + 64) (by omega) (by omega)]
    refine EvP.chk3 (by omega) (by omega) (by omega) ?_
    rw [Int.toNat_natCast, show Int.toNat (((64 * i : Nat) : Int) + 64) = 64 * i + 64 by omega]
    refine EvP.to (hash_spec (runB_len t i) K64_len (by rw [extract_size (by omega)]; omega)) ?_
    have := ih (i + 1) (by omega)
    rw [show ((64 * (i + 1) : Nat) : Int) = ((64 * i : Nat) : Int) + 64 by omega] at this
    exact this
theorem out_spec {l : List Int} (hl : l.length = 8) (hr : ∀ x ∈ l, 0 ≤ x ∧ x < 4294967296) :
    EvP (fun N => spec_l4H_sum_2.l2 N l (l.length : Int) (⟨#[]⟩ : ByteArray) 0 K64 H8) (· = ((strL (outL l 8), ()), ((K64, (H8, ())), ()))) := by
  refine EvP.count (f := fun N i (a : ByteArray) => spec_l4H_sum_2.l2 N l (l.length : Int) a i K64 H8) (n := 8) (inv := fun i a => a = strL (outL l i)) ?_ ?_ 0 _ (by omega) rfl
  · rintro i a hi rfl next
    have hlen := outL_len l i
    have hg := getD_rng hr i
    refine EvP.step (fun N => spec_l4H_sum_2.l2.eq N _ _ _ _ _ _) (EvP.pos (by omega) (EvP.chk2 (by omega) (by omega) ?_))
    rw [Int.toNat_natCast, i64w (n := l.getD i 0) (by omega) (by omega), show IntKind.i64.wrap ((i : Int) + 1) = ((i + 1 : Nat) : Int) by rw [i64w (by omega) (by omega)]; omega]
    refine EvP.to (fixed_ok _ 4 (by decide)) (EvP.chk1 (by (try dsimp only); rw [strL_size, be_size]; omega) ?_)
    refine next _ ?_
    show strL (outL l i) ++ be 4 _ = _
    rw [outL, strL_append, be]
  · rintro a ha
    exact EvP.step (fun N => spec_l4H_sum_2.l2.eq N _ _ _ _ _ _) (EvP.neg (by omega) (EvP.some (by rw [ha])))
theorem sum_spec (s : ByteArray) (hs : s.size ≤ 1000000) : EvP (fun N => spec_l4H_sum_2 N s K64 H8) (· = ((shaF s, ()), ((K64, (H8, ())), ()))) := by
  have hz := padZ_ok s.size
  refine EvP.of (fun N => spec_l4H_sum_2.eq N _ _ _) (EvP.chk1 (by omega) ?_)
  refine EvP.to (zeros_spec _ K64 H8 (padZ s.size) (s ++ ⟨#[128]⟩) hz.1 (by rw [ByteArray.size_append, one_size]; exact hz.2) (by rw [ByteArray.size_append, one_size]; omega)) ?_
  rw [i64w (n := 8 * (s.size : Int)) (by omega) (by omega)]
  refine EvP.to (fixed_ok _ 8 (by decide)) (EvP.chk1 (by (try dsimp only); rw [ByteArray.size_append, ByteArray.size_append, Zb_size, be_size, one_size]; omega) ?_)
  have ep : ((s ++ (⟨#[128]⟩ : ByteArray)) ++ Zb (padZ s.size)) ++ be 8 (8 * (s.size : Int)) = pad s := rfl
  dsimp only
  rw [ep]
  have hd := pad_div s
  have hsz := pad_size s
  refine EvP.to (blocks_spec hd (by omega) _ 0 (Nat.zero_add _)) ?_
  unfold shaF
  have hl := runB_len (pad s) ((pad s).size / 64)
  have hr := runB_rng (pad s) ((pad s).size / 64)
  generalize runB (pad s) ((pad s).size / 64) = l at hl hr
  exact EvP.to (out_spec hl hr) (EvP.some rfl)
theorem new_spec : EvP (fun N => spec_l4New_2 N) (· = (((), ()), ((K64, (H8, ())), ()))) :=
  EvP.of (fun N => spec_l4New_2.eq N) (EvP.to words_ok (EvP.to words8_ok (EvP.some rfl)))
end Go.Proofs.YthkjjombaoffcaaGreatDoor.CFnRendezvous
