/- FnHashed: both packages hash alike, and the hash is the last state of the text's blocks from the first state on. -/
import Derived.Test.YtknoemdkfhkkhaaQShaSumFnHashed
import Derived.Test.YtknoemdkfhkkhaaSFnHashed
set_option linter.unusedVariables false
set_option linter.unusedSimpArgs false
namespace Go.Proofs.Ytknoemdkfhkkhaa.Pure
open Go Go.Proofs Go.Proofs.YtknoemdkfhkkhaaPM Go.Proofs.Ytknoemdkfhkkhaa.Q Go.Proofs.Ytknoemdkfhkkhaa.CFnHashed Go.Proofs.Ytknoemdkfhkkhaa.GFnHashed

theorem zeros_law (C o : ByteArray) : ∀ (k : Nat) (t : ByteArray), k < 64 → (t.size + k) % 64 = 56 → t.size + k ≤ 2000000 →
    EvP (fun N => laws_FnHashed.l0 N C o t) (· = ((t ++ Zb k, ()), ())) := by
  intro k
  induction k with
  | zero =>
    intro t h1 h2 h3
    refine EvP.step (fun N => laws_FnHashed.l0.eq N _ _ _) (EvP.nneg (by rw [tmod64]; omega) (EvP.some ?_))
    rw [Zb, app_nil]
  | succ k ih =>
    intro t h1 h2 h3
    refine EvP.step (fun N => laws_FnHashed.l0.eq N _ _ _) (EvP.npos (by rw [tmod64]; omega) (EvP.chk1 (by omega) ?_))
    have := ih (t ++ ⟨#[0]⟩) (by omega) (by rw [ByteArray.size_append, one_size]; omega) (by rw [ByteArray.size_append, one_size]; omega)
    rw [app_assoc] at this
    exact this
theorem bytes_law (C o : ByteArray) (hC : C.size ≤ 1000000) : ∀ (j : Nat) (t : ByteArray), j ≤ 8 → t.size + j ≤ 2000000 →
    EvP (fun N => laws_FnHashed.l1 N C o t (8 * (j : Int) - 8)) (· = ((t ++ be j (8 * (C.size : Int)), ()), ())) := by
  intro j
  induction j with
  | zero =>
    intro t h1 h2
    refine EvP.step (fun N => laws_FnHashed.l1.eq N _ _ _ _) (EvP.neg (by omega) (EvP.some ?_))
    rw [be, BE, strL_nil, app_nil]
  | succ j ih =>
    intro t h1 h2
    refine EvP.step (fun N => laws_FnHashed.l1.eq N _ _ _ _) (EvP.pos (by omega) ?_)
    rw [show 8 * ((j + 1 : Nat) : Int) - 8 = ((8 * j : Nat) : Int) by omega, u64i (n := ((8 * j : Nat) : Int)) (by omega) (by omega), i64w (n := 8 * (C.size : Int)) (by omega) (by omega), i64w (n := ((8 * j : Nat) : Int) - 8) (by omega) (by omega),
      shrI_pow (k := .i64) (j := 8 * j) (by show 8 * j ≤ 64; omega), pow_256, u8w]
    have e1 : (strL [8 * (C.size : Int) / 256 ^ j % 256]).size = 1 := by rw [strL_size]; rfl
    refine EvP.chk1 (by omega) (EvP.chk1 (by omega) ?_)
    have := ih (t ++ strL [8 * (C.size : Int) / 256 ^ j % 256]) (by omega) (by rw [ByteArray.size_append, e1]; omega)
    rw [show 8 * (j : Int) - 8 = ((8 * j : Nat) : Int) - 8 by omega, app_assoc, be, ← strL_append, List.singleton_append, ← BE_front, ← be] at this
    exact this
theorem HashFrom_ok {G : List Int} {b : ByteArray} (hG : G.length = 8) (hb : b.size = 64) : EvP (fun N => impl_HashFrom N G b) (· = (((), (true, ())), (comp G K64 b, ()))) := by
  refine EvP.of (fun N => impl_HashFrom.eq N _ _) (EvP.to (a := ((false, ()), ())) (EvP.nneg (by omega) (EvP.some ?_)) (EvP.no rfl (EvP.to round_ok (EvP.to (hash_impl hG K64_len hb) (EvP.some rfl)))))
  rw [decide_eq_true (show (b.size : Int) = 64 by omega)]
  rfl
theorem blocks_law (o : ByteArray) {t : ByteArray} {m : Nat} (ht : t.size = 64 * m) (hm : m ≤ 1000000) : ∀ (d i : Nat), i + d = m →
    EvP (fun N => laws_FnHashed.l2 N o t (runB t i) ((64 * i : Nat) : Int)) (· = .inr (((runB t m, ()), ()))) := by
  intro d
  induction d with
  | zero =>
    intro i hi
    obtain rfl : i = m := by omega
    exact EvP.step (fun N => laws_FnHashed.l2.eq N _ _ _ _) (EvP.neg (by omega) (EvP.some rfl))
  | succ d ih =>
    intro i hi
    refine EvP.step (fun N => laws_FnHashed.l2.eq N _ _ _ _) (EvP.pos (by omega) ?_)
    rw [i64w (n := ((64 * i : Nat) : Int) + 64) (by omega) (by omega)]
    refine EvP.chk3 (by omega) (by omega) (by omega) ?_
    rw [Int.toNat_natCast, show Int.toNat (((64 * i : Nat) : Int) + 64) = 64 * i + 64 by omega]
    refine EvP.to (HashFrom_ok (runB_len t i) (by rw [extract_size (by omega)]; omega)) (EvP.no rfl ?_)
    have := ih (i + 1) (by omega)
    rw [show ((64 * (i + 1) : Nat) : Int) = ((64 * i : Nat) : Int) + 64 by omega] at this
    exact this
theorem four_bytes (x : Int) : strL [(IntKind.u8.wrap (shrI .u32 x 24)), (IntKind.u8.wrap (shrI .u32 x 16)), (IntKind.u8.wrap (shrI .u32 x 8)), (IntKind.u8.wrap x)] = be 4 x := by
  have h1 : shrI .u32 x 24 = x / 256 ^ 3 := by rw [show (24 : Int) = ((8 * 3 : Nat) : Int) from rfl, shrI_pow (by decide), pow_256]
  have h2 : shrI .u32 x 16 = x / 256 ^ 2 := by rw [show (16 : Int) = ((8 * 2 : Nat) : Int) from rfl, shrI_pow (by decide), pow_256]
  have h3 : shrI .u32 x 8 = x / 256 ^ 1 := by rw [show (8 : Int) = ((8 * 1 : Nat) : Int) from rfl, shrI_pow (by decide), pow_256]
  rw [h1, h2, h3, u8w, u8w, u8w, u8w, be, BE_front 3, BE_front 2, BE_front 1, BE_one]
theorem out_law (o : ByteArray) {l : List Int} (hl : l.length = 8) : EvP (fun N => laws_FnHashed.l3 N o l (l.length : Int) (⟨#[]⟩ : ByteArray) 0) (· = ((strL (outL l 8), ()), ())) := by
  refine EvP.count (f := fun N i (a : ByteArray) => laws_FnHashed.l3 N o l (l.length : Int) a i) (n := 8) (inv := fun i a => a = strL (outL l i)) ?_ ?_ 0 _ (by omega) rfl
  · rintro i a hi rfl next
    have hlen := outL_len l i
    refine EvP.step (fun N => laws_FnHashed.l3.eq N _ _ _ _ _) (EvP.pos (by omega) (EvP.chk2 (by omega) (by omega) ?_))
    rw [Int.toNat_natCast, show IntKind.i64.wrap ((i : Int) + 1) = ((i + 1 : Nat) : Int) by rw [i64w (by omega) (by omega)]; omega, four_bytes]
    refine EvP.chk1 (by (try dsimp only); rw [strL_size, be_size]; omega) ?_
    refine next _ ?_
    rw [outL, strL_append, be]
  · rintro a ha
    exact EvP.step (fun N => laws_FnHashed.l3.eq N _ _ _ _ _) (EvP.neg (by omega) (EvP.some (by rw [ha])))
theorem FnHashed (a0 : List Int) (h0 : ∀ n ∈ a0, 0 ≤ n ∧ n ≤ 255) (s0 : a0.length ≤ 140737488351232) : ∃ N, laws_FnHashed N a0 = some ((true, ()), ()) := by
  refine EvP.fin (EvP.of (fun k => laws_FnHashed.eq k _) (EvP.ite (fun _ => EvP.some rfl) (fun _ => EvP.andK (spec_DrawSha256_s h0) ?_)))
  rintro ⟨⟨s, ⟨⟩⟩, ⟨⟩⟩ ⟨-, -⟩
  refine EvP.to (Sha256_impl s) (EvP.to (Sha256_spec s) ?_)
  refine EvP.to (a := ((false, ()), ())) (EvP.no (by simp) (EvP.some (by simp))) (EvP.no rfl ?_)
  by_cases hz : 4000 < (s.size : Int)
  · rw [show sha256 s = _ from if_pos hz]
    exact EvP.yes rfl (EvP.some rfl)
  · rw [show sha256 s = _ from if_neg hz]
    refine EvP.no rfl (EvP.chk1 (by (try dsimp only); omega) ?_)
    have hp := padZ_ok s.size
    refine EvP.to (zeros_law _ _ (padZ s.size) (s ++ ⟨#[128]⟩) hp.1 (by rw [ByteArray.size_append, one_size]; exact hp.2) (by rw [ByteArray.size_append, one_size]; omega)) ?_
    have hb := bytes_law s (shaF s) (by omega) 8 ((s ++ ⟨#[128]⟩) ++ Zb (padZ s.size)) (by decide) (by rw [ByteArray.size_append, ByteArray.size_append, Zb_size, one_size]; omega)
    refine EvP.to hb ?_
    rw [show ((s ++ (⟨#[128]⟩ : ByteArray)) ++ Zb (padZ s.size)) ++ be 8 (8 * (s.size : Int)) = pad s from rfl]
    have hd := pad_div s
    have hsz := pad_size s
    refine EvP.to (blocks_law (shaF s) hd (by omega) _ 0 (Nat.zero_add _)) (EvP.inr ?_)
    refine EvP.to (out_law (shaF s) (runB_len (pad s) ((pad s).size / 64))) (EvP.to round_ok ?_)
    refine EvP.pos rfl (EvP.pos (by decide) (EvP.chk1 (by decide) (EvP.pos (by decide) (EvP.chk1 (by decide) (EvP.some ?_)))))
    rw [show K64.getD 63 0 = 3329325298 by decide]
    rfl
end Go.Proofs.Ytknoemdkfhkkhaa.Pure
