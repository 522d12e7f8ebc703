/- The hash of a text, as the implementation makes it. -/
import Derived.Test.YthkjjombaoffcaaGreatDoorQShaFnRendezvous
import Derived.Test.YthkjjombaoffcaaGreatDoorQShaWFnRendezvous
import Derived.Test.YthkjjombaoffcaaGreatDoorQBeImplFnRendezvous
set_option linter.unusedVariables false
set_option linter.unusedSimpArgs false
namespace Go.Proofs.YthkjjombaoffcaaGreatDoor.CFnRendezvous
open Go Go.Proofs Go.Proofs.YthkjjombaoffcaaGreatDoorPM Go.Proofs.YthkjjombaoffcaaGreatDoor.Q Go.Proofs.YthkjjombaoffcaaGreatDoor.GFnRendezvous

def Zb : Nat → ByteArray
  | 0 => ⟨#[]⟩
  | k + 1 => ⟨#[0]⟩ ++ Zb k
theorem Zb_size : ∀ k, (Zb k).size = k
  | 0 => rfl
  | k + 1 => by rw [Zb, ByteArray.size_append, Zb_size k]; exact Nat.add_comm _ _
theorem repL_zero : ∀ k, repL (⟨#[0]⟩ : ByteArray) k = Zb k
  | 0 => rfl
  | k + 1 => by
    rw [Zb, ← repL_zero k]
    apply ByteArray.ext
    simp [repL, Lib.repeatL]
theorem tmod64 (n : Nat) : Int.tmod (n : Int) 64 = ((n % 64 : Nat) : Int) := by
  rw [Int.tmod_eq_emod_of_nonneg (by omega)]
  omega
theorem one_size (x : UInt8) : (⟨#[x]⟩ : ByteArray).size = 1 := rfl
def padZ (n : Nat) : Nat := (120 - (n + 1) % 64) % 64
theorem padZ_ok (n : Nat) : padZ n < 64 ∧ (n + 1 + padZ n) % 64 = 56 := by unfold padZ; omega
/-- A text made whole. -/
def pad (s : ByteArray) : ByteArray := ((s ++ ⟨#[128]⟩) ++ Zb (padZ s.size)) ++ be 8 (8 * (s.size : Int))
theorem pad_size (s : ByteArray) : (pad s).size = s.size + 1 + padZ s.size + 8 := by
  rw [pad, ByteArray.size_append, ByteArray.size_append, ByteArray.size_append, Zb_size, be_size, one_size]
theorem pad_div (s : ByteArray) : (pad s).size = 64 * ((pad s).size / 64) := by
  have := padZ_ok s.size
  rw [pad_size]
  omega
/-- The state behind some blocks. -/
def runB (t : ByteArray) : Nat → List Int
  | 0 => H8
  | i + 1 => comp (runB t i) K64 (t.extract (64 * i) (64 * i + 64))
theorem runB_len (t : ByteArray) : ∀ i, (runB t i).length = 8
  | 0 => H8_len
  | _ + 1 => comp_len _ _ _
theorem finL_rng (G p : List Int) : ∀ i, ∀ x ∈ finL G p i, 0 ≤ x ∧ x < 4294967296 := by
  intro i
  induction i with
  | zero => intro x hx; cases hx
  | succ i ih =>
    intro x hx
    rw [finL] at hx
    rcases List.mem_append.1 hx with h | h
    · exact ih x h
    · rw [List.mem_singleton.1 h, u32w]; omega
theorem H8_rng : ∀ x ∈ H8, 0 ≤ x ∧ x < 4294967296 := by decide
theorem runB_rng (t : ByteArray) : ∀ i, ∀ x ∈ runB t i, 0 ≤ x ∧ x < 4294967296
  | 0 => H8_rng
  | _ + 1 => finL_rng _ _ 8
theorem getD_rng {l : List Int} (h : ∀ x ∈ l, 0 ≤ x ∧ x < 4294967296) (i : Nat) : 0 ≤ l.getD i 0 ∧ l.getD i 0 < 4294967296 := by
  rw [List.getD_eq_getElem?_getD]
  cases e : l[i]? with
  | none => exact ⟨by decide, by decide⟩
  | some x => exact h x (List.mem_of_getElem? e)
theorem blocks_impl {t : ByteArray} {m : Nat} (ht : t.size = 64 * m) (hm : m ≤ 1000000) : ∀ (d i : Nat), i + d = m →
    EvP (fun N => impl_sha.l0 N t (runB t i) ((64 * i : Nat) : Int) K64) (· = ((runB t m, ()), ((), (K64, ())))) := by
  intro d
  induction d with
  | zero =>
    intro i hi
    obtain rfl : i = m := by omega
    exact EvP.step (fun N => impl_sha.l0.eq N _ _ _ _) (EvP.neg (by omega) (EvP.some rfl))
  | succ d ih =>
    intro i hi
    refine EvP.step (fun N => impl_sha.l0.eq N _ _ _ _) (EvP.pos (by omega) ?_)
    rw [i64w (n := ((64 * i : Nat) : Int) + 64) (by omega) (by omega)]
    refine EvP.chk3 (by omega) (by omega) (by omega) ?_
    rw [Int.toNat_natCast, show Int.toNat (((64 * i : Nat) : Int) + 64) = 64 * i + 64 by omega]
    refine EvP.to (hash_impl (runB_len t i) K64_len (by rw [extract_size (by omega)]; omega)) ?_
    have := ih (i + 1) (by omega)
    rw [show ((64 * (i + 1) : Nat) : Int) = ((64 * i : Nat) : Int) + 64 by omega] at this
    exact this
/-- A state's bytes. -/
def outL (l : List Int) : Nat → List Int
  | 0 => []
  | i + 1 => outL l i ++ BE 4 (l.getD i 0)
theorem outL_len (l : List Int) : ∀ i, (outL l i).length = 4 * i
  | 0 => rfl
  | i + 1 => by rw [outL, List.length_append, BE_length, outL_len l i]; omega
theorem ws_ok (s : ByteArray) (c : Bool) (p : List Int) (h : 0 < s.size) (hp : p.length + s.size ≤ 1000000) :
    EvP (fun N => strings_Builder_WriteString N s c p) (· = (((s.size : Int), ((), ())), ((true, ((), ())), (p ++ bytesL s, ())))) := by
  have hb : (bytesL s).length = s.size := bytesL_len s
  refine EvP.of (fun N => strings_Builder_WriteString.eq N _ _ _) (EvP.to (a := ((), ((true, ((), ())), (p, ())))) (EvP.of (fun N => strings_Builder_copyCheck.eq N _ _) ?_) ?_)
  · cases c with
    | false => exact EvP.yes rfl (EvP.some rfl)
    | true => exact EvP.no rfl (EvP.no rfl (EvP.some rfl))
  · exact EvP.chk2 (by omega) (show _ < (68719476736 : Nat) by (try dsimp only); omega) (EvP.some rfl)
theorem out_impl {l : List Int} (hl : l.length = 8) (hr : ∀ x ∈ l, 0 ≤ x ∧ x < 4294967296) :
    EvP (fun N => impl_sha.l1 N l (l.length : Int) 0 K64 false []) (fun r => ∃ c, r = (((), ()), ((), (K64, ((c, ((), ())), (outL l 8, ())))))) := by
  refine EvP.count (f := fun N i (a : Bool × List Int) => impl_sha.l1 N l (l.length : Int) i K64 a.1 a.2) (n := 8) (inv := fun i a => a.2 = outL l i) ?_ ?_ 0 (false, []) (by omega) rfl
  · rintro i ⟨c, p⟩ hi ha next
    dsimp only at ha
    subst ha
    have hlen := outL_len l i
    have hg := getD_rng hr i
    refine EvP.step (fun N => impl_sha.l1.eq N _ _ _ _ _ _) (EvP.pos (by omega) (EvP.chk2 (by omega) (by omega) ?_))
    rw [Int.toNat_natCast, u64i (n := l.getD i 0) (by omega) (by omega), show IntKind.i64.wrap ((i : Int) + 1) = ((i + 1 : Nat) : Int) by rw [i64w (by omega) (by omega)]; omega]
    refine EvP.to (bigEndian_ok _ 4 hg.1 (by decide)) (EvP.to (ws_ok _ _ _ (by rw [be_size]; decide) (by (try dsimp only); rw [be_size]; omega)) ?_)
    exact next (true, outL l i ++ bytesL (be 4 (l.getD i 0))) (by rw [bytesL_be, outL])
  · rintro ⟨c, p⟩ ha
    dsimp only at ha
    subst ha
    exact EvP.step (fun N => impl_sha.l1.eq N _ _ _ _ _ _) (EvP.neg (by omega) (EvP.some ⟨c, rfl⟩))
/-- The hash. -/
def shaF (s : ByteArray) : ByteArray := strL (outL (runB (pad s) ((pad s).size / 64)) 8)
theorem sha_impl (s : ByteArray) (hs : s.size ≤ 1000000) : EvP (fun N => impl_sha N s) (· = ((shaF s, ()), ())) := by
  have hz := padZ_ok s.size
  refine EvP.of (fun N => impl_sha.eq N _) (EvP.chk1 (by omega) ?_)
  have hn : Int.tmod (IntKind.i64.wrap (120 - (Int.tmod ((s ++ (⟨#[128]⟩ : ByteArray)).size : Int) 64))) 64 = ((padZ s.size : Nat) : Int) := by
    rw [ByteArray.size_append, one_size, tmod64, i64w (by omega) (by omega)]
    obtain ⟨z, hz⟩ : ∃ z : Nat, (120 : Int) - (((s.size + 1) % 64 : Nat) : Int) = (z : Int) := ⟨120 - (s.size + 1) % 64, by omega⟩
    rw [hz, tmod64]
    unfold padZ
    omega
  rw [hn]
  refine EvP.to (a := ((Zb (padZ s.size), ()), ())) (EvP.of (fun N => strings_Repeat.eq N _ _) (EvP.chk1 (by omega) (EvP.chk1 (by omega) (EvP.chk1 (by rw [one_size, Int.toNat_natCast]; omega) (EvP.some (by rw [Int.toNat_natCast, repL_zero])))))) ?_
  rw [i64w (n := 8 * (s.size : Int)) (by omega) (by omega), u64i (n := 8 * (s.size : Int)) (by omega) (by omega)]
  refine EvP.to (bigEndian_ok _ 8 (by omega) (by decide)) ?_
  refine EvP.chk1 (by (try dsimp only); rw [Zb_size, be_size]; omega) (EvP.chk1 (by (try dsimp only); rw [ByteArray.size_append, ByteArray.size_append, Zb_size, be_size, one_size]; omega) ?_)
  have ep : (s ++ (⟨#[128]⟩ : ByteArray)) ++ (Zb (padZ s.size) ++ be 8 (8 * (s.size : Int))) = pad s := by rw [pad, app_assoc (s ++ (⟨#[128]⟩ : ByteArray))]
  dsimp only
  rw [ep]
  have hd := pad_div s
  have hsz := pad_size s
  refine EvP.to first_ok (EvP.to round_ok (EvP.to (blocks_impl hd (by omega) _ 0 (Nat.zero_add _)) ?_))
  unfold shaF
  have hl := runB_len (pad s) ((pad s).size / 64)
  have hr := runB_rng (pad s) ((pad s).size / 64)
  generalize runB (pad s) ((pad s).size / 64) = l at hl hr
  refine EvP.andK (out_impl hl hr) ?_
  rintro _ ⟨c, rfl⟩
  have hlen := outL_len l 8
  dsimp only
  refine EvP.to (a := ((strL (outL l 8), ()), ((c, ((), ())), ((), ())))) (EvP.of (fun N => strings_Builder_String.eq N _ _) (EvP.chk1 (by omega) (EvP.chk3 rfl (by omega) (by omega) (EvP.some rfl)))) (EvP.some rfl)
end Go.Proofs.YthkjjombaoffcaaGreatDoor.CFnRendezvous
