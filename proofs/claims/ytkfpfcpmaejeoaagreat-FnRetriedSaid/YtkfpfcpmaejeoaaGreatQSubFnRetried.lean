/- What bytes become by the program's box and by the reference's words. -/
import Derived.Test.YtkfpfcpmaejeoaaGreatQInvFnRetried
set_option linter.unusedVariables false
set_option linter.unusedSimpArgs false
namespace Go.Proofs.YtkfpfcpmaejeoaaGreat.CFnRetried
open Go Go.Proofs Go.Proofs.YtkfpfcpmaejeoaaGreatPM Go.Proofs.YtkfpfcpmaejeoaaGreat.Q Go.Proofs.YtkfpfcpmaejeoaaGreat.GFnRetried

/-- A byte turned. -/
def rol (a n : Nat) : Nat := ((a <<< n) ||| (a >>> (8 - n))) % 256
theorem rol_lt (a n : Nat) : rol a n < 256 := Nat.mod_lt _ (by decide)
theorem rol_tab : ∀ (n : Fin 8) (a : Fin 256), Go.bits .or .u8 (shlI .u8 ((a : Nat) : Int) ((n : Nat) : Int)) (shrI .u8 ((a : Nat) : Int) (IntKind.u64.wrap (8 - ((n : Nat) : Int)))) = (rol a n : Int) := by decide +kernel
theorem and7_tab : ∀ n : Fin 8, Go.bits .and .u64 (IntKind.u64.wrap ((n : Nat) : Int)) 7 = ((n : Nat) : Int) := by decide +kernel
theorem rot_ok {a n : Nat} (ha : a < 256) (hn : n < 8) : EvP (fun k => math_bits_RotateLeft8 k (a : Int) (n : Int)) (· = (((rol a n : Int), ()), ())) := by
  have h1 := and7_tab ⟨n, hn⟩
  have h2 := rol_tab ⟨n, hn⟩ ⟨a, ha⟩
  simp only at h1 h2
  refine EvP.of (fun k => math_bits_RotateLeft8.eq k _ _) ?_
  rw [h1, h2]
  exact EvP.chk1 (by omega) (EvP.chk1 (u64_range _).1 (EvP.some rfl))
theorem turn_ok {a n : Nat} (ha : a < 256) (hn : n < 8) : EvP (fun k => spec_l3Turn k (a : Int) (n : Int)) (· = (((rol a n : Int), ()), ())) := by
  have h2 := rol_tab ⟨n, hn⟩ ⟨a, ha⟩
  simp only at h2
  refine EvP.of (fun k => spec_l3Turn.eq k _ _) ?_
  rw [h2]
  exact EvP.chk1 (by omega) (EvP.chk1 (u64_range _).1 (EvP.some rfl))
/-- What a byte becomes. -/
def sbx (c : Nat) : Nat := c ^^^ (rol c 1 ^^^ (rol c 2 ^^^ (rol c 3 ^^^ (rol c 4 ^^^ 99))))
def sb (a : Nat) : Nat := sbx (ginv a)
theorem sbx_lt {c : Nat} (h : c < 256) : sbx c < 256 := xor_lt h (xor_lt (rol_lt _ _) (xor_lt (rol_lt _ _) (xor_lt (rol_lt _ _) (xor_lt (rol_lt _ _) (by decide)))))
theorem sb_lt {a : Nat} (h : a < 256) : sb a < 256 := sbx_lt (ginv_lt h)
/-- What becomes a byte. -/
def usb (b : Nat) : Nat := ginv (rol (b ^^^ 99) 1 ^^^ (rol (b ^^^ 99) 3 ^^^ rol (b ^^^ 99) 6))
theorem usb_lt (b : Nat) : usb b < 256 := ginv_lt (xor_lt (rol_lt _ _) (xor_lt (rol_lt _ _) (rol_lt _ _)))
theorem sb_tab : ∀ a : Fin 256, sbx (gsq 8 a 1 254) ≠ a ∧ sbx (gsq 8 a 1 254) ^^^ 255 ≠ a ∧
    (let b := sbx (gsq 8 a 1 254); gsq 8 (rol (b ^^^ 99) 1 ^^^ (rol (b ^^^ 99) 3 ^^^ rol (b ^^^ 99) 6)) 1 254 = a) ∧
    (let b := gsq 8 (rol (a ^^^ 99) 1 ^^^ (rol (a ^^^ 99) 3 ^^^ rol (a ^^^ 99) 6)) 1 254; sbx (gsq 8 b 1 254) = a) := by decide +kernel
theorem sb_ne {a : Nat} (h : a < 256) : sb a ≠ a := by unfold sb; rw [← ginv_sq h]; exact (sb_tab ⟨a, h⟩).1
theorem sb_op {a : Nat} (h : a < 256) : sb a ^^^ 255 ≠ a := by unfold sb; rw [← ginv_sq h]; exact (sb_tab ⟨a, h⟩).2.1
theorem usb_sb {a : Nat} (h : a < 256) : usb (sb a) = a := by
  have := (sb_tab ⟨a, h⟩).2.2.1
  simp only [ginv_sq h] at this
  rw [ginv_sq (xor_lt (rol_lt _ _) (xor_lt (rol_lt _ _) (rol_lt _ _)))] at this
  exact this
theorem sb_usb {a : Nat} (h : a < 256) : sb (usb a) = a := by
  have := (sb_tab ⟨a, h⟩).2.2.2
  simp only at this
  rw [ginv_sq (xor_lt (rol_lt _ _) (xor_lt (rol_lt _ _) (rol_lt _ _))), ginv_sq (ginv_lt (xor_lt (rol_lt _ _) (xor_lt (rol_lt _ _) (rol_lt _ _))))] at this
  exact this
theorem sub_l {c : Nat} (hc : c < 256) (n : Nat) : ∀ (o i : Nat), o < 256 → i + n = 5 → 1 ≤ i →
    EvP (fun k => impl_subByte.l0 k (c : Int) (o : Int) (i : Int)) (fun r => ∃ q : Nat, r = (((q : Int), ()), ()) ∧ q = (List.range n).foldl (fun o j => o ^^^ rol c (i + j)) o) := by
  induction n with
  | zero =>
    intro o i ho hi h1
    exact EvP.step (fun k => impl_subByte.l0.eq k _ _ _) (EvP.neg (by omega) (EvP.some ⟨o, rfl, rfl⟩))
  | succ n ih =>
    intro o i ho hi h1
    refine EvP.step (fun k => impl_subByte.l0.eq k _ _ _) (EvP.pos (by omega) (EvP.to (rot_ok hc (by omega)) ?_))
    dsimp only
    rw [xor_u8 ho (rol_lt _ _), i64w (by omega) (by omega), show ((i : Int) + 1) = ((i + 1 : Nat) : Int) by omega]
    refine (ih _ _ (xor_lt ho (rol_lt _ _)) (by omega) (by omega)).mono ?_
    rintro r ⟨q, h1, h2⟩
    refine ⟨q, h1, ?_⟩
    rw [h2, List.range_succ_eq_map, List.foldl_cons, List.foldl_map, Nat.add_zero]
    congr 1
    funext o j
    rw [show i + 1 + j = i + j.succ by omega]
theorem subByte_impl {a : Nat} (ha : a < 256) : EvP (fun k => impl_subByte k (a : Int)) (· = (((sb a : Int), ()), ())) := by
  refine EvP.of (fun k => impl_subByte.eq k _) (EvP.to (inverseGf_impl ha) ?_)
  have hc := ginv_lt ha
  dsimp only
  rw [show (99 : Int) = ((99 : Nat) : Int) by rfl, xor_u8 hc (by decide)]
  refine EvP.andK (sub_l hc 4 _ 1 (xor_lt hc (by decide)) rfl (by decide)) ?_
  rintro r ⟨q, rfl, hq⟩
  refine EvP.some ?_
  subst hq
  refine congrArg (fun n : Nat => (((n : Int), ()), ())) ?_
  show ((((ginv a ^^^ 99) ^^^ rol (ginv a) 1) ^^^ rol (ginv a) 2) ^^^ rol (ginv a) 3) ^^^ rol (ginv a) 4 = sb a
  unfold sb sbx
  simp only [Nat.xor_assoc, Nat.xor_comm, xlc]
theorem sub_spec {a : Nat} (ha : a < 256) : EvP (fun k => spec_l3Sub k (a : Int)) (· = (((sb a : Int), ()), ())) := by
  have hc := ginv_lt ha
  refine EvP.of (fun k => spec_l3Sub.eq k _) (EvP.to (inverse_spec ha) (EvP.to (turn_ok hc (n := 1) (by decide)) (EvP.to (turn_ok hc (n := 2) (by decide)) (EvP.to (turn_ok hc (n := 3) (by decide)) (EvP.to (turn_ok hc (n := 4) (by decide)) (EvP.some ?_))))))
  dsimp only
  have e : (99 : Int) = ((99 : Nat) : Int) := rfl
  have r := rol_lt (ginv a)
  rw [e, xor_u8 hc (r _), xor_u8 (xor_lt hc (r _)) (r _), xor_u8 (xor_lt (xor_lt hc (r _)) (r _)) (r _), xor_u8 (xor_lt (xor_lt (xor_lt hc (r _)) (r _)) (r _)) (r _),
    xor_u8 (xor_lt (xor_lt (xor_lt (xor_lt hc (r _)) (r _)) (r _)) (r _)) (by decide)]
  simp only [Nat.xor_assoc]
  rfl

/-! ### the box -/
theorem getD_set {l : List Int} {i j : Nat} {x d : Int} (h : i < l.length) : (l.set i x).getD j d = if i = j then x else l.getD j d := by
  simp only [List.getD_eq_getElem?_getD, List.getElem?_set]
  split
  · rename_i e; subst e; simp [h]
  · rfl
def BoxP (n : Nat) (p : List Int) : Prop := p.length = 512 ∧ (∀ i, i < n → p.getD i 0 = (sb i : Int)) ∧ ∀ i, i < n → p.getD (256 + sb i) 0 = (i : Int)
theorem sb_inj {a b : Nat} (ha : a < 256) (hb : b < 256) (h : sb a = sb b) : a = b := by rw [← usb_sb ha, ← usb_sb hb, h]
theorem box_l (d : Nat) : ∀ (n : Nat) (p : List Int), n + d = 256 → BoxP n p → EvP (fun k => impl_newBox.l0 k (n : Int) p) (fun r => BoxP 256 r.2.1) := by
  induction d with
  | zero =>
    intro n p hn hp
    obtain rfl : n = 256 := by omega
    exact EvP.step (fun k => impl_newBox.l0.eq k _ _) (EvP.neg (by omega) (EvP.some hp))
  | succ d ih =>
    intro n p hn hp
    have hlt : n < 256 := by omega
    have hs := sb_lt hlt
    refine EvP.step (fun k => impl_newBox.l0.eq k _ _) (EvP.pos (by omega) ?_)
    rw [u8i (n := (n : Int)) (by omega) (by omega)]
    refine EvP.to (subByte_impl hlt) (EvP.chk2 (by omega) (by omega) (EvP.chk2 (by dsimp only; omega) (by dsimp only; omega) ?_))
    rw [i64w (by omega) (by omega), show ((n : Int) + 1) = ((n + 1 : Nat) : Int) by omega]
    refine ih _ _ (by omega) ?_
    obtain ⟨h1, h2, h3⟩ := hp
    simp only [Int.toNat_natCast, Nat.zero_add]
    have l1 : n < p.length := by omega
    have l2 : 256 + sb n < (p.set n ((sb n : Nat) : Int)).length := by rw [List.length_set]; omega
    refine ⟨by simp [h1], fun i hi => ?_, fun i hi => ?_⟩
    · rw [getD_set l2, if_neg (by omega), getD_set l1]
      by_cases e : n = i
      · subst e; rw [if_pos rfl]
      · rw [if_neg e]; exact h2 i (by omega)
    · rw [getD_set l2]
      by_cases e : n = i
      · subst e; rw [if_pos rfl]
      · have hn : 256 + sb n ≠ 256 + sb i := fun e2 => e (sb_inj hlt (by omega) (by omega))
        rw [if_neg hn, getD_set l1, if_neg (by omega)]
        exact h3 i (by omega)
/-- The program's box. -/
theorem box_ok : EvP (fun k => impl_newBox k) (fun r => r.2.1.length = 512 ∧ (∀ i, i < 256 → r.2.1.getD i 0 = (sb i : Int)) ∧ ∀ i, i < 256 → r.2.1.getD (256 + i) 0 = (usb i : Int)) := by
  refine EvP.of (fun k => impl_newBox.eq k) (EvP.andK (box_l 256 0 _ rfl ⟨List.length_replicate, fun i hi => by omega, fun i hi => by omega⟩) ?_)
  rintro r ⟨h1, h2, h3⟩
  refine EvP.some ⟨h1, h2, fun i hi => ?_⟩
  have := h3 (usb i) (usb_lt i)
  rwa [sb_usb hi] at this
end Go.Proofs.YtkfpfcpmaejeoaaGreat.CFnRetried
