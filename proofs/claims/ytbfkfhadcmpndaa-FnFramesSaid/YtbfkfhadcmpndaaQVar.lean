/- The number that a text begins with: one, two, four or eight bytes, the first two bits tell which; reading a text from its front. Plain. -/
import Derived.Test.YtbfkfhadcmpndaaQBe
set_option linter.unusedVariables false
set_option linter.unusedSimpArgs false
namespace Go.Proofs.Ytbfkfhadcmpndaa.Q
open Go Go.Proofs.YtbfkfhadcmpndaaPM

/-- How many bytes the first one asks for. -/
def vm (s : ByteArray) : Nat := 2 ^ (byteAt s 0 / 64)
theorem vm_cases (s : ByteArray) : (byteAt s 0 / 64 = 0 ∧ vm s = 1) ∨ (byteAt s 0 / 64 = 1 ∧ vm s = 2) ∨ (byteAt s 0 / 64 = 2 ∧ vm s = 4) ∨ (byteAt s 0 / 64 = 3 ∧ vm s = 8) := by
  have h := byteAt_lt s 0
  unfold vm
  have : byteAt s 0 / 64 = 0 ∨ byteAt s 0 / 64 = 1 ∨ byteAt s 0 / 64 = 2 ∨ byteAt s 0 / 64 = 3 := by omega
  rcases this with e | e | e | e <;> rw [e] <;> decide
/-- What both packages read: the number, and how many bytes it took; 0 where there is none. -/
def TakeV (s : ByteArray) : Int × Int :=
  if s.size = 0 then (0, 0) else if s.size < vm s then (0, 0) else (valA 0 ((bytesL s).take (vm s)) % 2 ^ (8 * vm s - 2), (vm s : Int))
theorem TakeV_range (s : ByteArray) : 0 ≤ (TakeV s).1 ∧ (TakeV s).1 < 4611686018427387904 ∧ 0 ≤ (TakeV s).2 ∧ (TakeV s).2 ≤ 8 ∧ (TakeV s).2 ≤ (s.size : Int) := by
  unfold TakeV
  split
  · simp
  · split
    · simp
    · rename_i h1 h2
      generalize valA 0 ((bytesL s).take (vm s)) = x
      rcases vm_cases s with ⟨_, e⟩ | ⟨_, e⟩ | ⟨_, e⟩ | ⟨_, e⟩ <;> rw [e] at h2 ⊢ <;> simp only [Int.reducePow, Nat.reduceMul, Nat.reduceSub] <;> omega
/-- The first byte without its two high bits: the rest below them. -/
theorem val_low (s : ByteArray) (h : 0 < s.size) (hm : vm s ≤ s.size) : valA 0 (((bytesL s).take (vm s)).set 0 ((byteAt s 0 : Int) % 64)) = valA 0 ((bytesL s).take (vm s)) % 2 ^ (8 * vm s - 2) := by
  have hv : 1 ≤ vm s := Nat.one_le_two_pow
  obtain ⟨M, hM⟩ : ∃ M, vm s = M + 1 := ⟨vm s - 1, by omega⟩
  have e0 := drop_getD (l := bytesL s) (n := 0) (by rw [bytesL_len]; exact h)
  rw [List.drop_zero] at e0
  have e1 : (bytesL s).take (vm s) = (byteAt s 0 : Int) :: ((bytesL s).drop 1).take M := by
    conv => lhs; rw [e0]
    rw [hM, List.take_succ_cons, byteAt_bytesL]
  have hb := byteAt_lt s 0
  have hl : (((bytesL s).drop 1).take M).length = M := by rw [List.length_take, List.length_drop, bytesL_len]; omega
  have hL : Bytes (((bytesL s).drop 1).take M) := Bytes.take (Bytes.drop (bytesL_byte s) 1) M
  have hr := valA_range _ hL
  generalize (byteAt s 0 : Nat) = b0 at *
  rw [e1, List.set_cons_zero, valA, valA, valA_eq, valA_eq _ (0 * 256 + (b0 : Int)), hl]
  rw [hl] at hr
  generalize valA 0 (((bytesL s).drop 1).take M) = z at hr ⊢
  have ep : (2 : Int) ^ (8 * vm s - 2) = 64 * 256 ^ M := by
    rw [hM, show 8 * (M + 1) - 2 = 6 + 8 * M by omega, Int.pow_add, Int.pow_mul]
    rfl
  rw [ep]
  have hp : (0 : Int) < 256 ^ M := Int.pow_pos (by decide)
  generalize (256 : Int) ^ M = p at hr hp ⊢
  have e2 : 0 * 256 + (b0 : Int) = (b0 : Int) / 64 * 64 + (b0 : Int) % 64 := by omega
  have e3 : (0 * 256 + (b0 : Int)) * p + z = ((b0 : Int) % 64 * p + z) + (64 * p) * ((b0 : Int) / 64) := by
    rw [e2, Int.add_mul, Int.mul_assoc, Int.mul_comm ((b0 : Int) / 64)]; omega
  have e4 : 0 * 256 + (b0 : Int) % 64 = (b0 : Int) % 64 := by omega
  rw [e3, e4, Int.add_mul_emod_self_left]
  have h1 : 0 ≤ (b0 : Int) % 64 * p := Int.mul_nonneg (by omega) (Int.le_of_lt hp)
  have h2 : (b0 : Int) % 64 * p ≤ 63 * p := Int.mul_le_mul_of_nonneg_right (by omega) (Int.le_of_lt hp)
  exact (Int.emod_eq_of_lt (by omega) (by omega)).symm
/-- How many bytes a number takes. -/
def vsz (n : Int) : Nat := if n < 64 then 1 else if n < 16384 then 2 else if n < 1073741824 then 4 else 8
/-- What the two high bits add. -/
def vhi (m : Nat) : Int := if m = 1 then 0 else if m = 2 then 16384 else if m = 4 then 2147483648 else 13835058055282163712
/-- A number's bytes. -/
def vbs (n : Int) : ByteArray := be (vsz n) (n + vhi (vsz n))
theorem vsz_cases {n : Int} (h0 : 0 ≤ n) (h1 : n < 4611686018427387904) : (vsz n = 1 ∧ n < 64) ∨ (vsz n = 2 ∧ n < 16384) ∨ (vsz n = 4 ∧ n < 1073741824) ∨ (vsz n = 8 ∧ n < 4611686018427387904) := by
  unfold vsz
  split
  · exact .inl ⟨rfl, by omega⟩
  · split
    · exact .inr (.inl ⟨rfl, by omega⟩)
    · split
      · exact .inr (.inr (.inl ⟨rfl, by omega⟩))
      · exact .inr (.inr (.inr ⟨rfl, by omega⟩))
theorem vsz_mono {n k : Int} (h : n ≤ k) : vsz n ≤ vsz k := by
  unfold vsz
  repeat' split
  all_goals omega
theorem vbs_size (n : Int) : (vbs n).size = vsz n := be_size _ _
theorem bytesL_vbs (n : Int) : bytesL (vbs n) = BE (vsz n) (n + vhi (vsz n)) := bytesL_be _ _
theorem vsz_pos (n : Int) : 1 ≤ vsz n ∧ vsz n ≤ 8 := by
  unfold vsz
  repeat' split
  all_goals omega
/-- A number comes back, whatever stands behind its bytes. -/
theorem TakeV_vbs {n : Int} (h0 : 0 ≤ n) (h1 : n < 4611686018427387904) (t : ByteArray) : TakeV (vbs n ++ t) = (n, (vsz n : Int)) := by
  have hs : (vbs n ++ t).size = vsz n + t.size := by rw [ByteArray.size_append, vbs_size]
  have hp := vsz_pos n
  have hb : ((byteAt (vbs n ++ t) 0 : Nat) : Int) = (n + vhi (vsz n)) / 256 ^ (vsz n - 1) % 256 := by
    rw [← byteAt_bytesL, bytesL_append, bytesL_vbs]
    obtain ⟨m, hm⟩ : ∃ m, vsz n = m + 1 := ⟨vsz n - 1, by omega⟩
    rw [hm, BE_front]
    rfl
  have hm : vm (vbs n ++ t) = vsz n := by
    unfold vm
    rcases vsz_cases h0 h1 with ⟨e, h⟩ | ⟨e, h⟩ | ⟨e, h⟩ | ⟨e, h⟩
    · rw [e] at hb ⊢; simp only [vhi, if_true, Nat.sub_self, Int.pow_zero] at hb
      rw [show byteAt (vbs n ++ t) 0 / 64 = 0 by omega]
    · rw [e] at hb ⊢; simp [vhi] at hb
      rw [show byteAt (vbs n ++ t) 0 / 64 = 1 by omega]
    · rw [e] at hb ⊢; simp [vhi] at hb
      rw [show byteAt (vbs n ++ t) 0 / 64 = 2 by omega]
    · rw [e] at hb ⊢; simp [vhi] at hb
      rw [show byteAt (vbs n ++ t) 0 / 64 = 3 by omega]
  unfold TakeV
  rw [if_neg (by omega), hm, if_neg (by omega), bytesL_append, bytesL_vbs, List.take_append_of_le_length (by rw [BE_length]; exact Nat.le_refl _), List.take_of_length_le (by rw [BE_length]; exact Nat.le_refl _), valA_BE]
  rcases vsz_cases h0 h1 with ⟨e, h⟩ | ⟨e, h⟩ | ⟨e, h⟩ | ⟨e, h⟩ <;> rw [e] <;> simp [vhi] <;> omega

/-! ### reading from the front -/
abbrev PR (α : Type) := ByteArray → Option (α × ByteArray)
def tk (n : Nat) : PR ByteArray := fun s => if s.size < n then none else some (s.extract 0 n, s.extract n s.size)
def rdNum : PR Int := fun s => if (TakeV s).2 = 0 then none else some ((TakeV s).1, s.extract (TakeV s).2.toNat s.size)
def rdCounted : PR ByteArray := fun s => (rdNum s).bind fun x => tk x.1.toNat x.2
def rdByte : PR Int := fun s => (tk 1 s).map fun x => (vof x.1, x.2)
def rdWord : PR Int := fun s => (tk 4 s).map fun x => (vof x.1, x.2)
def rdRest : PR ByteArray := fun s => some (s, ⟨#[]⟩)
theorem tk_size {n : Nat} {s x l : ByteArray} (h : tk n s = some (x, l)) : x.size = n ∧ l.size + n = s.size := by
  unfold tk at h
  split at h
  · cases h
  · cases h
    rw [extract_size (by omega), extract_size (Nat.le_refl _)]
    omega
theorem tk_app {s t : ByteArray} {n : Nat} (h : n = s.size) : tk n (s ++ t) = some (s, t) := by
  unfold tk
  have e : (s ++ t).size = s.size + t.size := ByteArray.size_append
  rw [if_neg (by omega), extract_app_one h, extract_app_two h e]
theorem tk_split {n : Nat} {s x l : ByteArray} (h : tk n s = some (x, l)) : s = x ++ l := by
  unfold tk at h
  split at h
  · cases h
  · cases h
    refine bytesL_inj ?_
    rw [bytesL_append, bytesL_extract, bytesL_extract, List.drop_zero, List.take_of_length_le (i := s.size) (by rw [bytesL_len]; exact Nat.le_refl _), List.take_append_drop]
theorem rdNum_size {s l : ByteArray} {v : Int} (h : rdNum s = some (v, l)) : 0 ≤ v ∧ v < 4611686018427387904 ∧ l.size < s.size := by
  have := TakeV_range s
  unfold rdNum at h
  split at h
  · cases h
  · cases h
    rw [extract_size (Nat.le_refl _)]
    omega
theorem rdNum_vbs {n : Int} (h0 : 0 ≤ n) (h1 : n < 4611686018427387904) (t : ByteArray) : rdNum (vbs n ++ t) = some (n, t) := by
  unfold rdNum
  rw [TakeV_vbs h0 h1]
  have := vsz_pos n
  have e : (vbs n ++ t).size = (vbs n).size + t.size := ByteArray.size_append
  rw [if_neg (by dsimp only; omega)]
  dsimp only
  rw [Int.toNat_natCast, extract_app_two (vbs_size n).symm e]
theorem rdCounted_app {s t : ByteArray} (h : s.size < 4611686018427387904) : rdCounted (vbs (s.size : Int) ++ (s ++ t)) = some (s, t) := by
  unfold rdCounted
  rw [rdNum_vbs (by omega) (by omega)]
  exact tk_app (by simp)
theorem rdByte_app {n : Int} (h0 : 0 ≤ n) (h1 : n < 256) (t : ByteArray) : rdByte (be 1 n ++ t) = some (n, t) := by
  unfold rdByte
  rw [tk_app (be_size 1 n).symm]
  show some (vof (be 1 n), t) = _
  rw [vof_be, Int.emod_eq_of_lt h0 (by simpa using h1)]
theorem rdWord_app {n : Int} (h0 : 0 ≤ n) (h1 : n < 4294967296) (t : ByteArray) : rdWord (be 4 n ++ t) = some (n, t) := by
  unfold rdWord
  rw [tk_app (be_size 4 n).symm]
  show some (vof (be 4 n), t) = _
  rw [vof_be, Int.emod_eq_of_lt h0 (by simpa using h1)]
/-- Words until there is nothing more; none where some bytes lack. -/
def rdWords : Nat → ByteArray → Option (List Int)
  | 0, s => if s.size = 0 then some [] else none
  | k + 1, s => if s.size = 0 then some [] else (rdWord s).bind fun x => (rdWords k x.2).map (x.1 :: ·)
theorem rdWords_len : ∀ {k : Nat} {s : ByteArray} {l : List Int}, rdWords k s = some l → 4 * l.length = s.size := by
  intro k
  induction k with
  | zero =>
    intro s l h
    unfold rdWords at h
    split at h
    · cases h; simp; omega
    · cases h
  | succ k ih =>
    intro s l h
    unfold rdWords at h
    split at h
    · cases h; simp; omega
    · obtain ⟨⟨v, t⟩, h1, h2⟩ := Option.bind_eq_some_iff.1 h
      obtain ⟨m, h3, rfl⟩ := Option.map_eq_some_iff.1 h2
      have h7 := ih h3
      dsimp only at h7
      unfold rdWord at h1
      obtain ⟨⟨x, u⟩, h4, h5⟩ := Option.map_eq_some_iff.1 h1
      cases h5
      have h8 := tk_size h4
      dsimp only at h7 h8
      rw [List.length_cons]
      omega
/-- A cursor's state: what is left; none where some lacked. -/
def cst (l : ByteArray) (sh : Bool) : Option ByteArray := if sh = true then none else some l
/-- A step of a cursor did as told. -/
def Run {α : Type} (p : PR α) (st : Option ByteArray) (v : α) (st' : Option ByteArray) : Prop := match st.bind p with
  | none => st' = none
  | some x => v = x.1 ∧ st' = some x.2
theorem Run.lost {α : Type} {p : PR α} {v : α} {st' : Option ByteArray} (h : Run p none v st') : st' = .none := h
theorem Run.fails {α : Type} {p : PR α} {s : ByteArray} {v : α} {st' : Option ByteArray} (h : Run p (some s) v st') (e : p s = .none) : st' = .none := by
  unfold Run at h
  rw [show (some s).bind p = p s from rfl, e] at h
  exact h
theorem Run.gives {α : Type} {p : PR α} {s l : ByteArray} {v x : α} {st' : Option ByteArray} (h : Run p (some s) v st') (e : p s = some (x, l)) : v = x ∧ st' = some l := by
  unfold Run at h
  rw [show (some s).bind p = p s from rfl, e] at h
  exact h
theorem cst_none {l : ByteArray} {sh : Bool} : cst l sh = none ↔ sh = true := by cases sh <;> simp [cst]
theorem cst_some {l m : ByteArray} {sh : Bool} : cst l sh = some m ↔ sh = false ∧ l = m := by cases sh <;> simp [cst]
theorem Run.map {α β : Type} {p : PR α} {st st' : Option ByteArray} {v : α} {w : β} {f : α → β} (h : Run p st v st') (e : v = v → w = f v) : Run (fun s => (p s).map fun x => (f x.1, x.2)) st w st' := by
  unfold Run at h ⊢
  cases st with
  | none => exact h
  | some s =>
    rw [show (some s).bind p = p s from rfl] at h
    rw [show (some s).bind (fun s => (p s).map fun x => (f x.1, x.2)) = (p s).map fun x => (f x.1, x.2) from rfl]
    cases hp : p s with
    | none => rw [hp] at h; exact h
    | some x => rw [hp] at h; obtain ⟨rfl, h2⟩ := h; exact ⟨e rfl, h2⟩
theorem Run.bind {α β : Type} {p : PR α} {q : α → PR β} {st st1 st2 : Option ByteArray} {v : α} {w : β} (h : Run p st v st1) (k : Run (q v) st1 w st2) : Run (fun s => (p s).bind fun x => q x.1 x.2) st w st2 := by
  unfold Run at h
  cases st with
  | none => obtain rfl : st1 = none := h; exact k
  | some s =>
    rw [show (some s).bind p = p s from rfl] at h
    unfold Run
    rw [show (some s).bind (fun s => (p s).bind fun x => q x.1 x.2) = (p s).bind fun x => q x.1 x.2 from rfl]
    cases hp : p s with
    | none => rw [hp] at h; obtain rfl : st1 = none := h; exact k
    | some x => rw [hp] at h; obtain ⟨rfl, rfl⟩ := h; exact k
/-- One after the other. -/
def PR.bind {α β : Type} (p : PR α) (q : α → PR β) : PR β := fun s => (p s).bind fun x => q x.1 x.2
def PR.ret {α : Type} (v : α) : PR α := fun s => some (v, s)
theorem Run.ret {α : Type} (v : α) (st : Option ByteArray) : Run (PR.ret v) st v st := by
  cases st with
  | none => exact rfl
  | some s => exact ⟨rfl, rfl⟩
theorem Run.seq {α β : Type} {p : PR α} {q : α → PR β} {st st1 st2 : Option ByteArray} {v : α} {w : β} (h : Run p st v st1) (k : Run (q v) st1 w st2) : Run (p.bind q) st w st2 := Run.bind h k
/-- All words that are left. -/
def rdAll : PR (List Int) := fun s => (rdWords s.size s).map fun l => (l, ⟨#[]⟩)
theorem rdWords_fuel : ∀ (k m : Nat) (s : ByteArray), s.size ≤ k → s.size ≤ m → rdWords k s = rdWords m s := by
  intro k
  induction k with
  | zero =>
    intro m s h1 h2
    cases m with
    | zero => rfl
    | succ m => unfold rdWords; rw [if_pos (by omega), if_pos (by omega)]
  | succ k ih =>
    intro m s h1 h2
    cases m with
    | zero => unfold rdWords; rw [if_pos (by omega), if_pos (by omega)]
    | succ m =>
      unfold rdWords
      by_cases h : s.size = 0
      · rw [if_pos h, if_pos h]
      · rw [if_neg h, if_neg h]
        cases e : rdWord s with
        | none => rfl
        | some x =>
          unfold rdWord at e
          obtain ⟨y, h4, rfl⟩ := Option.map_eq_some_iff.1 e
          have := tk_size (x := y.1) (l := y.2) h4
          show (rdWords k y.2).map _ = (rdWords m y.2).map _
          rw [ih m y.2 (by omega) (by omega)]
end Go.Proofs.Ytbfkfhadcmpndaa.Q
