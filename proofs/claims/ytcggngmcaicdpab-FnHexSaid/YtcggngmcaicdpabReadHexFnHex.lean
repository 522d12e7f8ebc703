/- ReadHex of both packages reads two digits a byte, and refuses alike. -/
import Derived.Test.YtcggngmcaicdpabStr
import Derived.Test.YtcggngmcaicdpabPFnHexx0
import Derived.Test.YtcggngmcaicdpabPFnHexx1
import Derived.Test.YtcggngmcaicdpabPFnHexx2
import Derived.Test.YtcggngmcaicdpabPFnHexx3
set_option linter.unusedVariables false
set_option linter.unusedSimpArgs false
namespace Go.Proofs.Ytcggngmcaicdpab.CFnHex
open Go.RowKit Go.Proofs.Ytcggngmcaicdpab.B Go.Proofs.Ytcggngmcaicdpab.PFnHex Go.Proofs.YtcggngmcaicdpabW.PrintWords Go.Proofs.YtcggngmcaicdpabW.PrintLast Go.Proofs.YtcggngmcaicdpabW.PrintMore

/-- What a digit counts; -1 of what is none. -/
def digit (v : Int) : Int := if 48 ≤ v ∧ v ≤ 57 then v - 48 else if 97 ≤ v ∧ v ≤ 102 then v - 87 else -1
theorem digit_range (v : Int) : -1 ≤ digit v ∧ digit v ≤ 15 := by unfold digit; split <;> (try split) <;> omega
theorem digit_spec (v : Int) (h : 0 ≤ v ∧ v ≤ 255) : EvP (fun k => spec_l18Digit.f k v) (· = digit v) := by
  have hj : ∀ c : Bool, (c = true ↔ 48 ≤ v ∧ v ≤ 57) → EvP (fun k => spec_l18Digit.j0 k v c) (· = digit v) := by
    intro c hc
    refine EvP.step (fun k => by rw [spec_l18Digit.j0]) ?_
    unfold digit
    refine EvP.ite (fun h1 => EvP.some ?_) (fun h1 => EvP.ite (fun h2 => EvP.ite (fun h3 => EvP.some ?_) (fun h3 => EvP.some ?_)) (fun h2 => EvP.some ?_))
    · have := hc.1 h1
      rw [if_pos this]; omega
    · have h4 : ¬ (48 ≤ v ∧ v ≤ 57) := fun q => h1 (hc.2 q)
      rw [if_neg h4, if_pos ⟨by omega, by omega⟩]; omega
    · have h4 : ¬ (48 ≤ v ∧ v ≤ 57) := fun q => h1 (hc.2 q)
      rw [if_neg h4, if_neg (by omega)]
    · have h4 : ¬ (48 ≤ v ∧ v ≤ 57) := fun q => h1 (hc.2 q)
      rw [if_neg h4, if_neg (by omega)]
  simp only [spec_l18Digit.f]
  refine EvP.ite (fun h1 => hj _ ?_) (fun h1 => hj _ ?_)
  · simp; omega
  · simp; omega
theorem digit_tab : ∀ n : Fin 256, Lib.indexByte [48, 49, 50, 51, 52, 53, 54, 55, 56, 57, 97, 98, 99, 100, 101, 102] (((n : Nat) : Int).toNat.toUInt8) = digit ((n : Nat) : Int) := by decide +kernel
theorem digit_impl (v : Int) (h : 0 ≤ v ∧ v ≤ 255) : strings_IndexByte.f (⟨#[48, 49, 50, 51, 52, 53, 54, 55, 56, 57, 97, 98, 99, 100, 101, 102]⟩ : ByteArray) v = some (digit v) := by
  unfold strings_IndexByte.f stringslite_IndexByte.f
  simp only [Option.bind_some]
  have := digit_tab ⟨v.toNat, by omega⟩
  rw [show (((⟨v.toNat, by omega⟩ : Fin 256) : Nat) : Int) = v by simp; omega] at this
  rw [this]

/-- What is read of bytes, behind what has been read. -/
def RH : List Int → List Int → ByteArray × Bool
  | [], acc => (strOfNums acc, true)
  | [_], _ => ((⟨#[]⟩ : ByteArray), false)
  | a :: b :: l, acc => if digit a < 0 then ((⟨#[]⟩ : ByteArray), false) else if digit b < 0 then ((⟨#[]⟩ : ByteArray), false) else RH l (acc ++ [16 * digit a + digit b])

theorem spec_rh (s : ByteArray) (hs : s.size ≤ 3000) (d : Nat) : ∀ (i : Nat) (x : List Int), i + 2 * d = s.size → x.length ≤ i →
    EvP (fun k => spec_ReadHex.l0 k s x (i : Int)) (· = RH ((B s).drop i) x) := by
  induction d with
  | zero =>
    intro i x hi hx
    refine EvP.step (fun k => by rw [spec_ReadHex.l0]) ?_
    refine EvP.neg (by omega) (EvP.some ?_)
    rw [List.drop_eq_nil_of_le (by rw [B_length]; omega)]
    rfl
  | succ d ih =>
    intro i x hi hx
    refine EvP.step (fun k => by rw [spec_ReadHex.l0]) ?_
    rw [w64 (n := (i : Int) + 1) (by omega) (by omega), w64 (n := (i : Int) + 2) (by omega) (by omega), bt_B s i (by simp; omega), bt_B s _ (by omega)]
    have e1 : ((i : Int) + 1) = ((i + 1 : Nat) : Int) := by omega
    have e2 : ((i : Int) + 2) = ((i + 2 : Nat) : Int) := by omega
    rw [e1, e2, drop_rd (l := B s) (n := i) (by rw [B_length]; omega), drop_rd (l := B s) (n := i + 1) (by rw [B_length]; omega)]
    have hv := bytes_rd (B_bytes s) (i : Int)
    have hu := bytes_rd (B_bytes s) ((i + 1 : Nat) : Int)
    generalize rd (B s) (i : Int) = v at hv ⊢
    generalize rd (B s) ((i + 1 : Nat) : Int) = u at hu ⊢
    refine EvP.pos (by omega) (EvP.pos (by omega) ?_)
    refine EvP.bind (digit_spec v hv) ?_
    rintro a rfl
    refine EvP.pos (by omega) (EvP.pos (by omega) ?_)
    refine EvP.bind (digit_spec u hu) ?_
    rintro b rfl
    unfold RH
    refine EvP.ite (fun h1 => EvP.some (by rw [if_pos h1])) (fun h1 => EvP.ite (fun h2 => EvP.some (by rw [if_neg h1, if_pos h2])) (fun h2 => ?_))
    rw [if_neg h1, if_neg h2]
    have r1 := digit_range v
    have r2 := digit_range u
    refine EvP.pos (by omega) ?_
    rw [w64 (n := 16 * digit v) (by omega) (by omega), w64 (n := 16 * digit v + digit u) (by omega) (by omega), Int.emod_eq_of_lt (by omega) (by omega)]
    exact ih (i + 2) _ (by omega) (by simp; omega)
theorem impl_rh (s : ByteArray) (hs : s.size ≤ 3000) (d : Nat) : ∀ (i : Nat) (x : List Int), i + 2 * d = s.size → x.length ≤ i →
    EvP (fun k => impl_ReadHex.l0 k s x (i : Int)) (· = RH ((B s).drop i) x) := by
  induction d with
  | zero =>
    intro i x hi hx
    refine EvP.step (fun k => by rw [impl_ReadHex.l0]) ?_
    refine EvP.neg (by omega) (EvP.some ?_)
    rw [List.drop_eq_nil_of_le (by rw [B_length]; omega)]
    rfl
  | succ d ih =>
    intro i x hi hx
    refine EvP.step (fun k => by rw [impl_ReadHex.l0]) ?_
    rw [w64 (n := (i : Int) + 1) (by omega) (by omega), w64 (n := (i : Int) + 2) (by omega) (by omega), bt_B s i (by simp; omega), bt_B s _ (by omega)]
    have e1 : ((i : Int) + 1) = ((i + 1 : Nat) : Int) := by omega
    have e2 : ((i : Int) + 2) = ((i + 2 : Nat) : Int) := by omega
    rw [e1, e2, drop_rd (l := B s) (n := i) (by rw [B_length]; omega), drop_rd (l := B s) (n := i + 1) (by rw [B_length]; omega)]
    have hv := bytes_rd (B_bytes s) (i : Int)
    have hu := bytes_rd (B_bytes s) ((i + 1 : Nat) : Int)
    generalize rd (B s) (i : Int) = v at hv ⊢
    generalize rd (B s) ((i + 1 : Nat) : Int) = u at hu ⊢
    rw [digit_impl v hv, digit_impl u hu]
    refine EvP.pos (by omega) (EvP.pos (by omega) ?_)
    simp only [Option.bind_some]
    refine EvP.pos (by omega) (EvP.pos (by omega) ?_)
    unfold RH
    refine EvP.ite (fun h1 => EvP.some (by rw [if_pos h1])) (fun h1 => EvP.ite (fun h2 => EvP.some (by rw [if_neg h1, if_pos h2])) (fun h2 => ?_))
    rw [if_neg h1, if_neg h2]
    have r1 := digit_range v
    have r2 := digit_range u
    refine EvP.pos (by omega) ?_
    rw [w64 (n := 16 * digit v) (by omega) (by omega), w64 (n := 16 * digit v + digit u) (by omega) (by omega), Int.emod_eq_of_lt (by omega) (by omega)]
    exact ih (i + 2) _ (by omega) (by simp; omega)
/-- What both answer. -/
def RHR (s : ByteArray) : ByteArray × Bool := if s.size % 2 = 0 ∧ s.size ≤ 3000 then RH (B s) [] else ((⟨#[]⟩ : ByteArray), false)
theorem spec_ReadHex_ok (s : ByteArray) : EvP (fun k => spec_ReadHex.f k s) (· = RHR s) := by
  have hj : ∀ c : Bool, (c = false ↔ s.size % 2 = 0 ∧ s.size ≤ 3000) → EvP (fun k => spec_ReadHex.j0 k s c) (· = RHR s) := by
    intro c hc
    refine EvP.step (fun k => by rw [spec_ReadHex.j0]) ?_
    unfold RHR
    cases c
    · have := hc.1 rfl
      rw [if_pos this]
      exact EvP.neg (by simp) (spec_rh s this.2 (s.size / 2) 0 [] (by omega) (by simp))
    · rw [if_neg (fun q => by simpa using hc.2 q)]
      exact EvP.pos rfl (EvP.some rfl)
  simp only [spec_ReadHex.f]
  refine EvP.ite (fun h => hj _ ?_) (fun h => hj _ ?_)
  · simp; omega
  · simp; omega
theorem impl_ReadHex_ok (s : ByteArray) : EvP (fun k => impl_ReadHex.f k s) (· = RHR s) := by
  have hj : ∀ c : Bool, (c = false ↔ s.size % 2 = 0 ∧ s.size ≤ 3000) → EvP (fun k => impl_ReadHex.j0 k s c) (· = RHR s) := by
    intro c hc
    refine EvP.step (fun k => by rw [impl_ReadHex.j0]) ?_
    unfold RHR
    cases c
    · have := hc.1 rfl
      rw [if_pos this]
      exact EvP.neg (by simp) (impl_rh s this.2 (s.size / 2) 0 [] (by omega) (by simp))
    · rw [if_neg (fun q => by simpa using hc.2 q)]
      exact EvP.pos rfl (EvP.some rfl)
  simp only [impl_ReadHex.f]
  refine EvP.ite (fun h => hj _ ?_) (fun h => hj _ ?_)
  · simp; omega
  · simp; omega
end Go.Proofs.Ytcggngmcaicdpab.CFnHex
