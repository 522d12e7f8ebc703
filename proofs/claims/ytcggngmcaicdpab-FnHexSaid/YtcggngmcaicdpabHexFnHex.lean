/- HexText of both packages tells, of each byte, its two digits. -/
import Derived.Test.YtcggngmcaicdpabStr
import Derived.Test.YtcggngmcaicdpabPFnHexx0
import Derived.Test.YtcggngmcaicdpabPFnHexx1
import Derived.Test.YtcggngmcaicdpabPFnHexx2
import Derived.Test.YtcggngmcaicdpabPFnHexx3
set_option linter.unusedVariables false
set_option linter.unusedSimpArgs false
namespace Go.Proofs.Ytcggngmcaicdpab.CFnHex
open Go.RowKit Go.Proofs.Ytcggngmcaicdpab.B Go.Proofs.Ytcggngmcaicdpab.PFnHex Go.Proofs.YtcggngmcaicdpabW.PrintWords Go.Proofs.YtcggngmcaicdpabW.PrintLast Go.Proofs.YtcggngmcaicdpabW.PrintMore

def hexd (v : Int) : Int := if v < 10 then 48 + v else 87 + v
def HX (l : List Int) : List Int := l.flatMap fun v => [hexd (v / 16), hexd (v % 16)]
theorem HX_bytes {l : List Int} (h : Bytes l) : Bytes (HX l) := by
  intro x hx
  simp only [HX, List.mem_flatMap, List.mem_cons, List.not_mem_nil, or_false] at hx
  obtain ⟨v, hv, hx⟩ := hx
  have := h v hv
  unfold hexd at hx
  rcases hx with rfl | rfl <;> split <;> omega
abbrev hexT : ByteArray := ⟨#[48, 49, 50, 51, 52, 53, 54, 55, 56, 57, 97, 98, 99, 100, 101, 102]⟩
theorem spec_byte : ∀ n : Fin 256, (((n : Nat) : Int) / 16 + 1) % 256 ≤ 16 ∧ ((n : Nat) : Int) / 16 ≤ (((n : Nat) : Int) / 16 + 1) % 256 ∧ 0 ≤ Go.bits .and .u8 ((n : Nat) : Int) 15 ∧
    Go.bits .and .u8 ((n : Nat) : Int) 15 ≤ (Go.bits .and .u8 ((n : Nat) : Int) 15 + 1) % 256 ∧ (Go.bits .and .u8 ((n : Nat) : Int) 15 + 1) % 256 ≤ 16 ∧
    B (hexT.extract (((n : Nat) : Int) / 16).toNat ((((n : Nat) : Int) / 16 + 1) % 256).toNat) = [hexd (((n : Nat) : Int) / 16)] ∧
    B (hexT.extract (Go.bits .and .u8 ((n : Nat) : Int) 15).toNat ((Go.bits .and .u8 ((n : Nat) : Int) 15 + 1) % 256).toNat) = [hexd (((n : Nat) : Int) % 16)] := by decide +kernel
theorem impl_byte : ∀ n : Fin 256, 0 ≤ Int.tdiv ((n : Nat) : Int) 16 % 256 ∧ Int.tdiv ((n : Nat) : Int) 16 % 256 < 16 ∧ 0 ≤ Int.tmod ((n : Nat) : Int) 16 ∧ Int.tmod ((n : Nat) : Int) 16 < 16 ∧
    bt hexT (Int.tdiv ((n : Nat) : Int) 16 % 256) = hexd (((n : Nat) : Int) / 16) ∧ bt hexT (Int.tmod ((n : Nat) : Int) 16) = hexd (((n : Nat) : Int) % 16) := by decide +kernel
theorem byte_fin {v : Int} (h : 0 ≤ v ∧ v ≤ 255) : ∃ n : Fin 256, v = ((n : Nat) : Int) := ⟨⟨v.toNat, by omega⟩, by simp; omega⟩

theorem spec_hex (s : ByteArray) (hs : s.size ≤ 1500) (d : Nat) : ∀ (i : Nat) (x : ByteArray), i + d = s.size → x.size ≤ 2 * i →
    EvP (fun k => spec_l18Hex.l0 k s x (i : Int)) (fun r => B r = B x ++ HX ((B s).drop i)) := by
  induction d with
  | zero =>
    intro i x hi hx
    refine EvP.step (fun k => by rw [spec_l18Hex.l0]) ?_
    refine EvP.neg (by omega) (EvP.some ?_)
    rw [List.drop_eq_nil_of_le (by rw [B_length]; omega)]
    simp [HX]
  | succ d ih =>
    intro i x hi hx
    refine EvP.step (fun k => by rw [spec_l18Hex.l0]) ?_
    rw [bt_B s i (by simp; omega)]
    have hd := drop_rd (l := B s) (n := i) (by rw [B_length]; omega)
    have hv := bytes_rd (B_bytes s) (i : Int)
    generalize rd (B s) (i : Int) = v at hv hd
    obtain ⟨n, rfl⟩ := byte_fin hv
    obtain ⟨h1, h2, h3, h4, h5, h6, h7⟩ := spec_byte n
    have z6 : (hexT.extract (((n : Nat) : Int) / 16).toNat ((((n : Nat) : Int) / 16 + 1) % 256).toNat).size = 1 := by rw [← B_length, h6]; rfl
    have z7 : (hexT.extract (Go.bits .and .u8 ((n : Nat) : Int) 15).toNat ((Go.bits .and .u8 ((n : Nat) : Int) 15 + 1) % 256).toNat).size = 1 := by rw [← B_length, h7]; rfl
    refine EvP.pos (by omega) (EvP.pos (by omega) (EvP.pos (by omega) (EvP.pos h2 (EvP.pos h1 (EvP.pos h3 (EvP.pos h4 (EvP.pos h5 (EvP.pos ?_ (EvP.pos ?_ ?_)))))))))
    · rw [z6, z7]; omega
    · rw [ByteArray.size_append, z6, z7]; omega
    · rw [w64 (n := (i : Int) + 1) (by omega) (by omega)]
      refine (ih (i + 1) _ (by omega) (by rw [ByteArray.size_append, ByteArray.size_append, z6, z7]; omega)).mono ?_
      intro r hr
      rw [hr, B_append, B_append, h6, h7, hd]
      simp [HX]
theorem spec_hexText (s : ByteArray) (hs : s.size ≤ 1500) : EvP (fun k => spec_l18Hex.f k s) (fun r => B r = HX (B s)) := by
  simp only [spec_l18Hex.f]
  refine (spec_hex s hs s.size 0 _ (by omega) (by simp [size_nil])).mono ?_
  intro r hr
  rw [hr]; simp [B_nil]
theorem impl_hex (s : ByteArray) (hs : s.size ≤ 1500) (d : Nat) : ∀ (i : Nat) (x : List Int), i + d = s.size → x.length ≤ 2 * i → Bytes x →
    EvP (fun k => impl_hexText.l0 k s x (s.size : Int) (i : Int)) (fun r => B r = x ++ HX ((B s).drop i)) := by
  induction d with
  | zero =>
    intro i x hi hx hb
    refine EvP.step (fun k => by rw [impl_hexText.l0]) ?_
    refine EvP.neg (by omega) (EvP.some ?_)
    rw [List.drop_eq_nil_of_le (by rw [B_length]; omega), B_strOfNums hb]
    simp [HX]
  | succ d ih =>
    intro i x hi hx hb
    refine EvP.step (fun k => by rw [impl_hexText.l0]) ?_
    rw [bt_B s i (by simp; omega)]
    have hd := drop_rd (l := B s) (n := i) (by rw [B_length]; omega)
    have hv := bytes_rd (B_bytes s) (i : Int)
    generalize rd (B s) (i : Int) = v at hv hd
    have hh := HX_bytes (l := [v]) (Bytes.cons hv Bytes.nil)
    obtain ⟨n, rfl⟩ := byte_fin hv
    obtain ⟨h1, h2, h3, h4, h5, h6⟩ := impl_byte n
    refine EvP.pos (by omega) (EvP.pos (by omega) (EvP.pos (by omega) (EvP.pos h1 (EvP.pos h2 (EvP.pos h3 (EvP.pos h4 ?_))))))
    simp only [Option.bind_some]
    refine EvP.pos (by simp; omega) ?_
    rw [w64 (n := (i : Int) + 1) (by omega) (by omega), h5, h6]
    refine (ih (i + 1) _ (by omega) (by simp; omega) (Bytes.append hb (by simpa [HX] using hh))).mono ?_
    intro r hr
    rw [hr, hd]
    simp [HX]
theorem impl_hexText_ok (s : ByteArray) (hs : s.size ≤ 1500) : EvP (fun k => impl_hexText.f k s) (fun r => B r = HX (B s)) := by
  simp only [impl_hexText.f]
  refine (impl_hex s hs s.size 0 _ (by omega) (by simp) Bytes.nil).mono ?_
  intro r hr
  rw [hr]; simp
/-- What both answer. -/
def HexR (s : ByteArray) : ByteArray × Bool := if s.size > 1500 then ((⟨#[]⟩ : ByteArray), false) else (strOfNums (HX (B s)), true)
theorem spec_HexText_ok (s : ByteArray) : EvP (fun k => spec_HexText.f k s) (· = HexR s) := by
  unfold HexR
  simp only [spec_HexText.f]
  refine EvP.ite (fun h => ?_) (fun h => ?_)
  · rw [if_pos (by omega)]; exact EvP.some rfl
  · rw [if_neg (by omega)]
    refine EvP.bind (spec_hexText s (by omega)) ?_
    intro r hr
    exact EvP.some (by rw [← hr, strOfNums_B])
theorem impl_HexText_ok (s : ByteArray) : EvP (fun k => impl_HexText.f k s) (· = HexR s) := by
  unfold HexR
  simp only [impl_HexText.f]
  refine EvP.ite (fun h => ?_) (fun h => ?_)
  · rw [if_pos (by omega)]; exact EvP.some rfl
  · rw [if_neg (by omega)]
    refine EvP.bind (impl_hexText_ok s (by omega)) ?_
    intro r hr
    exact EvP.some (by rw [← hr, strOfNums_B])
end Go.Proofs.Ytcggngmcaicdpab.CFnHex
