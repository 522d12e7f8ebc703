/- The lowest bytes of a number, the highest first: what both packages write. Plain. -/
import Derived.Test.YtcngjidojibleaaStr
set_option linter.unusedVariables false
set_option linter.unusedSimpArgs false
namespace Go.Proofs.Ytcngjidojibleaa.B
open Go.RowKit Go.Proofs.YtcngjidojibleaaW.PrintWords Go.Proofs.YtcngjidojibleaaW.PrintLast Go.Proofs.YtcngjidojibleaaW.PrintMore

def BE : Nat → Int → List Int
  | 0, _ => []
  | m + 1, n => BE m (n / 256) ++ [n % 256]
theorem BE_length : ∀ m n, (BE m n).length = m
  | 0, n => rfl
  | m + 1, n => by rw [BE, List.length_append, BE_length m]; rfl
theorem BE_bytes : ∀ m n, Bytes (BE m n)
  | 0, n => Bytes.nil
  | m + 1, n => Bytes.append (BE_bytes m _) (Bytes.cons (by omega) Bytes.nil)
theorem BE_one (n : Int) : BE 1 n = [n % 256] := rfl
theorem BE_front : ∀ (m : Nat) (n : Int), BE (m + 1) n = (n / 256 ^ m % 256) :: BE m n
  | 0, n => by simp [BE]
  | m + 1, n => by
    rw [BE, BE_front m (n / 256)]
    conv => rhs; rw [BE]
    rw [List.cons_append, Int.pow_succ]
    have e : n / 256 / 256 ^ m = n / (256 ^ m * 256) := by
      rw [Int.mul_comm, Int.ediv_ediv_of_nonneg (by decide)]
    rw [e]
theorem set_drop_self (l : List Int) (j : Nat) (v : Int) (h : j < l.length) : (l.set j v).drop j = v :: l.drop (j + 1) := by
  rw [List.drop_eq_getElem_cons (by simpa using h)]
  simp [List.drop_set]
theorem pow_256 (j : Nat) : (2 : Int) ^ (8 * j) = 256 ^ j := by
  rw [Int.pow_mul]; rfl
end Go.Proofs.Ytcngjidojibleaa.B
