/- Numbers of some bits, put so that the kernel reckons them fast. -/
import Derived.Test.YthkjjombaoffcaaGreatDoorQBase
set_option linter.unusedVariables false
set_option linter.unusedSimpArgs false
namespace Go.Proofs.YthkjjombaoffcaaGreatDoor.Q
open Go Go.Proofs.YthkjjombaoffcaaGreatDoorPM

def w_i64 (n : Int) : Int := if 9223372036854775808 ≤ n % 18446744073709551616 then n % 18446744073709551616 - 18446744073709551616 else n % 18446744073709551616
def w_u64 (n : Int) : Int := n % 18446744073709551616
def w_u32 (n : Int) : Int := n % 4294967296
def w_u8 (n : Int) : Int := n % 256
def w_fB (n : Int) : Nat := n.toNat
def s_shr (k : IntKind) (a b : Int) : Int := a.fdiv ((2 ^ (min b.toNat k.bits) : Nat) : Int)
def s_shl (k : IntKind) (a b : Int) : Int := match k with
  | .i64 => w_i64 (a * ((2 ^ (min b.toNat 64) : Nat) : Int))
  | k => shlI k a b
theorem w_i64_eq (n : Int) : IntKind.i64.wrap n = w_i64 n := by
  rw [IntKind.wrap_i64]
  unfold w_i64
  split <;> omega
theorem w_u64_eq (n : Int) : IntKind.u64.wrap n = w_u64 n := u64w n
theorem w_u32_eq (n : Int) : IntKind.u32.wrap n = w_u32 n := u32w n
theorem w_u8_eq (n : Int) : IntKind.u8.wrap n = w_u8 n := u8w n
theorem w_fB_eq (n : Int) : w_fB n = n.toNat := rfl
theorem s_shr_eq (k : IntKind) (a b : Int) : shrI k a b = s_shr k a b := by
  unfold shrI s_shr
  congr 1
theorem s_shl_eq (k : IntKind) (a b : Int) : shlI k a b = s_shl k a b := by
  cases k <;> try rfl
  unfold s_shl shlI
  simp only
  rw [← w_i64_eq]
  congr 2
end Go.Proofs.YthkjjombaoffcaaGreatDoor.Q
