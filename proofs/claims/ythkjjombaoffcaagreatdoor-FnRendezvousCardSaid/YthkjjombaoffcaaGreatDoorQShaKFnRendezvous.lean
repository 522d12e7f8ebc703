/- The words of the rounds and of the first state: what both packages reckon them to be. -/
import Derived.Test.YthkjjombaoffcaaGreatDoorTShaKFnRendezvous
import Derived.Test.YthkjjombaoffcaaGreatDoorQList
set_option linter.unusedVariables false
set_option linter.unusedSimpArgs false
set_option maxRecDepth 1000000
namespace Go.Proofs.YthkjjombaoffcaaGreatDoor.CFnRendezvous
open Go Go.Proofs Go.Proofs.YthkjjombaoffcaaGreatDoorPM Go.Proofs.YthkjjombaoffcaaGreatDoor.Q Go.Proofs.YthkjjombaoffcaaGreatDoor.GFnRendezvous

def P64 : List Int := [2, 3, 5, 7, 11, 13, 17, 19, 23, 29, 31, 37, 41, 43, 47, 53, 59, 61, 67, 71, 73, 79, 83, 89, 97, 101, 103, 107, 109, 113, 127, 131, 137, 139, 149, 151, 157, 163, 167, 173, 179, 181, 191, 193, 197, 199, 211, 223, 227, 229, 233, 239, 241, 251, 257, 263, 269, 271, 277, 281, 283, 293, 307, 311]
def F64 : List Nat := P64.map fOfI
def K64 : List Int := [1116352408, 1899447441, 3049323471, 3921009573, 961987163, 1508970993, 2453635748, 2870763221, 3624381080, 310598401, 607225278, 1426881987, 1925078388, 2162078206, 2614888103, 3248222580, 3835390401, 4022224774, 264347078, 604807628, 770255983, 1249150122, 1555081692, 1996064986, 2554220882, 2821834349, 2952996808, 3210313671, 3336571891, 3584528711, 113926993, 338241895, 666307205, 773529912, 1294757372, 1396182291, 1695183700, 1986661051, 2177026350, 2456956037, 2730485921, 2820302411, 3259730800, 3345764771, 3516065817, 3600352804, 4094571909, 275423344, 430227734, 506948616, 659060556, 883997877, 958139571, 1322822218, 1537002063, 1747873779, 1955562222, 2024104815, 2227730452, 2361852424, 2428436474, 2756734187, 3204031479, 3329325298]
def H8 : List Int := [1779033703, 3144134277, 1013904242, 2773480762, 1359893119, 2600822924, 528734635, 1541459225]
theorem primes_T (n : Nat) : impl_primes_T (n + 400) 64 = some (((), ()), (F64, ())) := by kernel_rfl
theorem primes_S (n : Nat) : spec_l4Primes_T (n + 400) 64 = some (((), ()), (P64, ())) := by kernel_rfl
theorem first_T (n : Nat) : impl_firstState_T (n + 400) = some (((), ()), (H8, ())) := by kernel_rfl
theorem words8_T (n : Nat) : spec_l4Words_T (n + 400) 8 2 = some (((), ()), (H8, ())) := by kernel_rfl
def cbOk (n i : Nat) : Bool := match math_Cbrt_T n (F64.getD i 0) with
  | some r => fArOk .mul r.1.1 4751297606875873280 && (fToOk .u64 (fAr .mul r.1.1 4751297606875873280) && decide (w_u32 (fToI .u64 (fAr .mul r.1.1 4751297606875873280)) = K64.getD i 0))
  | none => false
theorem cb_T (n : Nat) : (List.range 64).all (cbOk n) = true := by kernel_rfl
def rtOk (n i : Nat) : Bool := match spec_l4Root_T n (P64.getD i 0) 3 with
  | some r => decide (r.1.1 = K64.getD i 0)
  | none => false
theorem rt_T0 (n : Nat) : (List.range' 0 16).all (rtOk (n + 60)) = true := by kernel_rfl
theorem rt_T1 (n : Nat) : (List.range' 16 16).all (rtOk (n + 60)) = true := by kernel_rfl
theorem rt_T2 (n : Nat) : (List.range' 32 16).all (rtOk (n + 60)) = true := by kernel_rfl
theorem rt_T3 (n : Nat) : (List.range' 48 16).all (rtOk (n + 60)) = true := by kernel_rfl
end Go.Proofs.YthkjjombaoffcaaGreatDoor.CFnRendezvous
