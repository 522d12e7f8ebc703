/- Four passes, as of Feistel: undone by the same, the other way round. -/
import Derived.Test.YtknoemdkfhkkhaaQAesKWFnIds
import Derived.Test.YtknoemdkfhkkhaaQXs
import Derived.Test.YtknoemdkfhkkhaaQBe
set_option linter.unusedVariables false
set_option linter.unusedSimpArgs false
namespace Go.Proofs.Ytknoemdkfhkkhaa.CFnIds
open Go Go.Proofs Go.Proofs.YtknoemdkfhkkhaaPM Go.Proofs.Ytknoemdkfhkkhaa.Q Go.Proofs.Ytknoemdkfhkkhaa.GFnIds

theorem and255 {a : Nat} (h : a < 256) : a &&& 255 = a := by
  rw [show (255 : Nat) = 2 ^ 8 - 1 from rfl, Nat.and_two_pow_sub_one_eq_mod]; exact Nat.mod_eq_of_lt h
theorem and_lt {a m : Nat} (h : a < 256) : a &&& m < 256 := Nat.lt_of_le_of_lt Nat.and_le_left h
theorem or_lt {a b : Nat} (h : a < 256) (k : b < 256) : a ||| b < 256 := Nat.or_lt_two_pow (n := 8) h k
/-- A text's bytes, of each some bits. -/
def TM (m : Nat → Nat) (s : ByteArray) : ByteArray := strL (L s.size fun i => byteAt s i &&& m i)
theorem TM_size (m : Nat → Nat) (s : ByteArray) : (TM m s).size = s.size := by rw [TM, strL_size, L_len]
theorem byteAt_TM {m : Nat → Nat} {s : ByteArray} {i : Nat} (h : i < s.size) : byteAt (TM m s) i = byteAt s i &&& m i := byteAt_L (f := fun i => byteAt s i &&& m i) (fun _ => and_lt (byteAt_lt _ _)) i h
theorem TM_all {m : Nat → Nat} {s : ByteArray} (h : ∀ i, i < s.size → m i = 255) : TM m s = s := str_ext (TM_size m s) fun i hi => by
  rw [TM_size] at hi
  rw [byteAt_TM hi, h i hi, and255 (byteAt_lt _ _)]
theorem TM_TM (m : Nat → Nat) (s : ByteArray) : TM m (TM m s) = TM m s := str_ext (by rw [TM_size]) fun i hi => by
  rw [TM_size, TM_size] at hi
  rw [byteAt_TM (by rw [TM_size]; exact hi), byteAt_TM hi, Nat.and_assoc, Nat.and_self]
theorem mask4 (a b m : Nat) : (((a ^^^ b) &&& m) ^^^ b) &&& m = a &&& m := by
  apply Nat.eq_of_testBit_eq
  intro i
  simp only [Nat.testBit_and, Nat.testBit_xor]
  cases a.testBit i <;> cases b.testBit i <;> cases m.testBit i <;> rfl
theorem TM_xs (m : Nat → Nat) (r b : ByteArray) : TM m (xs (TM m (xs r b)) b) = TM m r := str_ext (by rw [TM_size, xs_size, TM_size, xs_size, TM_size]) fun i hi => by
  rw [TM_size, xs_size, TM_size, xs_size] at hi
  rw [byteAt_TM (by rw [xs_size, TM_size, xs_size]; exact hi), byteAt_xs (by rw [TM_size, xs_size]; exact hi), byteAt_TM (by rw [xs_size]; exact hi), byteAt_xs hi, byteAt_TM hi, mask4]
/-- What of a half's bytes counts. -/
def mL (n i : Nat) : Nat := if n % 2 = 1 ∧ i + 1 = (n + 1) / 2 then 240 else 255
def mR (n i : Nat) : Nat := if n % 2 = 1 ∧ i = 0 then 15 else 255
/-- The block of a half. -/
def hb (s : ByteArray) (n p : Nat) : ByteArray := if p % 2 = 1 then (s ++ zs (14 - s.size)) ++ (be 1 (n : Int) ++ be 1 (p : Int)) else ((be 1 (n : Int) ++ be 1 (p : Int)) ++ zs (14 - s.size)) ++ s
theorem hb_size {s : ByteArray} {n p : Nat} (h : s.size ≤ 14) : (hb s n p).size = 16 := by
  unfold hb
  split <;> simp only [ByteArray.size_append, zs_size, be_size] <;> omega
abbrev HS := ByteArray × ByteArray
/-- A pass. -/
def ps (k : ByteArray) (n p : Nat) (x : HS) : HS := if p % 2 = 1 then (x.1, TM (mR n) (xs x.2 (aes k (hb x.1 n p)))) else (TM (mL n) (xs x.1 (aes k (hb x.2 n p))), x.2)
structure Ok (n : Nat) (x : HS) : Prop where
  l : x.1.size = (n + 1) / 2
  r : x.2.size = (n + 1) / 2
  tl : TM (mL n) x.1 = x.1
  tr : TM (mR n) x.2 = x.2
theorem Ok.ps {n : Nat} {x : HS} (h : Ok n x) (k : ByteArray) (p : Nat) : Ok n (ps k n p x) := by
  unfold CFnIds.ps
  split
  · exact ⟨h.l, by rw [TM_size, xs_size]; exact h.r, h.tl, TM_TM _ _⟩
  · exact ⟨by rw [TM_size, xs_size]; exact h.l, h.r, TM_TM _ _, h.tr⟩
theorem ps_ps {n : Nat} {x : HS} (h : Ok n x) (k : ByteArray) (p : Nat) : ps k n p (ps k n p x) = x := by
  unfold ps
  split
  · dsimp only
    rw [TM_xs, h.tr]
  · dsimp only
    rw [TM_xs, h.tl]
/-- Both halves together, and cut. -/
def jn (n : Nat) (x : HS) : ByteArray := strL (L n fun i => if i < n - (n + 1) / 2 then byteAt x.1 i else if i < (n + 1) / 2 then byteAt x.1 i ||| byteAt x.2 (i - (n - (n + 1) / 2)) else byteAt x.2 (i - (n - (n + 1) / 2)))
def ct (s : ByteArray) : HS := (TM (mL s.size) (s.extract 0 ((s.size + 1) / 2)), TM (mR s.size) (s.extract (s.size - (s.size + 1) / 2) s.size))
theorem jn_size (n : Nat) (x : HS) : (jn n x).size = n := by rw [jn, strL_size, L_len]
theorem byteAt_jn {n : Nat} {x : HS} {i : Nat} (h : i < n) : byteAt (jn n x) i = if i < n - (n + 1) / 2 then byteAt x.1 i else if i < (n + 1) / 2 then byteAt x.1 i ||| byteAt x.2 (i - (n - (n + 1) / 2)) else byteAt x.2 (i - (n - (n + 1) / 2)) :=
  byteAt_L (f := fun i => if i < n - (n + 1) / 2 then byteAt x.1 i else if i < (n + 1) / 2 then byteAt x.1 i ||| byteAt x.2 (i - (n - (n + 1) / 2)) else byteAt x.2 (i - (n - (n + 1) / 2))) (fun j => by
    dsimp only
    split
    · exact byteAt_lt _ _
    · split
      · exact or_lt (byteAt_lt _ _) (byteAt_lt _ _)
      · exact byteAt_lt _ _) i h
theorem ct_ok {s : ByteArray} (h : 0 < s.size) : Ok s.size (ct s) :=
  ⟨by unfold ct; rw [TM_size, extract_size (by omega)]; omega, by unfold ct; rw [TM_size, extract_size (Nat.le_refl _)]; omega, TM_TM _ _, TM_TM _ _⟩
theorem mid_tab : ∀ x : Fin 256, ((x : Nat) &&& 240) ||| ((x : Nat) &&& 15) = x := by decide +kernel
theorem jn_ct {s : ByteArray} (h : 0 < s.size) : jn s.size (ct s) = s := str_ext (jn_size _ _) fun i hi => by
  rw [jn_size] at hi
  have h1 : (s.extract 0 ((s.size + 1) / 2)).size = (s.size + 1) / 2 := by rw [extract_size (by omega)]; omega
  have h2 : (s.extract (s.size - (s.size + 1) / 2) s.size).size = (s.size + 1) / 2 := by rw [extract_size (Nat.le_refl _)]; omega
  rw [byteAt_jn hi]
  unfold ct
  dsimp only
  split
  · rw [byteAt_TM (by omega), byteAt_extract (by omega), Nat.zero_add, mL, if_neg (by omega), and255 (byteAt_lt _ _)]
  · split
    · rw [byteAt_TM (by omega), byteAt_TM (by omega), byteAt_extract (by omega), byteAt_extract (by omega), Nat.zero_add, mL, if_pos (by omega), mR, if_pos (by omega), show s.size - (s.size + 1) / 2 + (i - (s.size - (s.size + 1) / 2)) = i by omega]
      exact mid_tab ⟨byteAt s i, byteAt_lt s i⟩
    · rw [byteAt_TM (by omega), byteAt_extract (by omega), mR, if_neg (by omega), and255 (byteAt_lt _ _), show s.size - (s.size + 1) / 2 + (i - (s.size - (s.size + 1) / 2)) = i by omega]
theorem Ok.at_l {n : Nat} {x : HS} (h : Ok n x) {i : Nat} (hi : i < (n + 1) / 2) : byteAt x.1 i &&& mL n i = byteAt x.1 i := by
  have := byteAt_TM (m := mL n) (s := x.1) (i := i) (by rw [h.l]; exact hi)
  rw [h.tl] at this
  exact this.symm
theorem Ok.at_r {n : Nat} {x : HS} (h : Ok n x) {i : Nat} (hi : i < (n + 1) / 2) : byteAt x.2 i &&& mR n i = byteAt x.2 i := by
  have := byteAt_TM (m := mR n) (s := x.2) (i := i) (by rw [h.r]; exact hi)
  rw [h.tr] at this
  exact this.symm
theorem ct_jn {n : Nat} (hn : 0 < n) {x : HS} (h : Ok n x) : ct (jn n x) = x := by
  obtain ⟨l, r⟩ := x
  have hl : l.size = (n + 1) / 2 := h.l
  have hr : r.size = (n + 1) / 2 := h.r
  have hz := jn_size n (l, r)
  unfold ct
  rw [hz]
  refine Prod.ext (str_ext ?_ fun i hi => ?_) (str_ext ?_ fun i hi => ?_)
  · show _ = l.size
    rw [TM_size, extract_size (by omega)]; omega
  · rw [TM_size, extract_size (by omega)] at hi
    have hi : i < (n + 1) / 2 := by omega
    rw [byteAt_TM (by rw [extract_size (by omega)]; omega), byteAt_extract (by omega), Nat.zero_add, byteAt_jn (by omega)]
    have h1 := h.at_l hi
    dsimp only at h1 ⊢
    split
    · exact h1
    · rename_i hc
      rw [Nat.and_or_distrib_right, h1]
      have h2 := h.at_r (i := i - (n - (n + 1) / 2)) (by omega)
      dsimp only at h2
      rw [← h2, Nat.and_assoc, mR, if_pos (by omega), mL, if_pos (by omega)]
      rw [show (15 &&& 240 : Nat) = 0 from rfl, Nat.and_zero, Nat.or_zero]
  · show _ = r.size
    rw [TM_size, extract_size (by omega)]; omega
  · rw [TM_size, extract_size (by omega)] at hi
    have hi : i < (n + 1) / 2 := by omega
    rw [byteAt_TM (by rw [extract_size (by omega)]; omega), byteAt_extract (by omega), byteAt_jn (by omega), show n - (n + 1) / 2 + i - (n - (n + 1) / 2) = i by omega, if_neg (by omega)]
    have h1 := h.at_r hi
    dsimp only at h1 ⊢
    split
    · rename_i hc
      rw [Nat.and_or_distrib_right, h1]
      have h2 := h.at_l (i := n - (n + 1) / 2 + i) (by omega)
      dsimp only at h2
      rw [← h2, Nat.and_assoc, mR, if_pos (by omega), mL, if_pos (by omega)]
      rw [show (240 &&& 15 : Nat) = 0 from rfl, Nat.and_zero, Nat.zero_or]
    · exact h1
def fourP (k s : ByteArray) : ByteArray := jn s.size (ps k s.size 4 (ps k s.size 3 (ps k s.size 2 (ps k s.size 1 (ct s)))))
def fourB (k s : ByteArray) : ByteArray := jn s.size (ps k s.size 1 (ps k s.size 2 (ps k s.size 3 (ps k s.size 4 (ct s)))))
theorem fourP_size (k s : ByteArray) : (fourP k s).size = s.size := jn_size _ _
theorem fourB_size (k s : ByteArray) : (fourB k s).size = s.size := jn_size _ _
theorem fourB_P {k s : ByteArray} (h : 0 < s.size) : fourB k (fourP k s) = s := by
  have h0 := ct_ok h
  have h1 := h0.ps k 1
  have h2 := h1.ps k 2
  have h3 := h2.ps k 3
  have h4 := h3.ps k 4
  rw [fourB, fourP_size]
  unfold fourP
  rw [ct_jn h h4, ps_ps h3, ps_ps h2, ps_ps h1, ps_ps h0, jn_ct h]
theorem fourP_B {k s : ByteArray} (h : 0 < s.size) : fourP k (fourB k s) = s := by
  have h0 := ct_ok h
  have h1 := h0.ps k 4
  have h2 := h1.ps k 3
  have h3 := h2.ps k 2
  have h4 := h3.ps k 1
  rw [fourP, fourB_size]
  unfold fourB
  rw [ct_jn h h4, ps_ps h3, ps_ps h2, ps_ps h1, ps_ps h0, jn_ct h]
end Go.Proofs.Ytknoemdkfhkkhaa.CFnIds
