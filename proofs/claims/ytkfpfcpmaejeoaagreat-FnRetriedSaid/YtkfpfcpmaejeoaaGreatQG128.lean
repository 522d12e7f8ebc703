/- The field of 128 bits as pairs of words: products do not hang on order and brackets and go with xor. Plain: no program in sight. -/
set_option linter.unusedVariables false
set_option linter.unusedSimpArgs false
namespace Go.Proofs.YtkfpfcpmaejeoaaGreat.G128

abbrev V := BitVec 64 × BitVec 64
def xo (a b : V) : V := (a.1 ^^^ b.1, a.2 ^^^ b.2)
def zero : V := (0, 0)
theorem xo_comm (a b : V) : xo a b = xo b a := by unfold xo; rw [BitVec.xor_comm, BitVec.xor_comm a.2]
theorem xo_assoc (a b c : V) : xo (xo a b) c = xo a (xo b c) := by unfold xo; rw [BitVec.xor_assoc, BitVec.xor_assoc]
theorem xo_zero (a : V) : xo a zero = a := by unfold xo zero; simp
theorem zero_xo (a : V) : xo zero a = a := by unfold xo zero; simp
theorem xo_four (a b c d : V) : xo (xo a b) (xo c d) = xo (xo a c) (xo b d) := by
  rw [xo_assoc, xo_assoc, ← xo_assoc b, xo_comm b c, xo_assoc c]
/-- What is xored in where a bit falls out. -/
def R : BitVec 64 := 16212958658533785600#64
/-- Times x. -/
def X (a : V) : V := ((a.1 >>> 1) ^^^ (if a.2.getLsbD 0 then R else 0), (a.2 >>> 1) ||| (a.1 <<< 63))
theorem X_xo (a b : V) : X (xo a b) = xo (X a) (X b) := by
  unfold X xo
  refine Prod.ext ?_ ?_
  · simp only [BitVec.ushiftRight_xor_distrib, BitVec.getLsbD_xor]
    cases a.2.getLsbD 0 <;> cases b.2.getLsbD 0 <;> simp
    · rw [BitVec.xor_assoc]
    · rw [BitVec.xor_assoc, BitVec.xor_assoc, BitVec.xor_comm (b.1 >>> 1) R]
    · have e : ∀ x y r : BitVec 64, x ^^^ y = x ^^^ r ^^^ (y ^^^ r) := by
        intro x y r
        rw [BitVec.xor_comm y r, ← BitVec.xor_assoc, BitVec.xor_assoc x r r, BitVec.xor_self, BitVec.xor_zero]
      exact e _ _ _
  · apply BitVec.eq_of_getLsbD_eq
    intro i hi
    simp only [BitVec.getLsbD_or, BitVec.getLsbD_xor, BitVec.getLsbD_ushiftRight, BitVec.getLsbD_shiftLeft]
    by_cases h : i = 63
    · subst h
      have e1 : a.2.getLsbD (1 + 63) = false := BitVec.getLsbD_of_ge _ _ (by omega)
      have e2 : b.2.getLsbD (1 + 63) = false := BitVec.getLsbD_of_ge _ _ (by omega)
      simp [e1, e2]
    · have h2 : i < 63 := by omega
      simp [h2]
theorem X_zero : X zero = zero := by decide
def Xn : Nat → V → V
  | 0, a => a
  | n + 1, a => X (Xn n a)
theorem Xn_X : ∀ (n : Nat) (a : V), Xn n (X a) = X (Xn n a)
  | 0, _ => rfl
  | n + 1, a => by rw [Xn, Xn_X n a, Xn]
theorem Xn_xo : ∀ (n : Nat) (a b : V), Xn n (xo a b) = xo (Xn n a) (Xn n b)
  | 0, _, _ => rfl
  | n + 1, a, b => by rw [Xn, Xn_xo n, X_xo, Xn, Xn]
theorem Xn_zero : ∀ n, Xn n zero = zero
  | 0 => rfl
  | n + 1 => by rw [Xn, Xn_zero n, X_zero]
/-- A bit, the highest first. -/
def bit (c : V) (i : Nat) : Bool := if i < 64 then c.1.getLsbD (63 - i) else c.2.getLsbD (127 - i)
def S : Nat → (Nat → V) → V
  | 0, _ => zero
  | n + 1, f => xo (S n f) (f n)
theorem S_congr {n : Nat} {f g : Nat → V} (h : ∀ i, i < n → f i = g i) : S n f = S n g := by
  induction n with
  | zero => rfl
  | succ n ih => rw [S, S, ih (fun i hi => h i (by omega)), h n (by omega)]
theorem S_xo (n : Nat) (f g : Nat → V) : S n (fun i => xo (f i) (g i)) = xo (S n f) (S n g) := by
  induction n with
  | zero => rw [S, S, S, xo_zero]
  | succ n ih => rw [S, S, S, ih, xo_four]
theorem S_lin {L : V → V} (hx : ∀ a b, L (xo a b) = xo (L a) (L b)) (hz : L zero = zero) (n : Nat) (f : Nat → V) : L (S n f) = S n (fun i => L (f i)) := by
  induction n with
  | zero => exact hz
  | succ n ih => rw [S, S, hx, ih]
theorem S_zero (n : Nat) : S n (fun _ => zero) = zero := by
  induction n with
  | zero => rfl
  | succ n ih => rw [S, ih, xo_zero]
/-- c times a: for each bit of c, a times x so often. -/
def T (c a : V) : V := S 128 (fun i => if bit c i then Xn i a else zero)
theorem T_xo (c a b : V) : T c (xo a b) = xo (T c a) (T c b) := by
  unfold T
  rw [← S_xo]
  refine S_congr (fun i _ => ?_)
  cases bit c i
  · simp [xo_zero]
  · simp [Xn_xo]
theorem T_zero (c : V) : T c zero = zero := by
  unfold T
  have e : S 128 (fun i => if bit c i then Xn i zero else zero) = S 128 (fun _ => zero) := S_congr (fun i _ => by rw [Xn_zero]; simp)
  rw [e]
  exact S_zero 128
theorem T_X (c a : V) : T c (X a) = X (T c a) := by
  unfold T
  rw [S_lin X_xo X_zero]
  refine S_congr (fun i _ => ?_)
  cases bit c i
  · simp [X_zero]
  · simp [Xn_X]
theorem T_Xn (c a : V) : ∀ n, T c (Xn n a) = Xn n (T c a)
  | 0 => rfl
  | n + 1 => by rw [Xn, T_X, T_Xn c a n, Xn]
theorem T_T (b c a : V) : T c (T b a) = T b (T c a) := by
  have e : T c (T b a) = S 128 (fun i => T c (if bit b i then Xn i a else zero)) := S_lin (T_xo c) (T_zero c) 128 _
  rw [e]
  conv => rhs; unfold T
  refine S_congr (fun i _ => ?_)
  cases bit b i
  · simp [T_zero]
  · simp [T_Xn]; rfl
/-- The powers of x, as bits. -/
def E (i : Nat) : V := if i < 64 then (BitVec.twoPow 64 (63 - i), 0) else (0, BitVec.twoPow 64 (127 - i))
set_option maxRecDepth 100000 in
theorem E_step : ∀ i : Fin 127, X (E i) = E (i + 1) := by decide
theorem E_eq : ∀ i, i < 128 → Xn i (E 0) = E i
  | 0, _ => rfl
  | i + 1, h => by rw [Xn, E_eq i (by omega)]; exact E_step ⟨i, by omega⟩
theorem sum_bits (a : V) (n : Nat) (hn : n ≤ 128) : ∀ k, k < 64 →
    (S n (fun i => if bit a i then E i else zero)).1.getLsbD k = (decide (63 - k < n) && a.1.getLsbD k) ∧
    (S n (fun i => if bit a i then E i else zero)).2.getLsbD k = (decide (127 - k < n) && a.2.getLsbD k) := by
  induction n with
  | zero => intro k hk; simp [S, zero]
  | succ n ih =>
    intro k hk
    obtain ⟨h1, h2⟩ := ih (by omega) k hk
    rw [S]
    unfold xo
    simp only [BitVec.getLsbD_xor, h1, h2]
    by_cases hn2 : n < 64
    · constructor
      · by_cases hk2 : 63 - k = n
        · have e1 : k = 63 - n := by omega
          subst e1
          simp only [bit, if_pos hn2]
          have e2 : 63 - (63 - n) = n := by omega
          rw [e2]
          cases h : a.1.getLsbD (63 - n) <;> simp [zero, E, hn2, BitVec.getLsbD_twoPow, hk]
        · have e3 : (if bit a n then E n else zero).1.getLsbD k = false := by
            cases bit a n
            · simp [zero]
            · simp only [if_true, E, if_pos hn2, BitVec.getLsbD_twoPow]
              have : ¬ (63 - n = k) := by omega
              simp [this]
          rw [e3]
          have e4 : decide (63 - k < n) = decide (63 - k < n + 1) := by rw [decide_eq_decide]; omega
          rw [e4]; simp
      · have e3 : (if bit a n then E n else zero).2.getLsbD k = false := by
          cases bit a n
          · simp [zero]
          · simp [E, hn2]
        rw [e3]
        have e4 : decide (127 - k < n) = false := decide_eq_false (by omega)
        have e5 : decide (127 - k < n + 1) = false := decide_eq_false (by omega)
        rw [e4, e5]; simp
    · constructor
      · have e3 : (if bit a n then E n else zero).1.getLsbD k = false := by
          cases bit a n
          · simp [zero]
          · simp [E, hn2]
        rw [e3]
        have e4 : decide (63 - k < n) = true := decide_eq_true (by omega)
        have e5 : decide (63 - k < n + 1) = true := decide_eq_true (by omega)
        rw [e4, e5]; simp
      · by_cases hk2 : 127 - k = n
        · have e1 : k = 127 - n := by omega
          subst e1
          simp only [bit, if_neg hn2]
          have e2 : 127 - (127 - n) = n := by omega
          rw [e2]
          cases h : a.2.getLsbD (127 - n) <;> simp [zero, E, hn2, BitVec.getLsbD_twoPow, hk]
        · have e3 : (if bit a n then E n else zero).2.getLsbD k = false := by
            cases bit a n
            · simp [zero]
            · simp only [if_true, E, if_neg hn2, BitVec.getLsbD_twoPow]
              have : ¬ (127 - n = k) := by omega
              simp [this]
          rw [e3]
          have e4 : decide (127 - k < n) = decide (127 - k < n + 1) := by rw [decide_eq_decide]; omega
          rw [e4]; simp
theorem T_e0 (a : V) : T a (E 0) = a := by
  unfold T
  have e : S 128 (fun i => if bit a i then Xn i (E 0) else zero) = S 128 (fun i => if bit a i then E i else zero) := S_congr (fun i hi => by rw [E_eq i hi])
  rw [e]
  have hb := sum_bits a 128 (by omega)
  refine Prod.ext (BitVec.eq_of_getLsbD_eq fun k hk => ?_) (BitVec.eq_of_getLsbD_eq fun k hk => ?_)
  · rw [(hb k hk).1, decide_eq_true (by omega)]; simp
  · rw [(hb k hk).2, decide_eq_true (by omega)]; simp
theorem T_comm (a b : V) : T a b = T b a := by
  have h := T_T b a (E 0)
  rw [T_e0, T_e0] at h
  exact h
theorem T_assoc (a b c : V) : T c (T b a) = T (T c b) a := by
  rw [T_comm (T c b) a, T_T c a b, T_comm a b]
theorem T_xo_left (a b c : V) : T (xo b c) a = xo (T b a) (T c a) := by
  rw [T_comm, T_xo, T_comm a b, T_comm a c]
end Go.Proofs.YtkfpfcpmaejeoaaGreat.G128
