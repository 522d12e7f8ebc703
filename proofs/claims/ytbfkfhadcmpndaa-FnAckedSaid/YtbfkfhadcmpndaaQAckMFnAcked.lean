/- What was sent, and what an acknowledgement does to it: plain words. -/
import Derived.Test.YtbfkfhadcmpndaaQVarNFnAcked
set_option linter.unusedVariables false
set_option linter.unusedSimpArgs false
namespace Go.Proofs.Ytbfkfhadcmpndaa.CFnAcked
open Go Go.Proofs Go.Proofs.YtbfkfhadcmpndaaPM Go.Proofs.Ytbfkfhadcmpndaa.Q

abbrev Snt := Int × (Int × Int)
def TickN (n : Int) : Prop := 0 ≤ n ∧ n ≤ 1000000000
instance (n : Int) : Decidable (TickN n) := by unfold TickN; infer_instance
/-- A packet that stands right behind one with number a that was sent at t. -/
def SentP (a t : Int) (x : Snt) : Prop := VarN x.1 ∧ TickN x.2.1 ∧ (0 ≤ x.2.2 ∧ x.2.2 ≤ 1500) ∧ a < x.1 ∧ t ≤ x.2.1
instance (a t : Int) (x : Snt) : Decidable (SentP a t x) := by unfold SentP; infer_instance
def sentB : Int → Int → List Snt → Bool
  | _, _, [] => true
  | a, t, x :: r => decide (SentP a t x) && sentB x.1 x.2.1 r
def endN : Int → List Snt → Int
  | a, [] => a
  | _, x :: r => endN x.1 r
def hasB (l : List (Int × Int)) (n : Int) : Bool := l.any fun r => decide (r.1 ≤ n ∧ n ≤ r.2)
def lastT : Int → List Snt → Int
  | t, [] => t
  | _, x :: r => lastT x.2.1 r
theorem endN_app (l : List Snt) (x : Snt) : ∀ a, endN a (l ++ [x]) = x.1 := by
  induction l with
  | nil => intro a; rfl
  | cons y l ih => intro a; exact ih _
theorem lastT_app (l : List Snt) (x : Snt) : ∀ t, lastT t (l ++ [x]) = x.2.1 := by
  induction l with
  | nil => intro a; rfl
  | cons y l ih => intro a; exact ih _
theorem sentB_cons {a t : Int} {x : Snt} {r : List Snt} (h : sentB a t (x :: r) = true) : SentP a t x ∧ sentB x.1 x.2.1 r = true := by
  unfold sentB at h
  rw [Bool.and_eq_true, decide_eq_true_eq] at h
  exact h
theorem sentB_mk {a t : Int} {x : Snt} {r : List Snt} (h : SentP a t x) (k : sentB x.1 x.2.1 r = true) : sentB a t (x :: r) = true := by
  unfold sentB
  rw [k, decide_eq_true h]
  rfl
theorem sentP_le {a t a' t' : Int} {x : Snt} (h : SentP a t x) (h1 : a' ≤ a) (h2 : t' ≤ t) : SentP a' t' x := by
  obtain ⟨k1, k2, k3, k4, k5⟩ := h
  exact ⟨k1, k2, k3, by omega, by omega⟩
theorem sentB_filter (q : Snt → Bool) : ∀ (L : List Snt) (a t a' t' : Int), sentB a t L = true → a' ≤ a → t' ≤ t → sentB a' t' (L.filter q) = true := by
  intro L
  induction L with
  | nil => intros; rfl
  | cons x r ih =>
    intro a t a' t' h h1 h2
    obtain ⟨hp, hr⟩ := sentB_cons h
    rw [List.filter_cons]
    split
    · exact sentB_mk (sentP_le hp h1 h2) (ih _ _ _ _ hr (by omega) (by omega))
    · exact ih _ _ _ _ hr (by have := hp.2.2.2.1; omega) (by have := hp.2.2.2.2; omega)
theorem sentB_mem {p : Snt} : ∀ (L : List Snt) (a t : Int), sentB a t L = true → p ∈ L → SentP a t p ∧ p.2.1 ≤ lastT t L := by
  intro L
  induction L with
  | nil => intro a t _ h; cases h
  | cons x r ih =>
    intro a t h hm
    obtain ⟨hp, hr⟩ := sentB_cons h
    have hl : ∀ (L : List Snt) (a t : Int), sentB a t L = true → t ≤ lastT t L := by
      intro L
      induction L with
      | nil => intro a t _; exact Int.le_refl _
      | cons y L ih2 =>
        intro a t h
        obtain ⟨hy, hL⟩ := sentB_cons h
        have := ih2 _ _ hL
        have := hy.2.2.2.2
        show t ≤ lastT y.2.1 L
        omega
    rcases List.mem_cons.1 hm with e | hm
    · subst e
      exact ⟨hp, hl r _ _ hr⟩
    · obtain ⟨h1, h2⟩ := ih _ _ hr hm
      exact ⟨sentP_le h1 (by have := hp.2.2.2.1; omega) hp.2.2.2.2, h2⟩
theorem lastT_filter (q : Snt → Bool) : ∀ (L : List Snt) (a t t' : Int), sentB a t L = true → t' ≤ t → lastT t' (L.filter q) ≤ lastT t L := by
  intro L
  induction L with
  | nil => intro a t t' _ h; exact h
  | cons x r ih =>
    intro a t t' h h1
    obtain ⟨hp, hr⟩ := sentB_cons h
    rw [List.filter_cons]
    split
    · exact ih _ _ _ hr (Int.le_refl _)
    · exact ih _ _ _ hr (by have := hp.2.2.2.2; omega)

theorem fmem {α : Type} {q : α → Bool} {x : α} {L : List α} (h : x ∈ L.filter q) : x ∈ L := (List.mem_filter.1 h).1

/-! ### what is acknowledged, lost and left -/
section
variable (has : Int → Bool) (lost : Snt → Bool)
def ackedL (S : List Snt) : List Int := (S.filter fun x => has x.1).map (·.1)
def leftL (S : List Snt) : List Snt := S.filter fun x => !has x.1
def lostL (S : List Snt) : List Int := ((leftL has S).filter lost).map (·.1)
def keepL (S : List Snt) : List Snt := (leftL has S).filter fun x => !lost x
theorem parts_len (S : List Snt) : (ackedL has S).length + (lostL has lost S).length + (keepL has lost S).length = S.length := by
  induction S with
  | nil => rfl
  | cons x r ih =>
    unfold ackedL lostL keepL leftL at *
    cases h : has x.1 with
    | true => simp [h] at *; omega
    | false => cases h2 : lost x with
      | true => simp [h, h2] at *; omega
      | false => simp [h, h2] at *; omega
theorem parts_zero (p : Snt) : ∀ (S : List Snt), (∀ x ∈ S, x.1 ≠ p.1) → (ackedL has S).count p.1 = 0 ∧ (lostL has lost S).count p.1 = 0 ∧ (keepL has lost S).count p = 0 := by
  intro S h
  refine ⟨List.count_eq_zero.2 fun k => ?_, List.count_eq_zero.2 fun k => ?_, List.count_eq_zero.2 fun k => ?_⟩
  · obtain ⟨x, hx, e⟩ := List.mem_map.1 k
    exact h x (fmem hx) e
  · obtain ⟨x, hx, e⟩ := List.mem_map.1 k
    exact h x (fmem (fmem hx)) e
  · exact h p (fmem (fmem k)) rfl
theorem parts_one (p : Snt) : ∀ (S : List Snt) (a t : Int), sentB a t S = true → p ∈ S → (ackedL has S).count p.1 + (lostL has lost S).count p.1 + (keepL has lost S).count p = 1 := by
  intro S
  induction S with
  | nil => intro a t _ h; cases h
  | cons x r ih =>
    intro a t h hm
    obtain ⟨hp, hr⟩ := sentB_cons h
    by_cases e : x = p
    · subst e
      obtain ⟨h1, h2, h3⟩ := parts_zero has lost x r (fun y hy => by have := (sentB_mem r _ _ hr hy).1.2.2.2.1; omega)
      unfold ackedL lostL keepL leftL at *
      cases h : has x.1 with
      | true => simp [-List.filter_filter, h, h1, h2, h3]
      | false => cases hl : lost x with
        | true => simp [-List.filter_filter, h, hl, h1, h2, h3]
        | false => simp [-List.filter_filter, h, hl, h1, h2, h3]
    · have hm2 : p ∈ r := by
        rcases List.mem_cons.1 hm with e2 | h
        · exact absurd e2.symm e
        · exact h
      have hn : x.1 ≠ p.1 := by have := (sentB_mem r _ _ hr hm2).1.2.2.2.1; omega
      have := ih _ _ hr hm2
      unfold ackedL lostL keepL leftL at *
      cases h : has x.1 with
      | true => simp [-List.filter_filter, h, hn, e] at *; omega
      | false => cases h2 : lost x with
        | true => simp [-List.filter_filter, h, h2, hn, e] at *; omega
        | false => simp [-List.filter_filter, h, h2, hn, e] at *; omega
theorem keep_left (S : List Snt) : leftL has (keepL has lost S) = keepL has lost S := by
  unfold leftL
  refine List.filter_eq_self.2 fun x hx => ?_
  have := fmem hx
  exact (List.mem_filter.1 this).2
theorem keep_acked (S : List Snt) : ackedL has (keepL has lost S) = [] := by
  unfold ackedL
  rw [List.map_eq_nil_iff, List.filter_eq_nil_iff]
  intro x hx
  have := (List.mem_filter.1 (fmem hx)).2
  simpa using this
theorem keep_keep (S : List Snt) : keepL has lost (keepL has lost S) = keepL has lost S := by
  show (leftL has (keepL has lost S)).filter (fun x => !lost x) = keepL has lost S
  rw [keep_left]
  exact List.filter_eq_self.2 fun x hx => (List.mem_filter.1 hx).2
theorem keep_lost (S : List Snt) : lostL has lost (keepL has lost S) = [] := by
  unfold lostL
  rw [keep_left, List.map_eq_nil_iff, List.filter_eq_nil_iff]
  intro x hx
  have := (List.mem_filter.1 hx).2
  simpa using this
end

/-! ### round trips -/
abbrev Rt := Bool × (Int × (Int × (Int × (Int × Unit))))
def goodRB (r : Rt) : Bool := match r.1 with
  | true => decide (0 ≤ r.2.2.1 ∧ r.2.2.1 ≤ r.2.1 ∧ TickN r.2.1 ∧ TickN r.2.2.2.1 ∧ TickN r.2.2.2.2.1)
  | false => decide (r.2.1 = 0 ∧ r.2.2.1 = 0 ∧ r.2.2.2.1 = 0 ∧ r.2.2.2.2.1 = 0)
theorem goodRB_t {a b c d : Int} (h : goodRB (true, (a, (b, (c, (d, ()))))) = true) : 0 ≤ b ∧ b ≤ a ∧ a ≤ 1000000000 ∧ (0 ≤ c ∧ c ≤ 1000000000) ∧ (0 ≤ d ∧ d ≤ 1000000000) := by
  have h := of_decide_eq_true h
  exact ⟨h.1, h.2.1, h.2.2.1.2, h.2.2.2.1, h.2.2.2.2⟩
theorem goodRB_mk {a b c d : Int} (h : 0 ≤ b ∧ b ≤ a ∧ a ≤ 1000000000 ∧ (0 ≤ c ∧ c ≤ 1000000000) ∧ (0 ≤ d ∧ d ≤ 1000000000)) : goodRB (true, (a, (b, (c, (d, ()))))) = true :=
  decide_eq_true ⟨h.1, h.2.1, ⟨Int.le_trans h.1 h.2.1, h.2.2.1⟩, h.2.2.2.1, h.2.2.2.2⟩
def adjF (mn lat delay : Int) : Int := if mn ≤ lat - delay then lat - delay else lat
def minF (a b : Int) : Int := if a < b then a else b
def absF (a : Int) : Int := if a < 0 then 0 - a else a
def sampF (r : Rt) (lat delay : Int) : Rt := match r with
  | (false, _) => (true, (lat, (lat, (lat, (lat / 2, ())))))
  | (true, (_, (b, (c, (d, _))))) => (true, (lat, (minF lat b, ((7 * c + adjF (minF lat b) lat delay) / 8, ((3 * d + absF (c - adjF (minF lat b) lat delay)) / 4, ())))))
theorem adjF_r {mn lat delay : Int} (h : 0 ≤ mn) (h1 : mn ≤ lat) (h2 : lat ≤ 1000000000) (h3 : 0 ≤ delay) : 0 ≤ adjF mn lat delay ∧ adjF mn lat delay ≤ 1000000000 := by unfold adjF; split <;> omega
theorem minF_r {a b : Int} (h : 0 ≤ a) (h1 : 0 ≤ b) : 0 ≤ minF a b ∧ minF a b ≤ a ∧ minF a b ≤ b := by unfold minF; split <;> omega
theorem absF_r {a : Int} (h : -1000000000 ≤ a) (h1 : a ≤ 1000000000) : 0 ≤ absF a ∧ absF a ≤ 1000000000 := by unfold absF; split <;> omega
theorem sampF_good {r : Rt} {lat delay : Int} (h : goodRB r = true) (h1 : TickN lat) (h2 : 0 ≤ delay) : goodRB (sampF r lat delay) = true := by
  obtain ⟨k, a, b, c, d, ⟨⟩⟩ := r
  obtain ⟨l1, l2⟩ := h1
  cases k with
  | false => exact goodRB_mk (by omega)
  | true =>
    obtain ⟨g1, g2, g3, g4, g5⟩ := goodRB_t h
    have m := minF_r l1 g1
    have j := adjF_r (delay := delay) m.1 m.2.1 l2 h2
    have ab := absF_r (a := c - adjF (minF lat b) lat delay) (by omega) (by omega)
    refine goodRB_mk ?_
    generalize minF lat b = mn at *
    generalize adjF mn lat delay = ad at *
    generalize absF (c - ad) = ap at *
    omega
def maxF (a b : Int) : Int := if a < b then b else a
def waitF (r : Rt) : Int := maxF (maxF r.2.2.2.1 r.2.1 * 9 / 8) 1
def lostF (L : Int) (r : Rt) (now : Int) (x : Snt) : Bool := decide (x.1 < L) && (decide (x.1 ≤ L - 3) || (r.1 && decide (x.2.1 ≤ now - waitF r)))
/-- The round trip behind all acknowledged ones: the one that was sampled last. -/
def hitB (l : List (Int × Int)) (T : Int) (x : Snt) : Bool := hasB l x.1 && decide (x.1 = T)
def foldS (l : List (Int × Int)) (T now delay : Int) : Rt → List Snt → Rt
  | R, [] => R
  | R, x :: r => foldS l T now delay (match hitB l T x with | true => sampF R (now - x.2.1) delay | false => R) r
def foldI (l : List (Int × Int)) (T now delay : Int) (R0 : Rt) : Rt → List Snt → Rt
  | R, [] => R
  | R, x :: r => foldI l T now delay R0 (match hitB l T x with | true => sampF R0 (now - x.2.1) delay | false => R) r
theorem fold_none {l : List (Int × Int)} {T now delay : Int} (R0 : Rt) : ∀ (r : List Snt) (R : Rt), (∀ x ∈ r, x.1 ≠ T) → foldS l T now delay R r = R ∧ foldI l T now delay R0 R r = R := by
  intro r
  induction r with
  | nil => intro R _; exact ⟨rfl, rfl⟩
  | cons x r ih =>
    intro R h
    have h1 : hitB l T x = false := by unfold hitB; rw [decide_eq_false (h x (List.mem_cons_self ..)), Bool.and_false]
    unfold foldS foldI
    rw [h1]
    exact ih R fun y hy => h y (List.mem_cons_of_mem _ hy)
theorem fold_eq {l : List (Int × Int)} {T now delay : Int} (R : Rt) : ∀ (r : List Snt) (a t : Int), sentB a t r = true → foldI l T now delay R R r = foldS l T now delay R r := by
  intro r
  induction r with
  | nil => intro a t _; rfl
  | cons x r ih =>
    intro a t h
    obtain ⟨hp, hr⟩ := sentB_cons h
    unfold foldS foldI
    cases h1 : hitB l T x with
    | false => exact ih _ _ hr
    | true =>
      have hx : x.1 = T := by
        unfold hitB at h1
        rw [Bool.and_eq_true] at h1
        exact of_decide_eq_true h1.2
      have hn : ∀ y ∈ r, y.1 ≠ T := fun y hy => by have := (sentB_mem r _ _ hr hy).1.2.2.2.1; omega
      exact (fold_none R r _ hn).2.trans (fold_none R r _ hn).1.symm
theorem foldS_good {l : List (Int × Int)} {T now delay : Int} (hd : 0 ≤ delay) (hn : now ≤ 1000000000) : ∀ (r : List Snt) (R : Rt), goodRB R = true → (∀ x ∈ r, 0 ≤ x.2.1 ∧ x.2.1 ≤ now) → goodRB (foldS l T now delay R r) = true := by
  intro r
  induction r with
  | nil => intro R h _; exact h
  | cons x r ih =>
    intro R h hx
    unfold foldS
    refine ih _ ?_ fun y hy => hx y (List.mem_cons_of_mem _ hy)
    cases hitB l T x with
    | false => exact h
    | true => have := hx x (List.mem_cons_self ..); exact sampF_good h ⟨by omega, by omega⟩ hd
theorem foldS_keep {l : List (Int × Int)} {T now delay : Int} : ∀ (r : List Snt) (R : Rt), (∀ x ∈ r, hasB l x.1 = false) → foldS l T now delay R r = R := by
  intro r
  induction r with
  | nil => intro R _; rfl
  | cons x r ih =>
    intro R h
    unfold foldS
    rw [show hitB l T x = false by unfold hitB; rw [h x (List.mem_cons_self ..)]; rfl]
    exact ih R fun y hy => h y (List.mem_cons_of_mem _ hy)
end Go.Proofs.Ytbfkfhadcmpndaa.CFnAcked
