/- Good fields: both packages find the same ones good. -/
import Derived.Test.YthkjjombaoffcaaDoorQFldBFnFields
set_option linter.unusedVariables false
set_option linter.unusedSectionVars false
set_option linter.unusedSimpArgs false
namespace Go.Proofs.YthkjjombaoffcaaDoor.CFnFields
open Go Go.Proofs Go.Proofs.YthkjjombaoffcaaDoorPM Go.Proofs.YthkjjombaoffcaaDoor.Q Go.Proofs.YthkjjombaoffcaaDoor.GFnFields

def sgnB (b : Int) : Bool := decide (97 ≤ b ∧ b ≤ 122) || (decide (48 ≤ b ∧ b ≤ 57) || decide (b = 45))
def wrdB : List Int → Bool
  | [] => true
  | b :: r => (sgnB b || decide (b = 58)) && r.all sgnB
def frontB : List Int → List Int → Bool
  | [], r => wrdB r
  | _ :: _, r => r.all sgnB
def visB (b : Int) : Bool := decide (32 ≤ b ∧ b ≤ 126)
def nameB (s : ByteArray) : Bool := wrdB (bytesL s) && decide (1 ≤ (s.size : Int) ∧ (s.size : Int) ≤ 100)
def valueB (s : ByteArray) : Bool := (bytesL s).all visB && decide ((s.size : Int) ≤ 100)
def goodFB (f : Fd) : Bool := nameB f.1 && valueB f.2

/-! ### the reference -/
theorem getA (s : ByteArray) (l r : List Int) (x : Int) (h : bytesL s = l ++ x :: r) : (bytesL s).getD (Int.toNat (l.length : Int)) 0 = x := by
  rw [h, Int.toNat_natCast, List.getD_eq_getElem?_getD, List.getElem?_append_right (Nat.le_refl _), Nat.sub_self]
  rfl
theorem name_l (s : ByteArray) (hs : s.size ≤ 1000000) : ∀ (r l : List Int), bytesL s = l ++ r →
    EvP (fun N => spec_l15Name.l0 N s (l.length : Int)) (· = if frontB l r = true then .inr ((), ()) else .inl ((false, ()), ())) := by
  intro r
  induction r with
  | nil =>
    intro l e
    have hl : l.length = s.size := by rw [← bytesL_len, e, List.append_nil]
    refine EvP.step (fun N => spec_l15Name.l0.eq N _ _) (EvP.neg (by omega) (EvP.some ?_))
    cases l <;> rfl
  | cons b r ih =>
    intro l e
    have hl : l.length + (r.length + 1) = s.size := by rw [← bytesL_len, e, List.length_append, List.length_cons]
    refine EvP.step (fun N => spec_l15Name.l0.eq N _ _) (EvP.pos (by omega) (EvP.chk2 (by omega) (by omega) ?_))
    have hx := getA s l r b e
    have hw : IntKind.i64.wrap ((l.length : Int) + 1) = (((l ++ [b]).length : Nat) : Int) := by rw [i64w (by omega) (by omega), List.length_append]; rfl
    simp only [hx, hw]
    have hi := ih (l ++ [b]) (by rw [e, List.append_assoc]; rfl)
    have hi2 : frontB (l ++ [b]) r = r.all sgnB := by cases l <;> rfl
    rw [hi2] at hi
    refine EvP.to (a := ((!(sgnB b || (decide (b = 58) && decide ((l.length : Int) = 0))), ()), ())) ?_ ?_
    · have fin : ∀ q : Bool, q = (!(sgnB b || (decide (b = 58) && decide ((l.length : Int) = 0)))) → (((q, ()), ()) : (Bool × Unit) × Unit) = ((!(sgnB b || (decide (b = 58) && decide ((l.length : Int) = 0))), ()), ()) := fun q h => by rw [h]
      have yes : sgnB b = true → false = (!(sgnB b || (decide (b = 58) && decide ((l.length : Int) = 0)))) := fun h => by rw [h]; rfl
      have tail : sgnB b = false → EvP (fun _ => sel (decide (b = 58)) (some (((!(decide ((l.length : Int) = 0)), ()), ()))) (some (((true, ()), ())))) (· = ((!(sgnB b || (decide (b = 58) && decide ((l.length : Int) = 0))), ()), ())) := fun h =>
        EvP.ite (fun h2 => EvP.some (fin _ (by rw [h, decide_eq_true h2, Bool.false_or, Bool.true_and]))) (fun h2 => EvP.some (fin _ (by rw [h, decide_eq_false h2]; rfl)))
      have s1 : (97 ≤ b ∧ b ≤ 122) → sgnB b = true := fun h => by unfold sgnB; rw [decide_eq_true h]; rfl
      have s2 : (48 ≤ b ∧ b ≤ 57) → sgnB b = true := fun h => by unfold sgnB; rw [decide_eq_true h, Bool.true_or, Bool.or_true]
      have s3 : b = 45 → sgnB b = true := fun h => by unfold sgnB; rw [decide_eq_true h, Bool.or_true, Bool.or_true]
      have s4 : ¬(97 ≤ b ∧ b ≤ 122) → ¬(48 ≤ b ∧ b ≤ 57) → ¬ b = 45 → sgnB b = false := fun h1 h2 h3 => by unfold sgnB; rw [decide_eq_false h1, decide_eq_false h2, decide_eq_false h3]; rfl
      have mid : ¬(97 ≤ b ∧ b ≤ 122) → EvP (fun _ => sel (decide (48 ≤ b)) (sel (decide (b ≤ 57)) (some (((false, ()), ()))) (sel (decide (b = 45)) (some (((false, ()), ()))) (sel (decide (b = 58)) (some (((!(decide ((l.length : Int) = 0)), ()), ()))) (some (((true, ()), ())))))) (sel (decide (b = 45)) (some (((false, ()), ()))) (sel (decide (b = 58)) (some (((!(decide ((l.length : Int) = 0)), ()), ()))) (some (((true, ()), ())))))) (· = ((!(sgnB b || (decide (b = 58) && decide ((l.length : Int) = 0))), ()), ())) := fun h0 =>
        EvP.ite (fun h1 => EvP.ite (fun h2 => EvP.some (fin _ (yes (s2 ⟨h1, h2⟩)))) (fun h2 => EvP.ite (fun h3 => EvP.some (fin _ (yes (s3 h3)))) (fun h3 => tail (s4 h0 (fun k => h2 k.2) h3))))
          (fun h1 => EvP.ite (fun h3 => EvP.some (fin _ (yes (s3 h3)))) (fun h3 => tail (s4 h0 (fun k => h1 k.1) h3)))
      exact EvP.ite (fun h1 => EvP.ite (fun h2 => EvP.some (fin _ (yes (s1 ⟨h1, h2⟩)))) (fun h2 => mid (fun k => h2 k.2))) (fun h1 => mid (fun k => h1 k.1))
    · have hm : frontB l (b :: r) = ((sgnB b || (decide (b = 58) && decide ((l.length : Int) = 0))) && r.all sgnB) := by
        cases l with
        | nil => show ((sgnB b || decide (b = 58)) && _) = _; rw [decide_eq_true (show ((([] : List Int).length : Nat) : Int) = 0 from rfl), Bool.and_true]
        | cons y l => show (sgnB b && r.all sgnB) = _; rw [decide_eq_false (show ¬ (((y :: l).length : Nat) : Int) = 0 by simp; omega), Bool.and_false, Bool.or_false]
      rw [hm]
      cases hb : (sgnB b || (decide (b = 58) && decide ((l.length : Int) = 0))) with
      | false => exact EvP.yes rfl (EvP.some rfl)
      | true => exact EvP.no rfl hi
theorem name_s (s : ByteArray) (hs : s.size ≤ 1000000) : EvP (fun N => spec_l15Name N s) (· = ((nameB s, ()), ())) := by
  refine EvP.of (fun N => spec_l15Name.eq N _) (EvP.to (name_l s hs (bytesL s) [] rfl) ?_)
  unfold nameB
  show EvP (fun N => orK (if wrdB (bytesL s) = true then _ else _) _ _) _
  cases wrdB (bytesL s) with
  | false => exact EvP.inl (EvP.some rfl)
  | true => exact EvP.inr (EvP.to (in_spec _ _ _) (EvP.some rfl))
theorem value_l (s : ByteArray) (hs : s.size ≤ 1000000) : ∀ (r l : List Int), bytesL s = l ++ r →
    EvP (fun N => spec_l15Value.l0 N s (l.length : Int)) (· = if r.all visB = true then .inr ((), ()) else .inl ((false, ()), ())) := by
  intro r
  induction r with
  | nil =>
    intro l e
    have hl : l.length = s.size := by rw [← bytesL_len, e, List.append_nil]
    exact EvP.step (fun N => spec_l15Value.l0.eq N _ _) (EvP.neg (by omega) (EvP.some rfl))
  | cons b r ih =>
    intro l e
    have hl : l.length + (r.length + 1) = s.size := by rw [← bytesL_len, e, List.length_append, List.length_cons]
    refine EvP.step (fun N => spec_l15Value.l0.eq N _ _) (EvP.pos (by omega) ?_)
    have hx := getA s l r b e
    have hw : IntKind.i64.wrap ((l.length : Int) + 1) = (((l ++ [b]).length : Nat) : Int) := by rw [i64w (by omega) (by omega), List.length_append]; rfl
    simp only [hx, hw]
    have hi := ih (l ++ [b]) (by rw [e, List.append_assoc]; rfl)
    refine EvP.to (a := ((!visB b, ()), ())) (EvP.chk2 (by omega) (by omega) (EvP.ite (fun h => EvP.some ?_) (fun h => EvP.chk2 (by omega) (by omega) (EvP.some ?_)))) ?_
    · rw [show visB b = false from decide_eq_false (fun k => by omega)]; rfl
    · have : decide (126 < b) = !visB b := by
        unfold visB
        rw [← decide_not]
        exact dec_eq (fun h k => by omega) (fun k => by omega)
      rw [this]
    · rw [List.all_cons]
      cases hb : visB b with
      | false => exact EvP.yes rfl (EvP.some rfl)
      | true => exact EvP.no rfl hi
theorem value_s (s : ByteArray) (hs : s.size ≤ 1000000) : EvP (fun N => spec_l15Value N s) (· = ((valueB s, ()), ())) := by
  refine EvP.of (fun N => spec_l15Value.eq N _) (EvP.to (value_l s hs (bytesL s) [] rfl) ?_)
  unfold valueB
  show EvP (fun N => orK (if (bytesL s).all visB = true then _ else _) _ _) _
  cases (bytesL s).all visB with
  | false => exact EvP.inl (EvP.some rfl)
  | true => exact EvP.inr (EvP.some rfl)
def BigF (f : Fd) : Prop := f.1.size ≤ 1000000 ∧ f.2.size ≤ 1000000
theorem goods_l : ∀ (r l L : List Fd), L = l ++ r → L.length ≤ 1000 → (∀ f ∈ r, BigF f) →
    EvP (fun N => spec_GoodFields.l0 N L L (L.length : Int) (l.length : Int)) (· = if r.all goodFB = true then .inr ((), ()) else .inl ((false, ()), ())) := by
  intro r
  induction r with
  | nil =>
    intro l L e hL hb
    rw [List.append_nil] at e
    subst e
    exact EvP.step (fun N => spec_GoodFields.l0.eq N _ _ _ _) (EvP.neg (by omega) (EvP.some rfl))
  | cons x r ih =>
    intro l L e hL hb
    have hlen : L.length = l.length + (r.length + 1) := by rw [e, List.length_append, List.length_cons]
    obtain ⟨b1, b2⟩ := hb x (List.mem_cons_self ..)
    refine EvP.step (fun N => spec_GoodFields.l0.eq N _ _ _ _) (EvP.pos (by omega) (EvP.chk2 (by omega) (by omega) ?_))
    have hx : rdS FSh L (Int.toNat (l.length : Int)) = x := by rw [e]; exact rdF l x r
    have hw : IntKind.i64.wrap ((l.length : Int) + 1) = (((l ++ [x]).length : Nat) : Int) := by rw [i64w (by omega) (by omega), List.length_append]; rfl
    simp only [hx, hw]
    have hi := ih (l ++ [x]) L (by rw [e, List.append_assoc]; rfl) hL fun f hf => hb f (List.mem_cons_of_mem _ hf)
    refine EvP.to (a := ((!goodFB x, ()), ((x.1, (x.2, ())), ()))) (EvP.to (name_s x.1 b1) ?_) ?_
    · unfold goodFB
      cases nameB x.1 with
      | false => exact EvP.yes rfl (EvP.some rfl)
      | true => exact EvP.no rfl (EvP.to (value_s x.2 b2) (EvP.some rfl))
    · rw [List.all_cons]
      cases goodFB x with
      | false => exact EvP.yes rfl (EvP.some rfl)
      | true => exact EvP.no rfl hi
def goodsB (l : List Fd) : Bool := l.all goodFB && decide ((l.length : Int) ≤ 30)
theorem goods_s (l : List Fd) (hl : l.length ≤ 1000) (hb : ∀ f ∈ l, BigF f) : EvP (fun N => spec_GoodFields N l) (· = ((goodsB l, ()), ())) := by
  refine EvP.of (fun N => spec_GoodFields.eq N _) (EvP.to (goods_l l [] l rfl hl hb) ?_)
  unfold goodsB
  show EvP (fun N => orK (if l.all goodFB = true then _ else _) _ _) _
  cases l.all goodFB with
  | false => exact EvP.inl (EvP.some rfl)
  | true => exact EvP.inr (EvP.some rfl)

/-! ### the program -/
def signs : ByteArray := ⟨#[97, 98, 99, 100, 101, 102, 103, 104, 105, 106, 107, 108, 109, 110, 111, 112, 113, 114, 115, 116, 117, 118, 119, 120, 121, 122, 48, 49, 50, 51, 52, 53, 54, 55, 56, 57, 45]⟩
theorem signs_tab : ∀ b : Fin 256, signs.data.toList.contains (UInt8.ofNat b.val) = sgnB ((b.val : Nat) : Int) := by decide +kernel
theorem signs_ok (b : UInt8) : signs.data.toList.contains b = sgnB ((b.toNat : Nat) : Int) := by
  have := signs_tab ⟨b.toNat, b.toNat_lt⟩
  rw [← this]
  simp
theorem drop_nil {p : UInt8 → Bool} : ∀ (l : List UInt8), l.dropWhile p = [] ↔ l.all p = true := by
  intro l
  induction l with
  | nil => exact ⟨fun _ => rfl, fun _ => rfl⟩
  | cons x l ih =>
    rw [List.dropWhile_cons, List.all_cons, Bool.and_eq_true]
    cases h : p x with
    | true => rw [if_pos rfl]; exact ih.trans ⟨fun k => ⟨rfl, k⟩, fun k => k.2⟩
    | false => rw [if_neg (by decide)]; exact ⟨(fun k => by cases k), (fun k => by cases k.1)⟩
theorem trim_nil (l cs : List UInt8) : Lib.trimS l cs = [] ↔ l.all (cs.contains ·) = true := by
  unfold Lib.trimS Lib.trimLeftS Lib.trimRightS
  rw [drop_nil, List.all_reverse]
  constructor
  · intro h
    have hd := List.takeWhile_append_dropWhile (p := (cs.contains ·)) (l := l.reverse)
    have h2 : (l.reverse.dropWhile (cs.contains ·)) = [] := by
      cases hq : l.reverse.dropWhile (cs.contains ·) with
      | nil => rfl
      | cons y q =>
        rw [hq, List.all_cons, Bool.and_eq_true] at h
        have hy := List.head_dropWhile_not (cs.contains ·) (l := l.reverse) (by rw [hq]; simp)
        simp only [hq, List.head_cons] at hy
        rw [hy] at h
        cases h.1
    rw [← List.all_reverse]
    exact (drop_nil _).1 h2
  · intro h
    rw [(drop_nil l.reverse).2 (by rw [List.all_reverse]; exact h)]
    rfl
theorem bytes_all (s : ByteArray) : s.data.toList.all (signs.data.toList.contains ·) = (bytesL s).all sgnB := by
  unfold bytesL
  rw [List.all_map]
  congr 1
  funext b
  exact signs_ok b
theorem over_i (s : ByteArray) (hs : s.size ≤ 1000000) : EvP (fun N => impl_over N s signs) (· = (((bytesL s).all sgnB, ()), ())) := by
  refine EvP.of (fun N => impl_over.eq N _ _) (EvP.to (a := ((trimL s signs, ()), ())) (EvP.of (fun N => strings_Trim.eq N _ _) (EvP.chk1 (by omega) (EvP.chk1 (by decide) (EvP.chk (by decide +kernel) (EvP.some rfl))))) (EvP.some ?_))
  have : decide (trimL s signs = (⟨#[]⟩ : ByteArray)) = (bytesL s).all sgnB := by
    rw [← bytes_all]
    have h1 : trimL s signs = (⟨#[]⟩ : ByteArray) ↔ Lib.trimS s.data.toList signs.data.toList = [] := by
      unfold trimL
      constructor
      · intro h
        have := congrArg (fun (x : ByteArray) => x.data.toList) h
        simpa using this
      · intro h; rw [h]
    have h2 := h1.trans (trim_nil _ _)
    cases hq : s.data.toList.all (signs.data.toList.contains ·) with
    | true => exact decide_eq_true (h2.2 hq)
    | false => exact decide_eq_false (fun k => by rw [h2.1 k] at hq; cases hq)
  rw [this]
theorem val_il (f : Fd) (hs : f.2.size ≤ 1000000) : ∀ (r l : List Int), bytesL f.2 = l ++ r →
    EvP (fun N => impl_goodField.l0 N (f.2.size : Int) (l.length : Int) f.1 f.2) (· = if r.all visB = true then .inr (((), ()), ((f.1, (f.2, ())), ())) else .inl ((false, ()), ((f.1, (f.2, ())), ()))) := by
  intro r
  induction r with
  | nil =>
    intro l e
    have hl : l.length = f.2.size := by rw [← bytesL_len, e, List.append_nil]
    exact EvP.step (fun N => impl_goodField.l0.eq N _ _ _ _) (EvP.neg (by omega) (EvP.some rfl))
  | cons b r ih =>
    intro l e
    have hl : l.length + (r.length + 1) = f.2.size := by rw [← bytesL_len, e, List.length_append, List.length_cons]
    refine EvP.step (fun N => impl_goodField.l0.eq N _ _ _ _) (EvP.pos (by omega) (EvP.chk2 (by omega) (by omega) ?_))
    have hx := getA f.2 l r b e
    have hw : IntKind.i64.wrap ((l.length : Int) + 1) = (((l ++ [b]).length : Nat) : Int) := by rw [i64w (by omega) (by omega), List.length_append]; rfl
    have hbb := bytesL_byte f.2 b (by rw [e]; simp)
    simp only [hx, hw]
    rw [i64w (n := b) (by omega) (by omega)]
    have hi := ih (l ++ [b]) (by rw [e, List.append_assoc]; rfl)
    refine EvP.to (in_impl _ _ _) ?_
    rw [List.all_cons]
    cases hb : visB b with
    | false => exact EvP.npos (of_decide_eq_false hb) (EvP.some rfl)
    | true => exact EvP.nneg (of_decide_eq_true hb) hi
theorem good_i (f : Fd) (hf : BigF f) : EvP (fun N => impl_goodField N f.1 f.2) (· = ((goodFB f, ()), ())) := by
  obtain ⟨b1, b2⟩ := hf
  refine EvP.of (fun N => impl_goodField.eq N _ _) (EvP.to (a := (((), (!(decide (1 ≤ (f.1.size : Int) ∧ (f.1.size : Int) ≤ 100) && decide ((f.2.size : Int) ≤ 100)), ())), ((f.1, (f.2, ())), ()))) ?_ ?_)
  · refine EvP.to (in_impl _ _ _) (EvP.nite (fun h => EvP.some ?_) (fun h => EvP.some ?_))
    · rw [decide_eq_false h]; rfl
    · rw [decide_eq_true h, Bool.true_and, ← decide_not]
      have : decide (100 < (f.2.size : Int)) = decide (¬ (f.2.size : Int) ≤ 100) := dec_eq (fun h => by omega) (fun h => by omega)
      rw [this]
  · unfold goodFB nameB valueB
    cases h1 : decide (1 ≤ (f.1.size : Int) ∧ (f.1.size : Int) ≤ 100) with
    | false => exact EvP.yes rfl (EvP.some (by simp))
    | true =>
      cases h2 : decide ((f.2.size : Int) ≤ 100) with
      | false => exact EvP.yes rfl (EvP.some (by simp))
      | true =>
        have h1 := of_decide_eq_true h1
        rw [Bool.and_true, Bool.and_true]
        refine EvP.no rfl (EvP.to (val_il f b2 (bytesL f.2) [] rfl) ?_)
        show EvP (fun N => orK (if (bytesL f.2).all visB = true then _ else _) _ _) _
        cases h3 : (bytesL f.2).all visB with
        | false => exact EvP.inl (EvP.some (by simp [h3]))
        | true =>
          refine EvP.inr ?_
          obtain ⟨b, r, hbr⟩ : ∃ b r, bytesL f.1 = b :: r := by
            cases hq : bytesL f.1 with
            | nil => have := bytesL_len f.1; rw [hq] at this; simp at this; omega
            | cons b r => exact ⟨b, r, rfl⟩
          have hb0 : (bytesL f.1).getD 0 0 = b := by rw [hbr]; rfl
          have hlen := bytesL_len f.1
          rw [hbr, List.length_cons] at hlen
          refine EvP.to (a := (((if b = 58 then f.1.extract 1 f.1.size else f.1), ()), ((f.1, (f.2, ())), ()))) (EvP.chk1 (by dsimp only; omega) ?_) ?_
          · dsimp only
            rw [hb0]
            refine EvP.ite (fun h => EvP.chk2 (by omega) (by omega) (EvP.some ?_)) (fun h => EvP.some ?_)
            · rw [if_pos h, Int.toNat_natCast]
            · rw [if_neg h]
          · have hsz : (if b = 58 then f.1.extract 1 f.1.size else f.1).size ≤ 1000000 := by
              split
              · rw [extract_size (Nat.le_refl _)]; omega
              · exact b1
            refine EvP.to (over_i _ hsz) (EvP.some ?_)
            have hall : (bytesL (if b = 58 then f.1.extract 1 f.1.size else f.1)).all sgnB = wrdB (bytesL f.1) := by
              rw [hbr]
              by_cases h : b = 58
              · rw [if_pos h, bytesL_extract, hbr, List.take_of_length_le (by rw [List.length_cons]; omega)]
                show r.all sgnB = ((sgnB b || decide (b = 58)) && r.all sgnB)
                rw [decide_eq_true h, Bool.or_true, Bool.true_and]
              · rw [if_neg h, hbr]
                show (sgnB b && r.all sgnB) = ((sgnB b || decide (b = 58)) && r.all sgnB)
                rw [decide_eq_false h, Bool.or_false]
            dsimp only
            rw [hall]
            simp [h3]
theorem goods_il : ∀ (r l L : List Fd), L = l ++ r → L.length ≤ 1000 → (∀ f ∈ r, BigF f) →
    EvP (fun N => slices_IndexFuncimpl_Field_impl_Field.l0 N L (L.length : Int) (l.length : Int)) (fun z => match r.all goodFB with | true => z = .inr ((), ()) | false => ∃ k : Int, 0 ≤ k ∧ z = .inl ((k, ()), ())) := by
  intro r
  induction r with
  | nil =>
    intro l L e hL hb
    rw [List.append_nil] at e
    subst e
    exact EvP.step (fun N => slices_IndexFuncimpl_Field_impl_Field.l0.eq N _ _ _) (EvP.neg (by omega) (EvP.some rfl))
  | cons x r ih =>
    intro l L e hL hb
    have hlen : L.length = l.length + (r.length + 1) := by rw [e, List.length_append, List.length_cons]
    refine EvP.step (fun N => slices_IndexFuncimpl_Field_impl_Field.l0.eq N _ _ _) (EvP.pos (by omega) (EvP.chk2 (by omega) (by omega) ?_))
    have hx : rdS FSh L (Int.toNat (l.length : Int)) = x := by rw [e]; exact rdF l x r
    have hw : IntKind.i64.wrap ((l.length : Int) + 1) = (((l ++ [x]).length : Nat) : Int) := by rw [i64w (by omega) (by omega), List.length_append]; rfl
    simp only [hx, hw]
    have hi := ih (l ++ [x]) L (by rw [e, List.append_assoc]; rfl) hL fun f hf => hb f (List.mem_cons_of_mem _ hf)
    refine EvP.to (a := ((!goodFB x, ()), ())) (EvP.of (fun N => impl_GoodFields_1.eq N _ _) (EvP.to (good_i x (hb x (List.mem_cons_self ..))) (EvP.some rfl))) ?_
    rw [List.all_cons]
    cases goodFB x with
    | false => exact EvP.yes rfl (EvP.some ⟨_, by omega, rfl⟩)
    | true => exact EvP.no rfl hi
theorem goods_i (l : List Fd) (hl : l.length ≤ 1000) (hb : ∀ f ∈ l, BigF f) : EvP (fun N => impl_GoodFields N l) (· = ((goodsB l, ()), ())) := by
  refine EvP.of (fun N => impl_GoodFields.eq N _) ?_
  unfold goodsB
  refine EvP.ite (fun h => ?_) (fun h => EvP.some ?_)
  · rw [decide_eq_true h, Bool.and_true]
    refine EvP.to (a := ((!l.all goodFB, ()), ())) (EvP.of (fun N => slices_ContainsFuncimpl_Field_impl_Field.eq N _) ?_) (EvP.some (by rw [Bool.not_not]))
    refine EvP.andK (Q := fun z => decide (0 ≤ z.1.1) = !l.all goodFB) (EvP.of (fun N => slices_IndexFuncimpl_Field_impl_Field.eq N _) (EvP.andK (goods_il l [] l rfl hl hb) fun z hz => ?_)) (fun z hz => EvP.some (by rw [hz]))
    cases hg : l.all goodFB with
    | true => rw [hg] at hz; subst hz; exact EvP.inr (EvP.some rfl)
    | false =>
      rw [hg] at hz
      obtain ⟨k, hk, rfl⟩ := hz
      exact EvP.inl (EvP.some (decide_eq_true hk))
  · rw [decide_eq_false h, Bool.and_false]
end Go.Proofs.YthkjjombaoffcaaDoor.CFnFields
