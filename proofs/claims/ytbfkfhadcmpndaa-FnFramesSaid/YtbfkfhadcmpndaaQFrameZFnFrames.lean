/- Rows of frames: bytes and reading. -/
import Derived.Test.YtbfkfhadcmpndaaQFrameYFnFrames
import Derived.Test.YtbfkfhadcmpndaaQFrameSFnFrames
set_option linter.unusedVariables false
set_option linter.unusedSimpArgs false
namespace Go.Proofs.Ytbfkfhadcmpndaa.CFnFrames
open Go Go.Proofs Go.Proofs.YtbfkfhadcmpndaaPM Go.Proofs.Ytbfkfhadcmpndaa.Q Go.Proofs.Ytbfkfhadcmpndaa.GFnFrames

abbrev FrT := Int × (Int × (Int × (Int × (Bool × (ByteArray × List (Int × Int))))))
abbrev FSh : Sh := .pair (.int .i64) (.pair (.int .i64) (.pair (.int .i64) (.pair (.int .i64) (.pair .bool (.pair .str (.rows RSh))))))
abbrev goodF (f : FrT) : Bool := goodB f.1 f.2.1 f.2.2.1 f.2.2.2.1 f.2.2.2.2.1 f.2.2.2.2.2.1 f.2.2.2.2.2.2
abbrev fbF (f : FrT) : ByteArray := fb f.1 f.2.1 f.2.2.1 f.2.2.2.1 f.2.2.2.2.1 f.2.2.2.2.2.1 f.2.2.2.2.2.2
def FrP (f : FrT) : Prop := (-9223372036854775808 ≤ f.1 ∧ f.1 ≤ 9223372036854775807) ∧ (f.2.2.2.2.2.2.length : Int) ≤ 1000
theorem fb_size {k a b c : Int} {fin : Bool} {d : ByteArray} {r : List (Int × Int)} (h : goodB k a b c fin d r = true) : 1 ≤ (fb k a b c fin d r).size ∧ (fb k a b c fin d r).size ≤ 1000 := by
  have hg := h
  obtain ⟨hk, hd, _, _, _, he⟩ := good_f h
  have s1 := vsz_pos a
  have s2 := vsz_pos b
  have s3 := vsz_pos c
  have s4 := vsz_pos (d.size : Int)
  have s5 := vsz_pos k
  have s6 := vsz_pos 49
  have s7 := vsz_pos (strK b fin)
  have s8 := offW_size b
  rcases kinds_of hk with rfl | rfl | rfl | rfl | rfl | rfl | rfl | rfl | rfl | rfl | rfl | rfl | rfl | rfl | rfl
  case inr.inr.inl =>
    obtain ⟨x, l, rfl, hl, hx, hr⟩ := ack_ext (k := 2) hg
    have q1 := rngW_size l x.1
    have q2 := (vsz_pos x.2).2
    have q3 := (vsz_pos ((l.length : Nat) : Int)).2
    have q4 := (vsz_pos (x.2 - x.1)).2
    show 1 ≤ (vbs 2 ++ ((((vbs x.2 ++ vbs a) ++ vbs ((l.length : Nat) : Int)) ++ vbs (x.2 - x.1)) ++ rngW x.1 l)).size ∧ (vbs 2 ++ ((((vbs x.2 ++ vbs a) ++ vbs ((l.length : Nat) : Int)) ++ vbs (x.2 - x.1)) ++ rngW x.1 l)).size ≤ 1000
    simp only [ByteArray.size_append, vbs_size]
    omega
  all_goals
    simp only [fb, Int.reduceEq, reduceIte, ByteArray.size_append, vbs_size, be_size, cntW_size]
    omega
theorem Read_at {k a b c : Int} {fin : Bool} {d : ByteArray} {r : List (Int × Int)} (h : goodB k a b c fin d r = true) (hr : (r.length : Int) ≤ 1000) (t : ByteArray) (ht : t.size ≤ 1000000) :
    EvP (fun N => impl_ReadFrame N (fb k a b c fin d r ++ t)) (· = ((mkF k a b c fin d r, (((fb k a b c fin d r).size : Int), (0, ()))), ())) := by
  have hk : -9223372036854775808 ≤ k ∧ k ≤ 9223372036854775807 := by
    rcases kinds_of (good_f h).1 with e | e | e | e | e | e | e | e | e | e | e | e | e | e | e <;> omega
  obtain ⟨f1, f2⟩ := fb_size h
  obtain ⟨K, L, e, hK, hL⟩ := frame_at h t
  refine EvP.of (fun N => impl_ReadFrame.eq N _) ?_
  have hz : (fb k a b c fin d r ++ t).size = (fb k a b c fin d r).size + t.size := ByteArray.size_append
  rw [hz, e]
  refine EvP.to (number_at hK L) (EvP.no rfl (EvP.to hL (EvP.no rfl (EvP.no rfl (EvP.to (Good_impl hk a b c fin d r (by omega)) ?_)))))
  rw [h]
  refine EvP.no rfl (EvP.some ?_)
  dsimp only
  rw [show IntKind.i64.wrap ((((fb k a b c fin d r).size + t.size : Nat) : Int) - (t.size : Int)) = ((fb k a b c fin d r).size : Int) by rw [i64w (by omega) (by omega)]; omega]
def catF : List FrT → ByteArray
  | [] => nilS
  | f :: l => fbF f ++ catF l
theorem rd_atG (r : Sh) (l : List r.den) (x : r.den) (s : List r.den) : rdS r (l ++ x :: s) (Int.toNat (l.length : Int)) = x := by
  unfold rdS
  rw [Int.toNat_natCast, List.getD_eq_getElem?_getD, List.getElem?_append_right (Nat.le_refl _), Nat.sub_self]
  rfl
theorem next_i {α : Type} {l s : List α} {x : α} (h : (l ++ x :: s).length ≤ 1000000) : IntKind.i64.wrap ((l.length : Int) + 1) = (((l ++ [x]).length : Nat) : Int) := by
  rw [List.length_append, List.length_cons] at h
  rw [i64w (by omega) (by omega), List.length_append]; rfl
theorem index_l : ∀ (s l L : List FrT), L = l ++ s → L.length ≤ 1000000 → (∀ f ∈ s, FrP f) →
    EvP (fun N => slices_IndexFuncimpl_Frame_impl_Frame.l0 N L (L.length : Int) (l.length : Int)) (fun r => (s.all goodF = true ∧ r = .inr ((), ())) ∨ (s.all goodF = false ∧ ∃ j : Int, 0 ≤ j ∧ r = .inl ((j, ()), ()))) := by
  intro s
  induction s with
  | nil =>
    intro l L e hL _
    rw [List.append_nil] at e
    subst e
    exact EvP.step (fun N => slices_IndexFuncimpl_Frame_impl_Frame.l0.eq N _ _ _) (EvP.neg (by omega) (EvP.some (Or.inl ⟨rfl, rfl⟩)))
  | cons x s ih =>
    intro l L e hL hf
    have hlen : L.length = l.length + (s.length + 1) := by rw [e, List.length_append, List.length_cons]
    have hx : rdS FSh L (Int.toNat (l.length : Int)) = x := by rw [e]; exact rd_atG FSh l x s
    obtain ⟨h1, h2⟩ := hf x (List.mem_cons_self ..)
    refine EvP.step (fun N => slices_IndexFuncimpl_Frame_impl_Frame.l0.eq N _ _ _) (EvP.pos (by omega) (EvP.chk2 (by omega) (by omega) ?_))
    simp only [hx, next_i (s := s) (x := x) (by rw [← e]; exact hL)]
    refine EvP.to (EvP.of (fun N => impl_FramesBytes_1.eq N _ _ _ _ _ _ _) (EvP.to (Good_impl h1 _ _ _ _ _ _ (by omega)) (EvP.some rfl))) ?_
    refine EvP.sel (fun h => EvP.some (Or.inr ⟨?_, (l.length : Int), by omega, rfl⟩)) (fun h => ?_)
    · have h : goodF x = false := by simpa using h
      rw [List.all_cons, h, Bool.false_and]
    · have h : goodF x = true := by simpa using h
      refine (ih (l ++ [x]) L (by rw [e, List.append_assoc]; rfl) hL (fun f hm => hf f (List.mem_cons_of_mem _ hm))).mono fun r hr => ?_
      rw [List.all_cons, h, Bool.true_and]
      exact hr
theorem contains_ok (l : List FrT) (hl : l.length ≤ 1000000) (hf : ∀ f ∈ l, FrP f) : EvP (fun N => slices_ContainsFuncimpl_Frame_impl_Frame N l) (· = ((!(l.all goodF), ()), ())) := by
  refine EvP.of (fun N => slices_ContainsFuncimpl_Frame_impl_Frame.eq N _) (EvP.andK (Q := fun r => decide (0 ≤ r.1.1) = !(l.all goodF)) (EvP.of (fun N => slices_IndexFuncimpl_Frame_impl_Frame.eq N _) (EvP.andK (index_l l [] l rfl hl hf) ?_)) ?_)
  · rintro r (⟨h1, rfl⟩ | ⟨h1, j, hj, rfl⟩)
    · exact EvP.inr (EvP.some (by rw [h1]; rfl))
    · refine EvP.inl (EvP.some ?_)
      rw [h1]
      exact decide_eq_true hj
  · intro r hr
    exact EvP.some (by rw [hr])
theorem all_good {f : FrT} {s : List FrT} (h : (f :: s).all goodF = true) : goodF f = true ∧ s.all goodF = true := by
  rw [List.all_cons, Bool.and_eq_true] at h
  exact h
theorem cat_impl : ∀ (s l L : List FrT) (o : ByteArray), L = l ++ s → L.length ≤ 1000000 → s.all goodF = true → o.size + 1000 * s.length ≤ 1000000 →
    EvP (fun N => impl_FramesBytes.l0 N L (L.length : Int) o (l.length : Int)) (· = ((o ++ catF s, ()), ())) := by
  intro s
  induction s with
  | nil =>
    intro l L o e hL _ _
    rw [List.append_nil] at e
    subst e
    refine EvP.step (fun N => impl_FramesBytes.l0.eq N _ _ _ _) (EvP.neg (by omega) (EvP.some ?_))
    show ((o, ()), ()) = ((o ++ nilS, ()), ())
    rw [app_nil]
  | cons x s ih =>
    intro l L o e hL hg ho
    obtain ⟨g1, g2⟩ := all_good hg
    rw [List.length_cons] at ho
    have hlen : L.length = l.length + (s.length + 1) := by rw [e, List.length_append, List.length_cons]
    have hx : rdS FSh L (Int.toNat (l.length : Int)) = x := by rw [e]; exact rd_atG FSh l x s
    refine EvP.step (fun N => impl_FramesBytes.l0.eq N _ _ _ _) (EvP.pos (by omega) (EvP.chk2 (by omega) (by omega) ?_))
    simp only [hx, next_i (s := s) (x := x) (by rw [← e]; exact hL)]
    refine EvP.andK (bytes_impl g1) ?_
    rintro z ⟨z1, z2⟩
    obtain ⟨f1, f2⟩ : 1 ≤ (fbF x).size ∧ (fbF x).size ≤ 1000 := fb_size g1
    obtain ⟨f3, f4⟩ := fb_size g1
    refine EvP.chk1 (by rw [z1]; omega) ?_
    rw [z1]
    have hi := ih (l ++ [x]) L (o ++ fbF x) (by rw [e, List.append_assoc]; rfl) hL g2 (by rw [ByteArray.size_append]; omega)
    rw [ByteArray.append_assoc] at hi
    exact hi
theorem cat_spec : ∀ (s l L : List FrT) (o : ByteArray), L = l ++ s → L.length ≤ 1000000 → (∀ f ∈ s, FrP f) → o.size + 1000 * s.length ≤ 1000000 →
    EvP (fun N => spec_FramesBytes.l0 N L (L.length : Int) o (l.length : Int)) (· = if s.all goodF = true then .inr ((o ++ catF s, ()), ()) else .inl ((nilS, (false, ())), ())) := by
  intro s
  induction s with
  | nil =>
    intro l L o e hL _ _
    rw [List.append_nil] at e
    subst e
    refine EvP.step (fun N => spec_FramesBytes.l0.eq N _ _ _ _) (EvP.neg (by omega) (EvP.some ?_))
    rw [List.all_nil, if_pos rfl, show catF [] = (⟨#[]⟩ : ByteArray) from rfl, app_nil]
  | cons x s ih =>
    intro l L o e hL hf ho
    rw [List.length_cons] at ho
    obtain ⟨h1, h2⟩ := hf x (List.mem_cons_self ..)
    have hlen : L.length = l.length + (s.length + 1) := by rw [e, List.length_append, List.length_cons]
    have hx : rdS FSh L (Int.toNat (l.length : Int)) = x := by rw [e]; exact rd_atG FSh l x s
    refine EvP.step (fun N => spec_FramesBytes.l0.eq N _ _ _ _) (EvP.pos (by omega) (EvP.chk2 (by omega) (by omega) ?_))
    simp only [hx, next_i (s := s) (x := x) (by rw [← e]; exact hL)]
    refine EvP.to (Good_spec _ _ _ _ _ _ _ (by omega)) (selN (fun h => EvP.some ?_) (fun h => EvP.andK (bytes_spec h) ?_))
    · have h : goodF x = false := h
      rw [List.all_cons, h, Bool.false_and]
      rfl
    · rintro z z1
      obtain ⟨f1, f2⟩ : 1 ≤ (fbF x).size ∧ (fbF x).size ≤ 1000 := fb_size h
      obtain ⟨f3, f4⟩ := fb_size h
      refine EvP.chk1 (by rw [z1]; omega) ?_
      rw [z1]
      have hi := ih (l ++ [x]) L (o ++ fbF x) (by rw [e, List.append_assoc]; rfl) hL (fun f hm => hf f (List.mem_cons_of_mem _ hm)) (by rw [ByteArray.size_append]; omega)
      rw [ByteArray.append_assoc] at hi
      have h : goodF x = true := h
      rw [List.all_cons, h, Bool.true_and]
      exact hi
def FramesOk (l : List FrT) : Prop := l.length ≤ 40 ∧ l.all goodF = true ∧ (catF l).size ≤ 1500
instance (l : List FrT) : Decidable (FramesOk l) := by unfold FramesOk; infer_instance
def framesR (l : List FrT) : (ByteArray × (Bool × Unit)) × Unit := if FramesOk l then ((catF l, (true, ())), ()) else ((nilS, (false, ())), ())
theorem Frames_impl (l : List FrT) (hf : ∀ f ∈ l, FrP f) : EvP (fun N => impl_FramesBytes N l) (· = framesR l) := by
  refine EvP.of (fun N => impl_FramesBytes.eq N _) ?_
  refine EvP.to (a := ((!decide (l.length ≤ 40 ∧ l.all goodF = true), ()), ())) (EvP.ite (fun h => EvP.some ?_) (fun h => EvP.to (contains_ok l (by omega) hf) (EvP.some ?_))) ?_
  · rw [decide_eq_false (by omega)]; rfl
  · cases hg : l.all goodF with
    | true => rw [decide_eq_true ⟨by omega, rfl⟩]
    | false => rw [decide_eq_false (fun h => by cases h.2)]
  unfold framesR
  refine EvP.nite (fun h => EvP.some ?_) (fun h => ?_)
  · rw [if_neg (fun k => h ⟨k.1, k.2.1⟩)]
  · refine EvP.to (cat_impl l [] l nilS rfl (by omega) h.2 (by rw [size_nil]; omega)) ?_
    rw [nil_app]
    dsimp only
    refine EvP.ite (fun h2 => EvP.some ?_) (fun h2 => EvP.some ?_)
    · rw [if_neg (fun k => by have := k.2.2; omega)]
    · rw [if_pos ⟨h.1, h.2, by omega⟩]
theorem Frames_spec (l : List FrT) (hf : ∀ f ∈ l, FrP f) : EvP (fun N => spec_FramesBytes N l) (· = framesR l) := by
  refine EvP.of (fun N => spec_FramesBytes.eq N _) ?_
  unfold framesR
  refine EvP.ite (fun h => EvP.some ?_) (fun h => EvP.to (cat_spec l [] l nilS rfl (by omega) hf (by rw [size_nil]; omega)) ?_)
  · rw [if_neg (fun k => by have := k.1; omega)]
  rw [nil_app]
  cases hg : l.all goodF with
  | false => exact EvP.inl (EvP.some (by rw [if_neg (fun k => by have := k.2.1; rw [hg] at this; cases this)]))
  | true =>
    refine EvP.inr ?_
    dsimp only
    refine EvP.ite (fun h2 => EvP.some ?_) (fun h2 => EvP.some ?_)
    · rw [if_neg (fun k => by have := k.2.2; omega)]
    · rw [if_pos ⟨by omega, hg, by omega⟩]
theorem catF_len {f : FrT} {s : List FrT} : (catF (f :: s)).size = (fbF f).size + (catF s).size := ByteArray.size_append
theorem reads_l : ∀ (s l : List FrT), s.all goodF = true → (∀ f ∈ s, FrP f) → l.length + s.length ≤ 40 → (catF s).size ≤ 1500 →
    EvP (fun N => impl_ReadFrames.l0 N (catF s) l) (· = .inr (((), ()), (l ++ s, ()))) := by
  intro s
  induction s with
  | nil =>
    intro l _ _ _ _
    refine EvP.step (fun N => impl_ReadFrames.l0.eq N _ _) (EvP.nneg rfl (EvP.some ?_))
    rw [List.append_nil]
  | cons x s ih =>
    intro l hg hf hl hs
    obtain ⟨g1, g2⟩ := all_good hg
    obtain ⟨h1, h2⟩ := hf x (List.mem_cons_self ..)
    obtain ⟨f1, f2⟩ : 1 ≤ (fbF x).size ∧ (fbF x).size ≤ 1000 := fb_size g1
    rw [catF_len] at hs
    rw [List.length_cons] at hl
    refine EvP.step (fun N => impl_ReadFrames.l0.eq N _ _) (EvP.npos ?_ (EvP.neg (by omega) (EvP.to (Read_at g1 h2 (catF s) (by omega)) (EvP.nneg rfl (EvP.chk1 (most_ok (by omega)) ?_)))))
    · intro e
      have := congrArg ByteArray.size e
      rw [catF_len, size_nil] at this
      omega
    · have hz : (catF (x :: s)).size = (fbF x).size + (catF s).size := catF_len
      refine EvP.chk3 (show (0 : Int) ≤ ((fbF x).size : Int) by omega) (show ((fbF x).size : Int) ≤ ((catF (x :: s)).size : Int) by omega) (Int.le_refl _) ?_
      dsimp only
      rw [Int.toNat_natCast, Int.toNat_natCast, show (catF (x :: s)).extract (fbF x).size (catF (x :: s)).size = catF s from extract_app_two rfl (by rw [hz])]
      have hi := ih (l ++ [x]) g2 (fun f hm => hf f (List.mem_cons_of_mem _ hm)) (by rw [List.length_append, List.length_singleton]; omega) (by omega)
      rw [List.append_assoc] at hi
      exact hi
end Go.Proofs.Ytbfkfhadcmpndaa.CFnFrames
