/- A header's bytes, and that they are read as what was written. Plain. -/
import Derived.Test.YtkfpfcpmaejeoaaGreatQPre
set_option linter.unusedVariables false
set_option linter.unusedSimpArgs false
namespace Go.Proofs.YtkfpfcpmaejeoaaGreat.Q
open Go Go.Proofs.YtkfpfcpmaejeoaaGreatPM

def idb (d : ByteArray) : ByteArray := be 1 (d.size : Int) ++ d
def wordsB : List Int → ByteArray
  | [] => nilS
  | n :: l => be 4 n ++ wordsB l
theorem wordsB_snoc (l : List Int) (n : Int) : wordsB (l ++ [n]) = wordsB l ++ be 4 n := by
  induction l with
  | nil => show be 4 n ++ nilS = nilS ++ be 4 n; rw [app_nil, nil_app]
  | cons x l ih => show be 4 x ++ wordsB (l ++ [n]) = (be 4 x ++ wordsB l) ++ be 4 n; rw [ih, app_assoc]
theorem wordsB_size : ∀ l : List Int, (wordsB l).size = 4 * l.length
  | [] => rfl
  | n :: l => by
    show (be 4 n ++ wordsB l).size = _
    rw [ByteArray.size_append, be_size, wordsB_size l, List.length_cons]
    omega
theorem rdWords_words : ∀ (l : List Int) (k : Nat), l.length ≤ k → (∀ n ∈ l, 0 ≤ n ∧ n ≤ 4294967295) → rdWords k (wordsB l) = some l := by
  intro l
  induction l with
  | nil =>
    intro k _ _
    cases k <;> (unfold rdWords; rw [if_pos (by rfl)])
  | cons n l ih =>
    intro k hk h
    obtain ⟨k, rfl⟩ : ∃ j, k = j + 1 := ⟨k - 1, by simp at hk; omega⟩
    have hn := h n List.mem_cons_self
    unfold rdWords
    rw [if_neg (by rw [wordsB_size]; simp)]
    show (rdWord (be 4 n ++ wordsB l)).bind _ = _
    rw [rdWord_app hn.1 (by omega), Option.bind_some]
    rw [ih k (by simp at hk; omega) (fun m hm => h m (List.mem_cons_of_mem _ hm))]
    rfl
theorem rdAll_words (l : List Int) (h : ∀ n ∈ l, 0 ≤ n ∧ n ≤ 4294967295) : rdAll (wordsB l) = some (l, nilS) := by
  unfold rdAll
  rw [rdWords_words l _ (by rw [wordsB_size]; omega) h]
  rfl
/-- A number in two bytes. -/
theorem TakeV_two {n : Int} (h0 : 0 ≤ n) (h1 : n < 16384) (t : ByteArray) : TakeV (be 2 (16384 + n) ++ t) = (n, 2) := by
  have hs : (be 2 (16384 + n) ++ t).size = 2 + t.size := by rw [ByteArray.size_append, be_size]
  have hb : ((byteAt (be 2 (16384 + n) ++ t) 0 : Nat) : Int) = (16384 + n) / 256 ^ 1 % 256 := by
    rw [← byteAt_bytesL, bytesL_append, bytesL_be, BE_front]
    rfl
  have hm : vm (be 2 (16384 + n) ++ t) = 2 := by
    unfold vm
    simp only [Int.pow_one] at hb
    rw [show byteAt (be 2 (16384 + n) ++ t) 0 / 64 = 1 by omega]
  unfold TakeV
  rw [if_neg (by omega), hm, if_neg (by omega), bytesL_append, bytesL_be, List.take_append_of_le_length (by rw [BE_length]; exact Nat.le_refl _), List.take_of_length_le (by rw [BE_length]; exact Nat.le_refl _), valA_BE]
  simp
  omega
theorem rdCounted_two {p t : ByteArray} (h : p.size < 16384) : rdCounted (be 2 (16384 + (p.size : Int)) ++ (p ++ t)) = some (p, t) := by
  have e : rdNum (be 2 (16384 + (p.size : Int)) ++ (p ++ t)) = some ((p.size : Int), p ++ t) := by
    unfold rdNum
    rw [TakeV_two (by omega) (by omega), if_neg (show ¬ (2 : Int) = 0 by decide)]
    dsimp only
    rw [extract_app_two (by rw [be_size]; rfl) ByteArray.size_append]
  unfold rdCounted
  rw [e]
  exact tk_app (by simp)
/-- The bytes of a good header. -/
def hbOf (f b v : Int) (d c t p : ByteArray) (l : List Int) : ByteArray :=
  if f = 5 then be 1 (64 + b) ++ (d ++ p)
  else if f = 4 then be 1 (192 + b) ++ (be 4 0 ++ (idb d ++ (idb c ++ wordsB l)))
  else be 1 (192 + 16 * f + b) ++ (be 4 v ++ (idb d ++ (idb c ++ ((if f = 0 then vbs (t.size : Int) ++ t else nilS) ++ ((if f = 3 then nilS else be 2 (16384 + (p.size : Int))) ++ p)))))
theorem hb_size {f b v : Int} {d c t p : ByteArray} {l : List Int} (g : GoodH f b v d c t p l) : (hbOf f b v d c t p l).size ≤ 2000 := by
  obtain ⟨⟨g1, g2, g3, g4, g5⟩, g6, g7, g8⟩ := g
  have hl : f = 4 → l.length ≤ 20 := by
    intro h4
    rcases g8 with h | h | h
    · have := h.1; omega
    · exact h.2.2.2.1.2
    · have := h.1; omega
  have hv := vsz_pos (t.size : Int)
  unfold hbOf
  split
  · simp only [ByteArray.size_append, be_size]; omega
  · split
    · rename_i h4
      have := hl h4
      simp only [ByteArray.size_append, be_size, idb, wordsB_size]; omega
    · split <;> split <;> simp only [ByteArray.size_append, be_size, idb, vbs_size, size_nil] <;> omega
theorem readH_of {s m l : ByteArray} {short b : Int} {h : Hd} (e1 : rdByte s = some (b, m)) (hb : ¬ b / 64 % 2 = 0) (e2 : HeaderP b short m = some (h, l)) (hok : headOk b h) : readH s short = some (h, (s.size : Int) - (l.size : Int)) := by
  unfold readH
  rw [e1, Option.bind_some]
  dsimp only
  rw [if_neg hb, e2, Option.bind_some]
  dsimp only
  rw [if_pos hok]
theorem readH_hb {f b v : Int} {d c t p : ByteArray} {l : List Int} (g : GoodH f b v d c t p l) : readH (hbOf f b v d c t p l) (d.size : Int) = some (mkH f b v d c t p l, ((hbOf f b v d c t p l).size : Int)) := by
  have g0 := g
  obtain ⟨⟨g1, g2, ⟨g3, g3'⟩, g4, g5⟩, g6, g7, g8⟩ := g
  have key : ∀ {q : Int} {m : ByteArray}, hbOf f b v d c t p l = be 1 q ++ m → 0 ≤ q → q < 256 → ¬ q / 64 % 2 = 0 → HeaderP q (d.size : Int) m = some (mkH f b v d c t p l, nilS) → (f = 5 ∨ f = 4 → q / 16 % 4 = 0) →
      readH (hbOf f b v d c t p l) (d.size : Int) = some (mkH f b v d c t p l, ((hbOf f b v d c t p l).size : Int)) := by
    intro q m e h0 h1 h2 h3 h4
    have := readH_of (s := hbOf f b v d c t p l) (by rw [e]; exact rdByte_app h0 h1 m) h2 h3 ⟨h4, g0⟩
    rw [this]
    rw [size_nil]
    simp
  have hid : ∀ (d : ByteArray) (x : ByteArray), d.size ≤ 20 → rdByte (idb d ++ x) = some ((d.size : Int), d ++ x) := by
    intro d x hd
    unfold idb
    rw [app_assoc]
    exact rdByte_app (by omega) (by omega) _
  have htk : ∀ (d x : ByteArray), tk ((d.size : Int)).toNat (d ++ x) = some (d, x) := fun d x => tk_app (by simp)
  rcases g8 with ⟨⟨f0, f3⟩, ⟨v0, v1⟩, hp⟩ | ⟨rfl, rfl, rfl, ⟨l1, l2⟩, hl⟩ | ⟨rfl, rfl, rfl⟩
  · have hl : l = [] := g7.resolve_left (by omega)
    subst hl
    refine key (q := 192 + 16 * f + b) (by unfold hbOf; rw [if_neg (by omega), if_neg (by omega)]) (by omega) (by omega) (by omega) ?_ (fun h => by omega)
    have e1 : (192 + 16 * f + b) / 16 % 4 = f := by omega
    have e2 : (192 + 16 * f + b) % 16 = b := by omega
    unfold HeaderP
    rw [if_neg (by omega), e1, e2]
    refine PR.bind_of (rdWord_app (by omega) (by omega) _) (PR.bind_of (hid d _ g1) (PR.bind_of (htk d _) (PR.bind_of (hid c _ g2) (PR.bind_of (htk c _) ?_))))
    rw [if_neg (by omega)]
    refine PR.bind_of (x := t) (m := (if f = 3 then nilS else be 2 (16384 + (p.size : Int))) ++ p) ?_ ?_
    · by_cases h0 : f = 0
      · rw [if_pos h0, if_pos h0, app_assoc]
        exact rdCounted_app (by omega)
      · rw [if_neg h0, if_neg h0, nil_app, g6.resolve_left h0]
        rfl
    · by_cases h3 : f = 3
      · rw [if_pos h3, if_pos h3, nil_app]
        exact PR.bind_of (x := p) (m := nilS) rfl rfl
      · rw [if_neg h3, if_neg h3]
        refine PR.bind_of (x := p) (m := nilS) ?_ rfl
        have := rdCounted_two (p := p) (t := nilS) (by omega)
        rwa [app_nil] at this
  · have ht : t = nilS := g6.resolve_left (by decide)
    subst ht
    refine key (q := 192 + b) (by unfold hbOf; rw [if_neg (by decide), if_pos rfl]) (by omega) (by omega) (by omega) ?_ (fun h => by omega)
    have e2 : (192 + b) % 16 = b := by omega
    unfold HeaderP
    rw [if_neg (by omega), e2]
    refine PR.bind_of (rdWord_app (by omega) (by omega) _) (PR.bind_of (hid d _ g1) (PR.bind_of (htk d _) (PR.bind_of (hid c _ g2) (PR.bind_of (htk c _) ?_))))
    rw [if_pos rfl]
    exact PR.bind_of (rdAll_words l hl) rfl
  · have ht : t = nilS := g6.resolve_left (by decide)
    have hl : l = [] := g7.resolve_left (by decide)
    subst ht hl
    refine key (q := 64 + b) (by unfold hbOf; rw [if_pos rfl]) (by omega) (by omega) (by omega) ?_ (fun h => by omega)
    have e2 : (64 + b) % 16 = b := by omega
    unfold HeaderP
    rw [if_pos (by omega), e2]
    exact PR.bind_of (htk d _) (PR.bind_of (x := p) (m := nilS) rfl rfl)
end Go.Proofs.YtkfpfcpmaejeoaaGreat.Q
