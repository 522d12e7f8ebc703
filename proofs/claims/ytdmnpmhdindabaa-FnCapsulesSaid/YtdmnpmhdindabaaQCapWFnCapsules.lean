/- Capsules' bytes are read as what was written; what is read lies within the text. -/
import Derived.Test.YtdmnpmhdindabaaQCapFnCapsules
set_option linter.unusedVariables false
set_option linter.unusedSimpArgs false
namespace Go.Proofs.Ytdmnpmhdindabaa.CFnCapsules
open Go Go.Proofs Go.Proofs.YtdmnpmhdindabaaPM Go.Proofs.Ytdmnpmhdindabaa.Q Go.Proofs.Ytdmnpmhdindabaa.GFnCapsules

def capB (c : Int × ByteArray) : ByteArray := vbs c.1 ++ (vbs (c.2.size : Int) ++ c.2)
def capsB : List (Int × ByteArray) → ByteArray
  | [] => ⟨#[]⟩
  | c :: l => capB c ++ capsB l
theorem capsB_snoc (l : List (Int × ByteArray)) (c : Int × ByteArray) : capsB (l ++ [c]) = capsB l ++ capB c := by
  induction l with
  | nil => show capB c ++ (⟨#[]⟩ : ByteArray) = (⟨#[]⟩ : ByteArray) ++ capB c; rw [app_nil, nil_app]
  | cons a l ih => show capB a ++ capsB (l ++ [c]) = (capB a ++ capsB l) ++ capB c; rw [ih, app_assoc]
theorem cap_read : ∀ (l acc : List (Int × ByteArray)) (f : Nat) (p : Int), l.length < f → (∀ c ∈ l, 0 ≤ c.1 ∧ c.1 < 4611686018427387904 ∧ c.2.size ≤ 200) → acc.length + l.length ≤ 30 →
    Cap f p (capsB l) acc = (acc ++ l, p + ((capsB l).size : Int), true) := by
  intro l
  induction l with
  | nil =>
    intro acc f p hf _ _
    obtain ⟨f, rfl⟩ : ∃ g, f = g + 1 := ⟨f - 1, by simp at hf; omega⟩
    rw [Cap]
    have : rdNum (capsB []) = none := by
      show rdNum (⟨#[]⟩ : ByteArray) = none
      exact rdNum_none (by unfold TakeV; rw [if_pos (by rfl)])
    rw [this]
    show (acc, p, true) = (acc ++ [], p + (((⟨#[]⟩ : ByteArray).size : Nat) : Int), true)
    rw [size_nil]; simp
  | cons c l ih =>
    intro acc f p hf hc hl
    obtain ⟨f, rfl⟩ : ∃ g, f = g + 1 := ⟨f - 1, by simp at hf; omega⟩
    obtain ⟨c0, c1, c2⟩ := hc c List.mem_cons_self
    rw [Cap]
    have e1 : rdNum (capsB (c :: l)) = some (c.1, vbs (c.2.size : Int) ++ (c.2 ++ capsB l)) := by
      show rdNum ((vbs c.1 ++ (vbs (c.2.size : Int) ++ c.2)) ++ capsB l) = _
      rw [app_assoc, app_assoc]
      exact rdNum_vbs c0 c1 _
    rw [e1]
    dsimp only
    rw [rdNum_vbs (by omega) (by omega)]
    dsimp only
    rw [if_neg (by omega), Int.toNat_natCast, tk_app rfl]
    dsimp only
    rw [if_neg (by simp at hl; omega)]
    rw [ih (acc ++ [(c.1, c.2)]) f _ (by simp at hf; omega) (fun d hd => hc d (List.mem_cons_of_mem _ hd)) (by rw [List.length_append, List.length_singleton]; simp at hl; omega)]
    rw [List.append_assoc]
    congr 2
    omega
theorem cap_pos : ∀ (f : Nat) (p : Int) (t : ByteArray) (l : List (Int × ByteArray)), (Cap f p t l).2.2 = true → p ≤ (Cap f p t l).2.1 ∧ (Cap f p t l).2.1 ≤ p + (t.size : Int) := by
  intro f
  induction f with
  | zero => intro p t l _; rw [Cap]; dsimp only; omega
  | succ f ih =>
    intro p t l h
    rw [Cap] at h ⊢
    split at h
    · dsimp only; omega
    · rename_i x hx
      split at h
      · dsimp only; omega
      · rename_i y hy
        split at h
        · cases h
        · split at h
          · rename_i hz
            rw [if_neg (by assumption)]
            dsimp only; omega
          · rename_i z hz
            split at h
            · cases h
            · rename_i hlen
              rw [if_neg (by assumption), if_neg hlen]
              have a := rdNum_size (s := t) (l := x.2) (v := x.1) hx
              have b := rdNum_size (s := x.2) (l := y.2) (v := y.1) hy
              have c := tk_size (s := y.2) (x := z.1) (l := z.2) hz
              have := ih _ _ _ h
              omega
end Go.Proofs.Ytdmnpmhdindabaa.CFnCapsules
