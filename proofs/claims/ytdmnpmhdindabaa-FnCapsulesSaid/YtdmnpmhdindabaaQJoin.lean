/- Texts put together. Plain. -/
import Derived.Test.YtdmnpmhdindabaaQStr
import Derived.Test.YtdmnpmhdindabaaPmLaw
set_option linter.unusedVariables false
set_option linter.unusedSimpArgs false
namespace Go.Proofs.Ytdmnpmhdindabaa.Q
open Go Go.Proofs.YtdmnpmhdindabaaPM

/-- Texts put together. -/
def J : List ByteArray → ByteArray
  | [] => ⟨#[]⟩
  | a :: l => a ++ J l
theorem J_snoc (l : List ByteArray) (s : ByteArray) : J (l ++ [s]) = J l ++ s := by
  induction l with
  | nil => show s ++ (⟨#[]⟩ : ByteArray) = (⟨#[]⟩ : ByteArray) ++ s; rw [app_nil, nil_app]
  | cons a l ih => show a ++ J (l ++ [s]) = (a ++ J l) ++ s; rw [ih, app_assoc]
theorem J_take {l : List ByteArray} {i : Nat} (h : i < l.length) : J (l.take (i + 1)) = J (l.take i) ++ l[i] := by
  rw [List.take_succ_eq_append_getElem h, J_snoc]
theorem join_nil (l : List (List UInt8)) : List.intercalate [] l = l.flatten := by
  induction l with
  | nil => rfl
  | cons a l ih =>
    cases l with
    | nil => simp [List.intercalate]
    | cons b l =>
      simp only [List.intercalate, List.intersperse, List.flatten_cons, List.nil_append] at ih ⊢
      rw [ih]
theorem J_data (l : List ByteArray) : (J l).data.toList = (l.map (·.data.toList)).flatten := by
  induction l with
  | nil => rfl
  | cons a l ih =>
    show (a ++ J l).data.toList = _
    rw [ByteArray.data_append, Array.toList_append, ih]
    rfl
theorem joinL_nil (l : List ByteArray) : joinL l (⟨#[]⟩ : ByteArray) = J l := by
  unfold joinL
  show (⟨(List.intercalate [] (l.map (·.data.toList))).toArray⟩ : ByteArray) = J l
  rw [join_nil, ← J_data]
theorem getD_at {l : List ByteArray} {i : Nat} (h : i < l.length) : l.getD i (⟨#[]⟩ : ByteArray) = l[i] := by
  rw [List.getD_eq_getElem?_getD, List.getElem?_eq_getElem h]; rfl
end Go.Proofs.Ytdmnpmhdindabaa.Q
