/- What is read off a text's front hangs on nothing behind it. Plain. -/
import Derived.Test.YtkfpfcpmaejeoaaGreatQHead
set_option linter.unusedVariables false
set_option linter.unusedSimpArgs false
namespace Go.Proofs.YtkfpfcpmaejeoaaGreat.Q
open Go Go.Proofs.YtkfpfcpmaejeoaaGreatPM

/-- What was taken gives the same, whatever stands behind it. -/
def Loc {α : Type} (p : PR α) : Prop := ∀ s x l, p s = some (x, l) → ∃ a, s = a ++ l ∧ ∀ t, p (a ++ t) = some (x, t)
/-- What was taken gives the same by itself. -/
def Pre {α : Type} (p : PR α) : Prop := ∀ s x l, p s = some (x, l) → ∃ a, s = a ++ l ∧ p a = some (x, nilS)
/-- Everything is taken. -/
def End {α : Type} (p : PR α) : Prop := ∀ s x l, p s = some (x, l) → l = nilS
theorem Loc.pre {α : Type} {p : PR α} (h : Loc p) : Pre p := fun s x l e => by
  obtain ⟨a, h1, h2⟩ := h s x l e
  have := h2 nilS
  rw [app_nil] at this
  exact ⟨a, h1, this⟩
theorem End.pre {α : Type} {p : PR α} (h : End p) : Pre p := fun s x l e => by
  obtain rfl := h s x l e
  exact ⟨s, (app_nil s).symm, e⟩
theorem PR.bind_of {α β : Type} {p : PR α} {q : α → PR β} {s m l : ByteArray} {x : α} {y : β} (h : p s = some (x, m)) (k : q x m = some (y, l)) : p.bind q s = some (y, l) := by
  unfold PR.bind
  rw [h]
  exact k
theorem Loc.bind {α β : Type} {p : PR α} {q : α → PR β} (h : Loc p) (k : ∀ x, Loc (q x)) : Loc (p.bind q) := fun s y l e => by
  obtain ⟨x, m, e1, e2⟩ := PR.bind_some e
  obtain ⟨a, rfl, h2⟩ := h _ _ _ e1
  obtain ⟨b, rfl, k2⟩ := k x _ _ _ e2
  exact ⟨a ++ b, (app_assoc _ _ _).symm, fun t => PR.bind_of (by rw [app_assoc]; exact h2 _) (k2 t)⟩
theorem Pre.bind {α β : Type} {p : PR α} {q : α → PR β} (h : Loc p) (k : ∀ x, Pre (q x)) : Pre (p.bind q) := fun s y l e => by
  obtain ⟨x, m, e1, e2⟩ := PR.bind_some e
  obtain ⟨a, rfl, h2⟩ := h _ _ _ e1
  obtain ⟨b, rfl, k2⟩ := k x _ _ _ e2
  exact ⟨a ++ b, (app_assoc _ _ _).symm, PR.bind_of (h2 _) k2⟩
theorem End.bind {α β : Type} {p : PR α} (h : End p) (f : α → β) : End (p.bind fun x => PR.ret (f x)) := fun s y l e => by
  obtain ⟨x, m, e1, e2⟩ := PR.bind_some e
  cases e2
  exact h _ _ _ e1
theorem Loc.ret {α : Type} (v : α) : Loc (PR.ret v) := fun s x l e => by
  cases e
  exact ⟨nilS, (nil_app s).symm, fun t => by rw [nil_app]; rfl⟩
theorem Loc.tk (n : Nat) : Loc (Q.tk n) := fun s x l e => ⟨x, tk_split e, fun t => tk_app (tk_size e).1.symm⟩
theorem Loc.map {α β : Type} {p : PR α} (h : Loc p) (f : α → β) : Loc (fun s => (p s).map fun x => (f x.1, x.2)) := fun s x l e => by
  obtain ⟨⟨y, m⟩, h1, h2⟩ := Option.map_eq_some_iff.1 e
  cases h2
  obtain ⟨a, e1, e2⟩ := h _ _ _ h1
  exact ⟨a, e1, fun t => by show (p (a ++ t)).map _ = _; rw [e2]; rfl⟩
theorem Loc.byte : Loc rdByte := Loc.map (Loc.tk 1) _
theorem Loc.word : Loc rdWord := Loc.map (Loc.tk 4) _
theorem extract_split (s : ByteArray) (n : Nat) : s = s.extract 0 n ++ s.extract n s.size := by
  refine bytesL_inj ?_
  rw [bytesL_append, bytesL_extract, bytesL_extract, List.drop_zero, List.take_of_length_le (i := s.size) (by rw [bytesL_len]; exact Nat.le_refl _), List.take_append_drop]
/-- The number hangs on the bytes that it took. -/
theorem TakeV_loc {s : ByteArray} (h : (TakeV s).2 ≠ 0) (t : ByteArray) : TakeV (s.extract 0 (TakeV s).2.toNat ++ t) = TakeV s := by
  have e0 : TakeV s = (valA 0 ((bytesL s).take (vm s)) % 2 ^ (8 * vm s - 2), (vm s : Int)) ∧ vm s ≤ s.size := by
    unfold TakeV at h ⊢
    split at h
    · exact absurd rfl h
    · split at h
      · exact absurd rfl h
      · rename_i h1 h2
        rw [if_neg h1, if_neg h2]
        exact ⟨rfl, by omega⟩
  obtain ⟨e, hs⟩ := e0
  have hv : 1 ≤ vm s := Nat.one_le_two_pow
  rw [e]
  dsimp only
  rw [Int.toNat_natCast]
  have ha : (s.extract 0 (vm s)).size = vm s := by rw [extract_size hs]; omega
  have hb : byteAt (s.extract 0 (vm s) ++ t) 0 = byteAt s 0 := by
    rw [byteAt_app_left (by omega)]
    conv => rhs; rw [extract_split s (vm s)]
    rw [byteAt_app_left (by omega)]
  have hm : vm (s.extract 0 (vm s) ++ t) = vm s := by
    unfold vm at hb ⊢
    rw [hb]
  have hz : (s.extract 0 (vm s) ++ t).size = vm s + t.size := by rw [ByteArray.size_append, ha]
  unfold TakeV
  rw [if_neg (by omega), hm, if_neg (by omega), bytesL_append, List.take_append_of_le_length (by rw [bytesL_len, ha]; exact Nat.le_refl _), bytesL_extract, List.drop_zero, List.take_take, Nat.min_self]
theorem Loc.num : Loc rdNum := fun s x l e => by
  have hr := TakeV_range s
  unfold rdNum at e
  split at e
  · cases e
  · rename_i hn
    cases e
    refine ⟨s.extract 0 (TakeV s).2.toNat, extract_split _ _, fun t => ?_⟩
    unfold rdNum
    rw [TakeV_loc hn, if_neg hn, extract_app_two (by rw [extract_size (by omega)]; omega) ByteArray.size_append]
theorem Loc.counted : Loc rdCounted := Loc.bind (p := rdNum) (q := fun n => Q.tk n.toNat) Loc.num fun n => Loc.tk _
theorem End.rest : End rdRest := fun s x l e => by cases e; rfl
theorem End.all : End rdAll := fun s x l e => by
  obtain ⟨y, h1, h2⟩ := Option.map_eq_some_iff.1 e
  cases h2
  rfl
theorem Pre.head (first short : Int) : Pre (HeaderP first short) := by
  unfold HeaderP
  split
  · exact Pre.bind (Loc.tk _) fun d => (End.bind End.rest _).pre
  · refine Pre.bind Loc.word fun v => Pre.bind Loc.byte fun n => Pre.bind (Loc.tk _) fun d => Pre.bind Loc.byte fun m => Pre.bind (Loc.tk _) fun c => ?_
    split
    · exact (End.bind End.all _).pre
    · refine Pre.bind ?_ fun t => ?_
      · split
        · exact Loc.counted
        · exact Loc.ret _
      · split
        · exact (End.bind End.rest _).pre
        · exact (Loc.bind Loc.counted fun p => Loc.ret _).pre
/-- A header's own bytes give it back. -/
theorem readH_pre {s : ByteArray} {short : Int} {h : Hd} {n : Int} (e : readH s short = some (h, n)) : readH (s.extract 0 n.toNat) short = some (h, ((s.extract 0 n.toNat).size : Int)) := by
  unfold readH at e
  obtain ⟨⟨b, l1⟩, h1, h2⟩ := Option.bind_eq_some_iff.1 e
  dsimp only at h2
  split at h2
  · cases h2
  · rename_i hb
    obtain ⟨⟨y, l2⟩, h3, h4⟩ := Option.bind_eq_some_iff.1 h2
    dsimp only at h4
    split at h4
    · rename_i hok
      cases h4
      obtain ⟨a1, rfl, k1⟩ := Loc.byte _ _ _ h1
      obtain ⟨a2, rfl, k2⟩ := Pre.head _ _ _ _ _ h3
      have es : ((a1 ++ (a2 ++ l2)).size : Int) - (l2.size : Int) = ((a1 ++ a2).size : Int) := by
        simp only [ByteArray.size_append]; omega
      rw [es, Int.toNat_natCast, ← app_assoc, extract_app_one rfl]
      unfold readH
      rw [k1, Option.bind_some]
      (try dsimp only)
      rw [if_neg hb, k2, Option.bind_some]
      (try dsimp only)
      rw [if_pos hok]
      rw [size_nil]
      simp
    · cases h4
end Go.Proofs.YtkfpfcpmaejeoaaGreat.Q
