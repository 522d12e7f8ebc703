/- Headers: what is a good one, and how one is read. Plain. -/
import Derived.Test.YtbfkfhadcmpndaaQVar
set_option linter.unusedVariables false
set_option linter.unusedSimpArgs false
namespace Go.Proofs.Ytbfkfhadcmpndaa.Q
open Go Go.Proofs.YtbfkfhadcmpndaaPM

abbrev Hd := Int × (Int × (Int × (ByteArray × (ByteArray × (ByteArray × (ByteArray × (List Int × Unit)))))))
def mkH (f b v : Int) (d c t p : ByteArray) (l : List Int) : Hd := (f, (b, (v, (d, (c, (t, (p, (l, ()))))))))
abbrev nilS : ByteArray := ⟨#[]⟩
/-- What is a good header. -/
def GoodH (f b v : Int) (d c t p : ByteArray) (l : List Int) : Prop :=
  (d.size ≤ 20 ∧ c.size ≤ 20 ∧ (0 ≤ b ∧ b ≤ 15) ∧ t.size ≤ 200 ∧ p.size ≤ 1200) ∧ (f = 0 ∨ t = nilS) ∧ (f = 4 ∨ l = []) ∧
  (((0 ≤ f ∧ f ≤ 3) ∧ (1 ≤ v ∧ v ≤ 4294967295) ∧ p ≠ nilS) ∨ (f = 4 ∧ v = 0 ∧ p = nilS ∧ (1 ≤ l.length ∧ l.length ≤ 20) ∧ ∀ n ∈ l, 0 ≤ n ∧ n ≤ 4294967295) ∨ (f = 5 ∧ v = 0 ∧ c = nilS))
instance (f b v : Int) (d c t p : ByteArray) (l : List Int) : Decidable (GoodH f b v d c t p l) := by unfold GoodH; exact inferInstance
/-- How a header is read behind its first byte. -/
def HeaderP (first short : Int) : PR Hd :=
  if first < 128 then (tk short.toNat).bind fun d => rdRest.bind fun p => PR.ret (mkH 5 (first % 16) 0 d nilS nilS p [])
  else rdWord.bind fun v => rdByte.bind fun n => (tk n.toNat).bind fun d => rdByte.bind fun m => (tk m.toNat).bind fun c =>
    if v = 0 then rdAll.bind fun l => PR.ret (mkH 4 (first % 16) v d c nilS nilS l)
    else (if first / 16 % 4 = 0 then rdCounted else PR.ret nilS).bind fun t => (if first / 16 % 4 = 3 then rdRest else rdCounted).bind fun p =>
      PR.ret (mkH (first / 16 % 4) (first % 16) v d c t p [])
/-- What words were read behind others. -/
def WPost (o : Option (List Int)) (st : Option ByteArray) (p q : List Int) : Prop := match o with
  | none => st = none
  | some ws => q = p ++ ws ∧ st = some ⟨#[]⟩
theorem words_all {l : ByteArray} {sh : Bool} {st : Option ByteArray} {q : List Int} (h : WPost ((cst l sh).bind (rdWords l.size)) st [] q) : Run rdAll (cst l sh) q st := by
  cases sh with
  | true => exact h
  | false =>
    rw [show (cst l false).bind (rdWords l.size) = rdWords l.size l from rfl] at h
    unfold Run
    rw [show (cst l false).bind rdAll = (rdWords l.size l).map fun l => (l, ⟨#[]⟩) from rfl]
    cases hk : rdWords l.size l with
    | none => rw [hk] at h; exact h
    | some ws => rw [hk] at h; exact ⟨by rw [h.1]; simp, h.2⟩
/-- The bits of a header's first byte. -/
theorem head_tab : ∀ b : Fin 256, (Go.bits .and .i64 ((b : Nat) : Int) 128 = 0 ↔ ((b : Nat) : Int) < 128) ∧ (Go.bits .and .i64 ((b : Nat) : Int) 64 = 0 ↔ ((b : Nat) : Int) / 64 % 2 = 0) ∧
    (Go.bits .and .i64 ((b : Nat) : Int) 48 = 0 ↔ ((b : Nat) : Int) / 16 % 4 = 0) ∧ Go.bits .and .i64 ((b : Nat) : Int) 15 = ((b : Nat) : Int) % 16 ∧
    Go.bits .and .i64 (shrI .i64 ((b : Nat) : Int) 4) 3 = ((b : Nat) : Int) / 16 % 4 ∧ Int.tmod (IntKind.i64.wrap (Int.tdiv ((b : Nat) : Int) 16)) 4 = ((b : Nat) : Int) / 16 % 4 := by decide +kernel
theorem head_bits {b : Int} (h0 : 0 ≤ b) (h1 : b ≤ 255) : (Go.bits .and .i64 b 128 = 0 ↔ b < 128) ∧ (Go.bits .and .i64 b 64 = 0 ↔ b / 64 % 2 = 0) ∧
    (Go.bits .and .i64 b 48 = 0 ↔ b / 16 % 4 = 0) ∧ Go.bits .and .i64 b 15 = b % 16 ∧ Go.bits .and .i64 (shrI .i64 b 4) 3 = b / 16 % 4 ∧ Int.tmod (IntKind.i64.wrap (Int.tdiv b 16)) 4 = b / 16 % 4 := by
  obtain ⟨n, rfl⟩ := Int.eq_ofNat_of_zero_le h0
  exact head_tab ⟨n, by omega⟩
/-- Whether a header that was read is right where it stands. -/
def headOk (first : Int) (h : Hd) : Prop := ((h.1 = 5 ∨ h.1 = 4) → first / 16 % 4 = 0) ∧ GoodH h.1 h.2.1 h.2.2.1 h.2.2.2.1 h.2.2.2.2.1 h.2.2.2.2.2.1 h.2.2.2.2.2.2.1 h.2.2.2.2.2.2.2.1
instance (first : Int) (h : Hd) : Decidable (headOk first h) := by unfold headOk; exact inferInstance
/-- A header read off a text's front, and how many bytes it took. -/
def readH (s : ByteArray) (short : Int) : Option (Hd × Int) :=
  (rdByte s).bind fun x => if x.1 / 64 % 2 = 0 then none else (HeaderP x.1 short x.2).bind fun y => if headOk x.1 y.1 then some (y.1, (s.size : Int) - (y.2.size : Int)) else none
theorem PR.bind_some {α β : Type} {p : PR α} {q : α → PR β} {s l : ByteArray} {y : β} (h : p.bind q s = some (y, l)) : ∃ x m, p s = some (x, m) ∧ q x m = some (y, l) := by
  unfold PR.bind at h
  obtain ⟨⟨x, m⟩, h1, h2⟩ := Option.bind_eq_some_iff.1 h
  exact ⟨x, m, h1, h2⟩
/-- What is read takes nothing that is not there. -/
def Less {α : Type} (p : PR α) : Prop := ∀ s x l, p s = some (x, l) → l.size ≤ s.size
theorem Less.bind {α β : Type} {p : PR α} {q : α → PR β} (h : Less p) (k : ∀ x, Less (q x)) : Less (p.bind q) := fun s y l e => by
  obtain ⟨x, m, h1, h2⟩ := PR.bind_some e
  have := h _ _ _ h1
  have := k x _ _ _ h2
  omega
theorem Less.ret {α : Type} (v : α) : Less (PR.ret v) := fun s x l e => by cases e; exact Nat.le_refl _
theorem Less.tk (n : Nat) : Less (Q.tk n) := fun s x l e => by have := tk_size e; omega
theorem Less.rest : Less rdRest := fun s x l e => by cases e; exact Nat.zero_le _
theorem Less.num : Less rdNum := fun s x l e => by have := rdNum_size e; omega
theorem Less.counted : Less rdCounted := Less.bind (p := rdNum) (q := fun n => Q.tk n.toNat) Less.num fun n => Less.tk _
theorem Less.map {α β : Type} {p : PR α} (h : Less p) (f : α → β) : Less (fun s => (p s).map fun x => (f x.1, x.2)) := fun s x l e => by
  obtain ⟨y, h1, h2⟩ := Option.map_eq_some_iff.1 e
  cases h2
  exact h _ _ _ h1
theorem Less.byte : Less rdByte := Less.map (Less.tk 1) _
theorem Less.word : Less rdWord := Less.map (Less.tk 4) _
theorem Less.all : Less rdAll := fun s x l e => by
  obtain ⟨y, h1, h2⟩ := Option.map_eq_some_iff.1 e
  cases h2
  exact Nat.zero_le _
theorem Less.head (first short : Int) : Less (HeaderP first short) := by
  unfold HeaderP
  split
  · exact Less.bind (Less.tk _) fun _ => Less.bind Less.rest fun _ => Less.ret _
  · refine Less.bind Less.word fun v => Less.bind Less.byte fun n => Less.bind (Less.tk _) fun d => Less.bind Less.byte fun m => Less.bind (Less.tk _) fun c => ?_
    split
    · exact Less.bind Less.all fun _ => Less.ret _
    · refine Less.bind ?_ fun t => Less.bind ?_ fun p => Less.ret _
      · split
        · exact Less.counted
        · exact Less.ret _
      · split
        · exact Less.rest
        · exact Less.counted
/-- Its versions are no more than the bytes. -/
theorem head_versions {first short : Int} {s l : ByteArray} {h : Hd} (e : HeaderP first short s = some (h, l)) : h.2.2.2.2.2.2.2.1.length ≤ s.size := by
  unfold HeaderP at e
  split at e
  · obtain ⟨d, s1, e1, e⟩ := PR.bind_some e
    obtain ⟨p, s2, e2, e⟩ := PR.bind_some e
    cases e
    exact Nat.zero_le _
  · obtain ⟨v, s1, e1, e⟩ := PR.bind_some e
    obtain ⟨n, s2, e2, e⟩ := PR.bind_some e
    obtain ⟨d, s3, e3, e⟩ := PR.bind_some e
    obtain ⟨m, s4, e4, e⟩ := PR.bind_some e
    obtain ⟨c, s5, e5, e⟩ := PR.bind_some e
    have l1 := Less.word _ _ _ e1
    have l2 := Less.byte _ _ _ e2
    have l3 := Less.tk _ _ _ _ e3
    have l4 := Less.byte _ _ _ e4
    have l5 := Less.tk _ _ _ _ e5
    split at e
    · obtain ⟨w, s6, e6, e⟩ := PR.bind_some e
      cases e
      unfold rdAll at e6
      obtain ⟨y, h1, h2⟩ := Option.map_eq_some_iff.1 e6
      cases h2
      have := rdWords_len h1
      dsimp only [mkH]
      omega
    · obtain ⟨t, s6, e6, e⟩ := PR.bind_some e
      obtain ⟨p, s7, e7, e⟩ := PR.bind_some e
      cases e
      exact Nat.zero_le _
/-- What both packages answer to a text's front. -/
def RPost (o : Option (Hd × Int)) (r : (Hd × (Int × (Int × Unit))) × Unit) : Prop := match o with
  | some x => r = ((x.1, (x.2, (0, ()))), ())
  | none => r.1.2.2.1 ≠ 0 ∧ r.1.2.1 = 0 ∧ r.1.1 = mkH 0 0 0 nilS nilS nilS nilS []
theorem readH_range {s : ByteArray} {short : Int} {x : Hd × Int} (h : readH s short = some x) : 1 ≤ x.2 ∧ x.2 ≤ (s.size : Int) := by
  unfold readH at h
  obtain ⟨⟨b, l1⟩, h1, h2⟩ := Option.bind_eq_some_iff.1 h
  dsimp only at h2
  split at h2
  · cases h2
  · obtain ⟨⟨y, l2⟩, h3, h4⟩ := Option.bind_eq_some_iff.1 h2
    dsimp only at h4
    split at h4
    · cases h4
      have a := Less.head _ _ _ _ _ h3
      unfold rdByte at h1
      obtain ⟨z, h5, h6⟩ := Option.map_eq_some_iff.1 h1
      have := tk_size (x := z.1) (l := z.2) h5
      cases h6
      dsimp only
      omega
    · cases h4
end Go.Proofs.Ytbfkfhadcmpndaa.Q
