/- Typed patterns of values and places. -/
import Derived.Test.YtcngjidojibleaaPmDefs
set_option linter.unusedVariables false
set_option linter.unusedSectionVars false
set_option linter.unusedSimpArgs false
namespace Go.Proofs.YtcngjidojibleaaPM
open Go
def nth {α : Type} : List α → Nat → Option α
  | [], _ => none
  | x :: _, 0 => some x
  | _ :: r, n + 1 => nth r n

/-- What some cells hold. -/
inductive CK where
  | sh (r : Sh)
  | ptr (j o : Nat)
  | own (j : Nat)
  | ref (j : Nat)
  | rp (j off : Nat)
  | apl (j i n : Nat)
  | ep (r : Sh) (off : Nat)
  | nil
  | any
@[reducible] def CK.den : CK → Type
  | .sh r => r.den
  | .ref _ => Nat × Nat
  | .rp _ _ => Nat
  | .ep r _ => r.den
  | _ => Unit
@[reducible] def dens : List CK → Type
  | [] => Unit
  | c :: l => c.den × dens l

def encC (m : Nat → Nat × Nat) : (c : CK) → c.den → List PV
  | .sh r, x => r.cells x
  | .ptr j o, _ => [.ptr (m j).1 o]
  | .own j, _ => [.own (m j).1 (m j).2]
  | .ref j, x => [.ref (m j).1 x.1 x.2 (m j).2]
  | .rp j off, x => [.rp (m j).1 x off (m j).2]
  | .apl j i n, _ => [.apl (m j).1 i n (m j).2]
  | .ep r off, x => [.ep r x off]
  | .nil, _ => [.v (.slice none 0 0)]
  | .any, _ => [.dead]
def encL (m : Nat → Nat × Nat) : (l : List CK) → dens l → List PV
  | [], _ => []
  | c :: l, d => encC m c d.1 ++ encL m l d.2
def decC (m : Nat → Nat × Nat) : (c : CK) → List PV → Option (c.den × List PV)
  | .sh r, ps => r.parse ps
  | .ptr j o, ps => match ps with
    | .ptr k o' :: t => bif Nat.beq k (m j).1 && Nat.beq o' o then some ((), t) else none
    | _ => none
  | .own j, ps => match ps with
    | .own k g :: t => bif Nat.beq k (m j).1 && Nat.beq g (m j).2 then some ((), t) else none
    | _ => none
  | .ref j, ps => match ps with
    | .ref k i n g :: t => bif Nat.beq k (m j).1 && Nat.beq g (m j).2 then some ((i, n), t) else none
    | _ => none
  | .rp j off, ps => match ps with
    | .rp k i o g :: t => bif Nat.beq k (m j).1 && (Nat.beq g (m j).2 && Nat.beq o off) then some (i, t) else none
    | _ => none
  | .apl j i n, ps => match ps with
    | .apl k i' n' g :: t => bif Nat.beq k (m j).1 && (Nat.beq g (m j).2 && (Nat.beq i' i && Nat.beq n' n)) then some ((), t) else none
    | _ => none
  | .ep r off, ps => match ps with
    | .ep r' x o :: t => bif Nat.beq o off then (if h : r' = r then some (h ▸ x, t) else none) else none
    | _ => none
  | .nil, ps => match ps with
    | .v (.slice none 0 0) :: t => some ((), t)
    | _ => none
  | .any, ps => match ps with
    | _ :: t => some ((), t)
    | [] => none
def decL (m : Nat → Nat × Nat) : (l : List CK) → List PV → Option (dens l)
  | [], ps => match ps with
    | [] => some ()
    | _ => none
  | c :: l, ps => match decC m c ps with
    | some (x, t) => match decL m l t with
      | some d => some (x, d)
      | none => none
    | none => none

/-- What a temporary holds. -/
inductive AK where
  | one (c : CK)
  | agg (l : List CK)
  | fn (f : FuncId) (l : List CK)
  | arr (k : IntKind)
  | any
def cellish : PV → Bool
  | .agg _ => false
  | .arr _ _ => false
  | .tup _ => false
  | .fn _ _ => false
  | _ => true
@[reducible] def AK.den : AK → Type
  | .one c => c.den
  | .agg l => dens l
  | .fn _ l => dens l
  | .arr _ => List Int
  | .any => Unit
@[reducible] def adens : List AK → Type
  | [] => Unit
  | c :: l => c.den × adens l
def fst1 : List PV → PV
  | [p] => p
  | _ => .dead
def encA (m : Nat → Nat × Nat) : (a : AK) → a.den → PV
  | .one c, d => fst1 (encC m c d)
  | .agg l, d => .agg (encL m l d)
  | .fn f l, d => .fn f (encL m l d)
  | .arr k, l => .arr k l
  | .any, _ => .dead
def decA (m : Nat → Nat × Nat) : (a : AK) → PV → Option a.den
  | .one c, p => bif cellish p then (match decC m c [p] with
    | some (x, []) => some x
    | _ => none) else none
  | .agg l, p => match p with
    | .agg cs => decL m l cs
    | _ => none
  | .fn f l, p => match p with
    | .fn g cs => bif Nat.beq g f then decL m l cs else none
    | _ => none
  | .arr k, p => match p with
    | .arr k' l => if k' = k then some l else none
    | _ => none
  | .any, p => match p with
    | .tup _ => none
    | _ => some ()
def encAs (m : Nat → Nat × Nat) : (l : List AK) → adens l → List PV
  | [], _ => []
  | a :: l, d => encA m a d.1 :: encAs m l d.2
def decAs (m : Nat → Nat × Nat) : (l : List AK) → List PV → Option (adens l)
  | [], ps => match ps with
    | [] => some ()
    | _ => none
  | a :: l, ps => match ps with
    | p :: t => match decA m a p with
      | some x => match decAs m l t with
        | some d => some (x, d)
        | none => none
      | none => none
    | [] => none

/-- Results: one, or several together. -/
def decRes (m : Nat → Nat × Nat) (l : List AK) (p : PV) : Option (adens l) := match l with
  | [a] => match decA m a p with
    | some x => some (x, ())
    | none => none
  | l => match p with
    | .tup ps => decAs m l ps
    | _ => none

/-- What a place holds. -/
inductive PK where
  | cells (l : List CK)
  | rows (r : Sh) (kp : Bool := false)
  | gone
@[reducible] def PK.den : PK → Type
  | .cells l => dens l
  | .rows r _ => List r.den
  | .gone => Unit
@[reducible] def pdens : List PK → Type
  | [] => Unit
  | c :: l => c.den × pdens l
def encP (m : Nat → Nat × Nat) (g : Nat) : (p : PK) → p.den → Place
  | .cells l, d => .cells (encL m l d)
  | .rows r _, xs => .rows r xs g
  | .gone, _ => .dead
def decP (m : Nat → Nat × Nat) (g : Nat) : (p : PK) → Place → Option p.den
  | .cells l, q => match q with
    | .cells cs => decL m l cs
    | _ => none
  | .rows r kp, q => match q with
    | .rows r' xs g' => bif Nat.beq g' g && (!kp || Nat.beq g 0) then (if h : r' = r then some (h ▸ xs) else none) else none
    | _ => none
  | .gone, _ => some ()
def encPs (m : Nat → Nat × Nat) : (j : Nat) → (l : List PK) → pdens l → List Place
  | _, [], _ => []
  | j, p :: l, d => encP m (m j).2 p d.1 :: encPs m (j + 1) l d.2
/-- The places of the slots, wherever they lie. -/
def decPs (m : Nat → Nat × Nat) (σ : Sig) : (j : Nat) → (l : List PK) → Option (pdens l)
  | _, [] => some ()
  | j, p :: l => match nth σ (m j).1 with
    | some q => match decP m (m j).2 p q with
      | some x => match decPs m σ (j + 1) l with
        | some d => some (x, d)
        | none => none
      | none => none
    | none => none

def okC (n : Nat) : CK → Bool
  | .ptr j _ => Nat.blt j n
  | .own j => Nat.blt j n
  | .ref j => Nat.blt j n
  | .rp j _ => Nat.blt j n
  | .apl j _ _ => Nat.blt j n
  | _ => true
def okL (n : Nat) : List CK → Bool
  | [] => true
  | c :: l => okC n c && okL n l
def okA (n : Nat) : AK → Bool
  | .one c => okC n c
  | .agg l => okL n l
  | .fn _ l => okL n l
  | .arr _ => true
  | .any => true
def okAs (n : Nat) : List AK → Bool
  | [] => true
  | c :: l => okA n c && okAs n l
def okP (n : Nat) : PK → Bool
  | .cells l => okL n l
  | _ => true
def okPs (n : Nat) : List PK → Bool
  | [] => true
  | c :: l => okP n c && okPs n l

def locI (j : Nat) : Nat × Nat := (j, 0)
/-- A row that nobody has moved since the function began keeps the mark 0. -/
def kpAt (qk : List PK) (j : Nat) : Bool := match nth qk j with
  | some (.rows _ kp) => kp
  | _ => false
def resI (qk : List PK) (j : Nat) : Nat × Nat := (j, bif kpAt qk j then 0 else 1)
def genI (σ : Sig) (j : Nat) : Nat × Nat := (j, match nth σ j with
  | some (.rows _ _ g) => g
  | _ => 0)

end Go.Proofs.YtcngjidojibleaaPM
