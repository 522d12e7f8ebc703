/- A reckoning of functions by values: slices as lists, variables in memory as places. -/
import Derived.Calls
import Derived.Tactics
import Derived.Laws.Entries
import Derived.KernelRfl
set_option linter.unusedVariables false
set_option linter.unusedSectionVars false
set_option linter.unusedSimpArgs false
namespace Go.Proofs.YtcngjidojibleaaPM
open Go

/-! ### kinds of what stays -/
inductive Sh where
  | int (k : IntKind)
  | bool
  | str
  | rows (r : Sh)
  | pair (a b : Sh)
  | unit
  deriving DecidableEq

@[reducible] def Sh.den : Sh → Type
  | .int _ => Int
  | .bool => Bool
  | .str => ByteArray
  | .rows r => List r.den
  | .pair a b => a.den × b.den
  | .unit => Unit

/-- Cells of a value. -/
def Sh.n : Sh → Nat
  | .int _ | .bool | .str | .rows _ => 1
  | .pair a b => a.n + b.n
  | .unit => 0

def Sh.dflt : (r : Sh) → r.den
  | .int _ => (0 : Int)
  | .bool => false
  | .str => ByteArray.empty
  | .rows _ => []
  | .pair a b => (a.dflt, b.dflt)
  | .unit => ()

/-- What a temporary, or a cell, holds. -/
inductive PV where
  | v (x : Value)
  | rows (full : Bool) (r : Sh) (xs : List r.den)
  | ptr (k o : Nat)
  | rp (k i off g : Nat)
  | ep (r : Sh) (x : r.den) (off : Nat)
  | apr (k : IntKind) (xs : List Int) (n : Nat)
  | apl (p i n g : Nat)
  | own (k g : Nat)
  | ref (k i n g : Nat)
  | agg (cs : List PV)
  | arr (k : IntKind) (l : List Int)
  | tup (vs : List PV)
  | fn (f : FuncId) (caps : List PV)
  | dead

/-- A variable in memory, or a row. -/
inductive Place where
  | cells (cs : List PV)
  | rows (r : Sh) (xs : List r.den) (g : Nat)
  | dead

abbrev Sig := List Place

def Sh.cells : (r : Sh) → r.den → List PV
  | .int k, n => [.v (.int k n)]
  | .bool, b => [.v (.bool b)]
  | .str, s => [.v (.string s)]
  | .rows r, xs => [.rows false r xs]
  | .pair a b, x => a.cells x.1 ++ b.cells x.2
  | .unit, _ => []

/-- A value out of the first cells. -/
def Sh.parse : (r : Sh) → List PV → Option (r.den × List PV)
  | .int k, ps => match ps with
    | .v (.int k' n) :: t => if k' = k then some (n, t) else none
    | _ => none
  | .bool, ps => match ps with
    | .v (.bool b) :: t => some (b, t)
    | _ => none
  | .str, ps => match ps with
    | .v (.string s) :: t => some (s, t)
    | _ => none
  | .rows r, ps => match ps with
    | .rows _ r' xs :: t => if h : r' = r then some (h ▸ xs, t) else none
    | .v (.slice none 0 0) :: t => some ([], t)
    | _ => none
  | .pair a b, cs => match a.parse cs with
    | some (x, t) => match b.parse t with
      | some (y, u) => some ((x, y), u)
      | none => none
    | none => none
  | .unit, cs => some ((), cs)

/-! ### steps without memory -/
def Sem.val {α : Type} (p : Program) : Sem α → Option α
  | .pure a => some a
  | .program k => Sem.val p (k p)
  | _ => none

def cellV : PV → Option Value
  | .v x => some x
  | _ => none
def toVs : List PV → Option (List Value)
  | [] => some []
  | p :: r => match cellV p with
    | some x => match toVs r with
      | some l => some (x :: l)
      | none => none
    | none => none
def toV : PV → Option Value
  | .v x => some x
  | .agg cs => match toVs cs with
    | some l => some (.agg l.toArray)
    | none => none
  | _ => none
def ofV : Value → PV
  | .agg cs => .agg (cs.toList.map .v)
  | x => .v x

abbrev Fr := List (Nat × PV)
def Fr.get : Fr → Nat → PV
  | [], _ => .dead
  | (d, p) :: r, t => bif Nat.beq d t then p else Fr.get r t
def Fr.put (f : Fr) (d : Option Nat) (p : PV) : Fr := match d with
  | some d => (d, p) :: f
  | none => f
def Fr.args : Nat → List PV → Fr
  | _, [] => []
  | n, p :: r => (n, p) :: Fr.args (n + 1) r

def ev (f : Fr) : Operand → PV
  | .tmp t => f.get t
  | .const x => ofV x
  | .global _ => .dead
  | .func g => .fn g []
def evs (f : Fr) : List Operand → List PV
  | [] => []
  | x :: r => ev f x :: evs f r

/-! ### types -/
def szOf (P : Program) (t : TypeId) : Nat := match P.info? t with
  | some i => i.size
  | none => 0
def zeroOf (P : Program) (t : TypeId) : Option Value := match P.info? t with
  | some i => i.zero
  | none => none
def isAggT (P : Program) (t : TypeId) : Bool := match P.underlying t with
  | some (.struct _) => true
  | some (.array _ _) => true
  | _ => false
def shFs (f : TypeId → Option Sh) : List Field → Option Sh
  | [] => some .unit
  | [x] => f x.type
  | x :: r => match f x.type with
    | some a => match shFs f r with
      | some b => some (.pair a b)
      | none => none
    | none => none
/-- The kind of a type's values that stay. -/
def shOf (P : Program) : Nat → TypeId → Option Sh
  | 0, _ => none
  | d + 1, t => match P.underlying t with
    | some (.int k) => some (.int k)
    | some .bool => some .bool
    | some .string => some .str
    | some (.slice e) => match shOf P d e with
      | some r => some (.rows r)
      | none => none
    | some (.struct fs) => shFs (shOf P d) fs.toList
    | _ => none

def elOk (P : Program) (e : TypeId) (r : Sh) : Bool := Nat.beq (szOf P e) r.n && !(Nat.beq r.n 0)

structure Tri where
  ok : Bool
  pv : PV
  σ : Sig

def wrapCells : Bool → List PV → Option PV
  | true, cs => some (.agg cs)
  | false, [x] => some x
  | false, _ => none

def rdS (r : Sh) (xs : List r.den) (i : Nat) : r.den := xs.getD i r.dflt

/-- Load sz cells; whether as a whole. -/
def loadP (agg : Bool) (sz : Nat) (σ : Sig) : PV → Option PV
  | .ptr k o => match σ[k]? with
    | some (.cells cs) => if o + sz ≤ cs.length then wrapCells agg ((cs.drop o).take sz) else none
    | _ => none
  | .rp k i off g => match σ[k]? with
    | some (.rows r xs g') => if g' = g ∧ off + sz ≤ r.n then wrapCells agg (((r.cells (rdS r xs i)).drop off).take sz) else none
    | _ => none
  | .ep r x off => if off + sz ≤ r.n then wrapCells agg (((r.cells x).drop off).take sz) else none
  | _ => none

/-- A whole array of numbers. -/
def loadArr (k : IntKind) (n : Nat) (σ : Sig) : PV → Option PV
  | .apr k' xs m => if k' = k ∧ m = n ∧ 0 < n then some (.arr k (xs.take n)) else none
  | .apl p i m g => match σ[p]? with
    | some (.rows (.int k') xs g') => if g' = g ∧ k' = k ∧ m = n then some (.arr k ((xs.drop i).take n)) else none
    | _ => none
  | _ => none

def isZeros (k : IntKind) : List Value → Bool
  | [] => true
  | .int k' 0 :: r => decide (k' = k) && isZeros k r
  | _ => false

def pvCells : PV → List PV
  | .agg cs => cs
  | x => [x]
def setCells (cs : List PV) (o : Nat) : List PV → List PV
  | [] => cs
  | x :: r => setCells (cs.set o x) (o + 1) r
/-- What may lie in a cell. -/
def isCell : PV → Bool
  | .v (.agg _) | .v (.tuple _) => false
  | .v _ | .rows .. | .ptr .. | .rp .. | .own .. | .ref .. | .apl .. | .ep .. => true
  | _ => false

/-- A cell whose value is known to be one. -/
def liveCell (σ : Sig) : PV → Bool
  | .v (.agg _) | .v (.tuple _) => false
  | .v _ => true
  | .rows .. => true
  | .ptr .. => true
  | .rp .. => true
  | .apl .. => true
  | .ep .. => true
  | .own k g => match σ[k]? with
    | some (.rows _ _ g') => decide (g' = g)
    | _ => false
  | .ref k _ _ g => match σ[k]? with
    | some (.rows _ _ g') => decide (g' = g)
    | _ => false
  | _ => false

def storeP (σ : Sig) (a x : PV) : Option Sig := match a with
  | .ptr k o => match σ[k]? with
    | some (.cells cs) => if o + (pvCells x).length ≤ cs.length then some (σ.set k (.cells (setCells cs o (pvCells x)))) else none
    | _ => none
  | .rp k i off g => match σ[k]? with
    | some (.rows r xs g') => if g' = g ∧ off + (pvCells x).length ≤ r.n then
        match r.parse (setCells (r.cells (rdS r xs i)) off (pvCells x)) with
        | some (y, []) => some (σ.set k (.rows r (xs.set i y) g'))
        | _ => none
      else none
    | _ => none
  | _ => none

def asI : PV → Option Int
  | .v (.int _ n) => some n
  | _ => none

/-- Shifts; texts in order. -/
def shlI (k : IntKind) (a b : Int) : Int := k.wrap (a * 2 ^ (min b.toNat k.bits))
def shrI (k : IntKind) (a b : Int) : Int := a.fdiv (2 ^ (min b.toNat k.bits))
def sltB (a b : ByteArray) : Bool := Op.bytesLess a.toList b.toList
def kInt (k k' : IntKind) (n : Int) : Option (Bool × Value) := if k = k' then some (true, .int k n) else none
def kBool (k k' : IntKind) (b : Bool) : Option (Bool × Value) := if k = k' then some (true, .bool b) else none
def binS (P : Program) (op : BinOp) (t : TypeId) (xo yo : Operand) (x y : Value) : Option (Bool × Value) :=
  match op, x, y with
  | .quo, .int k a, .int k' b => if k = k' then some (b != 0, .int k (k.wrap (a.tdiv b))) else none
  | .rem, .int k a, .int k' b => if k = k' then some (b != 0, .int k (a.tmod b)) else none
  | .shl, .int k a, .int _ b => some (decide (0 ≤ b), .int k (shlI k a b))
  | .shr, .int k a, .int _ b => some (decide (0 ≤ b), .int k (shrI k a b))
  | .add, .string a, .string b => some (decide (a.size + b.size ≤ 9223372036854775807), .string (a ++ b))
  | .eql, .string a, .string b => some (true, .bool (decide (a = b)))
  | .neq, .string a, .string b => some (true, .bool (!decide (a = b)))
  | .lss, .string a, .string b => some (true, .bool (sltB a b))
  | .leq, .string a, .string b => some (true, .bool (sltB a b || decide (a = b)))
  | .gtr, .string a, .string b => some (true, .bool (!(sltB a b || decide (a = b))))
  | .geq, .string a, .string b => some (true, .bool (!sltB a b))
  | .add, .int k a, .int k' b => kInt k k' (k.wrap (a + b))
  | .sub, .int k a, .int k' b => kInt k k' (k.wrap (a - b))
  | .mul, .int k a, .int k' b => kInt k k' (k.wrap (a * b))
  | .and, .int k a, .int k' b => kInt k k' (bits .and k a b)
  | .or, .int k a, .int k' b => kInt k k' (bits .or k a b)
  | .xor, .int k a, .int k' b => kInt k k' (bits .xor k a b)
  | .andNot, .int k a, .int k' b => kInt k k' (bits .andNot k a b)
  | .eql, .int k a, .int k' b => kBool k k' (decide (a = b))
  | .neq, .int k a, .int k' b => kBool k k' (!decide (a = b))
  | .lss, .int k a, .int k' b => kBool k k' (decide (a < b))
  | .leq, .int k a, .int k' b => kBool k k' (decide (a ≤ b))
  | .gtr, .int k a, .int k' b => kBool k k' (decide (b < a))
  | .geq, .int k a, .int k' b => kBool k k' (decide (b ≤ a))
  | op, x, y => match Sem.val P (do eqGuard op t xo yo x y; binOp op t x y) with
    | some r => some (true, r)
    | none => none

def partOf (P : Program) (t : TypeId) (cs : List PV) (off : Nat) : Option PV := match P.underlying t with
  | some _ => if off + szOf P t ≤ cs.length then wrapCells (isAggT P t) ((cs.drop off).take (szOf P t)) else none
  | none => none

/-- Parts laid into cells: place, size, part. -/
def fillP (σ : Sig) : List PV → List (Nat × Nat × PV) → Option (List PV)
  | cs, [] => some cs
  | cs, (o, s, p) :: r => if (pvCells p).length = s ∧ o + s ≤ cs.length ∧ (pvCells p).all (liveCell σ) = true then fillP σ (setCells cs o (pvCells p)) r else none

def zeroCellsP (z : Value) : List PV := match z with
  | .agg cs => cs.toList.map .v
  | x => [.v x]

def newCells (σ : Sig) (cs : List PV) : Tri := ⟨true, .ptr σ.length 0, σ ++ [.cells cs]⟩
def newArr (σ : Sig) (k : IntKind) (n : Nat) (l : List Int) (c : Bool) : Tri := ⟨c, .apl σ.length 0 n 0, σ ++ [.rows (.int k) l 0]⟩

def fieldsOf (P : Program) (t : TypeId) : List Field := match P.underlying t with
  | some (.struct fs) => fs.toList
  | _ => []

def boolV (b : Bool) : PV := .v (.bool b)
def intV (n : Int) : PV := .v (.int .i64 n)

def cut {α : Type} (l : List α) (i j : Int) : List α := (l.take j.toNat).drop i.toNat

def rowOf (σ : Sig) : PV → Option ((r : Sh) × List r.den)
  | .rows _ r xs => some ⟨r, xs⟩
  | .own k g => match σ[k]? with
    | some (.rows r xs g') => if g' = g then some ⟨r, xs⟩ else none
    | _ => none
  | .ref k i n g => match σ[k]? with
    | some (.rows r xs g') => if g' = g then some ⟨r, (xs.drop i).take n⟩ else none
    | _ => none
  | _ => none

def bytesL (s : ByteArray) : List Int := s.data.toList.map fun b => (b.toNat : Int)
def strL (l : List Int) : ByteArray := ⟨(l.map fun n => UInt8.ofNat n.toNat).toArray⟩

/-- The most elements that a row is let grow to. -/
def most : Nat := 68719476736

def oNil (p : PV) (σ : Sig) : Option Tri := match p with
  | .ptr k o => some ⟨true, .ptr k o, σ⟩
  | .rp k i o g => some ⟨true, .rp k i o g, σ⟩
  | .apl k i n g => some ⟨true, .apl k i n g, σ⟩
  | .ep r x o => some ⟨true, .ep r x o, σ⟩
  | .fn g c => some ⟨true, .fn g c, σ⟩
  | _ => none

def oFieldAddr (P : Program) (s : TypeId) (p : PV) (i : Nat) (σ : Sig) : Option Tri := match (fieldsOf P s)[i]? with
  | some fd => if szOf P fd.type = 0 then none else match p with
    | .ptr k o => some ⟨true, .ptr k (o + fd.offset), σ⟩
    | .rp k i o g => some ⟨true, .rp k i (o + fd.offset) g, σ⟩
    | .ep r x o => some ⟨true, .ep r x (o + fd.offset), σ⟩
    | .apl k i n g => match σ[k]? with
      | some (.rows (.int _) _ g') => if g' = g ∧ fd.offset + szOf P fd.type ≤ n then some ⟨true, .apl k (i + fd.offset) (szOf P fd.type) g, σ⟩ else none
      | _ => none
    | _ => none
  | none => none

def oField (P : Program) (t : TypeId) (p : PV) (i : Nat) (σ : Sig) : Option Tri := match (fieldsOf P t)[i]? with
  | some fd => match p with
    | .agg cs => match partOf P fd.type cs fd.offset with
      | some p => some ⟨true, p, σ⟩
      | none => none
    | _ => none
  | none => none

def oLoad (P : Program) (t : TypeId) (p : PV) (σ : Sig) : Option Tri := match P.underlying t with
  | some (.array n e) => match P.underlying e with
    | some (.int k) => if szOf P t = n then match loadArr k n σ p with
      | some q => some ⟨true, q, σ⟩
      | none => none else none
    | _ => none
  | some _ => match loadP (isAggT P t) (szOf P t) σ p with
    | some q => some ⟨true, q, σ⟩
    | none => none
  | none => none

def oStore (P : Program) (t : TypeId) (a x : PV) (σ : Sig) : Option Tri := match x with
  | .arr k l => match a, P.underlying t with
    | .apl p 0 n g, some (.array m _) => match σ[p]? with
      | some (.rows (.int k') xs g') => if g' = g ∧ k' = k ∧ n = m ∧ szOf P t = m ∧ m ≠ 0 then some ⟨decide (xs.length = m) && decide (l.length = m), .dead, σ.set p (.rows (.int k') l g')⟩ else none
      | _ => none
    | _, _ => none
  | x => if (pvCells x).length = szOf P t ∧ szOf P t ≠ 0 ∧ (pvCells x).all (liveCell σ) = true then match storeP σ a x with
    | some σ' => some ⟨true, .dead, σ'⟩
    | none => none
  else none

def arrK (P : Program) (t : TypeId) : Option IntKind := match P.underlying t with
  | some (.array _ e) => match P.underlying e with
    | some (.int k) => some k
    | _ => none
  | _ => none
/-- A struct of nothing but arrays of one kind of numbers. -/
def uniK (P : Program) : List Field → Option IntKind
  | [] => none
  | [f] => arrK P f.type
  | f :: r => match arrK P f.type, uniK P r with
    | some k, some k' => if k = k' then some k else none
    | _, _ => none
def oAlloc (P : Program) (t : TypeId) (σ : Sig) : Option Tri := match zeroOf P t with
  | some z => match P.underlying t with
    | some (.array n e) => match P.underlying e, z with
      | some (.int k), .agg zs => if isZeros k zs.toList ∧ zs.size = n then some (newArr σ k n (List.replicate n (0 : Int)) true) else none
      | _, _ => none
    | some (.struct fs) => match uniK P fs.toList with
      | some k => match z with
        | .agg zs => if isZeros k zs.toList then some (newArr σ k zs.size (List.replicate zs.size (0 : Int)) true) else none
        | _ => none
      | none => some (newCells σ (zeroCellsP z))
    | some _ => some (newCells σ (zeroCellsP z))
    | none => none
  | none => none

def partsOf (P : Program) (fs : Array Field) : List (Nat × PV) → Option (List (Nat × Nat × PV))
  | [] => some []
  | (i, p) :: r => match fs[i]? with
    | some fd => match partsOf P fs r with
      | some l => some ((fd.offset, szOf P fd.type, p) :: l)
      | none => none
    | none => none

def oBuild (P : Program) (t : TypeId) (parts : List (Nat × PV)) (σ : Sig) : Option Tri := match zeroOf P t with
  | some (.agg z) => match P.underlying t with
    | some (.struct fs) => if fs.toList.all (fun fd => (P.info? fd.type).isSome) = true then match partsOf P fs parts with
      | some l => match fillP σ (z.toList.map .v) l with
        | some cs => some ⟨true, .agg cs, σ⟩
        | none => none
      | none => none else none
    | _ => none
  | _ => none
/-- The numbers of some cells. -/
def numsOf (k : IntKind) : List PV → Option (List Int)
  | [] => some []
  | .v (.int k' n) :: r => if k' = k then (match numsOf k r with
    | some l => some (n :: l)
    | none => none) else none
  | _ => none
def oBuildArr (P : Program) (t : TypeId) (parts : List (Nat × PV)) (σ : Sig) : Option Tri := match zeroOf P t with
  | some (.agg z) => match P.underlying t with
    | some (.array _ e) => match P.underlying e with
      | some (.int k) => if szOf P e = 1 then match fillP σ (z.toList.map .v) (parts.map fun p => (p.1 * 1, 1, p.2)) with
        | some cs => match numsOf k cs with
          | some l => some ⟨true, .arr k l, σ⟩
          | none => none
        | none => none else none
      | _ => none
    | _ => none
  | _ => none
/-- The kind of numbers of a struct of arrays alone. -/
def uniT (P : Program) (t : TypeId) : Option IntKind := match P.underlying t with
  | some (.struct fs) => uniK P fs.toList
  | _ => none
def oBox (P : Program) (t : TypeId) (x : PV) (σ : Sig) : Option Tri := match x with
  | .arr k l => match P.underlying t with
    | some (.array n _) => some (newArr σ k n l (decide (l.length = n)))
    | _ => none
  | x => match uniT P t with
    | some k => match x with
      | .agg cs => match numsOf k cs with
        | some l => some (newArr σ k l.length l true)
        | none => none
      | _ => none
    | none => if (pvCells x).all (liveCell σ) = true then some (newCells σ (pvCells x)) else none

def isArrT (P : Program) (t : TypeId) : Bool := match P.underlying t with
  | some (.array _ _) => true
  | _ => false

def oIndexAddr (P : Program) (t : TypeId) (p q : PV) (σ : Sig) : Option Tri := match asI q with
  | some n => match P.underlying t with
    | some (.slice e) => match p with
      | .rows _ r xs => if elOk P e r = true then some ⟨decide (0 ≤ n) && decide (n < xs.length), .ep r (rdS r xs n.toNat) 0, σ⟩ else none
      | .own k g => match σ[k]? with
        | some (.rows r xs g') => if g' = g ∧ elOk P e r = true then some ⟨decide (0 ≤ n) && decide (n < xs.length), .rp k n.toNat 0 g, σ⟩ else none
        | _ => none
      | .ref k i m g => match σ[k]? with
        | some (.rows r xs g') => if g' = g ∧ elOk P e r = true then some ⟨decide (0 ≤ n) && decide (n < m), .rp k (i + n.toNat) 0 g, σ⟩ else none
        | _ => none
      | _ => none
    | some (.array m e) => match p with
      | .apl k i m' g => match σ[k]? with
        | some (.rows r xs g') => if g' = g ∧ elOk P e r = true ∧ m' = m ∧ 1 < m then some ⟨decide (0 ≤ n) && decide (n < m), .rp k (i + n.toNat) 0 g, σ⟩ else none
        | _ => none
      | _ => none
    | _ => none
  | none => none

def oIndex (P : Program) (t : TypeId) (p q : PV) (σ : Sig) : Option Tri := match asI q with
  | some n => match p, P.underlying t with
    | .v (.string s), some .string => some ⟨decide (0 ≤ n) && decide (n < s.size), .v (.int .u8 ((bytesL s).getD n.toNat 0)), σ⟩
    | .arr k l, some (.array m e) => match P.underlying e with
      | some (.int _) => if szOf P e = 1 then some ⟨decide (0 ≤ n) && (decide (n < m) && decide (n < l.length)), .v (.int k (l.getD n.toNat 0)), σ⟩ else none
      | _ => none
    | _, _ => none
  | none => none

def lowOf : Option PV → Option Int
  | none => some 0
  | some x => asI x
def highOf (d : Int) : Option PV → Option Int
  | none => some d
  | some x => asI x

def oSlice (P : Program) (t : TypeId) (p : PV) (lo hi : Option PV) (σ : Sig) : Option Tri := match P.underlying t with
  | some .string => match p with
    | .v (.string s) => match lowOf lo, highOf s.size hi with
      | some a, some b => some ⟨decide (0 ≤ a) && (decide (a ≤ b) && decide (b ≤ s.size)), .v (.string (s.extract a.toNat b.toNat)), σ⟩
      | _, _ => none
    | _ => none
  | some (.slice e) => match p with
    | .rows _ r xs => match lowOf lo, highOf xs.length hi with
      | some a, some b => if elOk P e r = true then some ⟨decide (0 ≤ a) && (decide (a ≤ b) && decide (b ≤ xs.length)), .rows false r (cut xs a b), σ⟩ else none
      | _, _ => none
    | .own k g => match σ[k]? with
      | some (.rows r xs g') => match lowOf lo, highOf xs.length hi with
        | some a, some b => if g' = g ∧ elOk P e r = true then some ⟨decide (0 ≤ a) && (decide (a ≤ b) && decide (b ≤ xs.length)), .ref k a.toNat (b.toNat - a.toNat) g, σ⟩ else none
        | _, _ => none
      | _ => none
    | .ref k i n g => match σ[k]? with
      | some (.rows r xs g') => match lowOf lo, highOf n hi with
        | some a, some b => if g' = g ∧ elOk P e r = true then some ⟨decide (0 ≤ a) && (decide (a ≤ b) && decide (b ≤ n)), .ref k (i + a.toNat) (b.toNat - a.toNat) g, σ⟩ else none
        | _, _ => none
      | _ => none
    | _ => none
  | some (.array m e) => match p with
    | .apl k i m' g => match σ[k]? with
      | some (.rows r xs g') => match lowOf lo, highOf m hi with
        | some a, some b => if g' = g ∧ elOk P e r = true ∧ m' = m then some ⟨decide (0 ≤ a) && (decide (a ≤ b) && decide (b ≤ m)), .ref k (i + a.toNat) (b.toNat - a.toNat) g, σ⟩ else none
        | _, _ => none
      | _ => none
    | _ => none
  | _ => none

def isZeroC : Operand → Bool
  | .const (.int _ 0) => true
  | _ => false
def oSlice3 (P : Program) (t : TypeId) (z : Bool) (p : PV) (lo : Option PV) (hi mx : PV) (σ : Sig) : Option Tri := match P.underlying t with
  | some (.slice e) => match lowOf lo, asI hi, asI mx with
    | some a, some b, some m => match z with
      | true => match p with
        | .v (.slice none 0 0) => match P.info? e with
          | some _ => some ⟨decide (a = 0) && (decide (b = 0) && decide (m = 0)), .v (.slice none 0 0), σ⟩
          | none => none
        | p => match rowOf σ p with
          | some ⟨r, xs⟩ => if elOk P e r = true then some ⟨decide (a = 0) && (decide (b = 0) && decide (m = 0)), .rows true r [], σ⟩ else none
          | none => none
      | false => match p with
        | .rows _ r xs => if elOk P e r = true then some ⟨decide (0 ≤ a) && (decide (a ≤ b) && (decide (b = m) && decide (m ≤ xs.length))), .rows true r (cut xs a b), σ⟩ else none
        | .own k g => match σ[k]? with
          | some (.rows r xs g') => if g' = g ∧ elOk P e r = true then some ⟨decide (0 ≤ a) && (decide (a ≤ b) && (decide (b = m) && decide (m ≤ xs.length))), .ref k a.toNat (b.toNat - a.toNat) g, σ⟩ else none
          | _ => none
        | _ => none
    | _, _, _ => none
  | _ => none

def oExtract (p : PV) (i : Nat) (σ : Sig) : Option Tri := match p with
  | .tup vs => match vs[i]? with
    | some p => some ⟨true, p, σ⟩
    | none => none
  | _ => none

def oArrayAt (P : Program) (t : TypeId) (p : PV) (σ : Sig) : Option Tri := match P.underlying t with
  | some (.array n e) => match p with
    | .rows _ (.int k) xs => some ⟨decide (n ≤ xs.length), .apr k xs n, σ⟩
    | .own k g => match σ[k]? with
      | some (.rows r xs g') => if g' = g then some ⟨decide (0 < n) && decide (n ≤ xs.length), .apl k 0 n g, σ⟩ else none
      | _ => none
    | .ref k i m g => match σ[k]? with
      | some (.rows r xs g') => if g' = g then some ⟨decide (0 < n) && decide (n ≤ m), .apl k i n g, σ⟩ else none
      | _ => none
    | _ => none
  | _ => none

def oConvert0 (P : Program) (s d : TypeId) (p : PV) (σ : Sig) : Option Tri := match p with
  | .v (.string b) => match P.underlying d with
    | some (.slice e) => match P.underlying e with
      | some (.int .u8) => some ⟨true, .own σ.length 0, σ ++ [.rows (.int .u8) (bytesL b) 0]⟩
      | _ => none
    | some .string => some ⟨true, .v (.string b), σ⟩
    | _ => none
  | .v (.int _ n) => match P.underlying d with
    | some (.int k) => some ⟨true, .v (.int k (k.wrap n)), σ⟩
    | some (.float k) => match Sem.val P (Conv.intToFloat k n) with
      | some r => some ⟨true, .v r, σ⟩
      | none => none
    | _ => none
  | .v a => match Sem.val P (convert s d a) with
    | some r => some ⟨true, .v r, σ⟩
    | none => none
  | p => match P.underlying s, P.underlying d with
    | some (.slice e), some .string => match P.underlying e with
      | some (.int .u8) => match rowOf σ p with
        | some ⟨.int .u8, xs⟩ => some ⟨true, .v (.string (strL xs)), σ⟩
        | _ => none
      | _ => none
    | _, _ => none

def oConvert (P : Program) (s d : TypeId) (p : PV) (σ : Sig) : Option Tri := match P.underlying s with
  | some _ => oConvert0 P s d p σ
  | none => none

/-- Below 2^36. -/
def smallI (n : Int) : Bool := match n with
  | .ofNat m => Nat.blt m 68719476736
  | .negSucc _ => true
theorem smallI_lt {n : Int} (h : smallI n = true) : n < 68719476736 := by
  cases n with
  | ofNat m =>
    have h : Nat.blt m 68719476736 = true := h
    have : m < 68719476736 := by simpa [Nat.blt_eq] using h
    show (m : Int) < 68719476736
    omega
  | negSucc m => exact Int.lt_of_lt_of_le (Int.negSucc_lt_zero m) (by decide)
/-- Rows of nothing but zero values that are not numbers. -/
def oMakeSlice2 (P : Program) (e : TypeId) (n m : Int) (σ : Sig) : Option Tri := match zeroOf P e, P.info? e, shOf P 10 e with
  | some z, some ie, some r => match r.parse (zeroCellsP z) with
    | some (x, []) => if elOk P e r = true ∧ ie.bytes ≤ 1000 then some ⟨decide (0 ≤ n) && (smallI n && decide (n = m)), .own σ.length 0, σ ++ [.rows r (List.replicate n.toNat x) 0]⟩ else none
    | _ => none
  | _, _, _ => none
def oMakeSlice (P : Program) (t : TypeId) (p q : PV) (σ : Sig) : Option Tri := match asI p, asI q with
  | some n, some m => match P.underlying t with
    | some (.slice e) => match P.underlying e, zeroOf P e, P.info? e with
      | some (.int k), some (.int k' 0), some ie => if k' = k ∧ szOf P e = 1 ∧ ie.bytes ≤ 8 then some ⟨decide (0 ≤ n) && (smallI n && decide (n = m)), .own σ.length 0, σ ++ [.rows (.int k) (List.replicate n.toNat (0 : Int)) 0]⟩ else none
      | _, _, _ => oMakeSlice2 P e n m σ
    | _ => none
  | _, _ => none

def parseAll (r : Sh) : Nat → List PV → Option (List r.den)
  | 0, _ => some []
  | n + 1, cs => match r.parse cs with
    | some (x, t) => match parseAll r n t with
      | some l => some (x :: l)
      | none => none
    | none => none

def oBuildSlice (P : Program) (t : TypeId) (n : Nat) (parts : List (Nat × PV)) (σ : Sig) : Option Tri := match P.underlying t with
  | some (.slice e) => match shOf P 10 e, zeroOf P e with
    | some r, some z => if elOk P e r = true ∧ n * szOf P e ≤ 16777216 ∧ (zeroCellsP z).length = szOf P e then match fillP σ ((List.replicate n (zeroCellsP z)).flatten) (parts.map fun p => (p.1 * szOf P e, szOf P e, p.2)) with
      | some cs => match parseAll r n cs with
        | some xs => some ⟨true, .rows true r xs, σ⟩
        | none => none
      | none => none else none
    | _, _ => none
  | _ => none

def eqFs (P : Program) (f : TypeId → List PV → List PV → Option Bool) (ps qs : List PV) : List Field → Option Bool
  | [] => some true
  | [x] => if x.name == "_" then none else (if x.offset + szOf P x.type ≤ ps.length ∧ x.offset + szOf P x.type ≤ qs.length then f x.type ((ps.drop x.offset).take (szOf P x.type)) ((qs.drop x.offset).take (szOf P x.type)) else none)
  | x :: r => if x.name == "_" then none else (if x.offset + szOf P x.type ≤ ps.length ∧ x.offset + szOf P x.type ≤ qs.length then (match f x.type ((ps.drop x.offset).take (szOf P x.type)) ((qs.drop x.offset).take (szOf P x.type)) with
    | some a => match eqFs P f ps qs r with
      | some b => some (a && b)
      | none => none
    | none => none) else none)
/-- Whether two values are the same, by their type. -/
def eqT (P : Program) : Nat → TypeId → List PV → List PV → Option Bool
  | 0, _, _, _ => none
  | d + 1, t, ps, qs => match P.underlying t with
    | some .bool => match ps, qs with
      | [.v (.bool a)], [.v (.bool b)] => some (a == b)
      | _, _ => none
    | some (.int _) => match ps, qs with
      | [.v (.int k a)], [.v (.int k' b)] => if k = k' then some (decide (a = b)) else none
      | _, _ => none
    | some .string => match ps, qs with
      | [.v (.string a)], [.v (.string b)] => some (decide (a = b))
      | _, _ => none
    | some (.struct fs) => if P.stoodInHeld t = false then eqFs P (eqT P d) ps qs fs.toList else none
    | _ => none
def oEq (P : Program) (neg : Bool) (t : TypeId) (ps qs : List PV) (σ : Sig) : Option Tri := if P.eqGuardType P.depth t = false then (match P.underlying t with
  | some (.struct _) => match eqT P 10 t ps qs with
    | some b => some ⟨true, boolV (bif neg then !b else b), σ⟩
    | none => none
  | _ => none) else none
def oBin (P : Program) (op : BinOp) (t : TypeId) (x y : Operand) (p q : PV) (σ : Sig) : Option Tri := match op, p, q with
  | .eql, .agg ps, .agg qs => oEq P false t ps qs σ
  | .neq, .agg ps, .agg qs => oEq P true t ps qs σ
  | _, _, _ => match toV p, toV q with
  | some a, some b => match binS P op t x y a b with
    | some (c, r) => some ⟨c, ofV r, σ⟩
    | none => none
  | _, _ => none

def unS (P : Program) (op : UnOp) (x : Value) : Option Value := match op, x with
  | .neg, .int k n => some (.int k (k.wrap (0 - n)))
  | .xor, .int k n => some (.int k (bits .xor k (if k.signed then -1 else k.max) n))
  | .not, .bool b => some (.bool !b)
  | op, x => Sem.val P (Op.unary op x)
def oUn (P : Program) (op : UnOp) (p : PV) (σ : Sig) : Option Tri := match toV p with
  | some a => match unS P op a with
    | some r => some ⟨true, ofV r, σ⟩
    | none => none
  | _ => none

def oLen (P : Program) (t : TypeId) (p : PV) (σ : Sig) : Option Tri := match P.underlying t with
  | some .string => match p with
    | .v (.string s) => some ⟨true, intV s.size, σ⟩
    | _ => none
  | some (.slice e) => match p with
    | .rows _ r xs => some ⟨true, intV xs.length, σ⟩
    | .own k g => match σ[k]? with
      | some (.rows r xs g') => if g' = g then some ⟨true, intV xs.length, σ⟩ else none
      | _ => none
    | .ref k i n g => match σ[k]? with
      | some (.rows r xs g') => if g' = g then some ⟨true, intV n, σ⟩ else none
      | _ => none
    | .v (.slice none 0 0) => some ⟨true, intV 0, σ⟩
    | _ => none
  | some (.array n e) => some ⟨true, intV n, σ⟩
  | _ => none

def oAppend (P : Program) (t u : TypeId) (p q : PV) (σ : Sig) : Option Tri := match P.underlying t, P.underlying u with
  | some (.slice e), some (.slice _) => match rowOf σ q, P.info? e, zeroOf P e with
    | some ⟨r, ys⟩, some ie, some z => if elOk P e r = true ∧ 0 < ie.bytes ∧ ie.bytes ≤ 1000 ∧ (zeroCellsP z).length = r.n then match p with
      | .own k g => match σ[k]? with
        | some (.rows r' xs g') => if h : r' = r then (if g' = g then some ⟨decide (xs.length + ys.length < most), .own k (g + 1), σ.set k (.rows r' (xs ++ (h ▸ ys)) (g + 1))⟩ else none) else none
        | _ => none
      | .v (.slice none 0 0) => some ⟨decide (ys.length < most), .own σ.length 0, σ ++ [.rows r ys 0]⟩
      | .rows true r' [] => if r' = r then some ⟨decide (ys.length < most), .own σ.length 0, σ ++ [.rows r ys 0]⟩ else none
      | .rows true r' xs => if h : r' = r then some ⟨decide (0 < ys.length) && decide (xs.length + ys.length < most), .own σ.length 0, σ ++ [.rows r' (xs ++ (h ▸ ys)) 0]⟩ else none
      | _ => none
      else none
    | _, _, _ => none
  | _, _ => none

def mmI (mx : Bool) (a b : Int) : Int := match mx with
  | true => if b > a then b else a
  | false => if b < a then b else a
def mmL (mx : Bool) (k : IntKind) : Int → List PV → Option Int
  | a, [] => some a
  | a, .v (.int _ b) :: r => mmL mx k (mmI mx a b) r
  | _, _ => none
def oMinMax (mx : Bool) (ps : List PV) (σ : Sig) : Option Tri := match ps with
  | .v (.int k a) :: r => match mmL mx k a r with
    | some n => some ⟨true, .v (.int k n), σ⟩
    | none => none
  | _ => none
/-- Rows laid over the beginning of others. -/
def oCopy (P : Program) (t : TypeId) (p q : PV) (σ : Sig) : Option Tri := match P.underlying t with
  | some (.slice e) => match rowOf σ q with
    | some ⟨r, ys⟩ => if elOk P e r = true then match p with
      | .own k g => match σ[k]? with
        | some (.rows r' xs g') => if h : r' = r then (if g' = g then some ⟨true, intV ((min ys.length xs.length : Nat) : Int), σ.set k (.rows r' ((h ▸ ys).take (min ys.length xs.length) ++ xs.drop (min ys.length xs.length)) g')⟩ else none) else none
        | _ => none
      | .ref k i n g => match σ[k]? with
        | some (.rows r' xs g') => if h : r' = r then (if g' = g then some ⟨true, intV ((min ys.length n : Nat) : Int), σ.set k (.rows r' (xs.take i ++ ((h ▸ ys).take (min ys.length n) ++ xs.drop (i + min ys.length n))) g')⟩ else none) else none
        | _ => none
      | _ => none else none
    | none => none
  | _ => none

def oBuiltin (P : Program) (b : Builtin) (ts : List TypeId) (ps : List PV) (σ : Sig) : Option Tri := match b, ts, ps with
  | .len, t :: _, [p] => oLen P t p σ
  | .append, t :: u :: _, [p, q] => oAppend P t u p q σ
  | .min, _, ps => oMinMax false ps σ
  | .max, _, ps => oMinMax true ps σ
  | .copy, t :: _, [p, q] => oCopy P t p q σ
  | _, _, _ => none

def partsE (f : Fr) (l : List (Nat × Operand)) : List (Nat × PV) := l.map fun p => (p.1, ev f p.2)

def stp (P : Program) (f : Fr) (σ : Sig) (o : Oper) : Option Tri :=
  match o.op with
  | .move x => some ⟨true, ev f x, σ⟩
  | .assign x => some ⟨true, ev f x, σ⟩
  | .nilCheck x => oNil (ev f x) σ
  | .fieldAddr s x i => oFieldAddr P s (ev f x) i σ
  | .field t x i => oField P t (ev f x) i σ
  | .load t a => oLoad P t (ev f a) σ
  | .store t a x => oStore P t (ev f a) (ev f x) σ
  | .alloc t => oAlloc P t σ
  | .box t x => oBox P t (ev f x) σ
  | .build t parts => bif isArrT P t then oBuildArr P t (partsE f parts.toList) σ else oBuild P t (partsE f parts.toList) σ
  | .indexAddr t x i => oIndexAddr P t (ev f x) (ev f i) σ
  | .index t x i => oIndex P t (ev f x) (ev f i) σ
  | .slice t x lo hi none => oSlice P t (ev f x) (lo.map (ev f)) (hi.map (ev f)) σ
  | .slice t x lo (some hi) (some mx) => oSlice3 P t (isZeroC hi && isZeroC mx) (ev f x) (lo.map (ev f)) (ev f hi) (ev f mx) σ
  | .extract t i => oExtract (ev f t) i σ
  | .makeFunc (.func g) first captured => if first.size = 0 ∧ (evs f captured.toList).all isCell = true then some ⟨true, .fn g (evs f captured.toList), σ⟩ else none
  | .sliceToArrayPointer t x => oArrayAt P t (ev f x) σ
  | .convert s d x => oConvert P s d (ev f x) σ
  | .makeSlice t l c => oMakeSlice P t (ev f l) (ev f c) σ
  | .buildSlice t n parts => oBuildSlice P t n (partsE f parts.toList) σ
  | .binOp op t x y _ => oBin P op t x y (ev f x) (ev f y) σ
  | .unOp op t x => oUn P op (ev f x) σ
  | .call { callee := .builtin b, args := args, argTypes := ts } => oBuiltin P b ts.toList (evs f args.toList) σ
  | _ => none

end Go.Proofs.YtcngjidojibleaaPM
