/- A reckoning of functions by values, and that it is right (Defs, Rel, Mem, Lem1, Lem2, Lem3, Lem4, Lem5, Lem6, Lem7, Lem8, Lem9, Lem10). -/
import Derived.Calls
import Derived.Tactics
import Derived.Laws.Entries
import Derived.KernelRfl
import Derived.Laws.FloatArith
import Derived.Laws.Externs
import Derived.Lib.Builder
import Derived.Lib.UnsafeStr
import Derived.Below
import Derived.RowKit
import Derived.Laws.Cells
import Derived.Laws.StructEq
import Derived.Lib.ConvBytes
import Derived.Laws.BytesString
/- A reckoning of functions by values: slices as lists, variables in memory as places. -/
set_option linter.unusedVariables false
set_option linter.unusedSectionVars false
set_option linter.unusedSimpArgs false
noncomputable section
namespace Go.Proofs.YthkjjombaoffcaaGreatDoorPM
open Go

/-! ### kinds of what stays -/
inductive Sh where
  | int (k : IntKind)
  | bool
  | str
  | flt
  | rows (r : Sh)
  | pair (a b : Sh)
  | unit
  deriving DecidableEq

@[reducible] def Sh.den : Sh → Type
  | .int _ => Int
  | .bool => Bool
  | .str => ByteArray
  | .flt => Nat
  | .rows r => List r.den
  | .pair a b => a.den × b.den
  | .unit => Unit

/-- Cells of a value. -/
def Sh.n : Sh → Nat
  | .int _ | .bool | .str | .flt | .rows _ => 1
  | .pair a b => a.n + b.n
  | .unit => 0

def Sh.dflt : (r : Sh) → r.den
  | .int _ => (0 : Int)
  | .bool => false
  | .str => ByteArray.empty
  | .flt => (0 : Nat)
  | .rows _ => []
  | .pair a b => (a.dflt, b.dflt)
  | .unit => ()

/-- What a temporary, or a cell, holds. -/
inductive PV where
  | v (x : Value)
  | rows (full : Bool) (r : Sh) (xs : List r.den)
  | ptr (k o : Nat)
  | rp (k i off g : Nat)
  | ep (r : Sh) (x : r.den) (off : Nat)
  | apr (k : IntKind) (xs : List Int) (n : Nat)
  | apl (p i n g : Nat)
  | own (k g : Nat)
  | ref (k i n g : Nat)
  | agg (cs : List PV)
  | arr (k : IntKind) (l : List Int)
  | tup (vs : List PV)
  | fn (f : FuncId) (caps : List PV)
  /-- a builder's own pointer, nil or itself, in a block of a known type; bytes in a block of a known type; the place where these begin -/
  | bp (c : Bool) (k : Nat) (e e2 : TypeId)
  | ot (k g : Nat) (e : TypeId)
  | sd (k g : Nat) (e : TypeId)
  /-- a map that nobody turns any more: whole numbers to values that stay -/
  | mapc (kk : IntKind) (ag : Bool) (r : Sh) (xs : List (Int × r.den))
  | dead

/-- A variable in memory, or a row. -/
inductive Place where
  | cells (cs : List PV)
  | rows (r : Sh) (xs : List r.den) (g : Nat)
  | dead

abbrev Sig := List Place

def Sh.cells : (r : Sh) → r.den → List PV
  | .int k, n => [.v (.int k n)]
  | .bool, b => [.v (.bool b)]
  | .str, s => [.v (.string s)]
  | .flt, x => [.v (.float .f64 x)]
  | .rows r, xs => [.rows false r xs]
  | .pair a b, x => a.cells x.1 ++ b.cells x.2
  | .unit, _ => []

/-- A value out of the first cells. -/
def Sh.parse : (r : Sh) → List PV → Option (r.den × List PV)
  | .int k, ps => match ps with
    | .v (.int k' n) :: t => if k' = k then some (n, t) else none
    | _ => none
  | .bool, ps => match ps with
    | .v (.bool b) :: t => some (b, t)
    | _ => none
  | .str, ps => match ps with
    | .v (.string s) :: t => some (s, t)
    | _ => none
  | .flt, ps => match ps with
    | .v (.float .f64 x) :: t => some (x, t)
    | _ => none
  | .rows r, ps => match ps with
    | .rows _ r' xs :: t => if h : r' = r then some (h ▸ xs, t) else none
    | .v (.slice none 0 0) :: t => some ([], t)
    | _ => none
  | .pair a b, cs => match a.parse cs with
    | some (x, t) => match b.parse t with
      | some (y, u) => some ((x, y), u)
      | none => none
    | none => none
  | .unit, cs => some ((), cs)

/-! ### steps without memory -/
def Sem.val {α : Type} (p : Program) : Sem α → Option α
  | .pure a => some a
  | .program k => Sem.val p (k p)
  | _ => none

def cellV : PV → Option Value
  | .v x => some x
  | _ => none
def toVs : List PV → Option (List Value)
  | [] => some []
  | p :: r => match cellV p with
    | some x => match toVs r with
      | some l => some (x :: l)
      | none => none
    | none => none
def toV : PV → Option Value
  | .v x => some x
  | .agg cs => match toVs cs with
    | some l => some (.agg l.toArray)
    | none => none
  | _ => none
def ofV : Value → PV
  | .agg cs => .agg (cs.toList.map .v)
  | x => .v x

abbrev Fr := List (Nat × PV)
def Fr.get : Fr → Nat → PV
  | [], _ => .dead
  | (d, p) :: r, t => bif Nat.beq d t then p else Fr.get r t
def Fr.put (f : Fr) (d : Option Nat) (p : PV) : Fr := match d with
  | some d => (d, p) :: f
  | none => f
def Fr.args : Nat → List PV → Fr
  | _, [] => []
  | n, p :: r => (n, p) :: Fr.args (n + 1) r

def ev (f : Fr) : Operand → PV
  | .tmp t => f.get t
  | .const x => ofV x
  | .global _ => .dead
  | .func g => .fn g []
def evs (f : Fr) : List Operand → List PV
  | [] => []
  | x :: r => ev f x :: evs f r

/-! ### types -/
def szOf (P : Program) (t : TypeId) : Nat := match P.info? t with
  | some i => i.size
  | none => 0
def zeroOf (P : Program) (t : TypeId) : Option Value := match P.info? t with
  | some i => i.zero
  | none => none
def isAggT (P : Program) (t : TypeId) : Bool := match P.underlying t with
  | some (.struct _) => true
  | some (.array _ _) => true
  | _ => false
def shFs (f : TypeId → Option Sh) : List Field → Option Sh
  | [] => some .unit
  | [x] => f x.type
  | x :: r => match f x.type with
    | some a => match shFs f r with
      | some b => some (.pair a b)
      | none => none
    | none => none
/-- The kind of a type's values that stay. -/
def shOf (P : Program) : Nat → TypeId → Option Sh
  | 0, _ => none
  | d + 1, t => match P.underlying t with
    | some (.int k) => some (.int k)
    | some .bool => some .bool
    | some .string => some .str
    | some (.float .f64) => some .flt
    | some (.slice e) => match shOf P d e with
      | some r => some (.rows r)
      | none => none
    | some (.struct fs) => shFs (shOf P d) fs.toList
    | _ => none

def elOk (P : Program) (e : TypeId) (r : Sh) : Bool := Nat.beq (szOf P e) r.n && !(Nat.beq r.n 0)

structure Tri where
  ok : Bool
  pv : PV
  σ : Sig

def wrapCells : Bool → List PV → Option PV
  | true, cs => some (.agg cs)
  | false, [x] => some x
  | false, _ => none

def rdS (r : Sh) (xs : List r.den) (i : Nat) : r.den := xs.getD i r.dflt

/-- Load sz cells; whether as a whole. -/
def loadP (agg : Bool) (sz : Nat) (σ : Sig) : PV → Option PV
  | .ptr k o => match σ[k]? with
    | some (.cells cs) => if o + sz ≤ cs.length then wrapCells agg ((cs.drop o).take sz) else none
    | _ => none
  | .rp k i off g => match σ[k]? with
    | some (.rows r xs g') => if g' = g ∧ off + sz ≤ r.n then wrapCells agg (((r.cells (rdS r xs i)).drop off).take sz) else none
    | _ => none
  | .ep r x off => if off + sz ≤ r.n then wrapCells agg (((r.cells x).drop off).take sz) else none
  | _ => none

/-- A whole array of numbers. -/
def loadArr (k : IntKind) (n : Nat) (σ : Sig) : PV → Option PV
  | .apr k' xs m => if k' = k ∧ m = n ∧ 0 < n then some (.arr k (xs.take n)) else none
  | .apl p i m g => match σ[p]? with
    | some (.rows (.int k') xs g') => if g' = g ∧ k' = k ∧ m = n then some (.arr k ((xs.drop i).take n)) else none
    | _ => none
  | _ => none

def isZeros (k : IntKind) : List Value → Bool
  | [] => true
  | .int k' 0 :: r => decide (k' = k) && isZeros k r
  | _ => false

def pvCells : PV → List PV
  | .agg cs => cs
  | x => [x]
def setCells (cs : List PV) (o : Nat) : List PV → List PV
  | [] => cs
  | x :: r => setCells (cs.set o x) (o + 1) r
/-- What may lie in a cell. -/
def isCell : PV → Bool
  | .v (.agg _) | .v (.tuple _) => false
  | .v _ | .rows .. | .ptr .. | .rp .. | .own .. | .ref .. | .apl .. | .ep .. | .bp .. | .ot .. | .mapc .. => true
  | _ => false

/-- A cell whose value is known to be one. -/
def liveCell (σ : Sig) : PV → Bool
  | .v (.agg _) | .v (.tuple _) => false
  | .v _ => true
  | .rows .. => true
  | .ptr .. => true
  | .rp .. => true
  | .apl .. => true
  | .ep .. => true
  | .bp .. => true
  | .mapc .. => true
  | .ot k g _ => match σ[k]? with
    | some (.rows _ _ g') => decide (g' = g)
    | _ => false
  | .own k g => match σ[k]? with
    | some (.rows _ _ g') => decide (g' = g)
    | _ => false
  | .ref k _ _ g => match σ[k]? with
    | some (.rows _ _ g') => decide (g' = g)
    | _ => false
  | _ => false

def storeP (σ : Sig) (a x : PV) : Option Sig := match a with
  | .ptr k o => match σ[k]? with
    | some (.cells cs) => if o + (pvCells x).length ≤ cs.length then some (σ.set k (.cells (setCells cs o (pvCells x)))) else none
    | _ => none
  | .rp k i off g => match σ[k]? with
    | some (.rows r xs g') => if g' = g ∧ off + (pvCells x).length ≤ r.n then
        match r.parse (setCells (r.cells (rdS r xs i)) off (pvCells x)) with
        | some (y, []) => some (σ.set k (.rows r (xs.set i y) g'))
        | _ => none
      else none
    | _ => none
  | _ => none

def asI : PV → Option Int
  | .v (.int _ n) => some n
  | _ => none

/-- Shifts; texts in order. -/
def shlI (k : IntKind) (a b : Int) : Int := k.wrap (a * 2 ^ (min b.toNat k.bits))
def shrI (k : IntKind) (a b : Int) : Int := a.fdiv (2 ^ (min b.toNat k.bits))
def sltB (a b : ByteArray) : Bool := Op.bytesLess a.toList b.toList
def kInt (k k' : IntKind) (n : Int) : Option (Bool × Value) := if k = k' then some (true, .int k n) else none
def kBool (k k' : IntKind) (b : Bool) : Option (Bool × Value) := if k = k' then some (true, .bool b) else none
/-! floats, by their bits -/
def fAr (op : BinOp) (x y : Nat) : Nat := (floatBits op .f64 x y).getD 0
def fArOk (op : BinOp) (x y : Nat) : Bool := (floatBits op .f64 x y).isSome
def fEq (x y : Nat) : Bool := FloatKind.f64.format.order x y == some .eq
def fLt (x y : Nat) : Bool := FloatKind.f64.format.order x y == some .lt
def fGt (x y : Nat) : Bool := FloatKind.f64.format.order x y == some .gt
def fToI (k : IntKind) (x : Nat) : Int := (floatToIntVal .f64 x k).getD 0
def fToOk (k : IntKind) (x : Nat) : Bool := (floatToIntVal .f64 x k).isSome
def fOfI (n : Int) : Nat := floatOfInt .f64 n
def fNeg (x : Nat) : Nat := Op.negFloat .f64 x
def fSq (x : Nat) : Nat := (FloatKind.f64.format.sqrt x).getD 0
def fSqOk (x : Nat) : Bool := (FloatKind.f64.format.sqrt x).isSome
def fBin (op : BinOp) (a b : Nat) : Option (Bool × Value) := match op with
  | .add => some (fArOk .add a b, .float .f64 (fAr .add a b))
  | .sub => some (fArOk .sub a b, .float .f64 (fAr .sub a b))
  | .mul => some (fArOk .mul a b, .float .f64 (fAr .mul a b))
  | .quo => some (fArOk .quo a b, .float .f64 (fAr .quo a b))
  | .eql => some (true, .bool (fEq a b))
  | .neq => some (true, .bool (!fEq a b))
  | .lss => some (true, .bool (fLt a b))
  | .leq => some (true, .bool (fLt a b || fEq a b))
  | .gtr => some (true, .bool (fGt a b))
  | .geq => some (true, .bool (fGt a b || fEq a b))
  | _ => none
/-- A number's bits as a float's; put so that the kernel leaves it as it stands. -/
theorem fB_ex (n : Int) : ∃ m : Nat, m = n.toNat := ⟨_, rfl⟩
def fB (n : Int) : Nat := Classical.choose (fB_ex n)
theorem fB_eq (n : Int) : fB n = n.toNat := Classical.choose_spec (fB_ex n)
/-- Where a byte is first. -/
def ixB (s : ByteArray) (c : Int) : Int := firstIdx s c.toNat.toUInt8
/-- Functions without a body that look at their arguments alone. -/
def forS (n : String) (ps : List PV) : Option (Bool × PV) := match ps with
  | [.v (.float .f64 x)] => bif n == "math.Float64bits" then some (true, .v (.int .u64 x)) else bif n == "math.sqrt" then some (fSqOk x, .v (.float .f64 (fSq x))) else none
  | [.v (.string s), .v (.int .u8 c)] => bif n == "internal/bytealg.IndexByteString" then some (true, .v (.int .i64 (ixB s c))) else none
  | [.ptr k o] => bif n == "internal/abi.NoEscape" then some (true, .ptr k o) else none
  | [.v (.int .u64 x)] => bif n == "math.Float64frombits" then some (true, .v (.float .f64 (fB x))) else none
  | _ => none
def oFor (P : Program) (g : FuncId) (ps : List PV) : Option (Bool × PV) := match P.funcs[g]? with
  | some fn => bif fn.body.isNone && (fn.origin == "" || fn.origin == fn.name) then forS fn.name ps else none
  | none => none
def binS (P : Program) (op : BinOp) (t : TypeId) (xo yo : Operand) (x y : Value) : Option (Bool × Value) :=
  match op, x, y with
  | .quo, .int k a, .int k' b => if k = k' then some (b != 0, .int k (k.wrap (a.tdiv b))) else none
  | .rem, .int k a, .int k' b => if k = k' then some (b != 0, .int k (a.tmod b)) else none
  | .shl, .int k a, .int _ b => some (decide (0 ≤ b), .int k (shlI k a b))
  | .shr, .int k a, .int _ b => some (decide (0 ≤ b), .int k (shrI k a b))
  | .add, .string a, .string b => some (decide (a.size + b.size ≤ 9223372036854775807), .string (a ++ b))
  | .eql, .string a, .string b => some (true, .bool (decide (a = b)))
  | .neq, .string a, .string b => some (true, .bool (!decide (a = b)))
  | .lss, .string a, .string b => some (true, .bool (sltB a b))
  | .leq, .string a, .string b => some (true, .bool (sltB a b || decide (a = b)))
  | .gtr, .string a, .string b => some (true, .bool (!(sltB a b || decide (a = b))))
  | .geq, .string a, .string b => some (true, .bool (!sltB a b))
  | .add, .int k a, .int k' b => kInt k k' (k.wrap (a + b))
  | .sub, .int k a, .int k' b => kInt k k' (k.wrap (a - b))
  | .mul, .int k a, .int k' b => kInt k k' (k.wrap (a * b))
  | .and, .int k a, .int k' b => kInt k k' (bits .and k a b)
  | .or, .int k a, .int k' b => kInt k k' (bits .or k a b)
  | .xor, .int k a, .int k' b => kInt k k' (bits .xor k a b)
  | .andNot, .int k a, .int k' b => kInt k k' (bits .andNot k a b)
  | .eql, .int k a, .int k' b => kBool k k' (decide (a = b))
  | .neq, .int k a, .int k' b => kBool k k' (!decide (a = b))
  | .lss, .int k a, .int k' b => kBool k k' (decide (a < b))
  | .leq, .int k a, .int k' b => kBool k k' (decide (a ≤ b))
  | .gtr, .int k a, .int k' b => kBool k k' (decide (b < a))
  | .geq, .int k a, .int k' b => kBool k k' (decide (b ≤ a))
  | op, .float .f64 a, .float .f64 b => fBin op a b
  | op, x, y => match Sem.val P (do eqGuard op t xo yo x y; binOp op t x y) with
    | some r => some (true, r)
    | none => none

def partOf (P : Program) (t : TypeId) (cs : List PV) (off : Nat) : Option PV := match P.underlying t with
  | some _ => if off + szOf P t ≤ cs.length then wrapCells (isAggT P t) ((cs.drop off).take (szOf P t)) else none
  | none => none

/-- Parts laid into cells: place, size, part. -/
def fillP (σ : Sig) : List PV → List (Nat × Nat × PV) → Option (List PV)
  | cs, [] => some cs
  | cs, (o, s, p) :: r => if (pvCells p).length = s ∧ o + s ≤ cs.length ∧ (pvCells p).all (liveCell σ) = true then fillP σ (setCells cs o (pvCells p)) r else none

def zeroCellsP (z : Value) : List PV := match z with
  | .agg cs => cs.toList.map .v
  | x => [.v x]

def newCells (σ : Sig) (cs : List PV) : Tri := ⟨true, .ptr σ.length 0, σ ++ [.cells cs]⟩
def newArr (σ : Sig) (k : IntKind) (n : Nat) (l : List Int) (c : Bool) : Tri := ⟨c, .apl σ.length 0 n 0, σ ++ [.rows (.int k) l 0]⟩

def fieldsOf (P : Program) (t : TypeId) : List Field := match P.underlying t with
  | some (.struct fs) => fs.toList
  | _ => []

def boolV (b : Bool) : PV := .v (.bool b)
def intV (n : Int) : PV := .v (.int .i64 n)

def cut {α : Type} (l : List α) (i j : Int) : List α := (l.take j.toNat).drop i.toNat

def rowOf (σ : Sig) : PV → Option ((r : Sh) × List r.den)
  | .rows _ r xs => some ⟨r, xs⟩
  | .own k g => match σ[k]? with
    | some (.rows r xs g') => if g' = g then some ⟨r, xs⟩ else none
    | _ => none
  | .ref k i n g => match σ[k]? with
    | some (.rows r xs g') => if g' = g then some ⟨r, (xs.drop i).take n⟩ else none
    | _ => none
  | _ => none

def bytesL (s : ByteArray) : List Int := s.data.toList.map fun b => (b.toNat : Int)
def strL (l : List Int) : ByteArray := ⟨(l.map fun n => UInt8.ofNat n.toNat).toArray⟩

/-- The most elements that a row is let grow to. -/
def most : Nat := 68719476736

def oNil (p : PV) (σ : Sig) : Option Tri := match p with
  | .ptr k o => some ⟨true, .ptr k o, σ⟩
  | .rp k i o g => some ⟨true, .rp k i o g, σ⟩
  | .apl k i n g => some ⟨true, .apl k i n g, σ⟩
  | .ep r x o => some ⟨true, .ep r x o, σ⟩
  | .fn g c => some ⟨true, .fn g c, σ⟩
  | _ => none

def oFieldAddr (P : Program) (s : TypeId) (p : PV) (i : Nat) (σ : Sig) : Option Tri := match (fieldsOf P s)[i]? with
  | some fd => if szOf P fd.type = 0 then none else match p with
    | .ptr k o => some ⟨true, .ptr k (o + fd.offset), σ⟩
    | .rp k i o g => some ⟨true, .rp k i (o + fd.offset) g, σ⟩
    | .ep r x o => some ⟨true, .ep r x (o + fd.offset), σ⟩
    | .apl k i n g => match σ[k]? with
      | some (.rows (.int _) _ g') => if g' = g ∧ fd.offset + szOf P fd.type ≤ n then some ⟨true, .apl k (i + fd.offset) (szOf P fd.type) g, σ⟩ else none
      | _ => none
    | _ => none
  | none => none

def oField (P : Program) (t : TypeId) (p : PV) (i : Nat) (σ : Sig) : Option Tri := match (fieldsOf P t)[i]? with
  | some fd => match p with
    | .agg cs => match partOf P fd.type cs fd.offset with
      | some p => some ⟨true, p, σ⟩
      | none => none
    | _ => none
  | none => none

def oLoad (P : Program) (t : TypeId) (p : PV) (σ : Sig) : Option Tri := match P.underlying t with
  | some (.array n e) => match P.underlying e with
    | some (.int k) => if szOf P t = n then match loadArr k n σ p with
      | some q => some ⟨true, q, σ⟩
      | none => none else none
    | _ => none
  | some _ => match loadP (isAggT P t) (szOf P t) σ p with
    | some q => some ⟨true, q, σ⟩
    | none => none
  | none => none

/-- What is laid into a builder: its own pointer stays one. -/
def oStoreB (t : TypeId) (n : Nat) (a x : PV) (σ : Sig) : Option Sig := match a with
  | .ptr k 0 => match σ[k]? with
    | some (.cells [.bp _ k' e e2, y]) => if k' = k then (match x with
      | .ptr k2 0 => if k2 = k ∧ n = 1 then some (σ.set k (.cells [.bp true k e e2, y])) else none
      | .agg [.v (.pointer none), z] => if n = 2 ∧ liveCell σ z = true then some (σ.set k (.cells [.bp false k e e2, z])) else none
      | _ => none) else none
    | _ => none
  | _ => none
def oStore0 (P : Program) (t : TypeId) (a x : PV) (σ : Sig) : Option Tri := match x with
  | .arr k l => match a, P.underlying t with
    | .apl p 0 n g, some (.array m _) => match σ[p]? with
      | some (.rows (.int k') xs g') => if g' = g ∧ k' = k ∧ n = m ∧ szOf P t = m ∧ m ≠ 0 then some ⟨decide (xs.length = m) && decide (l.length = m), .dead, σ.set p (.rows (.int k') l g')⟩ else none
      | _ => none
    | _, _ => none
  | x => if (pvCells x).length = szOf P t ∧ szOf P t ≠ 0 ∧ (pvCells x).all (liveCell σ) = true then match storeP σ a x with
    | some σ' => some ⟨true, .dead, σ'⟩
    | none => none
  else none
def oStore (P : Program) (t : TypeId) (a x : PV) (σ : Sig) : Option Tri := match oStoreB t (szOf P t) a x σ with
  | some σ' => some ⟨true, .dead, σ'⟩
  | none => oStore0 P t a x σ

def arrK (P : Program) (t : TypeId) : Option IntKind := match P.underlying t with
  | some (.array _ e) => match P.underlying e with
    | some (.int k) => some k
    | _ => none
  | _ => none
/-- A struct of nothing but arrays of one kind of numbers. -/
def uniK (P : Program) : List Field → Option IntKind
  | [] => none
  | [f] => arrK P f.type
  | f :: r => match arrK P f.type, uniK P r with
    | some k, some k' => if k = k' then some k else none
    | _, _ => none
/-- A struct of a pointer to such a one and of bytes: the type of a byte. -/
def bldOf (P : Program) (t : TypeId) : Option TypeId := match P.underlying t with
  | some (.struct fs) => match fs.toList with
    | [f0, f1] => match P.underlying f0.type, P.underlying f1.type with
      | some (.pointer u), some (.slice e) => match P.underlying e with
        | some (.int .u8) => if u = t ∧ szOf P e = 1 then some e else none
        | _ => none
      | _, _ => none
    | _ => none
  | _ => none
def tagB (P : Program) (t : TypeId) (k : Nat) (cs : List PV) : List PV := match bldOf P t with
  | some e => match cs with
    | [.v (.pointer none), y] => [.bp false k t e, y]
    | cs => cs
  | none => cs
def oAlloc (P : Program) (t : TypeId) (σ : Sig) : Option Tri := match zeroOf P t with
  | some z => match P.underlying t with
    | some (.array n e) => match P.underlying e, z with
      | some (.int k), .agg zs => if isZeros k zs.toList ∧ zs.size = n then some (newArr σ k n (List.replicate n (0 : Int)) true) else none
      | _, _ => none
    | some (.struct fs) => match uniK P fs.toList with
      | some k => match z with
        | .agg zs => if isZeros k zs.toList then some (newArr σ k zs.size (List.replicate zs.size (0 : Int)) true) else none
        | _ => none
      | none => some (newCells σ (tagB P t σ.length (zeroCellsP z)))
    | some _ => some (newCells σ (zeroCellsP z))
    | none => none
  | none => none

def partsOf (P : Program) (fs : Array Field) : List (Nat × PV) → Option (List (Nat × Nat × PV))
  | [] => some []
  | (i, p) :: r => match fs[i]? with
    | some fd => match partsOf P fs r with
      | some l => some ((fd.offset, szOf P fd.type, p) :: l)
      | none => none
    | none => none

def oBuild (P : Program) (t : TypeId) (parts : List (Nat × PV)) (σ : Sig) : Option Tri := match zeroOf P t with
  | some (.agg z) => match P.underlying t with
    | some (.struct fs) => if fs.toList.all (fun fd => (P.info? fd.type).isSome) = true then match partsOf P fs parts with
      | some l => match fillP σ (z.toList.map .v) l with
        | some cs => some ⟨true, .agg cs, σ⟩
        | none => none
      | none => none else none
    | _ => none
  | _ => none
/-- The numbers of some cells. -/
def numsOf (k : IntKind) : List PV → Option (List Int)
  | [] => some []
  | .v (.int k' n) :: r => if k' = k then (match numsOf k r with
    | some l => some (n :: l)
    | none => none) else none
  | _ => none
def oBuildArr (P : Program) (t : TypeId) (parts : List (Nat × PV)) (σ : Sig) : Option Tri := match zeroOf P t with
  | some (.agg z) => match P.underlying t with
    | some (.array _ e) => match P.underlying e with
      | some (.int k) => if szOf P e = 1 then match fillP σ (z.toList.map .v) (parts.map fun p => (p.1 * 1, 1, p.2)) with
        | some cs => match numsOf k cs with
          | some l => some ⟨true, .arr k l, σ⟩
          | none => none
        | none => none else none
      | _ => none
    | _ => none
  | _ => none
/-- The kind of numbers of a struct of arrays alone. -/
def uniT (P : Program) (t : TypeId) : Option IntKind := match P.underlying t with
  | some (.struct fs) => uniK P fs.toList
  | _ => none
def oBox (P : Program) (t : TypeId) (x : PV) (σ : Sig) : Option Tri := match x with
  | .arr k l => match P.underlying t with
    | some (.array n _) => some (newArr σ k n l (decide (l.length = n)))
    | _ => none
  | x => match uniT P t with
    | some k => match x with
      | .agg cs => match numsOf k cs with
        | some l => some (newArr σ k l.length l true)
        | none => none
      | _ => none
    | none => if (pvCells x).all (liveCell σ) = true then some (newCells σ (pvCells x)) else none

def isArrT (P : Program) (t : TypeId) : Bool := match P.underlying t with
  | some (.array _ _) => true
  | _ => false

def oIndexAddr (P : Program) (t : TypeId) (p q : PV) (σ : Sig) : Option Tri := match asI q with
  | some n => match P.underlying t with
    | some (.slice e) => match p with
      | .rows _ r xs => if elOk P e r = true then some ⟨decide (0 ≤ n) && decide (n < xs.length), .ep r (rdS r xs n.toNat) 0, σ⟩ else none
      | .own k g => match σ[k]? with
        | some (.rows r xs g') => if g' = g ∧ elOk P e r = true then some ⟨decide (0 ≤ n) && decide (n < xs.length), .rp k n.toNat 0 g, σ⟩ else none
        | _ => none
      | .ref k i m g => match σ[k]? with
        | some (.rows r xs g') => if g' = g ∧ elOk P e r = true then some ⟨decide (0 ≤ n) && decide (n < m), .rp k (i + n.toNat) 0 g, σ⟩ else none
        | _ => none
      | _ => none
    | some (.array m e) => match p with
      | .apl k i m' g => match σ[k]? with
        | some (.rows r xs g') => if g' = g ∧ elOk P e r = true ∧ m' = m ∧ 1 < m then some ⟨decide (0 ≤ n) && decide (n < m), .rp k (i + n.toNat) 0 g, σ⟩ else none
        | _ => none
      | _ => none
    | _ => none
  | none => none

def oIndex (P : Program) (t : TypeId) (p q : PV) (σ : Sig) : Option Tri := match asI q with
  | some n => match p, P.underlying t with
    | .v (.string s), some .string => some ⟨decide (0 ≤ n) && decide (n < s.size), .v (.int .u8 ((bytesL s).getD n.toNat 0)), σ⟩
    | .arr k l, some (.array m e) => match P.underlying e with
      | some (.int _) => if szOf P e = 1 then some ⟨decide (0 ≤ n) && (decide (n < m) && decide (n < l.length)), .v (.int k (l.getD n.toNat 0)), σ⟩ else none
      | _ => none
    | _, _ => none
  | none => none

def lowOf : Option PV → Option Int
  | none => some 0
  | some x => asI x
def highOf (d : Int) : Option PV → Option Int
  | none => some d
  | some x => asI x

def oSliceNil (P : Program) (e : TypeId) (x : Value) (a b : Option Int) (σ : Sig) : Option Tri := match P.info? e, a, b, x with
  | some _, some a, some b, .slice none 0 0 => some ⟨decide (a = 0) && decide (b = 0), .v (.slice none 0 0), σ⟩
  | _, _, _, _ => none
def oSlice (P : Program) (t : TypeId) (p : PV) (lo hi : Option PV) (σ : Sig) : Option Tri := match P.underlying t with
  | some .string => match p with
    | .v (.string s) => match lowOf lo, highOf s.size hi with
      | some a, some b => some ⟨decide (0 ≤ a) && (decide (a ≤ b) && decide (b ≤ s.size)), .v (.string (s.extract a.toNat b.toNat)), σ⟩
      | _, _ => none
    | _ => none
  | some (.slice e) => match p with
    | .rows _ r xs => match lowOf lo, highOf xs.length hi with
      | some a, some b => if elOk P e r = true then some ⟨decide (0 ≤ a) && (decide (a ≤ b) && decide (b ≤ xs.length)), .rows false r (cut xs a b), σ⟩ else none
      | _, _ => none
    | .own k g => match σ[k]? with
      | some (.rows r xs g') => match lowOf lo, highOf xs.length hi with
        | some a, some b => if g' = g ∧ elOk P e r = true then some ⟨decide (0 ≤ a) && (decide (a ≤ b) && decide (b ≤ xs.length)), .ref k a.toNat (b.toNat - a.toNat) g, σ⟩ else none
        | _, _ => none
      | _ => none
    | .ref k i n g => match σ[k]? with
      | some (.rows r xs g') => match lowOf lo, highOf n hi with
        | some a, some b => if g' = g ∧ elOk P e r = true then some ⟨decide (0 ≤ a) && (decide (a ≤ b) && decide (b ≤ n)), .ref k (i + a.toNat) (b.toNat - a.toNat) g, σ⟩ else none
        | _, _ => none
      | _ => none
    | .v x => oSliceNil P e x (lowOf lo) (highOf 0 hi) σ
    | _ => none
  | some (.array m e) => match p with
    | .apl k i m' g => match σ[k]? with
      | some (.rows r xs g') => match lowOf lo, highOf m hi with
        | some a, some b => if g' = g ∧ elOk P e r = true ∧ m' = m then some ⟨decide (0 ≤ a) && (decide (a ≤ b) && decide (b ≤ m)), .ref k (i + a.toNat) (b.toNat - a.toNat) g, σ⟩ else none
        | _, _ => none
      | _ => none
    | _ => none
  | _ => none

def isZeroC : Operand → Bool
  | .const (.int _ 0) => true
  | _ => false
def oSlice3 (P : Program) (t : TypeId) (z : Bool) (p : PV) (lo : Option PV) (hi mx : PV) (σ : Sig) : Option Tri := match P.underlying t with
  | some (.slice e) => match lowOf lo, asI hi, asI mx with
    | some a, some b, some m => match z with
      | true => match p with
        | .v (.slice none 0 0) => match P.info? e with
          | some _ => some ⟨decide (a = 0) && (decide (b = 0) && decide (m = 0)), .v (.slice none 0 0), σ⟩
          | none => none
        | p => match rowOf σ p with
          | some ⟨r, xs⟩ => if elOk P e r = true then some ⟨decide (a = 0) && (decide (b = 0) && decide (m = 0)), .rows true r [], σ⟩ else none
          | none => none
      | false => match p with
        | .rows _ r xs => if elOk P e r = true then some ⟨decide (0 ≤ a) && (decide (a ≤ b) && (decide (b = m) && decide (m ≤ xs.length))), .rows true r (cut xs a b), σ⟩ else none
        | .own k g => match σ[k]? with
          | some (.rows r xs g') => if g' = g ∧ elOk P e r = true then some ⟨decide (0 ≤ a) && (decide (a ≤ b) && (decide (b = m) && decide (m ≤ xs.length))), .ref k a.toNat (b.toNat - a.toNat) g, σ⟩ else none
          | _ => none
        | _ => none
    | _, _, _ => none
  | _ => none

def oExtract (p : PV) (i : Nat) (σ : Sig) : Option Tri := match p with
  | .tup vs => match vs[i]? with
    | some p => some ⟨true, p, σ⟩
    | none => none
  | _ => none

def oArrayAt (P : Program) (t : TypeId) (p : PV) (σ : Sig) : Option Tri := match P.underlying t with
  | some (.array n e) => match p with
    | .rows _ (.int k) xs => some ⟨decide (n ≤ xs.length), .apr k xs n, σ⟩
    | .own k g => match σ[k]? with
      | some (.rows r xs g') => if g' = g then some ⟨decide (0 < n) && decide (n ≤ xs.length), .apl k 0 n g, σ⟩ else none
      | _ => none
    | .ref k i m g => match σ[k]? with
      | some (.rows r xs g') => if g' = g then some ⟨decide (0 < n) && decide (n ≤ m), .apl k i n g, σ⟩ else none
      | _ => none
    | _ => none
  | _ => none

def oConvert0 (P : Program) (s d : TypeId) (p : PV) (σ : Sig) : Option Tri := match p with
  | .v (.string b) => match P.underlying d with
    | some (.slice e) => match P.underlying e with
      | some (.int .u8) => some ⟨true, .own σ.length 0, σ ++ [.rows (.int .u8) (bytesL b) 0]⟩
      | _ => none
    | some .string => some ⟨true, .v (.string b), σ⟩
    | _ => none
  | .v (.int _ n) => match P.underlying d with
    | some (.int k) => some ⟨true, .v (.int k (k.wrap n)), σ⟩
    | some (.float .f64) => some ⟨true, .v (.float .f64 (fOfI n)), σ⟩
    | _ => none
  | .v (.float .f64 x) => match P.underlying d with
    | some (.int k) => some ⟨fToOk k x, .v (.int k (fToI k x)), σ⟩
    | _ => none
  | .v a => match Sem.val P (convert s d a) with
    | some r => some ⟨true, .v r, σ⟩
    | none => none
  | .ptr k 0 => match σ[k]? with
    | some (.cells [.bp _ k' e _, _]) => if k' = k then (match P.underlying s, P.underlying d with
      | some (.pointer u), some .unsafePointer => if szOf P u ≠ 0 then some ⟨true, .ptr k 0, σ⟩ else none
      | some .unsafePointer, some (.pointer u) => if szOf P u ≠ 0 ∧ liesAt P P.depth e (2 / P.cellsOf e) 0 u 1 = true then some ⟨true, .ptr k 0, σ⟩ else none
      | _, _ => none) else none
    | _ => none
  | p => match P.underlying s, P.underlying d with
    | some (.slice e), some .string => match P.underlying e with
      | some (.int .u8) => match rowOf σ p with
        | some ⟨.int .u8, xs⟩ => some ⟨true, .v (.string (strL xs)), σ⟩
        | _ => none
      | _ => none
    | _, _ => none

def oConvert (P : Program) (s d : TypeId) (p : PV) (σ : Sig) : Option Tri := match P.underlying s with
  | some _ => oConvert0 P s d p σ
  | none => none

/-- Below 2^36. -/
def smallI (n : Int) : Bool := match n with
  | .ofNat m => Nat.blt m 68719476736
  | .negSucc _ => true
theorem smallI_lt {n : Int} (h : smallI n = true) : n < 68719476736 := by
  cases n with
  | ofNat m =>
    have h : Nat.blt m 68719476736 = true := h
    have : m < 68719476736 := by simpa [Nat.blt_eq] using h
    show (m : Int) < 68719476736
    omega
  | negSucc m => exact Int.lt_of_lt_of_le (Int.negSucc_lt_zero m) (by decide)
/-- Rows of nothing but zero values that are not numbers. -/
def oMakeSlice2 (P : Program) (e : TypeId) (n m : Int) (σ : Sig) : Option Tri := match zeroOf P e, P.info? e, shOf P 10 e with
  | some z, some ie, some r => match r.parse (zeroCellsP z) with
    | some (x, []) => if elOk P e r = true ∧ ie.bytes ≤ 1000 then some ⟨decide (0 ≤ n) && (smallI n && decide (n = m)), .own σ.length 0, σ ++ [.rows r (List.replicate n.toNat x) 0]⟩ else none
    | _ => none
  | _, _, _ => none
def oMakeSlice (P : Program) (t : TypeId) (p q : PV) (σ : Sig) : Option Tri := match asI p, asI q with
  | some n, some m => match P.underlying t with
    | some (.slice e) => match P.underlying e, zeroOf P e, P.info? e with
      | some (.int k), some (.int k' 0), some ie => if k' = k ∧ szOf P e = 1 ∧ ie.bytes ≤ 8 then some ⟨decide (0 ≤ n) && (smallI n && decide (n = m)), .own σ.length 0, σ ++ [.rows (.int k) (List.replicate n.toNat (0 : Int)) 0]⟩ else none
      | _, _, _ => oMakeSlice2 P e n m σ
    | _ => none
  | _, _ => none

def parseAll (r : Sh) : Nat → List PV → Option (List r.den)
  | 0, _ => some []
  | n + 1, cs => match r.parse cs with
    | some (x, t) => match parseAll r n t with
      | some l => some (x :: l)
      | none => none
    | none => none

def oBuildSlice (P : Program) (t : TypeId) (n : Nat) (parts : List (Nat × PV)) (σ : Sig) : Option Tri := match P.underlying t with
  | some (.slice e) => match shOf P 10 e, zeroOf P e with
    | some r, some z => if elOk P e r = true ∧ n * szOf P e ≤ 16777216 ∧ (zeroCellsP z).length = szOf P e then match fillP σ ((List.replicate n (zeroCellsP z)).flatten) (parts.map fun p => (p.1 * szOf P e, szOf P e, p.2)) with
      | some cs => match parseAll r n cs with
        | some xs => some ⟨true, .rows true r xs, σ⟩
        | none => none
      | none => none else none
    | _, _ => none
  | _ => none

def eqFs (P : Program) (f : TypeId → List PV → List PV → Option Bool) (ps qs : List PV) : List Field → Option Bool
  | [] => some true
  | [x] => if x.name == "_" then none else (if x.offset + szOf P x.type ≤ ps.length ∧ x.offset + szOf P x.type ≤ qs.length then f x.type ((ps.drop x.offset).take (szOf P x.type)) ((qs.drop x.offset).take (szOf P x.type)) else none)
  | x :: r => if x.name == "_" then none else (if x.offset + szOf P x.type ≤ ps.length ∧ x.offset + szOf P x.type ≤ qs.length then (match f x.type ((ps.drop x.offset).take (szOf P x.type)) ((qs.drop x.offset).take (szOf P x.type)) with
    | some a => match eqFs P f ps qs r with
      | some b => some (a && b)
      | none => none
    | none => none) else none)
/-- Whether two values are the same, by their type. -/
def eqT (P : Program) : Nat → TypeId → List PV → List PV → Option Bool
  | 0, _, _, _ => none
  | d + 1, t, ps, qs => match P.underlying t with
    | some .bool => match ps, qs with
      | [.v (.bool a)], [.v (.bool b)] => some (a == b)
      | _, _ => none
    | some (.int _) => match ps, qs with
      | [.v (.int k a)], [.v (.int k' b)] => if k = k' then some (decide (a = b)) else none
      | _, _ => none
    | some .string => match ps, qs with
      | [.v (.string a)], [.v (.string b)] => some (decide (a = b))
      | _, _ => none
    | some (.struct fs) => if P.stoodInHeld t = false then eqFs P (eqT P d) ps qs fs.toList else none
    | _ => none
def oEq (P : Program) (neg : Bool) (t : TypeId) (ps qs : List PV) (σ : Sig) : Option Tri := if P.eqGuardType P.depth t = false then (match P.underlying t with
  | some (.struct _) => match eqT P 10 t ps qs with
    | some b => some ⟨true, boolV (bif neg then !b else b), σ⟩
    | none => none
  | _ => none) else none
/-- A builder's own pointer beside nothing, or beside the builder. -/
def oBinB (P : Program) (op : BinOp) (t : TypeId) (p q : PV) (σ : Sig) : Option Tri := match op, p, q with
  | .eql, .bp c _ _ _, .v (.pointer none) => (match P.underlying t with
    | some (.pointer _) => some ⟨true, boolV (!c), σ⟩
    | _ => none)
  | .neq, .bp c k _ _, .ptr k2 0 => (match σ[k]?, P.underlying t with
    | some (.cells _), some (.pointer u) => if k2 = k ∧ szOf P u ≠ 0 then some ⟨true, boolV (!c), σ⟩ else none
    | _, _ => none)
  | _, _, _ => none
def oBin (P : Program) (op : BinOp) (t : TypeId) (x y : Operand) (p q : PV) (σ : Sig) : Option Tri := match op, p, q with
  | .eql, .agg ps, .agg qs => oEq P false t ps qs σ
  | .neq, .agg ps, .agg qs => oEq P true t ps qs σ
  | .eql, .rows _ _ (_ :: _), .v (.slice none 0 0) => (match P.underlying t with
    | some (.slice _) => some ⟨true, boolV false, σ⟩
    | _ => none)
  | .neq, .rows _ _ (_ :: _), .v (.slice none 0 0) => (match P.underlying t with
    | some (.slice _) => some ⟨true, boolV true, σ⟩
    | _ => none)
  | _, _, _ => match toV p, toV q with
  | some a, some b => match binS P op t x y a b with
    | some (c, r) => some ⟨c, ofV r, σ⟩
    | none => none
  | _, _ => none

def unS (P : Program) (op : UnOp) (x : Value) : Option Value := match op, x with
  | .neg, .int k n => some (.int k (k.wrap (0 - n)))
  | .xor, .int k n => some (.int k (bits .xor k (if k.signed then -1 else k.max) n))
  | .not, .bool b => some (.bool !b)
  | .neg, .float .f64 x => some (.float .f64 (fNeg x))
  | op, x => Sem.val P (Op.unary op x)
def oUn (P : Program) (op : UnOp) (p : PV) (σ : Sig) : Option Tri := match toV p with
  | some a => match unS P op a with
    | some r => some ⟨true, ofV r, σ⟩
    | none => none
  | _ => none

def oLen (P : Program) (t : TypeId) (p : PV) (σ : Sig) : Option Tri := match P.underlying t with
  | some .string => match p with
    | .v (.string s) => some ⟨true, intV s.size, σ⟩
    | _ => none
  | some (.slice e) => match p with
    | .rows _ r xs => some ⟨true, intV xs.length, σ⟩
    | .own k g => match σ[k]? with
      | some (.rows r xs g') => if g' = g then some ⟨true, intV xs.length, σ⟩ else none
      | _ => none
    | .ref k i n g => match σ[k]? with
      | some (.rows r xs g') => if g' = g then some ⟨true, intV n, σ⟩ else none
      | _ => none
    | .ot k g _ => match σ[k]? with
      | some (.rows r xs g') => if g' = g then some ⟨true, intV xs.length, σ⟩ else none
      | _ => none
    | .v (.slice none 0 0) => some ⟨true, intV 0, σ⟩
    | _ => none
  | some (.array n e) => some ⟨true, intV n, σ⟩
  | _ => none

/-- A row whose elements are wanted; one of nothing is of any kind. -/
def rowQ (P : Program) (e : TypeId) (σ : Sig) (q : PV) : Option ((r : Sh) × List r.den) := match q with
  | .v (.slice _ 0 _) => match shOf P 10 e with
    | some r => some ⟨r, []⟩
    | none => none
  | q => rowOf σ q
def oAppR (r : Sh) (ys : List r.den) (p : PV) (σ : Sig) : Option Tri := match p with
  | .own k g => match σ[k]? with
    | some (.rows r' xs g') => if h : r' = r then (if g' = g then some ⟨decide (xs.length + ys.length < most), .own k (g + 1), σ.set k (.rows r' (xs ++ (h ▸ ys)) (g + 1))⟩ else none) else none
    | _ => none
  | .v (.slice none 0 0) => some ⟨decide (ys.length < most), .own σ.length 0, σ ++ [.rows r ys 0]⟩
  | .rows true r' [] => if r' = r then some ⟨decide (ys.length < most), .own σ.length 0, σ ++ [.rows r ys 0]⟩ else none
  | .rows true r' xs => if h : r' = r then some ⟨decide (0 < ys.length) && decide (xs.length + ys.length < most), .own σ.length 0, σ ++ [.rows r' (xs ++ (h ▸ ys)) 0]⟩ else none
  | _ => none
/-- A text behind bytes. -/
def oAppT (e : TypeId) (ys : List Int) (p : PV) (σ : Sig) : Option Tri := match p with
  | .ot k g e' => if e' = e then (match oAppR (.int .u8) ys (.own k g) σ with
    | some ⟨c, .own k' g', σ'⟩ => some ⟨decide (0 < ys.length) && c, .ot k' g' e, σ'⟩
    | _ => none) else none
  | p => oAppR (.int .u8) ys p σ
def oAppend (P : Program) (t u : TypeId) (p q : PV) (σ : Sig) : Option Tri := match P.underlying t, P.underlying u with
  | some (.slice e), some .string => match q, P.underlying e, P.info? e, zeroOf P e with
    | .v (.string s), some (.int .u8), some ie, some z => if elOk P e (.int .u8) = true ∧ 0 < ie.bytes ∧ ie.bytes ≤ 1000 ∧ (zeroCellsP z).length = 1 then oAppT e (bytesL s) p σ else none
    | _, _, _, _ => none
  | some (.slice e), some (.slice _) => match rowQ P e σ q, P.info? e, zeroOf P e with
    | some ⟨r, ys⟩, some ie, some z => if elOk P e r = true ∧ 0 < ie.bytes ∧ ie.bytes ≤ 1000 ∧ (zeroCellsP z).length = r.n then oAppR r ys p σ else none
    | _, _, _ => none
  | some (.slice e), some (.int _) => match q, shOf P 10 e, P.info? e, zeroOf P e with
    | .v (.int k n), some r, some ie, some z => match r.parse (zeroCellsP z) with
      | some (x, []) => if elOk P e r = true ∧ 0 < ie.bytes ∧ ie.bytes ≤ 1000 ∧ (zeroCellsP z).length = r.n then (match oAppR r (List.replicate n.toNat x) p σ with
        | some tr => some ⟨decide (0 ≤ n) && (decide (n < 1000000000) && tr.ok), tr.pv, tr.σ⟩
        | none => none) else none
      | _ => none
    | _, _, _, _ => none
  | _, _ => none

def mmI (mx : Bool) (a b : Int) : Int := match mx with
  | true => if b > a then b else a
  | false => if b < a then b else a
def mmL (mx : Bool) (k : IntKind) : Int → List PV → Option Int
  | a, [] => some a
  | a, .v (.int _ b) :: r => mmL mx k (mmI mx a b) r
  | _, _ => none
def oMinMax (mx : Bool) (ps : List PV) (σ : Sig) : Option Tri := match ps with
  | .v (.int k a) :: r => match mmL mx k a r with
    | some n => some ⟨true, .v (.int k n), σ⟩
    | none => none
  | _ => none
/-- What is laid over the beginning of others: a row, or a text's bytes. -/
def srcOf (σ : Sig) (q : PV) : Option ((r : Sh) × List r.den) := match q with
  | .v (.string s) => some ⟨.int .u8, bytesL s⟩
  | q => rowOf σ q
def oCopy (P : Program) (t : TypeId) (p q : PV) (σ : Sig) : Option Tri := match P.underlying t with
  | some (.slice e) => match srcOf σ q with
    | some ⟨r, ys⟩ => if elOk P e r = true then match p with
      | .own k g => match σ[k]? with
        | some (.rows r' xs g') => if h : r' = r then (if g' = g then some ⟨true, intV ((min ys.length xs.length : Nat) : Int), σ.set k (.rows r' ((h ▸ ys).take (min ys.length xs.length) ++ xs.drop (min ys.length xs.length)) g')⟩ else none) else none
        | _ => none
      | .ref k i n g => match σ[k]? with
        | some (.rows r' xs g') => if h : r' = r then (if g' = g then some ⟨true, intV ((min ys.length n : Nat) : Int), σ.set k (.rows r' (xs.take i ++ ((h ▸ ys).take (min ys.length n) ++ xs.drop (i + min ys.length n))) g')⟩ else none) else none
        | _ => none
      | _ => none else none
    | none => none
  | _ => none

def oClear (P : Program) (t : TypeId) (p : PV) (σ : Sig) : Option Tri := match P.underlying t with
  | some (.slice e) => match zeroOf P e, shOf P 10 e with
    | some z, some r => match r.parse (zeroCellsP z) with
      | some (x, []) => if elOk P e r = true then (match p with
        | .own k g => match σ[k]? with
          | some (.rows r' xs g') => if h : r' = r then (if g' = g then some ⟨true, .v (.tuple #[]), σ.set k (.rows r' (List.replicate xs.length (h ▸ x)) g')⟩ else none) else none
          | _ => none
        | .ref k i n g => match σ[k]? with
          | some (.rows r' xs g') => if h : r' = r then (if g' = g then some ⟨true, .v (.tuple #[]), σ.set k (.rows r' (xs.take i ++ (List.replicate n (h ▸ x) ++ xs.drop (i + n))) g')⟩ else none) else none
          | _ => none
        | _ => none) else none
      | _ => none
    | _, _ => none
  | _ => none
/-- Where typed bytes begin; the text of them, from where on they are nobody's. -/
def oSliceData (p : PV) (σ : Sig) : Option Tri := match p with
  | .ot k g e => match σ[k]? with
    | some (.rows (.int .u8) xs g') => if g' = g then some ⟨decide (0 < xs.length), .sd k g e, σ⟩ else none
    | _ => none
  | _ => none
def oUString (P : Program) (t : TypeId) (p q : PV) (σ : Sig) : Option Tri := match p, q with
  | .sd k g e, .v (.int .i64 n) => match σ[k]?, P.underlying t with
    | some (.rows (.int .u8) xs g'), some (.pointer e') => if g' = g ∧ e' = e ∧ P.cellsOf e = 1 then some ⟨decide (n = (xs.length : Int)) && (decide (0 < xs.length) && decide (xs.length ≤ 9223372036854775807)), .v (.string (strL xs)), σ.set k .dead⟩ else none
    | _, _ => none
  | _, _ => none
def oCap (P : Program) (t : TypeId) (p : PV) (σ : Sig) : Option Tri := match P.underlying t, p with
  | some (.slice _), .v (.slice none 0 0) => some ⟨true, intV 0, σ⟩
  | _, _ => none
def oBuiltin (P : Program) (b : Builtin) (ts : List TypeId) (ps : List PV) (σ : Sig) : Option Tri := match b, ts, ps with
  | .len, t :: _, [p] => oLen P t p σ
  | .append, t :: u :: _, [p, q] => oAppend P t u p q σ
  | .min, _, ps => oMinMax false ps σ
  | .max, _, ps => oMinMax true ps σ
  | .copy, t :: _, [p, q] => oCopy P t p q σ
  | .clear, t :: _, [p] => oClear P t p σ
  | .unsafeSliceData, _, [p] => oSliceData p σ
  | .unsafeString, [t, _], [p, q] => oUString P t p q σ
  | .cap, t :: _, [p] => oCap P t p σ
  | _, _, _ => none

/-! maps that stay -/
def findM {α : Type} (n : Int) : List (Int × α) → Option α
  | [] => none
  | x :: r => bif decide (x.1 = n) then some x.2 else findM n r
def hasM {α : Type} (n : Int) (xs : List (Int × α)) : Bool := (findM n xs).isSome
def getM {α : Type} (z : α) (n : Int) (xs : List (Int × α)) : α := (findM n xs).getD z
def zOk (ag : Bool) (z : Value) : Bool := match z with
  | .agg _ => ag
  | _ => !ag
def oLookup (P : Program) (t : TypeId) (p q : PV) (c : Bool) (σ : Sig) : Option Tri := match P.underlying t with
  | some (.map kt et) => match P.underlying kt, p, q with
    | some (.int kk), .mapc kk' ag r xs, .v (.int k n) => if kk' = kk ∧ k = kk then (match zeroOf P et with
      | some z => match r.parse (zeroCellsP z) with
        | some (x0, []) => if zOk ag z = true then (match wrapCells ag (r.cells (getM x0 n xs)) with
          | some v => some ⟨(Lit.int kk n).wf, bif c then .tup [v, boolV (hasM n xs)] else v, σ⟩
          | none => none) else none
        | _ => none
      | none => none) else none
    | _, _, _ => none
  | _ => none

def partsE (f : Fr) (l : List (Nat × Operand)) : List (Nat × PV) := l.map fun p => (p.1, ev f p.2)

def stp (P : Program) (f : Fr) (σ : Sig) (o : Oper) : Option Tri :=
  match o.op with
  | .move x => some ⟨true, ev f x, σ⟩
  | .assign x => some ⟨true, ev f x, σ⟩
  | .nilCheck x => oNil (ev f x) σ
  | .fieldAddr s x i => oFieldAddr P s (ev f x) i σ
  | .field t x i => oField P t (ev f x) i σ
  | .load t a => oLoad P t (ev f a) σ
  | .store t a x => oStore P t (ev f a) (ev f x) σ
  | .alloc t => oAlloc P t σ
  | .box t x => oBox P t (ev f x) σ
  | .build t parts => bif isArrT P t then oBuildArr P t (partsE f parts.toList) σ else oBuild P t (partsE f parts.toList) σ
  | .indexAddr t x i => oIndexAddr P t (ev f x) (ev f i) σ
  | .index t x i => oIndex P t (ev f x) (ev f i) σ
  | .lookup t x i c => oLookup P t (ev f x) (ev f i) c σ
  | .slice t x lo hi none => oSlice P t (ev f x) (lo.map (ev f)) (hi.map (ev f)) σ
  | .slice t x lo (some hi) (some mx) => oSlice3 P t (isZeroC hi && isZeroC mx) (ev f x) (lo.map (ev f)) (ev f hi) (ev f mx) σ
  | .extract t i => oExtract (ev f t) i σ
  | .makeFunc (.func g) first captured => if first.size = 0 ∧ (evs f captured.toList).all isCell = true then some ⟨true, .fn g (evs f captured.toList), σ⟩ else none
  | .sliceToArrayPointer t x => oArrayAt P t (ev f x) σ
  | .convert s d x => oConvert P s d (ev f x) σ
  | .makeSlice t l c => oMakeSlice P t (ev f l) (ev f c) σ
  | .buildSlice t n parts => oBuildSlice P t n (partsE f parts.toList) σ
  | .binOp op t x y _ => match ev f x with
    | .bp c k e e2 => oBinB P op t (.bp c k e e2) (ev f y) σ
    | p => oBin P op t x y p (ev f y) σ
  | .unOp op t x => oUn P op (ev f x) σ
  | .call { callee := .builtin b, args := args, argTypes := ts } => oBuiltin P b ts.toList (evs f args.toList) σ
  | _ => none

end Go.Proofs.YthkjjombaoffcaaGreatDoorPM

/- How what is reckoned stands to a world: what stays, places, and what a step may turn. -/
set_option linter.unusedVariables false
set_option linter.unusedSectionVars false
set_option linter.unusedSimpArgs false
noncomputable section
namespace Go.Proofs.YthkjjombaoffcaaGreatDoorPM
open Go Go.RowKit

abbrev Pb := List (Option Nat)
/-- Blocks that are others' places: nobody here looks at them or turns them. -/
class Foreign where
  X : Nat → Prop
variable [Foreign]
/-- A block that nobody turns any more. -/
def Im (pb : Pb) (w : World) (b : Nat) : Prop := b < w.heap.size ∧ some b ∉ pb ∧ ¬ Foreign.X b

def RowsR (pb : Pb) (w : World) (n : Nat) {α : Type} (E : α → List Value → Prop) (xs : List α) (a : Option Addr) : Prop :=
  ∀ i (h : i < xs.length), ∃ b o vs, a = some ⟨b, o, none⟩ ∧ Im pb w b ∧ vs.length = n ∧ (∀ j, j < n → w.cell? ⟨b, o + i * n + j, none⟩ = vs[j]?) ∧ E xs[i] vs
def ER (pb : Pb) (w : World) : (r : Sh) → r.den → List Value → Prop
  | .int k, n, vs => vs = [.int k n]
  | .bool, b, vs => vs = [.bool b]
  | .str, s, vs => vs = [.string s]
  | .flt, x, vs => vs = [.float .f64 x]
  | .rows r, xs, vs => ∃ a cap, vs = [.slice a xs.length cap] ∧ xs.length ≤ cap ∧ RowsR pb w r.n (ER pb w r) xs a
  | .pair a b, x, vs => ∃ u v, vs = u ++ v ∧ ER pb w a x.1 u ∧ ER pb w b x.2 v
  | .unit, _, vs => vs = []

theorem ER.len {pb : Pb} {w : World} : ∀ {r : Sh} {x : r.den} {vs : List Value}, ER pb w r x vs → vs.length = r.n := by
  intro r
  induction r with
  | int k => intro x vs h; simp only [ER] at h; rw [h]; rfl
  | bool => intro x vs h; simp only [ER] at h; rw [h]; rfl
  | str => intro x vs h; simp only [ER] at h; rw [h]; rfl
  | flt => intro x vs h; simp only [ER] at h; rw [h]; rfl
  | rows r _ => intro x vs h; obtain ⟨a, c, h, _⟩ := h; rw [h]; rfl
  | pair a b iha ihb => intro x vs h; obtain ⟨u, v, rfl, hu, hv⟩ := h; simp [iha hu, ihb hv, Sh.n]
  | unit => intro x vs h; simp only [ER] at h; rw [h]; rfl

/-- From here on what stayed stays, and reads as it did. -/
def Keeps (pb : Pb) (w : World) (pb' : Pb) (w' : World) : Prop := (∀ b, Im pb w b → Im pb' w' b ∧ w'.heap[b]? = w.heap[b]?) ∧ ∀ b, Foreign.X b → w'.heap[b]? = w.heap[b]?
theorem Keeps.refl (pb : Pb) (w : World) : Keeps pb w pb w := ⟨fun b h => ⟨h, rfl⟩, fun _ _ => rfl⟩
theorem Keeps.trans {pb pb' pb'' : Pb} {w w' w'' : World} (h : Keeps pb w pb' w') (k : Keeps pb' w' pb'' w'') : Keeps pb w pb'' w'' :=
  ⟨fun b hb => ⟨(k.1 b (h.1 b hb).1).1, (k.1 b (h.1 b hb).1).2.trans (h.1 b hb).2⟩, fun b hb => (k.2 b hb).trans (h.2 b hb)⟩
theorem Keeps.cell {pb pb' : Pb} {w w' : World} (h : Keeps pb w pb' w') {b : Nat} (hb : Im pb w b) (o : Nat) : w'.cell? ⟨b, o, none⟩ = w.cell? ⟨b, o, none⟩ :=
  World.cell?_of_block (h.1 b hb).2

theorem RowsR.mono {pb pb' : Pb} {w w' : World} (k : Keeps pb w pb' w') {n : Nat} {α : Type} {E E' : α → List Value → Prop} (hE : ∀ x vs, E x vs → E' x vs) {xs : List α} {a : Option Addr}
    (h : RowsR pb w n E xs a) : RowsR pb' w' n E' xs a := by
  intro i hi
  obtain ⟨b, o, vs, ha, hb, hl, hc, he⟩ := h i hi
  exact ⟨b, o, vs, ha, (k.1 b hb).1, hl, fun j hj => by rw [k.cell hb]; exact hc j hj, hE _ _ he⟩
theorem ER.mono {pb pb' : Pb} {w w' : World} (k : Keeps pb w pb' w') : ∀ {r : Sh} {x : r.den} {vs : List Value}, ER pb w r x vs → ER pb' w' r x vs := by
  intro r
  induction r with
  | int _ => exact fun h => h
  | bool => exact fun h => h
  | str => exact fun h => h
  | flt => exact fun h => h
  | unit => exact fun h => h
  | rows r ih => rintro x vs ⟨a, c, h, hl, hr⟩; exact ⟨a, c, h, hl, hr.mono k fun _ _ => ih⟩
  | pair a b iha ihb => rintro x vs ⟨u, v, h, hu, hv⟩; exact ⟨u, v, h, iha hu, ihb hv⟩

/-- An own row's slice: at the head of a block whose first cells are these. -/
def notU8 : Sh → Bool
  | .int .u8 => false
  | _ => true
def CapOk (r : Sh) (n : Nat) (f : Nat × Nat) (m : Nat) : Prop := notU8 r = true → n ≤ 9223372036854775807 ∧ f.2 ≤ m
theorem CapOk.of {r : Sh} {n m : Nat} (h : n ≤ 9223372036854775807) : CapOk r n (0, 0) m := fun _ => ⟨h, Nat.zero_le _⟩
theorem CapOk.mv {r : Sh} {n m m' : Nat} {f f' : Nat × Nat} (h : CapOk r n f m) (k : f.2 ≤ m → f'.2 ≤ m) (e : m' = m) : CapOk r n f' m' := fun hr => ⟨(h hr).1, by rw [e]; exact k (h hr).2⟩
def BlockOf (w : World) (b : Nat) (cap : Nat) (r : Sh) : Prop := ∃ c e f, w.heap[b]? = some (.cells c e f) ∧ cap * r.n ≤ c.size ∧ CapOk r cap f c.size

def OwnR (σ : Sig) (pb : Pb) (w : World) (k g : Nat) (y : Value) : Prop := k < σ.length ∧ ∀ r xs g', σ[k]? = some (.rows r xs g') → g ≤ g' ∧ (g = g' →
      (∃ b cap, pb[k]? = some (some b) ∧ y = .slice (some ⟨b, 0, none⟩) xs.length cap ∧ xs.length ≤ cap ∧ BlockOf w b cap r) ∨ (pb[k]? = some none ∧ xs = [] ∧ ∃ a, y = .slice a 0 0))
def wrapVs : Bool → List Value → Option Value
  | true, vs => some (.agg vs.toArray)
  | false, [x] => some x
  | false, _ => none
/-- A map in a block that nobody turns any more. -/
def MapR (pb : Pb) (w : World) (kk : IntKind) (ag : Bool) (r : Sh) (xs : List (Int × r.den)) (b : Nat) : Prop :=
  Im pb w b ∧ ∃ es clock, w.heap[b]? = some (.map es clock) ∧
    (∀ x ∈ es.toList, ∃ n v vs, x.key = .int kk n ∧ (Lit.int kk n).wf = true ∧ findM n xs = some v ∧ ER pb w r v vs ∧ wrapVs ag vs = some x.val) ∧
    ∀ n v, findM n xs = some v → ∃ x ∈ es.toList, x.key = .int kk n
theorem MapR.mono {pb pb' : Pb} {w w' : World} (k : Keeps pb w pb' w') {kk : IntKind} {ag : Bool} {r : Sh} {xs : List (Int × r.den)} {b : Nat} (h : MapR pb w kk ag r xs b) : MapR pb' w' kk ag r xs b := by
  obtain ⟨h1, es, clock, h2, h3, h4⟩ := h
  refine ⟨(k.1 b h1).1, es, clock, (k.1 b h1).2.trans h2, fun x hx => ?_, h4⟩
  obtain ⟨n, v, vs, a1, a2, a3, a4, a5⟩ := h3 x hx
  exact ⟨n, v, vs, a1, a2, a3, a4.mono k, a5⟩
/-- A block of cells of a type. -/
def TyOf (w : World) (b : Nat) (e : TypeId) : Prop := ∃ c f, w.heap[b]? = some (.cells c e f)
def CR (σ : Sig) (pb : Pb) (w : World) : PV → Value → Prop
  | .v x, y => y = x
  | .rows full r xs, y => ∃ a cap, y = .slice a xs.length cap ∧ xs.length ≤ cap ∧ (full = true → cap = xs.length) ∧ RowsR pb w r.n (ER pb w r) xs a
  | .ptr k o, y => k < σ.length ∧ ∃ b, y = .pointer (some ⟨b, o, none⟩) ∧ ∀ cs, σ[k]? = some (.cells cs) → pb[k]? = some (some b)
  | .rp k i off g, y => k < σ.length ∧ ∃ b o, y = .pointer (some ⟨b, o + off, none⟩) ∧ ∀ r xs g', σ[k]? = some (.rows r xs g') → g ≤ g' ∧ (g = g' → pb[k]? = some (some b) ∧ i < xs.length ∧ o = i * r.n)
  | .ep r x off, y => ∃ b o vs, y = .pointer (some ⟨b, o + off, none⟩) ∧ Im pb w b ∧ vs.length = r.n ∧ (∀ j, j < r.n → w.cell? ⟨b, o + j, none⟩ = vs[j]?) ∧ ER pb w r x vs
  | .apr k xs n, y => n ≤ xs.length ∧ ∃ a, y = .pointer a ∧ RowsR pb w 1 (ER pb w (.int k)) xs a ∧ (n = 0 ∨ a.isSome)
  | .apl k i n g, y => k < σ.length ∧ ∃ b o, y = .pointer (some ⟨b, o, none⟩) ∧ ∀ r xs g', σ[k]? = some (.rows r xs g') → g ≤ g' ∧ (g = g' → pb[k]? = some (some b) ∧ i + n ≤ xs.length ∧ o = i * r.n)
  | .own k g, y => k < σ.length ∧ ∀ r xs g', σ[k]? = some (.rows r xs g') → g ≤ g' ∧ (g = g' →
      (∃ b cap, pb[k]? = some (some b) ∧ y = .slice (some ⟨b, 0, none⟩) xs.length cap ∧ xs.length ≤ cap ∧ BlockOf w b cap r) ∨ (pb[k]? = some none ∧ xs = [] ∧ ∃ a, y = .slice a 0 0))
  | .ref k i n g, y => k < σ.length ∧ ∀ r xs g', σ[k]? = some (.rows r xs g') → g ≤ g' ∧ (g = g' →
      (∃ b o cap, pb[k]? = some (some b) ∧ i + n ≤ xs.length ∧ (0 < n → o = i * r.n) ∧ y = .slice (some ⟨b, o, none⟩) n cap ∧ n ≤ cap) ∨ (n = 0 ∧ ∃ a, y = .slice a 0 0))
  | .bp c k e _, y => k < σ.length ∧ ∃ b, y = .pointer (bif c then some ⟨b, 0, none⟩ else none) ∧ ∀ cs, σ[k]? = some (.cells cs) → pb[k]? = some (some b) ∧ TyOf w b e
  | .ot k g e, y => OwnR σ pb w k g y ∧ ∀ r xs, σ[k]? = some (.rows r xs g) → ∀ b, pb[k]? = some (some b) → TyOf w b e
  | .sd k g e, y => k < σ.length ∧ ∀ r xs g', σ[k]? = some (.rows r xs g') → g ≤ g' ∧ (g = g' → ∃ b, pb[k]? = some (some b) ∧ y = .pointer (some ⟨b, 0, none⟩) ∧ TyOf w b e)
  | .mapc kk ag r xs, y => ∃ b, y = .map (some b) ∧ MapR pb w kk ag r xs b
  | .dead, _ => True
  | _, _ => False

def CRs (σ : Sig) (pb : Pb) (w : World) : List PV → List Value → Prop
  | [], [] => True
  | p :: ps, y :: ys => CR σ pb w p y ∧ CRs σ pb w ps ys
  | _, _ => False

def AR (σ : Sig) (pb : Pb) (w : World) : PV → Value → Prop
  | .agg cs, y => ∃ ys : List Value, y = .agg ys.toArray ∧ CRs σ pb w cs ys
  | .arr k l, y => y = .agg (l.map (Value.int k)).toArray
  | .fn g caps, y => ∃ ys : List Value, y = .func (.func g) #[] ys.toArray ∧ CRs σ pb w caps ys
  | p, y => CR σ pb w p y
def ARs (σ : Sig) (pb : Pb) (w : World) : List PV → List Value → Prop
  | [], [] => True
  | p :: ps, y :: ys => AR σ pb w p y ∧ ARs σ pb w ps ys
  | _, _ => False
def VR (σ : Sig) (pb : Pb) (w : World) : PV → Value → Prop
  | .tup vs, y => ∃ ys : List Value, y = .tuple ys.toArray ∧ ARs σ pb w vs ys
  | p, y => AR σ pb w p y

def FR (σ : Sig) (pb : Pb) (w : World) (f : Fr) (tmps : Array Value) : Prop := ∀ t, VR σ pb w (f.get t) (tmps.getD t undef)

def Unfrozen (f : Nat × Nat) (n : Nat) : Prop := ∀ o, o < n → ¬ (f.1 ≤ o ∧ o < f.2)

def PlaceR (σ : Sig) (pb : Pb) (w : World) : Place → Option Nat → Prop
  | .cells cs, some b => ∃ c e f, w.heap[b]? = some (.cells c e f) ∧ Unfrozen f c.size ∧ CRs σ pb w cs c.toList
  | .rows r xs g, some b => ∃ c e f, w.heap[b]? = some (.cells c e f) ∧ Unfrozen f c.size ∧ xs.length * r.n ≤ c.size ∧
      ∀ i (h : i < xs.length), ∃ vs, vs.length = r.n ∧ (∀ j, j < r.n → c[i * r.n + j]? = vs[j]?) ∧ ER pb w r xs[i] vs
  | .rows r xs g, none => xs = []
  | .cells _, none => False
  | .dead, _ => True

structure St (base : Nat) (σ : Sig) (pb : Pb) (w : World) : Prop where
  bs : base ≤ w.heap.size
  len : pb.length = σ.length
  inj : ∀ (i j b : Nat), pb[i]? = some (some b) → pb[j]? = some (some b) → i = j
  bnd : ∀ (i b : Nat), pb[i]? = some (some b) → base ≤ b ∧ b < w.heap.size
  frn : ∀ b : Nat, Foreign.X b → b < w.heap.size ∧ some b ∉ pb
  pl : ∀ (k : Nat) (p : Place) (o : Option Nat), σ[k]? = some p → pb[k]? = some o → PlaceR σ pb w p o

/-- What may have happened to places since. -/
def PlExt (σ : Sig) (pb : Pb) (σ' : Sig) (pb' : Pb) : Prop := σ.length ≤ σ'.length ∧ ∀ k, k < σ.length →
  (∀ cs', σ'[k]? = some (.cells cs') → (∃ cs, σ[k]? = some (.cells cs)) ∧ pb'[k]? = pb[k]?) ∧
  (∀ r xs' g', σ'[k]? = some (.rows r xs' g') → ∃ xs g, σ[k]? = some (.rows r xs g) ∧ g ≤ g' ∧ (g = g' → xs.length = xs'.length ∧ pb'[k]? = pb[k]?))

structure Ext (σ : Sig) (pb : Pb) (w : World) (σ' : Sig) (pb' : Pb) (w' : World) : Prop where
  os : w'.os = w.os
  tape : w'.tape = w.tape
  output : w'.output = w.output
  size : w.heap.size ≤ w'.heap.size
  keeps : Keeps pb w pb' w'
  shp : ∀ (b : Nat) (c : Array Value) (e : TypeId) (f : Nat × Nat), w.heap[b]? = some (.cells c e f) → ∃ (c' : Array Value) (f' : Nat × Nat), w'.heap[b]? = some (.cells c' e f') ∧ c'.size = c.size ∧ (f.2 ≤ c.size → f'.2 ≤ c.size)
  pls : PlExt σ pb σ' pb'

theorem PlExt.refl (σ : Sig) (pb : Pb) : PlExt σ pb σ pb := ⟨Nat.le_refl _, fun k hk => ⟨fun cs h => ⟨⟨cs, h⟩, rfl⟩, fun r xs g h => ⟨xs, g, h, Nat.le_refl _, fun _ => ⟨rfl, rfl⟩⟩⟩⟩
theorem PlExt.trans {σ σ' σ'' : Sig} {pb pb' pb'' : Pb} (h : PlExt σ pb σ' pb') (k : PlExt σ' pb' σ'' pb'') : PlExt σ pb σ'' pb'' := by
  refine ⟨Nat.le_trans h.1 k.1, fun i hi => ⟨fun cs hc => ?_, fun r xs g hr => ?_⟩⟩
  · obtain ⟨⟨cs', h1⟩, e1⟩ := (k.2 i (Nat.lt_of_lt_of_le hi h.1)).1 cs hc
    obtain ⟨h2, e2⟩ := (h.2 i hi).1 cs' h1
    exact ⟨h2, e1.trans e2⟩
  · obtain ⟨xs', g', h1, l1, e1⟩ := (k.2 i (Nat.lt_of_lt_of_le hi h.1)).2 r xs g hr
    obtain ⟨xs'', g'', h2, l2, e2⟩ := (h.2 i hi).2 r xs' g' h1
    refine ⟨xs'', g'', h2, Nat.le_trans l2 l1, fun e => ?_⟩
    obtain ⟨a1, a2⟩ := e1 (by omega)
    obtain ⟨b1, b2⟩ := e2 (by omega)
    exact ⟨b1.trans a1, a2.trans b2⟩

theorem Ext.refl (σ : Sig) (pb : Pb) (w : World) : Ext σ pb w σ pb w := ⟨rfl, rfl, rfl, Nat.le_refl _, Keeps.refl _ _, fun b c e f h => ⟨c, f, h, rfl, fun x => x⟩, PlExt.refl _ _⟩
theorem Ext.trans {σ σ' σ'' : Sig} {pb pb' pb'' : Pb} {w w' w'' : World} (h : Ext σ pb w σ' pb' w') (k : Ext σ' pb' w' σ'' pb'' w'') : Ext σ pb w σ'' pb'' w'' where
  os := k.os.trans h.os
  tape := k.tape.trans h.tape
  output := k.output.trans h.output
  size := Nat.le_trans h.size k.size
  keeps := h.keeps.trans k.keeps
  shp := fun b c e f hb => by
    obtain ⟨c', f', h1, e1⟩ := h.shp b c e f hb
    obtain ⟨c'', f'', h2, e2⟩ := k.shp b c' e f' h1
    exact ⟨c'', f'', h2, e2.1.trans e1.1, fun h => by have h3 := e1.2 h; have h4 := e2.2 (by omega); omega⟩
  pls := h.pls.trans k.pls

theorem BlockOf.ext {σ σ' : Sig} {pb pb' : Pb} {w w' : World} (h : Ext σ pb w σ' pb' w') {b n : Nat} {r : Sh} (hb : BlockOf w b n r) : BlockOf w' b n r := by
  obtain ⟨c, e, f, h1, h2, h5⟩ := hb
  obtain ⟨c', f', h3, h4⟩ := h.shp b c e f h1
  exact ⟨c', e, f', h3, by omega, h5.mv h4.2 h4.1⟩

theorem TyOf.ext {σ σ' : Sig} {pb pb' : Pb} {w w' : World} (h : Ext σ pb w σ' pb' w') {b : Nat} {e : TypeId} (hb : TyOf w b e) : TyOf w' b e := by
  obtain ⟨c, f, h1⟩ := hb
  obtain ⟨c', f', h3, _⟩ := h.shp b c e f h1
  exact ⟨c', f', h3⟩
theorem OwnR.ext {σ σ' : Sig} {pb pb' : Pb} {w w' : World} (h : Ext σ pb w σ' pb' w') {k g : Nat} {y : Value} (hc : OwnR σ pb w k g y) : OwnR σ' pb' w' k g y := by
  have hl := h.pls.1
  obtain ⟨hk, hc⟩ := hc
  refine ⟨by omega, fun r xs g' hr => ?_⟩
  obtain ⟨xs', g'', h1, l1, e1⟩ := (h.pls.2 k hk).2 r xs g' hr
  obtain ⟨l2, e2⟩ := hc r xs' g'' h1
  refine ⟨by omega, fun e => ?_⟩
  obtain ⟨a1, a2⟩ := e1 (by omega)
  rcases e2 (by omega) with ⟨b, cap, p1, p2, p3, p4⟩ | ⟨p1, p2, p3⟩
  · exact .inl ⟨b, cap, by rw [a2]; exact p1, by rw [← a1]; exact p2, by omega, p4.ext h⟩
  · refine .inr ⟨by rw [a2]; exact p1, ?_, p3⟩
    rw [p2] at a1
    exact List.eq_nil_of_length_eq_zero a1.symm
theorem CR.ext {σ σ' : Sig} {pb pb' : Pb} {w w' : World} (h : Ext σ pb w σ' pb' w') {p : PV} {y : Value} (hc : CR σ pb w p y) : CR σ' pb' w' p y := by
  have hl := h.pls.1
  cases p with
  | v x => exact hc
  | rows full r xs =>
    obtain ⟨a, cap, h1, h2, h3, h4⟩ := hc
    exact ⟨a, cap, h1, h2, h3, h4.mono h.keeps fun _ _ => ER.mono h.keeps⟩
  | ptr k o =>
    obtain ⟨hk, b, hy, hc⟩ := hc
    refine ⟨by omega, b, hy, fun cs hcs => ?_⟩
    obtain ⟨⟨cs', h1⟩, e⟩ := (h.pls.2 k hk).1 cs hcs
    rw [e]
    exact hc _ h1
  | rp k i off g =>
    obtain ⟨hk, b, o, hy, hc⟩ := hc
    refine ⟨by omega, b, o, hy, fun r xs g' hr => ?_⟩
    obtain ⟨xs', g'', h1, l1, e1⟩ := (h.pls.2 k hk).2 r xs g' hr
    obtain ⟨l2, e2⟩ := hc r xs' g'' h1
    refine ⟨by omega, fun e => ?_⟩
    obtain ⟨a1, a2⟩ := e1 (by omega)
    obtain ⟨p1, p2, p3⟩ := e2 (by omega)
    exact ⟨by rw [a2]; exact p1, by rw [← a1]; exact p2, p3⟩
  | mapc kk ag r xs =>
    obtain ⟨b, h1, h2⟩ := hc
    exact ⟨b, h1, h2.mono h.keeps⟩
  | ep r x off =>
    obtain ⟨b, o, vs, h1, h2, h3, h4, h5⟩ := hc
    exact ⟨b, o, vs, h1, (h.keeps.1 b h2).1, h3, fun j hj => by rw [h.keeps.cell h2]; exact h4 j hj, h5.mono h.keeps⟩
  | apr k xs n =>
    obtain ⟨h1, a, h2, h3, h4⟩ := hc
    exact ⟨h1, a, h2, h3.mono h.keeps fun _ _ => ER.mono h.keeps, h4⟩
  | apl k i n g =>
    obtain ⟨hk, b, o, hy, hc⟩ := hc
    refine ⟨by omega, b, o, hy, fun r xs g' hr => ?_⟩
    obtain ⟨xs', g'', h1, l1, e1⟩ := (h.pls.2 k hk).2 r xs g' hr
    obtain ⟨l2, e2⟩ := hc r xs' g'' h1
    refine ⟨by omega, fun e => ?_⟩
    obtain ⟨a1, a2⟩ := e1 (by omega)
    obtain ⟨p1, p2, p3⟩ := e2 (by omega)
    exact ⟨by rw [a2]; exact p1, by rw [← a1]; exact p2, p3⟩
  | own k g =>
    obtain ⟨hk, hc⟩ := hc
    refine ⟨by omega, fun r xs g' hr => ?_⟩
    obtain ⟨xs', g'', h1, l1, e1⟩ := (h.pls.2 k hk).2 r xs g' hr
    obtain ⟨l2, e2⟩ := hc r xs' g'' h1
    refine ⟨by omega, fun e => ?_⟩
    obtain ⟨a1, a2⟩ := e1 (by omega)
    rcases e2 (by omega) with ⟨b, cap, p1, p2, p3, p4⟩ | ⟨p1, p2, p3⟩
    · exact .inl ⟨b, cap, by rw [a2]; exact p1, by rw [← a1]; exact p2, by omega, p4.ext h⟩
    · refine .inr ⟨by rw [a2]; exact p1, ?_, p3⟩
      rw [p2] at a1
      exact List.eq_nil_of_length_eq_zero a1.symm
  | ref k i n g =>
    obtain ⟨hk, hc⟩ := hc
    refine ⟨by omega, fun r xs g' hr => ?_⟩
    obtain ⟨xs', g'', h1, l1, e1⟩ := (h.pls.2 k hk).2 r xs g' hr
    obtain ⟨l2, e2⟩ := hc r xs' g'' h1
    refine ⟨by omega, fun e => ?_⟩
    obtain ⟨a1, a2⟩ := e1 (by omega)
    rcases e2 (by omega) with ⟨b, o, cap, p1, p2, p3, p4, p5⟩ | p
    · exact .inl ⟨b, o, cap, by rw [a2]; exact p1, by omega, p3, p4, p5⟩
    · exact .inr p
  | bp c k e e2 =>
    obtain ⟨hk, b, hy, hc⟩ := hc
    refine ⟨by omega, b, hy, fun cs hcs => ?_⟩
    obtain ⟨⟨cs', h1⟩, e⟩ := (h.pls.2 k hk).1 cs hcs
    obtain ⟨q1, q2⟩ := hc _ h1
    exact ⟨by rw [e]; exact q1, q2.ext h⟩
  | ot k g e =>
    obtain ⟨h1, h2⟩ := hc
    refine ⟨h1.ext h, fun r xs hr b hb => ?_⟩
    obtain ⟨xs', g'', k1, l1, e1⟩ := (h.pls.2 k h1.1).2 r xs g hr
    have l2 := (h1.2 r xs' g'' k1).1
    obtain rfl : g'' = g := by omega
    obtain ⟨a1, a2⟩ := e1 rfl
    exact (h2 r xs' k1 b (by rw [← a2]; exact hb)).ext h
  | sd k g e =>
    obtain ⟨hk, hc⟩ := hc
    refine ⟨by omega, fun r xs g' hr => ?_⟩
    obtain ⟨xs', g'', h1, l1, e1⟩ := (h.pls.2 k hk).2 r xs g' hr
    obtain ⟨l2, e2⟩ := hc r xs' g'' h1
    refine ⟨by omega, fun ee => ?_⟩
    obtain ⟨a1, a2⟩ := e1 (by omega)
    obtain ⟨b, p1, p2, p3⟩ := e2 (by omega)
    exact ⟨b, by rw [a2]; exact p1, p2, p3.ext h⟩
  | agg cs => exact hc
  | arr k l => exact hc
  | tup vs => exact hc
  | fn f c => exact hc
  | dead => trivial

theorem CRs.ext {σ σ' : Sig} {pb pb' : Pb} {w w' : World} (h : Ext σ pb w σ' pb' w') : ∀ {ps : List PV} {ys : List Value}, CRs σ pb w ps ys → CRs σ' pb' w' ps ys
  | [], [], _ => trivial
  | p :: ps, y :: ys, hc => ⟨hc.1.ext h, CRs.ext h hc.2⟩
  | [], _ :: _, hc => hc.elim
  | _ :: _, [], hc => hc.elim
theorem AR.ext {σ σ' : Sig} {pb pb' : Pb} {w w' : World} (h : Ext σ pb w σ' pb' w') {p : PV} {y : Value} (hc : AR σ pb w p y) : AR σ' pb' w' p y := by
  cases p with
  | agg cs => obtain ⟨ys, e, hc⟩ := hc; exact ⟨ys, e, hc.ext h⟩
  | fn g cs => obtain ⟨ys, e, hc⟩ := hc; exact ⟨ys, e, hc.ext h⟩
  | arr k l => exact hc
  | v x => exact CR.ext (p := .v x) h hc
  | rows a b c => exact CR.ext (p := .rows a b c) h hc
  | ptr a b => exact CR.ext (p := .ptr a b) h hc
  | rp a b c d => exact CR.ext (p := .rp a b c d) h hc
  | ep a b c => exact CR.ext (p := .ep a b c) h hc
  | apr a b c => exact CR.ext (p := .apr a b c) h hc
  | apl a b c d => exact CR.ext (p := .apl a b c d) h hc
  | own a b => exact CR.ext (p := .own a b) h hc
  | ref a b c d => exact CR.ext (p := .ref a b c d) h hc
  | bp a b c d => exact CR.ext (p := .bp a b c d) h hc
  | ot a b c => exact CR.ext (p := .ot a b c) h hc
  | sd a b c => exact CR.ext (p := .sd a b c) h hc
  | mapc a b c d => exact CR.ext (p := .mapc a b c d) h hc
  | tup a => exact hc
  | dead => trivial
theorem ARs.ext {σ σ' : Sig} {pb pb' : Pb} {w w' : World} (h : Ext σ pb w σ' pb' w') : ∀ {ps : List PV} {ys : List Value}, ARs σ pb w ps ys → ARs σ' pb' w' ps ys
  | [], [], _ => trivial
  | p :: ps, y :: ys, hc => ⟨hc.1.ext h, ARs.ext h hc.2⟩
  | [], _ :: _, hc => hc.elim
  | _ :: _, [], hc => hc.elim
theorem VR.ext {σ σ' : Sig} {pb pb' : Pb} {w w' : World} (h : Ext σ pb w σ' pb' w') {p : PV} {y : Value} (hc : VR σ pb w p y) : VR σ' pb' w' p y := by
  cases p with
  | tup cs => obtain ⟨ys, e, hc⟩ := hc; exact ⟨ys, e, hc.ext h⟩
  | v x => exact AR.ext (p := .v x) h hc
  | rows a b c => exact AR.ext (p := .rows a b c) h hc
  | ptr a b => exact AR.ext (p := .ptr a b) h hc
  | rp a b c d => exact AR.ext (p := .rp a b c d) h hc
  | ep a b c => exact AR.ext (p := .ep a b c) h hc
  | apr a b c => exact AR.ext (p := .apr a b c) h hc
  | apl a b c d => exact AR.ext (p := .apl a b c d) h hc
  | own a b => exact AR.ext (p := .own a b) h hc
  | ref a b c d => exact AR.ext (p := .ref a b c d) h hc
  | bp a b c d => exact AR.ext (p := .bp a b c d) h hc
  | ot a b c => exact AR.ext (p := .ot a b c) h hc
  | sd a b c => exact AR.ext (p := .sd a b c) h hc
  | mapc a b c d => exact AR.ext (p := .mapc a b c d) h hc
  | agg a => exact AR.ext (p := .agg a) h hc
  | arr a b => exact AR.ext (p := .arr a b) h hc
  | fn a b => exact AR.ext (p := .fn a b) h hc
  | dead => trivial
theorem FR.ext {σ σ' : Sig} {pb pb' : Pb} {w w' : World} (h : Ext σ pb w σ' pb' w') {f : Fr} {tmps : Array Value} (hf : FR σ pb w f tmps) : FR σ' pb' w' f tmps :=
  fun t => (hf t).ext h

theorem CRs.length {σ : Sig} {pb : Pb} {w : World} : ∀ {ps : List PV} {ys : List Value}, CRs σ pb w ps ys → ps.length = ys.length
  | [], [], _ => rfl
  | p :: ps, y :: ys, hc => by simp [CRs.length hc.2]
  | [], _ :: _, hc => hc.elim
  | _ :: _, [], hc => hc.elim

end Go.Proofs.YthkjjombaoffcaaGreatDoorPM

/- What a step in memory does to places, and to what stays. -/
set_option linter.unusedVariables false
set_option linter.unusedSectionVars false
set_option linter.unusedSimpArgs false
noncomputable section
namespace Go.Proofs.YthkjjombaoffcaaGreatDoorPM
open Go Go.RowKit
variable [Foreign]

theorem add_mk (b o j : Nat) : (⟨b, o, none⟩ : Addr).add j = ⟨b, o + j, none⟩ := by
  unfold Addr.add
  split
  · rename_i h; subst h; rfl
  · rfl
theorem cell_mk (w : World) (b o : Nat) {c : Array Value} {e : TypeId} {f : Nat × Nat} (h : w.heap[b]? = some (.cells c e f)) : w.cell? ⟨b, o, none⟩ = c[o]? := by
  unfold World.cell?
  rw [h]
  rfl

/-- Block b turned from c to c', all else as it was. -/
structure Upd (w : World) (b : Nat) (c c' : Array Value) (w' : World) : Prop where
  os : w'.os = w.os
  tape : w'.tape = w.tape
  output : w'.output = w.output
  size : w'.heap.size = w.heap.size
  other : ∀ i, i ≠ b → w'.heap[i]? = w.heap[i]?
  at_ : ∃ e f, w.heap[b]? = some (.cells c e f) ∧ w'.heap[b]? = some (.cells c' e f)
  sz : c'.size = c.size

theorem Upd.refl {w : World} {b : Nat} {c : Array Value} {e : TypeId} {f : Nat × Nat} (h : w.heap[b]? = some (.cells c e f)) : Upd w b c c w :=
  ⟨rfl, rfl, rfl, rfl, fun _ _ => rfl, ⟨e, f, h, h⟩, rfl⟩
theorem Upd.trans {w w' w'' : World} {b : Nat} {c c' c'' : Array Value} (h : Upd w b c c' w') (k : Upd w' b c' c'' w'') : Upd w b c c'' w'' := by
  refine ⟨k.os.trans h.os, k.tape.trans h.tape, k.output.trans h.output, k.size.trans h.size, fun i hi => (k.other i hi).trans (h.other i hi), ?_, k.sz.trans h.sz⟩
  obtain ⟨e, f, h1, h2⟩ := h.at_
  obtain ⟨e', f', h3, h4⟩ := k.at_
  rw [h2] at h3
  cases h3
  exact ⟨e, f, h1, h4⟩

theorem Upd.setCell {w : World} {b o : Nat} {c : Array Value} {e : TypeId} {f : Nat × Nat} (h : w.heap[b]? = some (.cells c e f)) (v : Value) : Upd w b c (c.setIfInBounds o v) (w.setCell ⟨b, o, none⟩ v) := by
  refine ⟨rfl, rfl, rfl, by simp [World.setCell], fun i hi => by simp [World.setCell, Array.getElem?_modify, Ne.symm hi], ⟨e, f, h, ?_⟩, by simp⟩
  simp [World.setCell, Array.getElem?_modify, h]

def setArr (c : Array Value) (o : Nat) : List Value → Array Value
  | [] => c
  | v :: r => setArr (c.setIfInBounds o v) (o + 1) r
theorem setArr_size (c : Array Value) (o : Nat) (l : List Value) : (setArr c o l).size = c.size := by
  induction l generalizing c o with
  | nil => rfl
  | cons v l ih => simp [setArr, ih]

def oneB : Value → Bool
  | .agg _ | .tuple _ => false
  | _ => true
theorem storeCells_run {P : Program} (b o : Nat) : ∀ (l : List Value) (i : Nat) (w : World) (c : Array Value) (e : TypeId) (f : Nat × Nat), w.heap[b]? = some (.cells c e f) → Unfrozen f c.size → o + i + l.length ≤ c.size → l.all oneB = true →
    ∃ w', (storeCells ⟨b, o, none⟩ l i).run P w = .ok () w' ∧ Upd w b c (setArr c (o + i) l) w' := by
  intro l
  induction l with
  | nil => intro i w c e f h _ _ _; exact ⟨w, rfl, Upd.refl h⟩
  | cons v l ih =>
    intro i w c e f h hf hl ha
    simp only [List.length_cons] at hl
    simp only [List.all_cons, Bool.and_eq_true] at ha
    have hcell : w.cell? ⟨b, o + i, none⟩ = some (c[o + i]'(by omega)) := by rw [cell_mk w b _ h]; simp
    have hfr : w.frozen? ⟨b, o + i, none⟩ = false := by
      unfold World.frozen?
      rw [h]
      have := hf (o + i) (by omega)
      simp only [Bool.and_eq_false_iff, decide_eq_false_iff_not]
      by_cases q : f.1 ≤ o + i
      · exact .inr (fun q' => this ⟨q, q'⟩)
      · exact .inl q
    have hstore : (store ((⟨b, o, none⟩ : Addr).add i) v).run P w = .ok () (w.setCell ⟨b, o + i, none⟩ v) := by
      rw [add_mk]
      unfold store
      cases v <;> simp_all [Sem.run, oneB]
    have hu := Upd.setCell (o := o + i) h v
    obtain ⟨e', f', h1, h2⟩ := hu.at_
    rw [h] at h1
    cases h1
    obtain ⟨w', hr, hu'⟩ := ih (i + 1) (w.setCell ⟨b, o + i, none⟩ v) _ _ _ h2 (by simpa using hf) (by simp; omega) ha.2
    refine ⟨w', ?_, ?_⟩
    · unfold storeCells
      rw [Sem.run_bind, hstore]
      exact hr
    · have := hu.trans hu'
      simpa [setArr, Nat.add_assoc] using this

theorem Upd.keeps {w w' : World} {b : Nat} {c c' : Array Value} {pb : Pb} (h : Upd w b c c' w') (hb : some b ∈ pb) (hx : ∀ i : Nat, Foreign.X i → some i ∉ pb) : Keeps pb w pb w' := by
  refine ⟨fun i hi => ?_, fun i hi => ?_⟩
  · have : i ≠ b := fun e => hi.2.1 (e ▸ hb)
    exact ⟨⟨by rw [h.size]; exact hi.1, hi.2⟩, h.other i this⟩
  · exact h.other i fun e => hx i hi (e ▸ hb)
theorem Upd.shp {w w' : World} {b : Nat} {c c' : Array Value} (h : Upd w b c c' w') (i : Nat) (d : Array Value) (e : TypeId) (f : Nat × Nat) (hi : w.heap[i]? = some (.cells d e f)) :
    ∃ (c' : Array Value) (f' : Nat × Nat), w'.heap[i]? = some (.cells c' e f') ∧ c'.size = d.size ∧ (f.2 ≤ d.size → f'.2 ≤ d.size) := by
  by_cases q : i = b
  · subst q
    obtain ⟨e', f', h1, h2⟩ := h.at_
    rw [hi] at h1
    cases h1
    exact ⟨c', f, h2, h.sz, id⟩
  · exact ⟨d, f, by rw [h.other i q]; exact hi, rfl, id⟩

/-- One place's content turned, in its block. -/
def Alike : Place → Place → Prop
  | .cells _, .cells _ => True
  | .rows r xs g, .rows r' xs' g' => r' = r ∧ g ≤ g' ∧ (g = g' → xs.length = xs'.length)
  | _, _ => False
theorem PlExt.set {σ : Sig} {pb : Pb} {k : Nat} {p p' : Place} (hk : σ[k]? = some p) (ha : Alike p p') : PlExt σ pb (σ.set k p') pb := by
  refine ⟨by simp, fun i hi => ?_⟩
  by_cases q : i = k
  · subst q
    have : (σ.set i p')[i]? = some p' := by simp [hi]
    rw [this]
    refine ⟨fun cs h => ?_, fun r xs g h => ?_⟩
    · cases h
      cases p with
      | cells cs' => exact ⟨⟨cs', hk⟩, rfl⟩
      | rows _ _ _ => exact ha.elim
      | dead => exact ha.elim
    · cases h
      cases p with
      | cells cs' => exact ha.elim
      | dead => exact ha.elim
      | rows r' xs' g' =>
        obtain ⟨rfl, h1, h2⟩ := ha
        exact ⟨xs', g', hk, h1, fun e => ⟨h2 e, rfl⟩⟩
  · have : (σ.set k p')[i]? = σ[i]? := by simp [List.getElem?_set, Ne.symm q]
    rw [this]
    exact ⟨fun cs h => ⟨⟨cs, h⟩, rfl⟩, fun r xs g h => ⟨xs, g, h, Nat.le_refl _, fun _ => ⟨rfl, rfl⟩⟩⟩
theorem Upd.ext {σ : Sig} {pb : Pb} {w w' : World} {b k : Nat} {c c' : Array Value} {p p' : Place} (h : Upd w b c c' w') (hb : pb[k]? = some (some b)) (hk : σ[k]? = some p) (ha : Alike p p') (hx : ∀ i : Nat, Foreign.X i → some i ∉ pb) : Ext σ pb w (σ.set k p') pb w' :=
  ⟨h.os, h.tape, h.output, by rw [h.size]; exact Nat.le_refl _, h.keeps (List.mem_of_getElem? hb) hx, h.shp, PlExt.set hk ha⟩

theorem PlaceR.ext {σ σ' : Sig} {pb pb' : Pb} {w w' : World} (h : Ext σ pb w σ' pb' w') {p : Place} {o : Option Nat} (hb : ∀ b, o = some b → w'.heap[b]? = w.heap[b]?) (hp : PlaceR σ pb w p o) : PlaceR σ' pb' w' p o := by
  cases o with
  | none => cases p <;> exact hp
  | some b =>
    have hb := hb b rfl
    cases p with
    | cells cs => obtain ⟨c, e, f, h1, h2, h3⟩ := hp; exact ⟨c, e, f, by rw [hb]; exact h1, h2, h3.ext h⟩
    | dead => trivial
    | rows r xs g =>
      obtain ⟨c, e, f, h1, h2, h3, h4⟩ := hp
      refine ⟨c, e, f, by rw [hb]; exact h1, h2, h3, fun i hi => ?_⟩
      obtain ⟨vs, a1, a2, a3⟩ := h4 i hi
      exact ⟨vs, a1, a2, a3.mono h.keeps⟩

theorem Upd.st {base : Nat} {σ : Sig} {pb : Pb} {w w' : World} {b k : Nat} {c c' : Array Value} {p p' : Place} (h : Upd w b c c' w') (hs : St base σ pb w) (hb : pb[k]? = some (some b)) (hk : σ[k]? = some p) (ha : Alike p p')
    (hp : PlaceR (σ.set k p') pb w' p' (some b)) : St base (σ.set k p') pb w' := by
  refine ⟨by rw [h.size]; exact hs.bs, by simpa using hs.len, hs.inj, fun i j hi => by have := hs.bnd i j hi; rw [h.size]; exact this, fun i hi => by have := hs.frn i hi; rw [h.size]; exact this, fun i q o hi ho => ?_⟩
  by_cases e : i = k
  · subst e
    have hlt : i < σ.length := by
      have := List.getElem?_eq_some_iff.mp hk
      exact this.1
    rw [show (σ.set i p')[i]? = some p' by simp [hlt]] at hi
    cases hi
    rw [hb] at ho
    cases ho
    exact hp
  · rw [show (σ.set k p')[i]? = σ[i]? by simp [List.getElem?_set, Ne.symm e]] at hi
    refine PlaceR.ext (h.ext hb hk ha fun i hx => (hs.frn i hx).2) (fun b' hb' => h.other b' fun e' => ?_) (hs.pl i q o hi ho)
    subst hb'
    subst e'
    exact e (hs.inj i k _ ho hb)

/-! ### new blocks -/
def pushW (w : World) (o : Obj) : World := { w with heap := w.heap.push o }
theorem pushW_old (w : World) (o : Obj) (b : Nat) (h : b < w.heap.size) : (pushW w o).heap[b]? = w.heap[b]? := by
  simp only [pushW, Array.getElem?_push]
  rw [if_neg (by omega)]
theorem pushW_new (w : World) (o : Obj) : (pushW w o).heap[w.heap.size]? = some o := by
  show (w.heap.push o)[w.heap.size]? = some o
  exact Array.getElem?_push_size
theorem newRow_run (P : Program) (w : World) (t : TypeId) (c : Array Value) : (newRow t c).run P w = .ok ⟨w.heap.size, 0, none⟩ (pushW w (.cells c t)) := rfl

theorem St.nf {base : Nat} {σ : Sig} {pb : Pb} {w : World} (hs : St base σ pb w) : ∀ i : Nat, Foreign.X i → some i ∉ pb := fun i h => (hs.frn i h).2
theorem St.lt {base : Nat} {σ : Sig} {pb : Pb} {w : World} (hs : St base σ pb w) {b : Nat} (h : some b ∈ pb) : b < w.heap.size := by
  obtain ⟨i, hi, he⟩ := List.getElem_of_mem h
  exact (hs.bnd i b (by rw [List.getElem?_eq_getElem hi, he])).2

/-- A new block, at the end. -/
structure Push (w w' : World) (o : Obj) : Prop where
  os : w'.os = w.os
  tape : w'.tape = w.tape
  output : w'.output = w.output
  size : w'.heap.size = w.heap.size + 1
  old : ∀ j, j < w.heap.size → w'.heap[j]? = w.heap[j]?
  new : w'.heap[w.heap.size]? = some o
theorem Push.pushW (w : World) (o : Obj) : Push w (pushW w o) o := ⟨rfl, rfl, rfl, by simp [Go.Proofs.YthkjjombaoffcaaGreatDoorPM.pushW], fun j h => pushW_old w o j h, pushW_new w o⟩

/-- A new block that is no place: it stays. -/
theorem push_ext' {base : Nat} {σ : Sig} {pb : Pb} {w w' : World} {o : Obj} (hp : Push w w' o) (hs : St base σ pb w) : Ext σ pb w σ pb w' ∧ St base σ pb w' ∧ Im pb w' w.heap.size := by
  have he : Ext σ pb w σ pb w' := by
    refine ⟨hp.os, hp.tape, hp.output, by rw [hp.size]; omega, ⟨fun b hb => ⟨⟨by have := hb.1; rw [hp.size]; omega, hb.2⟩, hp.old b hb.1⟩, fun b hb => hp.old b (hs.frn b hb).1⟩, fun b c e f h => ⟨c, f, ?_, rfl, fun x => x⟩, PlExt.refl _ _⟩
    rw [hp.old b]
    · exact h
    · exact (Array.getElem?_eq_some_iff.mp h).1
  refine ⟨he, ⟨Nat.le_trans hs.bs he.size, hs.len, hs.inj, fun i b hi => ⟨(hs.bnd i b hi).1, by have := (hs.bnd i b hi).2; rw [hp.size]; omega⟩, fun b hb => ⟨by have := (hs.frn b hb).1; rw [hp.size]; omega, (hs.frn b hb).2⟩, fun k p q hk hq => ?_⟩, ⟨by rw [hp.size]; omega, fun hm => ?_, fun hm => ?_⟩⟩
  · refine PlaceR.ext he (fun b hb => ?_) (hs.pl k p q hk hq)
    subst hb
    exact hp.old b (hs.bnd k b hq).2
  · have := hs.lt hm; omega
  · have := (hs.frn _ hm).1; omega
theorem push_ext {base : Nat} {σ : Sig} {pb : Pb} {w : World} (hs : St base σ pb w) (o : Obj) : Ext σ pb w σ pb (pushW w o) ∧ St base σ pb (pushW w o) ∧ Im pb (pushW w o) w.heap.size := push_ext' (Push.pushW w o) hs

theorem PlExt.snoc (σ : Sig) (pb : Pb) (hl : pb.length = σ.length) (p : Place) (o : Option Nat) : PlExt σ pb (σ ++ [p]) (pb ++ [o]) := by
  refine ⟨by simp, fun k hk => ?_⟩
  rw [List.getElem?_append_left hk, List.getElem?_append_left (by omega)]
  exact ⟨fun cs h => ⟨⟨cs, h⟩, rfl⟩, fun r xs g h => ⟨xs, g, h, Nat.le_refl _, fun _ => ⟨rfl, rfl⟩⟩⟩

/-- A new block that is a place. -/
theorem push_place' {base : Nat} {σ : Sig} {pb : Pb} {w w' : World} {o : Obj} (hW : Push w w' o) (hs : St base σ pb w) (p : Place)
    (hp : ∀ σ' pb', Ext σ pb w σ' pb' w' → PlaceR σ' pb' w' p (some w.heap.size)) :
    Ext σ pb w (σ ++ [p]) (pb ++ [some w.heap.size]) w' ∧ St base (σ ++ [p]) (pb ++ [some w.heap.size]) w' := by
  have hl := hs.len
  have hb := hs.bs
  have he : Ext σ pb w (σ ++ [p]) (pb ++ [some w.heap.size]) w' := by
    refine ⟨hW.os, hW.tape, hW.output, by rw [hW.size]; omega, ⟨fun b hb => ⟨⟨by have := hb.1; rw [hW.size]; omega, ?_, hb.2.2⟩, hW.old b hb.1⟩, fun b hb => hW.old b (hs.frn b hb).1⟩, fun b c e f h => ⟨c, f, ?_, rfl, fun x => x⟩, PlExt.snoc σ pb hl p _⟩
    · intro hm
      rcases List.mem_append.mp hm with h | h
      · exact hb.2.1 h
      · have := hb.1
        simp at h
        omega
    · rw [hW.old b]
      · exact h
      · exact (Array.getElem?_eq_some_iff.mp h).1
  refine ⟨he, ⟨Nat.le_trans hs.bs he.size, by simp [hl], fun i j b hi hj => ?_, fun i b hi => ?_, fun b hb => ?_, fun k q q' hk hq => ?_⟩⟩
  · by_cases h1 : i < pb.length <;> by_cases h2 : j < pb.length
    · rw [List.getElem?_append_left h1] at hi; rw [List.getElem?_append_left h2] at hj; exact hs.inj i j b hi hj
    · rw [List.getElem?_append_left h1] at hi
      rw [List.getElem?_append_right (by omega)] at hj
      have := (hs.bnd i b hi).2
      have : j - pb.length = 0 := by
        have := (List.getElem?_eq_some_iff.mp hj).1
        simp at this; omega
      rw [this] at hj
      simp at hj
      omega
    · rw [List.getElem?_append_left h2] at hj
      rw [List.getElem?_append_right (by omega)] at hi
      have := (hs.bnd j b hj).2
      have : i - pb.length = 0 := by
        have := (List.getElem?_eq_some_iff.mp hi).1
        simp at this; omega
      rw [this] at hi
      simp at hi
      omega
    · rw [List.getElem?_append_right (by omega)] at hi hj
      have a1 := (List.getElem?_eq_some_iff.mp hi).1
      have a2 := (List.getElem?_eq_some_iff.mp hj).1
      simp at a1 a2
      omega
  · by_cases h1 : i < pb.length
    · rw [List.getElem?_append_left h1] at hi
      have := hs.bnd i b hi
      exact ⟨this.1, by rw [hW.size]; omega⟩
    · rw [List.getElem?_append_right (by omega)] at hi
      have : i - pb.length = 0 := by
        have := (List.getElem?_eq_some_iff.mp hi).1
        simp at this; omega
      rw [this] at hi
      simp at hi
      exact ⟨by omega, by rw [hW.size]; omega⟩
  · have := hs.frn b hb
    refine ⟨by rw [hW.size]; omega, fun hm => ?_⟩
    rcases List.mem_append.mp hm with h | h
    · exact this.2 h
    · simp at h
      omega
  · by_cases h1 : k < σ.length
    · rw [List.getElem?_append_left h1] at hk
      rw [List.getElem?_append_left (by omega)] at hq
      refine PlaceR.ext he (fun b hb => ?_) (hs.pl k q q' hk hq)
      subst hb
      exact hW.old b (hs.bnd k b hq).2
    · rw [List.getElem?_append_right (by omega)] at hk
      rw [List.getElem?_append_right (by omega)] at hq
      have : k - σ.length = 0 := by
        have := (List.getElem?_eq_some_iff.mp hk).1
        simp at this; omega
      rw [this] at hk
      rw [show k - pb.length = 0 by omega] at hq
      simp at hk hq
      subst hk
      subst hq
      exact hp _ _ he

theorem push_place {base : Nat} {σ : Sig} {pb : Pb} {w : World} (hs : St base σ pb w) (p : Place) (o : Obj)
    (hp : ∀ σ' pb', Ext σ pb w σ' pb' (pushW w o) → PlaceR σ' pb' (pushW w o) p (some w.heap.size)) :
    Ext σ pb w (σ ++ [p]) (pb ++ [some w.heap.size]) (pushW w o) ∧ St base (σ ++ [p]) (pb ++ [some w.heap.size]) (pushW w o) := push_place' (Push.pushW w o) hs p hp

/-- A place that moves to a new block. -/
theorem push_replace {base : Nat} {σ : Sig} {pb : Pb} {w w' : World} {o : Obj} (hW : Push w w' o) (hs : St base σ pb w) {k : Nat} {r : Sh} {xs xs' : List r.den} {g g' : Nat} (hk : σ[k]? = some (.rows r xs g)) (hg : g < g')
    (hp : ∀ σ' pb', Ext σ pb w σ' pb' w' → PlaceR σ' pb' w' (.rows r xs' g') (some w.heap.size)) :
    Ext σ pb w (σ.set k (.rows r xs' g')) (pb.set k (some w.heap.size)) w' ∧ St base (σ.set k (.rows r xs' g')) (pb.set k (some w.heap.size)) w' := by
  have hlt : k < σ.length := (List.getElem?_eq_some_iff.mp hk).1
  have hl := hs.len
  have he : Ext σ pb w (σ.set k (.rows r xs' g')) (pb.set k (some w.heap.size)) w' := by
    refine ⟨hW.os, hW.tape, hW.output, by rw [hW.size]; omega, ⟨fun b hb => ⟨⟨by have := hb.1; rw [hW.size]; omega, fun hm => ?_, hb.2.2⟩, hW.old b hb.1⟩, fun b hb => hW.old b (hs.frn b hb).1⟩, fun b c e f h => ⟨c, f, ?_, rfl, fun x => x⟩, ⟨by simp, fun i hi => ?_⟩⟩
    · rcases List.mem_or_eq_of_mem_set hm with h | h
      · exact hb.2.1 h
      · have := hb.1
        cases h
        omega
    · rw [hW.old b]
      · exact h
      · exact (Array.getElem?_eq_some_iff.mp h).1
    · by_cases q : i = k
      · subst q
        rw [show (σ.set i (.rows r xs' g'))[i]? = some (.rows r xs' g') by simp [hi]]
        refine ⟨fun cs h => (by cases h), fun r'' xs'' g'' h => ?_⟩
        cases h
        exact ⟨xs, g, hk, by omega, fun e => by omega⟩
      · rw [show (σ.set k (.rows r xs' g'))[i]? = σ[i]? by simp [List.getElem?_set, Ne.symm q], show (pb.set k (some w.heap.size))[i]? = pb[i]? by simp [List.getElem?_set, Ne.symm q]]
        exact ⟨fun cs h => ⟨⟨cs, h⟩, rfl⟩, fun r xs g h => ⟨xs, g, h, Nat.le_refl _, fun _ => ⟨rfl, rfl⟩⟩⟩
  have hget : ∀ (i : Nat) (b : Nat), (pb.set k (some w.heap.size))[i]? = some (some b) → (i = k ∧ b = w.heap.size) ∨ (i ≠ k ∧ pb[i]? = some (some b)) := by
    intro i b h
    by_cases q : i = k
    · subst q
      rw [show (pb.set i (some w.heap.size))[i]? = some (some w.heap.size) by simp [hl, hlt]] at h
      cases h
      exact .inl ⟨rfl, rfl⟩
    · rw [show (pb.set k (some w.heap.size))[i]? = pb[i]? by simp [List.getElem?_set, Ne.symm q]] at h
      exact .inr ⟨q, h⟩
  refine ⟨he, ⟨Nat.le_trans hs.bs he.size, by simp [hl], fun i j b hi hj => ?_, fun i b hi => ?_, fun b hb => ?_, fun i q q' hi hq => ?_⟩⟩
  · rcases hget i b hi with ⟨h1, h2⟩ | ⟨h1, h2⟩ <;> rcases hget j b hj with ⟨h3, h4⟩ | ⟨h3, h4⟩
    · omega
    · have := (hs.bnd j b h4).2; omega
    · have := (hs.bnd i b h2).2; omega
    · exact hs.inj i j b h2 h4
  · rcases hget i b hi with ⟨h1, h2⟩ | ⟨h1, h2⟩
    · exact ⟨by have := hs.bs; omega, by rw [hW.size]; omega⟩
    · have := hs.bnd i b h2
      exact ⟨this.1, by rw [hW.size]; omega⟩
  · have := hs.frn b hb
    refine ⟨by rw [hW.size]; omega, fun hm => ?_⟩
    rcases List.mem_or_eq_of_mem_set hm with h | h
    · exact this.2 h
    · cases h
      omega
  · by_cases e : i = k
    · subst e
      rw [show (σ.set i (.rows r xs' g'))[i]? = some (.rows r xs' g') by simp [hlt]] at hi
      rw [show (pb.set i (some w.heap.size))[i]? = some (some w.heap.size) by simp [hl, hlt]] at hq
      cases hi
      cases hq
      exact hp _ _ he
    · rw [show (σ.set k (.rows r xs' g'))[i]? = σ[i]? by simp [List.getElem?_set, Ne.symm e]] at hi
      rw [show (pb.set k (some w.heap.size))[i]? = pb[i]? by simp [List.getElem?_set, Ne.symm e]] at hq
      refine PlaceR.ext he (fun b hb => ?_) (hs.pl i q q' hi hq)
      subst hb
      exact hW.old b (hs.bnd i b hq).2

end Go.Proofs.YthkjjombaoffcaaGreatDoorPM

/- Single operations: what is loaded, stored, pointed at. -/
set_option linter.unusedVariables false
set_option linter.unusedSectionVars false
set_option linter.unusedSimpArgs false
noncomputable section
namespace Go.Proofs.YthkjjombaoffcaaGreatDoorPM
open Go Go.RowKit
variable [Foreign]

section
variable {P : Program} {w : World} {t : TypeId}
theorem und_run {d : TypeDesc} (h : P.underlying t = some d) : (underlying t).run P w = .ok d w := by
  unfold underlying
  simp [h]
theorem info_of {d : TypeDesc} (h : P.underlying t = some d) : ∃ i, P.info? t = some i := by
  unfold Program.underlying at h
  cases hi : P.info? t with
  | none => rw [hi] at h; cases h
  | some i => exact ⟨i, rfl⟩
theorem size_run {i : TypeInfo} (h : P.info? t = some i) : (sizeOf t).run P w = .ok (szOf P t) w := by
  unfold sizeOf typeInfo szOf
  simp [h]
theorem size_run' {d : TypeDesc} (h : P.underlying t = some d) : (sizeOf t).run P w = .ok (szOf P t) w := by
  obtain ⟨i, hi⟩ := info_of h
  exact size_run hi
theorem agg_run {d : TypeDesc} (h : P.underlying t = some d) : (isAgg t).run P w = .ok (isAggT P t) w := by
  unfold isAgg isAggT
  rw [Sem.run_bind, und_run h, h]
  cases d <;> rfl
theorem zero_run {z : Value} (h : zeroOf P t = some z) : (zeroValue t).run P w = .ok z w := by
  unfold zeroOf at h
  unfold zeroValue typeInfo
  cases hi : P.info? t with
  | none => rw [hi] at h; cases h
  | some i => rw [hi] at h; simp [hi, h]
theorem szOf_info (h : szOf P t ≠ 0) : ∃ i, P.info? t = some i := by
  unfold szOf at h
  cases hi : P.info? t with
  | none => rw [hi] at h; exact absurd rfl h
  | some i => exact ⟨i, rfl⟩
end

def SemOk (P : Program) (base : Nat) (σ : Sig) (pb : Pb) (w : World) (s : Sem Value) (t : Tri) : Prop :=
  ∃ pb' w' z, s.run P w = .ok z w' ∧ St base t.σ pb' w' ∧ Ext σ pb w t.σ pb' w' ∧ VR t.σ pb' w' t.pv z
theorem SemOk.stay {P : Program} {base : Nat} {σ : Sig} {pb : Pb} {w : World} (hs : St base σ pb w) {s : Sem Value} {c : Bool} {p : PV} {z : Value} (hr : s.run P w = .ok z w) (hv : VR σ pb w p z) : SemOk P base σ pb w s ⟨c, p, σ⟩ :=
  ⟨pb, w, z, hr, hs, Ext.refl _ _ _, hv⟩

theorem CRs.map_v' (σ : Sig) (pb : Pb) (w : World) : ∀ l : List Value, CRs σ pb w (l.map .v) l
  | [] => trivial
  | _ :: l => ⟨rfl, CRs.map_v' σ pb w l⟩
section
variable {σ : Sig} {pb : Pb} {w : World}
theorem CRs.drop : ∀ {ps : List PV} {ys : List Value} (n : Nat), CRs σ pb w ps ys → CRs σ pb w (ps.drop n) (ys.drop n)
  | ps, ys, 0, h => h
  | [], [], n + 1, _ => by simp [CRs]
  | p :: ps, y :: ys, n + 1, h => CRs.drop n h.2
  | [], _ :: _, _ + 1, h => h.elim
  | _ :: _, [], _ + 1, h => h.elim
theorem CRs.take : ∀ {ps : List PV} {ys : List Value} (n : Nat), CRs σ pb w ps ys → CRs σ pb w (ps.take n) (ys.take n)
  | ps, ys, 0, h => by simp [CRs]
  | [], [], n + 1, _ => by simp [CRs]
  | p :: ps, y :: ys, n + 1, h => ⟨h.1, CRs.take n h.2⟩
  | [], _ :: _, _ + 1, h => h.elim
  | _ :: _, [], _ + 1, h => h.elim
theorem CRs.append : ∀ {ps qs : List PV} {ys zs : List Value}, CRs σ pb w ps ys → CRs σ pb w qs zs → CRs σ pb w (ps ++ qs) (ys ++ zs)
  | [], _, [], _, _, h => h
  | p :: ps, _, y :: ys, _, h, k => ⟨h.1, CRs.append h.2 k⟩
  | [], _, _ :: _, _, h, _ => h.elim
  | _ :: _, _, [], _, h, _ => h.elim
theorem CRs.get : ∀ {ps : List PV} {ys : List Value}, CRs σ pb w ps ys → ∀ {i : Nat} {p : PV}, ps[i]? = some p → ∃ y, ys[i]? = some y ∧ CR σ pb w p y
  | [], [], _, i, p, h => by simp at h
  | p :: ps, y :: ys, h, 0, q, hq => by simp at hq; subst hq; exact ⟨y, rfl, h.1⟩
  | p :: ps, y :: ys, h, i + 1, q, hq => by simpa using CRs.get h.2 (by simpa using hq)
  | [], _ :: _, h, _, _, _ => h.elim
  | _ :: _, [], h, _, _, _ => h.elim
theorem ER.crs : ∀ {r : Sh} {x : r.den} {vs : List Value}, ER pb w r x vs → CRs σ pb w (r.cells x) vs := by
  intro r
  induction r with
  | int k => intro x vs h; simp only [ER] at h; subst h; exact ⟨rfl, trivial⟩
  | bool => intro x vs h; simp only [ER] at h; subst h; exact ⟨rfl, trivial⟩
  | str => intro x vs h; simp only [ER] at h; subst h; exact ⟨rfl, trivial⟩
  | flt => intro x vs h; simp only [ER] at h; subst h; exact ⟨rfl, trivial⟩
  | unit => intro x vs h; simp only [ER] at h; subst h; exact trivial
  | rows r _ => rintro x vs ⟨a, cap, rfl, hc, hr⟩; exact ⟨⟨a, cap, rfl, hc, fun e => (by cases e), hr⟩, trivial⟩
  | pair a b iha ihb => rintro x vs ⟨u, v, rfl, hu, hv⟩; exact (iha hu).append (ihb hv)
end

theorem wrap_load {P : Program} {σ : Sig} {pb : Pb} {w : World} {t : TypeId} {d : TypeDesc} {b o : Nat} {ys : List Value} {ps : List PV} {q : PV} (hu : P.underlying t = some d) (hl : ys.length = szOf P t)
    (hc : ∀ j v, ys[j]? = some v → w.cell? ⟨b, o + j, none⟩ = some v) (hw : wrapCells (isAggT P t) ps = some q) (hr : CRs σ pb w ps ys) :
    ∃ z, (loadVar t ⟨b, o, none⟩).run P w = .ok z w ∧ VR σ pb w q z := by
  unfold loadVar
  rw [Sem.run_bind, agg_run hu, Result.andThen_ok]
  cases ha : isAggT P t with
  | true =>
    rw [ha] at hw
    cases hw
    refine ⟨.agg ys.toArray, ?_, ys, rfl, hr⟩
    simp only [if_true]
    rw [Sem.run_bind, size_run' hu, Result.andThen_ok, Sem.run_bind, ← hl, run_loadCells_list _ _ _ (fun j v hj => by rw [add_mk]; exact hc j v hj)]
    rfl
  | false =>
    rw [ha] at hw
    match ps, ys, hr with
    | [], _, _ => cases hw
    | [p], [y], hr =>
      cases hw
      refine ⟨y, ?_, ?_⟩
      · have := hc 0 y rfl
        simp only [Nat.add_zero] at this
        simp [load, Sem.run, this]
      · have := hr.1
        cases q <;> first | exact this | exact this.elim
    | [_], [], hr => exact hr.elim
    | [_], _ :: _ :: _, hr => exact hr.2.elim
    | _ :: _ :: _, _, _ => cases hw

theorem CRs.map_v (σ : Sig) (pb : Pb) (w : World) : ∀ l : List Value, CRs σ pb w (l.map .v) l
  | [] => trivial
  | _ :: l => ⟨rfl, CRs.map_v σ pb w l⟩
theorem ofV_rel (σ : Sig) (pb : Pb) (w : World) (x : Value) : VR σ pb w (ofV x) x := by
  cases x with
  | agg cs => exact ⟨cs.toList, by simp, CRs.map_v _ _ _ _⟩
  | _ => rfl
theorem cellV_rel {σ : Sig} {pb : Pb} {w : World} {p : PV} {x y : Value} (h : cellV p = some x) (hv : CR σ pb w p y) : y = x := by
  cases p <;> simp only [cellV] at h <;> cases h
  exact hv
theorem toVs_rel {σ : Sig} {pb : Pb} {w : World} : ∀ {ps : List PV} {l ys : List Value}, toVs ps = some l → CRs σ pb w ps ys → ys = l
  | [], l, [], h, _ => by cases h; rfl
  | p :: ps, l, y :: ys, h, hv => by
    unfold toVs at h
    cases hx : cellV p with
    | none => rw [hx] at h; cases h
    | some x =>
      rw [hx] at h
      cases hl : toVs ps with
      | none => rw [hl] at h; cases h
      | some q => rw [hl] at h; cases h; rw [cellV_rel hx hv.1, toVs_rel hl hv.2]
  | [], _, _ :: _, _, hv => hv.elim
  | _ :: _, _, [], _, hv => hv.elim
theorem toV_rel {σ : Sig} {pb : Pb} {w : World} {p : PV} {x y : Value} (h : toV p = some x) (hv : VR σ pb w p y) : y = x := by
  cases p <;> simp only [toV] at h
  case v z => cases h; exact hv
  case agg cs =>
    obtain ⟨ys, rfl, hc⟩ := hv
    cases hl : toVs cs with
    | none => rw [hl] at h; cases h
    | some l => rw [hl] at h; cases h; rw [toVs_rel hl hc]
  all_goals cases h
theorem val_run {α : Type} (P : Program) : ∀ (s : Sem α) (a : α) (w : World), Sem.val P s = some a → s.run P w = .ok a w := by
  intro s
  induction s with
  | pure x => intro a w h; cases h; rfl
  | program k ih => intro a w h; exact ih P a w h
  | _ => intro a w h; cases h


end Go.Proofs.YthkjjombaoffcaaGreatDoorPM

/- Single operations: pointers, loads, stores. -/
set_option linter.unusedVariables false
set_option linter.unusedSectionVars false
set_option linter.unusedSimpArgs false
noncomputable section
namespace Go.Proofs.YthkjjombaoffcaaGreatDoorPM
open Go Go.RowKit
variable [Foreign]

variable {P : Program} {base : Nat} {σ : Sig} {pb : Pb} {w : World}

theorem nil_ok {p : PV} {y : Value} {t : Tri} (h : oNil p σ = some t) (hv : VR σ pb w p y) :
    t = ⟨true, p, σ⟩ ∧ ((∃ a, y = .pointer (some a)) ∨ ∃ g c, y = .func (.func g) #[] c) := by
  cases p with
  | ptr k o => cases h; obtain ⟨_, b, e, _⟩ := hv; exact ⟨rfl, .inl ⟨_, e⟩⟩
  | rp k i o g => cases h; obtain ⟨_, b, o, e, _⟩ := hv; exact ⟨rfl, .inl ⟨_, e⟩⟩
  | apl k i n g => cases h; obtain ⟨_, b, o, e, _⟩ := hv; exact ⟨rfl, .inl ⟨_, e⟩⟩
  | ep r x o => cases h; obtain ⟨b, o, vs, e, _⟩ := hv; exact ⟨rfl, .inl ⟨_, e⟩⟩
  | fn g c => cases h; obtain ⟨ys, e, _⟩ := hv; exact ⟨rfl, .inr ⟨_, _, e⟩⟩
  | _ => cases h

theorem fieldsOf_some {s : TypeId} {i : Nat} {fd : Field} (h : (fieldsOf P s)[i]? = some fd) : ∃ fs, P.underlying s = some (.struct fs) ∧ fs[i]? = some fd := by
  unfold fieldsOf at h
  split at h
  · rename_i fs hu; exact ⟨fs, hu, by simpa using h⟩
  · simp at h

theorem fieldAt_run {s : TypeId} {fs : Array Field} {i : Nat} {fd : Field} (hu : P.underlying s = some (.struct fs)) (hi : fs[i]? = some fd) (hz : szOf P fd.type ≠ 0) (b o : Nat) :
    (Instr.fieldAt s (.pointer (some ⟨b, o, none⟩)) i).run P w = .ok (.pointer (some ⟨b, o + fd.offset, none⟩)) w := by
  obtain ⟨ti, hti⟩ := szOf_info hz
  unfold Instr.fieldAt fieldPlace
  simp [und_run hu, hi, Instr.sureAddr, size_run hti, hz, add_mk]

theorem fieldAddr_ok {s : TypeId} {p : PV} {i : Nat} {y : Value} {t : Tri} (h : oFieldAddr P s p i σ = some t) (hs : St base σ pb w) (hv : VR σ pb w p y) :
    SemOk P base σ pb w (Instr.fieldAt s y i) t := by
  unfold oFieldAddr at h
  cases hfd : (fieldsOf P s)[i]? with
  | none => rw [hfd] at h; cases h
  | some fd =>
    rw [hfd] at h
    obtain ⟨fs, hu, hi⟩ := fieldsOf_some hfd
    simp only at h
    by_cases hz : szOf P fd.type = 0
    · rw [if_pos hz] at h; cases h
    rw [if_neg hz] at h
    cases p with
    | ptr k o =>
      cases h
      obtain ⟨hlt, b, rfl, hv⟩ := hv
      exact SemOk.stay hs (fieldAt_run hu hi hz b o) ⟨hlt, b, rfl, hv⟩
    | rp k i' o g =>
      cases h
      obtain ⟨hlt, b, o', rfl, hv⟩ := hv
      exact SemOk.stay hs (fieldAt_run hu hi hz b _) ⟨hlt, b, o', by rw [Nat.add_assoc], hv⟩
    | ep r x off =>
      cases h
      obtain ⟨b, o, vs, rfl, hrest⟩ := hv
      exact SemOk.stay hs (fieldAt_run hu hi hz b _) ⟨b, o, vs, by rw [Nat.add_assoc], hrest⟩
    | apl k i' n g =>
      simp only at h
      split at h
      · rename_i k' xs g' hk
        split at h
        · rename_i hc
          cases h
          obtain ⟨hlt, b, o', rfl, hv⟩ := hv
          refine SemOk.stay hs (fieldAt_run hu hi hz b _) ⟨hlt, b, _, rfl, fun r2 ys g2 hk2 => ?_⟩
          obtain ⟨e1, e2⟩ := hv r2 ys g2 hk2
          refine ⟨e1, fun e => ?_⟩
          obtain ⟨a1, a2, a3⟩ := e2 e
          rw [hk] at hk2
          cases hk2
          simp only [Sh.n, Nat.mul_one] at a3 ⊢
          exact ⟨a1, by omega, by omega⟩
        · cases h
      · cases h
    | _ => cases h

theorem part_run {t : TypeId} {cs : List PV} {ys : List Value} {off : Nat} {p : PV} (h : partOf P t cs off = some p) (hr : CRs σ pb w cs ys) :
    ∃ z, (part t ys.toArray off).run P w = .ok z w ∧ VR σ pb w p z := by
  unfold partOf at h
  cases hu : P.underlying t with
  | none => rw [hu] at h; cases h
  | some d =>
    rw [hu] at h
    simp only at h
    split at h
    · rename_i hle
      have hlen := hr.length
      unfold part
      rw [Sem.run_bind, agg_run hu, Result.andThen_ok]
      have hd := (hr.drop off).take (szOf P t)
      cases ha : isAggT P t with
      | true =>
        rw [ha] at h
        cases h
        refine ⟨.agg ((ys.drop off).take (szOf P t)).toArray, ?_, _, rfl, hd⟩
        simp only [if_true]
        rw [Sem.run_bind, size_run' hu, Result.andThen_ok]
        simp [List.extract_toArray, List.extract_eq_take_drop]
      | false =>
        rw [ha] at h
        match hq : (cs.drop off).take (szOf P t), hd, h with
        | [q], hd, h =>
          cases h
          match hy : (ys.drop off).take (szOf P t), hd with
          | [y], hd =>
            refine ⟨y, ?_, ?_⟩
            · have h0 : ys[off]? = some y := by
                have : ((ys.drop off).take (szOf P t))[0]? = some y := by rw [hy]; rfl
                rw [List.getElem?_take] at this
                split at this
                · simpa using this
                · cases this
              simp [h0]
            · have := hd.1
              cases p <;> first | exact this | exact this.elim
          | [], hd => exact hd.elim
          | _ :: _ :: _, hd => exact hd.2.elim
        | [], _, h => cases h
        | _ :: _ :: _, _, h => cases h
    · cases h

theorem field_ok {t0 : TypeId} {p : PV} {i : Nat} {y : Value} {t : Tri} (h : oField P t0 p i σ = some t) (hs : St base σ pb w) (hv : VR σ pb w p y) :
    SemOk P base σ pb w (Instr.field t0 y i) t := by
  unfold oField at h
  cases hfd : (fieldsOf P t0)[i]? with
  | none => rw [hfd] at h; cases h
  | some fd =>
    rw [hfd] at h
    obtain ⟨fs, hu, hi⟩ := fieldsOf_some hfd
    cases p with
    | agg cs =>
      simp only at h
      obtain ⟨ys, rfl, hr⟩ := hv
      cases hq : partOf P fd.type cs fd.offset with
      | none => rw [hq] at h; cases h
      | some q =>
        rw [hq] at h
        cases h
        obtain ⟨z, hz, hvz⟩ := part_run hq hr
        refine SemOk.stay hs ?_ hvz
        unfold Instr.field
        simp [und_run hu, hi, asAgg]
        exact hz
    | _ => cases h

/-! ### loads -/
theorem St.cells {hs : St base σ pb w} {k : Nat} {cs : List PV} {b : Nat} (hk : σ[k]? = some (.cells cs)) (hb : pb[k]? = some (some b)) :
    ∃ c e f, w.heap[b]? = some (.cells c e f) ∧ Unfrozen f c.size ∧ CRs σ pb w cs c.toList := hs.pl k _ _ hk hb
theorem St.rows {hs : St base σ pb w} {k : Nat} {r : Sh} {xs : List r.den} {g b : Nat} (hk : σ[k]? = some (.rows r xs g)) (hb : pb[k]? = some (some b)) :
    ∃ c e f, w.heap[b]? = some (.cells c e f) ∧ Unfrozen f c.size ∧ xs.length * r.n ≤ c.size ∧
      ∀ i (h : i < xs.length), ∃ vs, vs.length = r.n ∧ (∀ j, j < r.n → c[i * r.n + j]? = vs[j]?) ∧ ER pb w r xs[i] vs := hs.pl k _ _ hk hb
theorem rdS_get (r : Sh) (xs : List r.den) (i : Nat) (h : i < xs.length) : rdS r xs i = xs[i] := by
  unfold rdS
  simp [h]

theorem loadP_ok {t : TypeId} {d : TypeDesc} (hu : P.underlying t = some d) {p q : PV} {y : Value} (h : loadP (isAggT P t) (szOf P t) σ p = some q) (hs : St base σ pb w) (hv : VR σ pb w p y) :
    ∃ z, (Instr.loadAt t y).run P w = .ok z w ∧ VR σ pb w q z := by
  cases p with
  | ptr k o =>
    simp only [loadP] at h
    split at h
    · rename_i cs hk
      split at h
      · rename_i hle
        obtain ⟨hlt, b, rfl, hv⟩ := hv
        have hb := hv _ hk
        obtain ⟨c, e, f, h1, h2, h3⟩ := St.cells (hs := hs) hk hb
        have hl := h3.length
        refine wrap_load hu (ys := (c.toList.drop o).take (szOf P t)) (by simp at hl ⊢; omega) (fun j v hj => ?_) h ((h3.drop o).take _)
        rw [cell_mk w b _ h1]
        rw [List.getElem?_take] at hj
        split at hj
        · simpa using hj
        · cases hj
      · cases h
    · cases h
  | rp k i off g =>
    simp only [loadP] at h
    split at h
    · rename_i r xs g' hk
      split at h
      · rename_i hle
        obtain ⟨hlt, b, o', rfl, hv⟩ := hv
        obtain ⟨hb, hi, rfl⟩ := (hv _ _ _ hk).2 hle.1.symm
        obtain ⟨c, e, f, h1, h2, h3, h4⟩ := St.rows (hs := hs) hk hb
        obtain ⟨vs, a1, a2, a3⟩ := h4 i hi
        rw [rdS_get r xs i hi] at h
        refine wrap_load hu (ys := (vs.drop off).take (szOf P t)) (by simp; omega) (fun j v hj => ?_) h ((a3.crs.drop off).take _)
        rw [cell_mk w b _ h1]
        rw [List.getElem?_take] at hj
        split at hj
        · rw [List.getElem?_drop] at hj
          rw [Nat.add_assoc, a2 (off + j) (by omega)]
          exact hj
        · cases hj
      · cases h
    · cases h
  | ep r x off =>
    simp only [loadP] at h
    split at h
    · rename_i hle
      obtain ⟨b, o, vs, rfl, him, hl, hc, he⟩ := hv
      refine wrap_load hu (ys := (vs.drop off).take (szOf P t)) (by simp; omega) (fun j v hj => ?_) h ((he.crs.drop off).take _)
      rw [List.getElem?_take] at hj
      split at hj
      · rw [List.getElem?_drop] at hj
        rw [Nat.add_assoc, hc (off + j) (by omega)]
        exact hj
      · cases hj
    · cases h
  | _ => cases h

end Go.Proofs.YthkjjombaoffcaaGreatDoorPM

/- Single operations: arrays, stores, new variables. -/
set_option linter.unusedVariables false
set_option linter.unusedSectionVars false
set_option linter.unusedSimpArgs false
noncomputable section
namespace Go.Proofs.YthkjjombaoffcaaGreatDoorPM
open Go Go.RowKit
variable [Foreign]

variable {P : Program} {base : Nat} {σ : Sig} {pb : Pb} {w : World}

theorem agg_load {t : TypeId} {d : TypeDesc} {b o : Nat} {ys : List Value} (hu : P.underlying t = some d) (ha : isAggT P t = true) (hl : ys.length = szOf P t)
    (hc : ∀ j v, ys[j]? = some v → w.cell? ⟨b, o + j, none⟩ = some v) : (loadVar t ⟨b, o, none⟩).run P w = .ok (.agg ys.toArray) w := by
  unfold loadVar
  rw [Sem.run_bind, agg_run hu, Result.andThen_ok, ha]
  simp only [if_true]
  rw [Sem.run_bind, size_run' hu, Result.andThen_ok, Sem.run_bind, ← hl, run_loadCells_list _ _ _ (fun j v hj => by rw [add_mk]; exact hc j v hj)]
  rfl

theorem loadArr_ok {t e : TypeId} {n : Nat} {k : IntKind} (hu : P.underlying t = some (.array n e)) (hz : szOf P t = n) {p q : PV} {y : Value} (h : loadArr k n σ p = some q) (hs : St base σ pb w) (hv : VR σ pb w p y) :
    ∃ z, (Instr.loadAt t y).run P w = .ok z w ∧ VR σ pb w q z := by
  have ha : isAggT P t = true := by unfold isAggT; rw [hu]
  cases p with
  | apr k' xs m =>
    simp only [loadArr] at h
    split at h
    · rename_i hc
      obtain ⟨rfl, rfl, hpos⟩ := hc
      cases h
      obtain ⟨h1, a, rfl, hr, _⟩ := hv
      obtain ⟨b, o, vs, rfl, him, _⟩ := hr 0 (by omega)
      refine ⟨.agg ((xs.take m).map (Value.int k')).toArray, agg_load hu ha (by simp; omega) (fun j v hj => ?_), rfl⟩
      rw [List.getElem?_map, List.getElem?_take] at hj
      split at hj
      · rename_i hjm
        obtain ⟨b', o', vs', e', him', hl', hc', he'⟩ := hr j (by omega)
        cases e'
        simp only [ER] at he'
        subst he'
        have := hc' 0 (by omega)
        simp at this
        rw [this]
        rw [List.getElem?_eq_getElem (by omega)] at hj
        simpa using hj
      · cases hj
    · cases h
  | apl pk i m g =>
    simp only [loadArr] at h
    split at h
    · rename_i k' xs g' hk
      split at h
      · rename_i hc
        obtain ⟨rfl, rfl, rfl⟩ := hc
        cases h
        obtain ⟨hlt, b, o', rfl, hv⟩ := hv
        obtain ⟨hb, hle, rfl⟩ := (hv _ _ _ hk).2 rfl
        obtain ⟨c, e', f, h1, h2, h3, h4⟩ := St.rows (hs := hs) hk hb
        refine ⟨.agg (((xs.drop i).take m).map (Value.int k')).toArray, agg_load hu ha (by simp; omega) (fun j v hj => ?_), rfl⟩
        rw [List.getElem?_map, List.getElem?_take] at hj
        split at hj
        · rw [List.getElem?_drop] at hj
          obtain ⟨vs, a1, a2, a3⟩ := h4 (i + j) (by omega)
          simp only [ER] at a3
          subst a3
          have := a2 0 (by simp [Sh.n])
          rw [cell_mk w b _ h1]
          simp [Sh.n] at this ⊢
          rw [this]
          rw [List.getElem?_eq_getElem (by omega)] at hj
          simpa using hj
        · cases hj
      · cases h
    · cases h
  | _ => cases h

theorem load_ok {t : TypeId} {p : PV} {y : Value} {tr : Tri} (h : oLoad P t p σ = some tr) (hs : St base σ pb w) (hv : VR σ pb w p y) :
    SemOk P base σ pb w (Instr.loadAt t y) tr := by
  unfold oLoad at h
  cases hu : P.underlying t with
  | none => rw [hu] at h; cases h
  | some d =>
    rw [hu] at h
    have gen : (match loadP (isAggT P t) (szOf P t) σ p with | some q => some (⟨true, q, σ⟩ : Tri) | none => none) = some tr → SemOk P base σ pb w (Instr.loadAt t y) tr := by
      intro h
      cases hq : loadP (isAggT P t) (szOf P t) σ p with
      | none => rw [hq] at h; cases h
      | some q =>
        rw [hq] at h
        cases h
        obtain ⟨z, hz, hvz⟩ := loadP_ok hu hq hs hv
        exact SemOk.stay hs hz hvz
    cases d with
    | array n e =>
      simp only at h
      split at h
      · split at h
        · rename_i k hk hz
          split at h
          · rename_i q hq
            cases h
            obtain ⟨z, hz', hvz⟩ := loadArr_ok hu hz hq hs hv
            exact SemOk.stay hs hz' hvz
          · cases h
        · cases h
      · cases h
    | _ => exact gen h

theorem load_at {t : TypeId} {p : PV} {y : Value} {tr : Tri} (h : oLoad P t p σ = some tr) (hs : St base σ pb w) (hv : VR σ pb w p y) :
    ∃ z, (Instr.loadAt t y).run P w = .ok z w ∧ VR σ pb w tr.pv z := by
  unfold oLoad at h
  cases hu : P.underlying t with
  | none => rw [hu] at h; cases h
  | some d =>
    rw [hu] at h
    have gen : (match loadP (isAggT P t) (szOf P t) σ p with | some q => some (⟨true, q, σ⟩ : Tri) | none => none) = some tr → ∃ z, (Instr.loadAt t y).run P w = .ok z w ∧ VR σ pb w tr.pv z := by
      intro h
      cases hq : loadP (isAggT P t) (szOf P t) σ p with
      | none => rw [hq] at h; cases h
      | some q =>
        rw [hq] at h
        cases h
        obtain ⟨z, hz, hvz⟩ := loadP_ok hu hq hs hv
        exact ⟨z, hz, hvz⟩
    cases d with
    | array n e =>
      simp only at h
      split at h
      · split at h
        · rename_i k hk hz
          split at h
          · rename_i q hq
            cases h
            obtain ⟨z, hz', hvz⟩ := loadArr_ok hu hz hq hs hv
            exact ⟨z, hz', hvz⟩
          · cases h
        · cases h
      · cases h
    | _ => exact gen h

/-! ### stores -/
def setL (l : List Value) (o : Nat) : List Value → List Value
  | [] => l
  | v :: r => setL (l.set o v) (o + 1) r
theorem setL_arr (c : Array Value) (o : Nat) (l : List Value) : (setArr c o l).toList = setL c.toList o l := by
  induction l generalizing c o with
  | nil => rfl
  | cons v l ih => simp only [setArr, setL]; rw [ih]; simp
theorem setL_length (l : List Value) (o : Nat) (ys : List Value) : (setL l o ys).length = l.length := by
  induction ys generalizing l o with
  | nil => rfl
  | cons v ys ih => simp [setL, ih]
theorem setL_get (ys : List Value) : ∀ (l : List Value) (o p : Nat), o + ys.length ≤ l.length → (setL l o ys)[p]? = if o ≤ p ∧ p < o + ys.length then ys[p - o]? else l[p]? := by
  induction ys with
  | nil => intro l o p _; rw [if_neg (by simp)]; rfl
  | cons v ys ih =>
    intro l o p h
    simp only [List.length_cons] at h
    simp only [setL]
    rw [ih _ _ _ (by simp; omega)]
    by_cases h1 : o + 1 ≤ p ∧ p < o + 1 + ys.length
    · rw [if_pos h1, if_pos (by simp; omega)]
      rw [show p - o = (p - (o + 1)) + 1 by omega, List.getElem?_cons_succ]
    · rw [if_neg h1]
      by_cases h2 : p = o
      · subst h2
        rw [if_pos (by simp), List.getElem?_set_self (by omega)]
        simp
      · rw [if_neg (by simp; omega), List.getElem?_set, if_neg (Ne.symm h2)]
theorem CRs.set : ∀ {ps : List PV} {ys : List Value} {p : PV} {y : Value} (o : Nat), CRs σ pb w ps ys → CR σ pb w p y → CRs σ pb w (ps.set o p) (ys.set o y)
  | [], [], _, _, _, _, _ => trivial
  | _ :: _, _ :: _, _, _, 0, h, k => ⟨k, h.2⟩
  | _ :: _, _ :: _, _, _, o + 1, h, k => ⟨h.1, CRs.set o h.2 k⟩
  | [], _ :: _, _, _, _, h, _ => h.elim
  | _ :: _, [], _, _, _, h, _ => h.elim
theorem CRs.setL : ∀ {xs : List PV} {ys : List Value} {ps : List PV} {zs : List Value} (o : Nat), CRs σ pb w ps zs → CRs σ pb w xs ys → CRs σ pb w (setCells ps o xs) (setL zs o ys)
  | [], [], _, _, _, h, _ => h
  | x :: xs, y :: ys, _, _, o, h, k => CRs.setL (o + 1) (h.set o k.1) k.2
  | [], _ :: _, _, _, _, _, k => k.elim
  | _ :: _, [], _, _, _, _, k => k.elim

theorem live_one {p : PV} {y : Value} (hl : liveCell σ p = true) (hv : VR σ pb w p y) : CR σ pb w p y ∧ oneB y = true := by
  cases p with
  | v x =>
    refine ⟨hv, ?_⟩
    have hv : y = x := hv
    subst hv
    cases y <;> first | rfl | exact absurd hl (by simp [liveCell])
  | rows a b c => refine ⟨hv, ?_⟩; obtain ⟨_, _, e, _⟩ := (show CR σ pb w (.rows a b c) y from hv); rw [e]; rfl
  | ptr k o =>
    refine ⟨hv, ?_⟩
    obtain ⟨_, b, e, _⟩ := (show CR σ pb w (.ptr k o) y from hv)
    rw [e]; rfl
  | rp k i off g =>
    refine ⟨hv, ?_⟩
    obtain ⟨_, b, o, e, _⟩ := (show CR σ pb w (.rp k i off g) y from hv)
    rw [e]; rfl
  | apl k i n g =>
    refine ⟨hv, ?_⟩
    obtain ⟨_, b, o, e, _⟩ := (show CR σ pb w (.apl k i n g) y from hv)
    rw [e]; rfl
  | ep r x off =>
    refine ⟨hv, ?_⟩
    obtain ⟨b, o, vs, e, _⟩ := (show CR σ pb w (.ep r x off) y from hv)
    rw [e]; rfl
  | own k g =>
    refine ⟨hv, ?_⟩
    simp only [liveCell] at hl
    split at hl
    · rename_i r xs g' hk
      rcases ((show CR σ pb w (.own k g) y from hv).2 _ _ _ hk).2 (of_decide_eq_true hl).symm with ⟨b, cap, _, e, _⟩ | ⟨_, _, a, e⟩
      · rw [e]; rfl
      · rw [e]; rfl
    · cases hl
  | ref k i n g =>
    refine ⟨hv, ?_⟩
    simp only [liveCell] at hl
    split at hl
    · rename_i r xs g' hk
      rcases ((show CR σ pb w (.ref k i n g) y from hv).2 _ _ _ hk).2 (of_decide_eq_true hl).symm with ⟨b, o, cap, _, _, _, e, _⟩ | ⟨_, a, e⟩
      · rw [e]; rfl
      · rw [e]; rfl
    · cases hl
  | mapc kk ag r xs =>
    refine ⟨hv, ?_⟩
    obtain ⟨b, e, _⟩ := (show CR σ pb w (.mapc kk ag r xs) y from hv)
    rw [e]; rfl
  | bp c k e e2 =>
    refine ⟨hv, ?_⟩
    obtain ⟨_, b, e, _⟩ := (show CR σ pb w (.bp c k e e2) y from hv)
    rw [e]; rfl
  | ot k g e =>
    refine ⟨hv, ?_⟩
    simp only [liveCell] at hl
    split at hl
    · rename_i r xs g' hk
      rcases ((show CR σ pb w (.ot k g e) y from hv).1.2 _ _ _ hk).2 (of_decide_eq_true hl).symm with ⟨b, cap, _, e, _⟩ | ⟨_, _, a, e⟩
      · rw [e]; rfl
      · rw [e]; rfl
    · cases hl
  | _ => cases hl

theorem cells_one {y : Value} (h : oneB y = true) : y.cells = #[y] := by
  cases y <;> first | rfl | cases h

theorem pv_cells {x : PV} {y : Value} (hl : (pvCells x).all (liveCell σ) = true) (hv : VR σ pb w x y) : ∃ ys : List Value, y.cells = ys.toArray ∧ CRs σ pb w (pvCells x) ys ∧ ys.all oneB = true := by
  have many : ∀ {cs : List PV} {ys : List Value}, cs.all (liveCell σ) = true → CRs σ pb w cs ys → ys.all oneB = true := by
    intro cs
    induction cs with
    | nil => intro ys _ h; cases ys with
      | nil => rfl
      | cons => exact h.elim
    | cons c cs ih => intro ys h1 h2; cases ys with
      | nil => exact h2.elim
      | cons y ys =>
        simp only [List.all_cons, Bool.and_eq_true] at h1 ⊢
        have hc := h2.1
        refine ⟨(live_one (w := w) (pb := pb) h1.1 ?_).2, ih h1.2 h2.2⟩
        cases c <;> first | exact hc | exact hc.elim
  have single : (pvCells x) = [x] → ∃ ys : List Value, y.cells = ys.toArray ∧ CRs σ pb w (pvCells x) ys ∧ ys.all oneB = true := by
    intro e
    rw [e] at hl ⊢
    simp only [List.all_cons, List.all_nil, Bool.and_true] at hl
    obtain ⟨h1, h2⟩ := live_one hl hv
    exact ⟨[y], cells_one h2, ⟨h1, trivial⟩, by simp [h2]⟩
  cases x with
  | agg cs => obtain ⟨ys, rfl, hr⟩ := hv; exact ⟨ys, rfl, hr, many hl hr⟩
  | _ => exact single rfl

theorem parse_er : ∀ {r : Sh} {ps rest : List PV} {x : r.den} {ys : List Value}, r.parse ps = some (x, rest) → CRs σ pb w ps ys → ∃ u v, ys = u ++ v ∧ ER pb w r x u ∧ CRs σ pb w rest v := by
  intro r
  induction r with
  | int k =>
    intro ps rest x ys h hr
    simp only [Sh.parse] at h
    split at h
    · rename_i k' n t
      split at h
      · rename_i e
        cases h
        subst e
        match ys, hr with
        | y :: ys, hr => obtain ⟨h1, h2⟩ := hr; have h1 : y = .int k' x := h1; subst h1; exact ⟨[.int k' x], ys, rfl, rfl, h2⟩
        | [], hr => exact hr.elim
      · cases h
    · cases h
  | bool =>
    intro ps rest x ys h hr
    simp only [Sh.parse] at h
    split at h
    · cases h
      match ys, hr with
      | y :: ys, hr => obtain ⟨h1, h2⟩ := hr; have h1 : y = .bool x := h1; subst h1; exact ⟨[.bool x], ys, rfl, rfl, h2⟩
      | [], hr => exact hr.elim
    · cases h
  | str =>
    intro ps rest x ys h hr
    simp only [Sh.parse] at h
    split at h
    · cases h
      match ys, hr with
      | y :: ys, hr => obtain ⟨h1, h2⟩ := hr; have h1 : y = .string x := h1; subst h1; exact ⟨[.string x], ys, rfl, rfl, h2⟩
      | [], hr => exact hr.elim
    · cases h
  | flt =>
    intro ps rest x ys h hr
    simp only [Sh.parse] at h
    split at h
    · cases h
      match ys, hr with
      | y :: ys, hr => obtain ⟨h1, h2⟩ := hr; have h1 : y = .float .f64 x := h1; subst h1; exact ⟨[.float .f64 x], ys, rfl, rfl, h2⟩
      | [], hr => exact hr.elim
    · cases h
  | rows r _ =>
    intro ps rest x ys h hr
    simp only [Sh.parse] at h
    split at h
    · rename_i full r' xs t
      split at h
      · rename_i e
        subst e
        cases h
        match ys, hr with
        | y :: ys, hr =>
          obtain ⟨h1, h2⟩ := hr
          obtain ⟨a, cap, rfl, hc, _, hrow⟩ := h1
          exact ⟨[.slice a _ cap], ys, rfl, ⟨a, cap, rfl, hc, hrow⟩, h2⟩
        | [], hr => exact hr.elim
      · cases h
    · cases h
      match ys, hr with
      | y :: ys, hr =>
        obtain ⟨h1, h2⟩ := hr
        have h1 : y = .slice none 0 0 := h1
        subst h1
        exact ⟨[.slice none 0 0], ys, rfl, ⟨none, 0, rfl, Nat.le_refl _, fun i hi => absurd hi (by simp)⟩, h2⟩
      | [], hr => exact hr.elim
    · cases h
  | pair a b iha ihb =>
    intro ps rest x ys h hr
    simp only [Sh.parse] at h
    cases ha : a.parse ps with
    | none => rw [ha] at h; cases h
    | some q =>
      obtain ⟨x1, t⟩ := q
      rw [ha] at h
      simp only at h
      cases hb : b.parse t with
      | none => rw [hb] at h; cases h
      | some q =>
        obtain ⟨x2, u⟩ := q
        rw [hb] at h
        cases h
        obtain ⟨u1, v1, rfl, e1, r1⟩ := iha ha hr
        obtain ⟨u2, v2, rfl, e2, r2⟩ := ihb hb r1
        exact ⟨u1 ++ u2, v2, by simp, ⟨u1, u2, rfl, e1, e2⟩, r2⟩
  | unit =>
    intro ps rest x ys h hr
    simp only [Sh.parse] at h
    cases h
    exact ⟨[], ys, rfl, rfl, hr⟩

theorem ER.one : ∀ {r : Sh} {x : r.den} {vs : List Value}, ER pb w r x vs → ∀ v ∈ vs, oneB v = true := by
  intro r
  induction r with
  | int k => intro x vs h v hv; simp only [ER] at h; subst h; simp at hv; subst hv; rfl
  | bool => intro x vs h v hv; simp only [ER] at h; subst h; simp at hv; subst hv; rfl
  | str => intro x vs h v hv; simp only [ER] at h; subst h; simp at hv; subst hv; rfl
  | flt => intro x vs h v hv; simp only [ER] at h; subst h; simp at hv; subst hv; rfl
  | unit => intro x vs h v hv; simp only [ER] at h; subst h; simp at hv
  | rows r _ => rintro x vs ⟨a, cap, rfl, _⟩ v hv; simp at hv; subst hv; rfl
  | pair a b iha ihb =>
    rintro x vs ⟨u, u', rfl, hu, hu'⟩ v hv
    rcases List.mem_append.mp hv with h | h
    · exact iha hu v h
    · exact ihb hu' v h

theorem storeVar_run {t : TypeId} {i : TypeInfo} (hi : P.info? t = some i) {b o : Nat} {c : Array Value} {e : TypeId} {f : Nat × Nat} (hb : w.heap[b]? = some (.cells c e f)) (hf : Unfrozen f c.size) {y : Value} {ys : List Value}
    (hy : y.cells = ys.toArray) (hl : ys.length = szOf P t) (ho : o + ys.length ≤ c.size) (h1 : ys.all oneB = true) : ∃ w', (Instr.storeAt t (.pointer (some ⟨b, o, none⟩)) y).run P w = .ok () w' ∧ Upd w b c (setArr c o ys) w' := by
  obtain ⟨w', hr, hu⟩ := storeCells_run (P := P) b o ys 0 w c e f hb hf (by omega) h1
  refine ⟨w', ?_, by simpa using hu⟩
  unfold Instr.storeAt storeVar
  simp only [Instr.sureAddr, Sem.run_bind, Sem.run_pure, Result.andThen_ok, size_run hi, hy]
  rw [if_neg (by simp; omega)]
  simpa using hr

/-- A row's cells, one element turned. -/
theorem row_set {r : Sh} {xs : List r.den} {c : Array Value} {i off : Nat} {x' : r.den} {vs vs' ys : List Value} {w' : World} (hi : i < xs.length) (hsz : xs.length * r.n ≤ c.size)
    (hel : ∀ i (h : i < xs.length), ∃ vs, vs.length = r.n ∧ (∀ j, j < r.n → c[i * r.n + j]? = vs[j]?) ∧ ER pb w' r xs[i] vs)
    (hvs : vs.length = r.n) (hc : ∀ j, j < r.n → c[i * r.n + j]? = vs[j]?) (hoff : off + ys.length ≤ r.n) (hvs' : vs' = setL vs off ys) (hx : ER pb w' r x' vs') :
    ∀ q (h : q < (xs.set i x').length), ∃ vs, vs.length = r.n ∧ (∀ j, j < r.n → (setArr c (i * r.n + off) ys)[q * r.n + j]? = vs[j]?) ∧ ER pb w' r (xs.set i x')[q] vs := by
  intro q hq
  have hq' : q < xs.length := by simpa using hq
  have hbound : i * r.n + r.n ≤ c.size := by
    have : (i + 1) * r.n ≤ xs.length * r.n := Nat.mul_le_mul_right _ hi
    rw [Nat.succ_mul] at this
    omega
  have get : ∀ p, (setArr c (i * r.n + off) ys)[p]? = if i * r.n + off ≤ p ∧ p < i * r.n + off + ys.length then ys[p - (i * r.n + off)]? else c[p]? := by
    intro p
    rw [← Array.getElem?_toList, setL_arr, setL_get _ _ _ _ (by simp; omega)]
    simp
  by_cases e : q = i
  · subst e
    refine ⟨vs', by rw [hvs', setL_length, hvs], fun j hj => ?_, by simpa using hx⟩
    rw [get, hvs', setL_get _ _ _ _ (by omega)]
    by_cases h1 : off ≤ j ∧ j < off + ys.length
    · rw [if_pos (by omega), if_pos h1]
      congr 1
      omega
    · rw [if_neg (by omega), if_neg h1]
      exact hc j hj
  · obtain ⟨us, u1, u2, u3⟩ := hel q hq'
    refine ⟨us, u1, fun j hj => ?_, by rw [List.getElem_set_ne (Ne.symm e)]; exact u3⟩
    rw [get, if_neg, u2 j hj]
    intro ⟨h1, h2⟩
    rcases Nat.lt_or_gt_of_ne e with hlt | hgt
    · have : (q + 1) * r.n ≤ i * r.n := Nat.mul_le_mul_right _ hlt
      rw [Nat.succ_mul] at this
      omega
    · have : (i + 1) * r.n ≤ q * r.n := Nat.mul_le_mul_right _ hgt
      rw [Nat.succ_mul] at this
      omega

theorem storeP_ok {t : TypeId} {a x : PV} {y z : Value} {σ' : Sig} (h : storeP σ a x = some σ') (hz : (pvCells x).length = szOf P t) (hl : (pvCells x).all (liveCell σ) = true) (hs : St base σ pb w)
    (hva : VR σ pb w a y) (hvx : VR σ pb w x z) (hne : szOf P t ≠ 0) : ∃ w', (Instr.storeAt t y z).run P w = .ok () w' ∧ St base σ' pb w' ∧ Ext σ pb w σ' pb w' := by
  obtain ⟨ti, hti⟩ := szOf_info hne
  obtain ⟨ys, hy, hcr, h1⟩ := pv_cells hl hvx
  have hlen := hcr.length
  cases a with
  | ptr k o =>
    simp only [storeP] at h
    split at h
    · rename_i cs hk
      split at h
      · rename_i hle
        cases h
        obtain ⟨hlt, b, rfl, hva⟩ := hva
        have hb := hva _ hk
        obtain ⟨c, e, f, a1, a2, a3⟩ := St.cells (hs := hs) hk hb
        have hcl := a3.length
        simp at hcl
        obtain ⟨w', hr, hu⟩ := storeVar_run hti a1 a2 hy (by omega) (o := o) (by omega) h1
        have he := hu.ext hb hk (p' := .cells (setCells cs o (pvCells x))) (by trivial) hs.nf
        refine ⟨w', hr, hu.st hs hb hk (by trivial) ?_, he⟩
        obtain ⟨e', f', b1, b2⟩ := hu.at_
        rw [a1] at b1
        cases b1
        refine ⟨_, _, _, b2, by rw [hu.sz]; exact a2, ?_⟩
        rw [setL_arr]
        exact (a3.ext he).setL o (hcr.ext he)
      · cases h
    · cases h
  | rp k i off g =>
    simp only [storeP] at h
    split at h
    · rename_i r xs g' hk
      split at h
      · rename_i hle
        split at h
        · rename_i x' hp
          cases h
          obtain ⟨hlt, b, o', rfl, hva⟩ := hva
          obtain ⟨hb, hi, rfl⟩ := (hva _ _ _ hk).2 hle.1.symm
          obtain ⟨c, e, f, a1, a2, a3, a4⟩ := St.rows (hs := hs) hk hb
          obtain ⟨vs, v1, v2, v3⟩ := a4 i hi
          have hbound : i * r.n + r.n ≤ c.size := by
            have : (i + 1) * r.n ≤ xs.length * r.n := Nat.mul_le_mul_right _ hi
            rw [Nat.succ_mul] at this
            omega
          obtain ⟨w', hr, hu⟩ := storeVar_run hti a1 a2 hy (by omega) (o := i * r.n + off) (by omega) h1
          have hal : Alike (.rows r xs g') (.rows r (xs.set i x') g') := ⟨rfl, Nat.le_refl _, fun _ => by simp⟩
          have he := hu.ext hb hk hal hs.nf
          refine ⟨w', hr, hu.st hs hb hk hal ?_, he⟩
          obtain ⟨e', f', b1, b2⟩ := hu.at_
          rw [a1] at b1
          cases b1
          rw [rdS_get r xs i hi] at hp
          obtain ⟨u, v, e1, e2, e3⟩ := parse_er hp ((v3.crs (σ := σ)).setL off hcr)
          have hv0 : v = [] := by cases v with
            | nil => rfl
            | cons => exact e3.elim
          subst hv0
          simp only [List.append_nil] at e1
          refine ⟨_, _, _, b2, by rw [hu.sz]; exact a2, by rw [hu.sz]; simpa using a3, ?_⟩
          refine row_set hi a3 (fun i h => ?_) v1 v2 (by omega) e1.symm (e2.mono he.keeps)
          obtain ⟨vs, q1, q2, q3⟩ := a4 i h
          exact ⟨vs, q1, q2, q3.mono he.keeps⟩
        · cases h
      · cases h
    · cases h
  | _ => cases h

end Go.Proofs.YthkjjombaoffcaaGreatDoorPM

/- Single operations: stores, new variables, structs. -/
set_option linter.unusedVariables false
set_option linter.unusedSectionVars false
set_option linter.unusedSimpArgs false
noncomputable section
namespace Go.Proofs.YthkjjombaoffcaaGreatDoorPM
open Go Go.RowKit
variable [Foreign]

variable {P : Program} {base : Nat} {σ : Sig} {pb : Pb} {w : World}

theorem store_ok0 {t : TypeId} {a x : PV} {y z : Value} {tr : Tri} (h : oStore0 P t a x σ = some tr) (h1 : tr.ok = true) (hs : St base σ pb w) (hva : VR σ pb w a y) (hvx : VR σ pb w x z) :
    ∃ w', (Instr.storeAt t y z).run P w = .ok () w' ∧ St base tr.σ pb w' ∧ Ext σ pb w tr.σ pb w' ∧ tr.pv = .dead := by
  have gen : (if (pvCells x).length = szOf P t ∧ szOf P t ≠ 0 ∧ (pvCells x).all (liveCell σ) = true then match storeP σ a x with
      | some σ' => some (⟨true, .dead, σ'⟩ : Tri)
      | none => none
    else none) = some tr → ∃ w', (Instr.storeAt t y z).run P w = .ok () w' ∧ St base tr.σ pb w' ∧ Ext σ pb w tr.σ pb w' ∧ tr.pv = .dead := by
    intro h
    split at h
    · rename_i hc
      split at h
      · rename_i σ' hp
        cases h
        obtain ⟨w', a1, a2, a3⟩ := storeP_ok hp hc.1 hc.2.2 hs hva hvx hc.2.1
        exact ⟨w', a1, a2, a3, rfl⟩
      · cases h
    · cases h
  unfold oStore0 at h
  cases x with
  | arr k l =>
    simp only at h
    split at h
    · rename_i p n g m _ hu
      split at h
      · rename_i k' xs g' hk
        split at h
        · rename_i hc
          obtain ⟨rfl, rfl, rfl, hz, hne⟩ := hc
          cases h
          simp only [Bool.and_eq_true, decide_eq_true_eq] at h1
          obtain ⟨hlt, b, o', rfl, hva⟩ := hva
          obtain ⟨hb, hle, rfl⟩ := (hva _ _ _ hk).2 rfl
          obtain ⟨c, e', f, a1, a2, a3, a4⟩ := St.rows (hs := hs) hk hb
          have hvx : z = .agg (l.map (Value.int k')).toArray := hvx
          subst hvx
          obtain ⟨ti, hti⟩ := szOf_info (P := P) (t := t) (by omega)
          simp only [Sh.n, Nat.mul_one] at a3
          obtain ⟨w', hr, hu'⟩ := storeVar_run (P := P) hti a1 a2 (y := .agg (l.map (Value.int k')).toArray) (ys := l.map (Value.int k')) (o := 0) rfl (by simp; omega) (by simp; omega) (by simp [oneB])
          have hal : Alike (.rows (.int k') xs g') (.rows (.int k') l g') := ⟨rfl, Nat.le_refl _, fun _ => by omega⟩
          refine ⟨w', by simpa using hr, hu'.st hs hb hk hal ?_, hu'.ext hb hk hal hs.nf, rfl⟩
          obtain ⟨e'', f', b1, b2⟩ := hu'.at_
          rw [a1] at b1
          cases b1
          refine ⟨_, _, _, b2, by rw [hu'.sz]; exact a2, by rw [hu'.sz]; simp [Sh.n]; omega, fun i hi => ⟨[.int k' l[i]], rfl, fun j hj => ?_, rfl⟩⟩
          simp only [Sh.n] at hj ⊢
          obtain rfl : j = 0 := by omega
          rw [← Array.getElem?_toList, setL_arr, setL_get _ _ _ _ (by simp; omega), if_pos (by simp; exact hi)]
          simp [hi]
        · cases h
      · cases h
    · cases h
  | _ => exact gen h

/-- A place's cells, told anew. -/
theorem retell {k : Nat} {cs1 cs2 : List PV} (hs : St base σ pb w) (hk : σ[k]? = some (.cells cs1)) (hc : ∀ vs, pb[k]? = pb[k]? → CRs σ pb w cs1 vs → CRs σ pb w cs2 vs) :
    St base (σ.set k (.cells cs2)) pb w ∧ Ext σ pb w (σ.set k (.cells cs2)) pb w := by
  have hlt : k < σ.length := (List.getElem?_eq_some_iff.mp hk).1
  have he : Ext σ pb w (σ.set k (.cells cs2)) pb w := ⟨rfl, rfl, rfl, Nat.le_refl _, Keeps.refl _ _, fun b c e f h => ⟨c, f, h, rfl, fun x => x⟩, PlExt.set hk trivial⟩
  refine ⟨⟨hs.bs, by simpa using hs.len, hs.inj, hs.bnd, hs.frn, fun j p o hj ho => ?_⟩, he⟩
  by_cases e : j = k
  · subst e
    rw [List.getElem?_set_self hlt] at hj
    cases hj
    have hp := hs.pl j _ o hk ho
    cases o with
    | none => exact hp.elim
    | some b =>
      obtain ⟨c, e, f, h1, h2, h3⟩ := hp
      exact ⟨c, e, f, h1, h2, (hc _ rfl h3).ext he⟩
  · rw [List.getElem?_set_ne (Ne.symm e)] at hj
    exact PlaceR.ext he (fun _ _ => rfl) (hs.pl j p o hj ho)
theorem bp_ty {k : Nat} {c : Bool} {e e2 : TypeId} {y : PV} (hs : St base σ pb w) (hk : σ[k]? = some (.cells [.bp c k e e2, y])) : ∃ b, pb[k]? = some (some b) ∧ TyOf w b e ∧ ∃ cc f, w.heap[b]? = some (.cells cc e f) ∧ cc.size = 2 := by
  have hlt : k < σ.length := (List.getElem?_eq_some_iff.mp hk).1
  have hlp : k < pb.length := by rw [hs.len]; exact hlt
  have hpk : pb[k]? = some pb[k] := List.getElem?_eq_getElem hlp
  have hp := hs.pl k _ _ hk hpk
  cases ho : pb[k] with
  | none => rw [ho] at hp; exact hp.elim
  | some b =>
    rw [ho] at hp hpk
    obtain ⟨cc, e', f, h1, h2, h3⟩ := hp
    match hcc : cc.toList, h3 with
    | [v0, v1], ⟨h4, _, _⟩ =>
      obtain ⟨_, b', _, h5⟩ := h4
      obtain ⟨h6, h7⟩ := h5 _ hk
      rw [hpk] at h6
      cases h6
      obtain ⟨c7, f7, h8⟩ := h7
      have h9 := h8
      rw [h1] at h9
      cases h9
      refine ⟨b, hpk, ⟨_, _, h8⟩, _, _, h8, ?_⟩
      have : cc.toList.length = 2 := by rw [hcc]; rfl
      simpa using this
    | [], h3 => exact h3.elim
    | [_], h3 => exact h3.2.elim
    | _ :: _ :: _ :: _, h3 => exact h3.2.2.elim
theorem store_ok {t : TypeId} {a x : PV} {y z : Value} {tr : Tri} (h : oStore P t a x σ = some tr) (h1 : tr.ok = true) (hs : St base σ pb w) (hva : VR σ pb w a y) (hvx : VR σ pb w x z) :
    ∃ w', (Instr.storeAt t y z).run P w = .ok () w' ∧ St base tr.σ pb w' ∧ Ext σ pb w tr.σ pb w' ∧ tr.pv = .dead := by
  unfold oStore at h
  split at h
  · rename_i σ' hb
    cases h
    unfold oStoreB at hb
    split at hb
    · rename_i k
      split at hb
      · rename_i c k' e e2 y0 hk
        split at hb
        · rename_i ek
          subst ek
          obtain ⟨b, hpb, hty, _⟩ := bp_ty hs hk
          have main : ∀ (n0 n1 : PV) (c' : Bool), storeP σ (.ptr k' 0) x = some (σ.set k' (.cells [n0, n1])) → (pvCells x).length = szOf P t → szOf P t ≠ 0 → (pvCells x).all (liveCell σ) = true →
              (∀ (σ1 : Sig) (w1 : World) (v : Value), σ1.length = σ.length → CR σ1 pb w1 n0 v → TyOf w1 b e → (∃ cs, σ1[k']? = some (.cells cs)) → CR σ1 pb w1 (.bp c' k' e e2) v) →
              ∃ w', (Instr.storeAt t y z).run P w = .ok () w' ∧ St base (σ.set k' (.cells [.bp c' k' e e2, n1])) pb w' ∧ Ext σ pb w (σ.set k' (.cells [.bp c' k' e e2, n1])) pb w' ∧ (PV.dead : PV) = .dead := by
            intro n0 n1 c' hp h2 h3 h4 hcr
            obtain ⟨w', a1, a2, a3⟩ := storeP_ok hp h2 h4 hs hva hvx h3
            have hlt : k' < σ.length := (List.getElem?_eq_some_iff.mp hk).1
            have hk1 : (σ.set k' (Place.cells [n0, n1]))[k']? = some (.cells [n0, n1]) := List.getElem?_set_self hlt
            obtain ⟨b1, b2⟩ := retell (cs2 := [.bp c' k' e e2, n1]) a2 hk1 (fun vs _ hv => by
              match vs, hv with
              | [v0, v1], ⟨q1, q2, q3⟩ => exact ⟨hcr _ _ _ (by simp) q1 (hty.ext a3) ⟨_, hk1⟩, q2, q3⟩
              | [], hv => exact hv.elim
              | [_], hv => exact hv.2.elim
              | _ :: _ :: _ :: _, hv => exact hv.2.2.elim)
            rw [List.set_set] at b1 b2
            exact ⟨w', a1, b1, a3.trans b2, rfl⟩
          split at hb
          · rename_i k2
            split at hb
            · rename_i hc
              obtain ⟨rfl, hn⟩ := hc
              cases hb
              refine main (.ptr k2 0) y0 true ?_ (by rw [hn]; rfl) (by omega) rfl ?_
              · simp [storeP, hk, pvCells, setCells]
              · intro σ1 w1 v hl hv ht hcs
                obtain ⟨q1, b1, rfl, q2⟩ := hv
                obtain ⟨cs, hcs⟩ := hcs
                have := q2 cs hcs
                rw [hpb] at this
                cases this
                exact ⟨q1, b, rfl, fun cs' _ => ⟨hpb, ht⟩⟩
            · cases hb
          · rename_i zz
            split at hb
            · rename_i hc
              obtain ⟨hn, hl⟩ := hc
              cases hb
              refine main (.v (.pointer none)) zz false ?_ (by rw [hn]; rfl) (by omega) (by show (liveCell σ (.v (.pointer none)) && (liveCell σ zz && true)) = true; rw [hl]; rfl) ?_
              · simp [storeP, hk, pvCells, setCells]
              · intro σ1 w1 v hl hv ht hcs
                obtain rfl : v = .pointer none := hv
                exact ⟨by rw [hl]; exact (List.getElem?_eq_some_iff.mp hk).1, b, rfl, fun cs' _ => ⟨hpb, ht⟩⟩
            · cases hb
          · cases hb
        · cases hb
      · cases hb
    · cases hb
  · exact store_ok0 h h1 hs hva hvx

theorem newCells_ok (hs : St base σ pb w) {cs : List PV} {ys : List Value} (hr : CRs σ pb w cs ys) (t : TypeId) :
    ∃ pb', St base (newCells σ cs).σ pb' (pushW w (.cells ys.toArray t)) ∧ Ext σ pb w (newCells σ cs).σ pb' (pushW w (.cells ys.toArray t)) ∧ VR (newCells σ cs).σ pb' (pushW w (.cells ys.toArray t)) (newCells σ cs).pv (.pointer (some ⟨w.heap.size, 0, none⟩)) := by
  obtain ⟨he, hst⟩ := push_place hs (.cells cs) (.cells ys.toArray t) (fun σ' pb' he => ⟨ys.toArray, t, (0, 0), pushW_new _ _, fun o _ h => by omega, by simpa using hr.ext he⟩)
  refine ⟨_, hst, he, by simp [newCells], w.heap.size, rfl, fun cs' _ => ?_⟩
  rw [List.getElem?_append_right (by rw [hs.len]; exact Nat.le_refl _), hs.len]
  simp
theorem newArr_ok (hs : St base σ pb w) (k : IntKind) (n : Nat) (l : List Int) (c : Bool) (hn : l.length = n) (t : TypeId) :
    ∃ pb', St base (newArr σ k n l c).σ pb' (pushW w (.cells (l.map (Value.int k)).toArray t)) ∧ Ext σ pb w (newArr σ k n l c).σ pb' (pushW w (.cells (l.map (Value.int k)).toArray t)) ∧
      VR (newArr σ k n l c).σ pb' (pushW w (.cells (l.map (Value.int k)).toArray t)) (newArr σ k n l c).pv (.pointer (some ⟨w.heap.size, 0, none⟩)) := by
  obtain ⟨he, hst⟩ := push_place hs (.rows (.int k) l 0) (.cells (l.map (Value.int k)).toArray t) (fun σ' pb' he => by
    refine ⟨_, t, (0, 0), pushW_new _ _, fun o _ h => by omega, by simp [Sh.n], fun i hi => ⟨[.int k l[i]], rfl, fun j hj => ?_, rfl⟩⟩
    simp only [Sh.n] at hj ⊢
    have : j = 0 := by omega
    subst this
    have hi' : i < List.length (α := Int) l := hi
    simp [hi'])
  refine ⟨_, hst, he, by simp [newArr], w.heap.size, 0, rfl, fun r xs g' hk => ?_⟩
  simp only [newArr] at hk
  rw [List.getElem?_append_right (Nat.le_refl _)] at hk
  simp at hk
  obtain ⟨rfl, hk, rfl⟩ := hk
  obtain rfl := eq_of_heq hk
  refine ⟨Nat.le_refl _, fun _ => ⟨?_, by simp [hn], by simp⟩⟩
  rw [List.getElem?_append_right (by rw [hs.len]; exact Nat.le_refl _), hs.len]
  simp

theorem newVar_run (t : TypeId) (v : Value) : (newVar t v).run P w = .ok ⟨w.heap.size, 0, none⟩ (pushW w (.cells v.cells t)) := rfl

theorem alloc_ok {t : TypeId} {tr : Tri} (h : oAlloc P t σ = some tr) (hs : St base σ pb w) : SemOk P base σ pb w (Instr.alloc t true (.tuple #[])) tr := by
  unfold oAlloc at h
  cases hz : zeroOf P t with
  | none => rw [hz] at h; cases h
  | some z =>
    rw [hz] at h
    have hrun : (Instr.alloc t true (.tuple #[])).run P w = .ok (.pointer (some ⟨w.heap.size, 0, none⟩)) (pushW w (.cells z.cells t)) := by
      unfold Instr.alloc
      rw [Sem.run_bind, zero_run hz, Result.andThen_ok]
      rfl
    have gen : some (newCells σ (zeroCellsP z)) = some tr → SemOk P base σ pb w (Instr.alloc t true (.tuple #[])) tr := by
      intro h
      cases h
      have hr : CRs σ pb w (zeroCellsP z) z.cells.toList := by
        cases z with
        | agg cs => exact CRs.map_v' _ _ _ _
        | _ => exact ⟨rfl, trivial⟩
      obtain ⟨pb', a1, a2, a3⟩ := newCells_ok hs hr t
      exact ⟨pb', _, _, hrun, by simpa using a1, by simpa using a2, by simpa using a3⟩
    have genB : some (newCells σ (tagB P t σ.length (zeroCellsP z))) = some tr → SemOk P base σ pb w (Instr.alloc t true (.tuple #[])) tr := by
      intro h
      by_cases e : tagB P t σ.length (zeroCellsP z) = zeroCellsP z
      · rw [e] at h; exact gen h
      · unfold tagB at h e
        split at e
        · rename_i e2 hb
          rw [hb] at h
          simp only at h
          split at e
          · rename_i y0 hcs
            rw [hcs] at h
            cases h
            have hr : CRs σ pb w (zeroCellsP z) z.cells.toList := by
              cases z with
              | agg cs => exact CRs.map_v' _ _ _ _
              | _ => exact ⟨rfl, trivial⟩
            obtain ⟨pb', a1, a2, a3⟩ := newCells_ok hs hr t
            rw [hcs] at a1 a2 a3
            rw [Array.toArray_toList] at a1 a2 a3
            have a3 : CR (σ ++ [.cells [PV.v (.pointer none), y0]]) pb' (pushW w (.cells z.cells t)) (.ptr σ.length 0) (.pointer (some ⟨w.heap.size, 0, none⟩)) := a3
            have a1 : St base (σ ++ [.cells [PV.v (.pointer none), y0]]) pb' (pushW w (.cells z.cells t)) := a1
            have a2 : Ext σ pb w (σ ++ [.cells [PV.v (.pointer none), y0]]) pb' (pushW w (.cells z.cells t)) := a2
            have hlast : (σ ++ [Place.cells [PV.v (.pointer none), y0]])[σ.length]? = some (.cells [PV.v (.pointer none), y0]) := by simp
            have hpb : pb'[σ.length]? = some (some w.heap.size) := by
              obtain ⟨_, b, e1, e2⟩ := a3
              cases e1
              exact e2 _ hlast
            obtain ⟨b1, b2⟩ := retell (cs2 := [.bp false σ.length t e2, y0]) a1 hlast (fun vs _ hv => by
              match vs, hv with
              | v0 :: vs, ⟨q1, q2⟩ =>
                obtain rfl : v0 = .pointer none := q1
                exact ⟨⟨by simp, w.heap.size, rfl, fun cs' _ => ⟨hpb, _, _, pushW_new _ _⟩⟩, q2⟩
              | [], hv => exact hv.elim)
            have e3 : (σ ++ [Place.cells [PV.v (.pointer none), y0]]).set σ.length (.cells [.bp false σ.length t e2, y0]) = σ ++ [.cells [.bp false σ.length t e2, y0]] := by simp
            rw [e3] at b1 b2
            exact ⟨pb', _, _, hrun, b1, a2.trans b2, a3.ext b2⟩
          · exact absurd rfl e
        · exact absurd rfl e
    simp only at h
    cases hu : P.underlying t with
    | none => rw [hu] at h; cases h
    | some d =>
      rw [hu] at h
      have hzs : ∀ (k : IntKind) (l : List Value), isZeros k l = true → l = (List.replicate l.length (0 : Int)).map (Value.int k) := by
        intro k l
        induction l with
        | nil => intro _; rfl
        | cons v l ih =>
          intro h
          unfold isZeros at h
          split at h
          · cases h
            rename_i e0
            cases e0
          · rename_i e1
            cases e1
            simp only [Bool.and_eq_true, decide_eq_true_eq] at h
            obtain ⟨rfl, h⟩ := h
            simp only [List.length_cons, List.replicate_succ, List.map_cons]
            rw [← ih h]
          · cases h
      have row : ∀ (k : IntKind) (zs : Array Value) (n : Nat), z = .agg zs → isZeros k zs.toList = true → zs.size = n → SemOk P base σ pb w (Instr.alloc t true (.tuple #[])) (newArr σ k n (List.replicate n (0 : Int)) true) := by
        intro k zs n hz hc hn
        subst hz
        have e1 := hzs k _ hc
        obtain ⟨pb', a1, a2, a3⟩ := newArr_ok hs k n (List.replicate n (0 : Int)) true (by simp) t
        have e2 : zs = ((List.replicate n (0 : Int)).map (Value.int k)).toArray := by
          apply Array.ext'
          rw [e1]
          simp [hn]
        rw [← e2] at a1 a2 a3
        exact ⟨pb', _, _, hrun, a1, a2, a3⟩
      cases d with
      | array n e =>
        simp only at h
        split at h
        · rename_i k zs hk
          split at h
          · rename_i hc
            cases h
            exact row k zs n rfl hc.1 hc.2
          · cases h
        · cases h
      | struct fs =>
        simp only at h
        split at h
        · rename_i k hk
          split at h
          · rename_i zs
            split at h
            · rename_i hc
              cases h
              exact row k zs _ rfl hc rfl
            · cases h
          · cases h
        · exact genB h
      | _ => exact gen h

theorem numsOf_spec {k : IntKind} : ∀ {cs : List PV} {l : List Int} {ys : List Value}, numsOf k cs = some l → CRs σ pb w cs ys → ys = l.map (Value.int k) := by
  intro cs
  induction cs with
  | nil => intro l ys h hr; cases h; cases ys with
    | nil => rfl
    | cons => exact hr.elim
  | cons c cs ih =>
    intro l ys h hr
    unfold numsOf at h
    split at h
    · rename_i e; cases e
    · rename_i k' n r e
      cases e
      split at h
      · rename_i ek
        subst ek
        split at h
        · rename_i l' hl
          cases h
          cases ys with
          | nil => exact hr.elim
          | cons y ys =>
            have : y = .int k' n := hr.1
            rw [this, ih hl hr.2]
            rfl
        · cases h
      · cases h
    · cases h
theorem box_ok {t : TypeId} {x : PV} {y : Value} {tr : Tri} (h : oBox P t x σ = some tr) (h1 : tr.ok = true) (hs : St base σ pb w) (hv : VR σ pb w x y) : SemOk P base σ pb w (Instr.box t y) tr := by
  have gen : (match uniT P t with
    | some k => match x with
      | .agg cs => match numsOf k cs with
        | some l => some (newArr σ k l.length l true)
        | none => none
      | _ => none
    | none => if (pvCells x).all (liveCell σ) = true then some (newCells σ (pvCells x)) else none) = some tr → SemOk P base σ pb w (Instr.box t y) tr := by
    intro h
    split at h
    · rename_i k hk
      split at h
      · rename_i cs hv
        split at h
        · rename_i l hl
          cases h
          obtain ⟨ys, rfl, hr⟩ := hv
          have e := numsOf_spec hl hr
          subst e
          obtain ⟨pb', a1, a2, a3⟩ := newArr_ok hs k l.length l true rfl t
          exact ⟨pb', _, _, rfl, a1, a2, a3⟩
        · cases h
      · cases h
    · split at h
      · rename_i hl
        cases h
        obtain ⟨ys, e, hr, _⟩ := pv_cells hl hv
        obtain ⟨pb', a1, a2, a3⟩ := newCells_ok hs hr t
        refine ⟨pb', _, _, ?_, a1, a2, a3⟩
        unfold Instr.box
        rw [Sem.run_bind, newVar_run, e]
        rfl
      · cases h
  unfold oBox at h
  cases x with
  | arr k l =>
    simp only at h
    split at h
    · cases h
      have hv : y = .agg (l.map (Value.int k)).toArray := hv
      subst hv
      obtain ⟨pb', a1, a2, a3⟩ := newArr_ok hs k _ l _ (of_decide_eq_true h1) t
      exact ⟨pb', _, _, rfl, a1, a2, a3⟩
    · cases h
  | _ => exact gen h

/-! ### structs and literals -/
theorem foldl_setArr (off : Nat) : ∀ (l : List Value) (n : Nat) (cells : Array Value), (l.zipIdx n).foldl (fun cs (p : Value × Nat) => cs.setIfInBounds (off + p.2) p.1) cells = setArr cells (off + n) l
  | [], n, cells => rfl
  | v :: l, n, cells => by
    simp only [List.zipIdx_cons, List.foldl_cons, setArr]
    rw [foldl_setArr off l (n + 1)]
    rfl
theorem fill_ok {place : Nat → Option (Nat × Nat)} : ∀ {l : List (Nat × Nat × PV)} {parts : List (Nat × Value)} {cs cs' : List PV} {ys : List Value}, fillP σ cs l = some cs' → CRs σ pb w cs ys →
    l.length = parts.length → (∀ (i o s : Nat) (p : PV), l[i]? = some (o, s, p) → ∃ n v, parts[i]? = some (n, v) ∧ place n = some (o, s) ∧ VR σ pb w p v) →
    ∃ ys' : List Value, Instr.fill place ys.toArray parts = some ys'.toArray ∧ CRs σ pb w cs' ys' := by
  intro l
  induction l with
  | nil =>
    intro parts cs cs' ys h hr hl _
    cases h
    cases parts with
    | nil => exact ⟨ys, rfl, hr⟩
    | cons => simp at hl
  | cons x l ih =>
    intro parts cs cs' ys h hr hl hp
    obtain ⟨o, s, p⟩ := x
    cases parts with
    | nil => simp at hl
    | cons q parts =>
      obtain ⟨n, v, e1, e2, hv⟩ := hp 0 o s p rfl
      simp at e1
      subst e1
      simp only [fillP] at h
      split at h
      · rename_i hc
        obtain ⟨us, u1, u2, _⟩ := pv_cells hc.2.2 hv
        have hlen := u2.length
        have hlr := hr.length
        obtain ⟨ys', a1, a2⟩ := ih (parts := parts) h (hr.setL o u2) (by simpa using hl) (fun i o s p hi => by simpa using hp (i + 1) o s p (by simpa using hi))
        refine ⟨ys', ?_, a2⟩
        unfold Instr.fill
        simp only [e2]
        rw [if_neg (by rw [u1]; simp; omega), ← a1]
        congr 1
        rw [u1]
        rw [← Array.foldl_toList, Array.toList_zipIdx]
        simp only
        have := foldl_setArr o us 0 ys.toArray
        simp only [Nat.add_zero] at this
        rw [show (us.toArray.toList.zipIdx 0) = us.zipIdx 0 by simp]
        refine Eq.trans this ?_
        apply Array.ext'
        rw [setL_arr]
      · cases h

end Go.Proofs.YthkjjombaoffcaaGreatDoorPM

/- Single operations: literals of structs, indices, cuts, reckonings. -/
set_option linter.unusedVariables false
set_option linter.unusedSectionVars false
set_option linter.unusedSimpArgs false
noncomputable section
namespace Go.Proofs.YthkjjombaoffcaaGreatDoorPM
open Go Go.RowKit
variable [Foreign]

variable {P : Program} {base : Nat} {σ : Sig} {pb : Pb} {w : World}

theorem asI_rel {q : PV} {n : Int} {y : Value} (h : asI q = some n) (hv : VR σ pb w q y) : ∃ k, y = .int k n := by
  cases q with
  | v x =>
    have hv : y = x := hv
    subst hv
    cases y <;> simp only [asI] at h <;> cases h
    exact ⟨_, rfl⟩
  | _ => cases h

theorem elOk_spec {e : TypeId} {r : Sh} (h : elOk P e r = true) : szOf P e = r.n ∧ r.n ≠ 0 ∧ ∃ i, P.info? e = some i := by
  unfold elOk at h
  simp only [Bool.and_eq_true, Bool.not_eq_true'] at h
  have h1 := Nat.eq_of_beq_eq_true h.1
  have h2 : r.n ≠ 0 := fun e0 => by rw [e0] at h; exact absurd h.2 (by simp)
  exact ⟨h1, h2, szOf_info (by omega)⟩

theorem build_ok {t : TypeId} {parts : List (Nat × PV)} {vals : List (Nat × Value)} {tr : Tri} (h : oBuild P t parts σ = some tr) (hs : St base σ pb w)
    (hp : parts.length = vals.length) (hv : ∀ (i n : Nat) (p : PV), parts[i]? = some (n, p) → ∃ v, vals[i]? = some (n, v) ∧ VR σ pb w p v) : SemOk P base σ pb w (Instr.build t vals.toArray) tr := by
  unfold oBuild at h
  split at h
  · rename_i z hz
    split at h
    · rename_i fs hu
      split at h
      · rename_i hall
        split at h
        · rename_i l hl
          split at h
          · rename_i cs hf
            cases h
            have hplaces : ∀ (fl : List Field), fl.all (fun fd => (P.info? fd.type).isSome) = true → (fl.mapM fun f => do pure (f.offset, ← sizeOf f.type) : Sem (List (Nat × Nat))).run P w = .ok (fl.map fun f => (f.offset, szOf P f.type)) w := by
              intro fl
              induction fl with
              | nil => intro _; rfl
              | cons f fl ih =>
                intro h
                simp only [List.all_cons, Bool.and_eq_true] at h
                obtain ⟨ti, hti⟩ := Option.isSome_iff_exists.mp h.1
                rw [List.mapM_cons, Sem.run_bind, Sem.run_bind, size_run hti, Result.andThen_ok, Sem.run_pure, Result.andThen_ok, Sem.run_bind, ih h.2]
                rfl
            have hparts : ∀ (ps : List (Nat × PV)) (l : List (Nat × Nat × PV)), partsOf P fs ps = some l → l.length = ps.length ∧ ∀ (i o s : Nat) (p : PV), l[i]? = some (o, s, p) → ∃ n fd, ps[i]? = some (n, p) ∧ fs[n]? = some fd ∧ o = fd.offset ∧ s = szOf P fd.type := by
              intro ps
              induction ps with
              | nil => intro l h; cases h; exact ⟨rfl, fun i o s p h => by simp at h⟩
              | cons q ps ih =>
                intro l h
                obtain ⟨n, p⟩ := q
                simp only [partsOf] at h
                split at h
                · rename_i fd hfd
                  split at h
                  · rename_i l' hl'
                    cases h
                    obtain ⟨h1, h2⟩ := ih _ hl'
                    refine ⟨by simp [h1], fun i o s p hi => ?_⟩
                    cases i with
                    | zero => simp at hi; obtain ⟨rfl, rfl, rfl⟩ := hi; exact ⟨n, fd, rfl, hfd, rfl, rfl⟩
                    | succ i => simpa using h2 i o s p (by simpa using hi)
                  · cases h
                · cases h
            obtain ⟨hl1, hl2⟩ := hparts _ _ hl
            obtain ⟨ys', a1, a2⟩ := fill_ok (σ := σ) (pb := pb) (w := w) (place := fun i => ((fs.toList.map fun f => (f.offset, szOf P f.type)).toArray)[i]?) (parts := vals) hf (CRs.map_v' σ pb w z.toList) (by omega) (fun i o s p hi => by
              obtain ⟨n, fd, q1, q2, rfl, rfl⟩ := hl2 i o s p hi
              obtain ⟨v, v1, v2⟩ := hv i n p q1
              exact ⟨n, v, v1, by simp [q2], v2⟩)
            refine SemOk.stay hs (z := .agg ys'.toArray) ?_ ⟨ys', rfl, a2⟩
            unfold Instr.build
            rw [Sem.run_bind, zero_run hz]
            simp only [Result.andThen_ok]
            rw [Sem.run_bind, und_run hu, Result.andThen_ok]
            simp only
            rw [Sem.run_bind, Array.mapM_eq_mapM_toList, Sem.run_map, hplaces _ hall]
            simp only [Result.andThen_ok]
            rw [show (Value.agg z).cells = z.toList.toArray by simp [Value.cells], a1]
            rfl
          · cases h
        · cases h
      · cases h
    · cases h
  · cases h

theorem buildArr_ok {t : TypeId} {parts : List (Nat × PV)} {vals : List (Nat × Value)} {tr : Tri} (h : oBuildArr P t parts σ = some tr) (hs : St base σ pb w)
    (hp : parts.length = vals.length) (hv : ∀ (i n : Nat) (p : PV), parts[i]? = some (n, p) → ∃ v, vals[i]? = some (n, v) ∧ VR σ pb w p v) : SemOk P base σ pb w (Instr.build t vals.toArray) tr := by
  unfold oBuildArr at h
  split at h
  · rename_i z hz
    split at h
    · rename_i n e hu
      split at h
      · rename_i k he
        split at h
        · rename_i hsz
          split at h
          · rename_i cs hf
            split at h
            · rename_i l hl
              cases h
              obtain ⟨ti, hti⟩ := szOf_info (P := P) (t := e) (by omega)
              obtain ⟨ys', a1, a2⟩ := fill_ok (σ := σ) (pb := pb) (w := w) (place := fun i => some (i * 1, 1)) (parts := vals) hf (CRs.map_v' σ pb w z.toList) (by simpa using hp) (fun i o s p hi => by
                rw [List.getElem?_map] at hi
                cases hq : parts[i]? with
                | none => rw [hq] at hi; cases hi
                | some q =>
                  obtain ⟨m, p'⟩ := q
                  rw [hq] at hi
                  simp at hi
                  obtain ⟨rfl, rfl, rfl⟩ := hi
                  obtain ⟨v, v1, v2⟩ := hv i _ p' hq
                  exact ⟨_, v, v1, by simp, v2⟩)
              have e3 := numsOf_spec hl a2
              refine SemOk.stay hs (z := .agg ys'.toArray) ?_ (by rw [e3]; rfl)
              unfold Instr.build
              rw [Sem.run_bind, zero_run hz]
              simp only [Result.andThen_ok]
              rw [Sem.run_bind, und_run hu, Result.andThen_ok]
              simp only
              rw [Sem.run_bind, size_run hti, hsz]
              simp only [Result.andThen_ok]
              rw [show (Value.agg z).cells = z.toList.toArray by simp [Value.cells], a1]
              rfl
            · cases h
          · cases h
        · cases h
      · cases h
    · cases h
  · cases h

theorem indexAt_slice {t e : TypeId} {r : Sh} (hu : P.underlying t = some (.slice e)) (hel : elOk P e r = true) (b o len cap : Nat) (k : IntKind) (n : Int) (h0 : 0 ≤ n) (h1 : n < len) :
    (Instr.indexAt t (.slice (some ⟨b, o, none⟩) len cap) (.int k n)).run P w = .ok (.pointer (some ⟨b, o + n.toNat * r.n, none⟩)) w := by
  obtain ⟨e1, _, ti, hti⟩ := elOk_spec hel
  unfold Instr.indexAt
  simp [asIntOf, und_run hu, h0, h1, size_run hti, e1, add_mk]
theorem indexAt_array {t e : TypeId} {r : Sh} {m : Nat} (hu : P.underlying t = some (.array m e)) (hel : elOk P e r = true) (b o : Nat) (k : IntKind) (n : Int) (h0 : 0 ≤ n) (h1 : n < m) :
    (Instr.indexAt t (.pointer (some ⟨b, o, none⟩)) (.int k n)).run P w = .ok (.pointer (some ⟨b, o + n.toNat * r.n, none⟩)) w := by
  obtain ⟨e1, _, ti, hti⟩ := elOk_spec hel
  unfold Instr.indexAt
  simp [asIntOf, und_run hu, h0, h1, size_run hti, e1, add_mk, Instr.sureAddr]

theorem indexAddr_ok {t : TypeId} {p q : PV} {y z : Value} {tr : Tri} (h : oIndexAddr P t p q σ = some tr) (h1 : tr.ok = true) (hs : St base σ pb w) (hvp : VR σ pb w p y) (hvq : VR σ pb w q z) :
    SemOk P base σ pb w (Instr.indexAt t y z) tr := by
  unfold oIndexAddr at h
  cases hn : asI q with
  | none => rw [hn] at h; cases h
  | some n =>
    rw [hn] at h
    obtain ⟨ik, rfl⟩ := asI_rel hn hvq
    simp only at h
    split at h
    · rename_i e hu
      cases p with
      | rows full r xs =>
        simp only at h
        split at h
        · rename_i hel
          cases h
          simp only [Bool.and_eq_true, decide_eq_true_eq] at h1
          obtain ⟨a, cap, rfl, hc, _, hr⟩ := hvp
          obtain ⟨b, o, vs, rfl, him, hl, hcell, he⟩ := hr n.toNat (by omega)
          refine SemOk.stay hs (indexAt_slice hu hel b o _ cap ik n h1.1 h1.2) ⟨b, o + n.toNat * r.n, vs, by simp, him, hl, hcell, ?_⟩
          rw [rdS_get r xs n.toNat (by omega)]
          exact he
        · cases h
      | own k g =>
        simp only at h
        split at h
        · rename_i r xs g' hk
          split at h
          · rename_i hc
            cases h
            simp only [Bool.and_eq_true, decide_eq_true_eq] at h1
            obtain ⟨hlt, hv⟩ := hvp
            rcases (hv _ _ _ hk).2 hc.1.symm with ⟨b, cap, hb, rfl, _, _⟩ | ⟨_, hx, _⟩
            · refine SemOk.stay hs (indexAt_slice hu hc.2 b 0 _ cap ik n h1.1 h1.2) ⟨hlt, b, n.toNat * r.n, by simp, fun r' xs' g'' hk' => ?_⟩
              rw [hk] at hk'
              cases hk'
              exact ⟨by omega, fun _ => ⟨hb, by omega, rfl⟩⟩
            · subst hx; simp at h1; omega
          · cases h
        · cases h
      | ref k i m g =>
        simp only at h
        split at h
        · rename_i r xs g' hk
          split at h
          · rename_i hc
            cases h
            simp only [Bool.and_eq_true, decide_eq_true_eq] at h1
            obtain ⟨hlt, hv⟩ := hvp
            rcases (hv _ _ _ hk).2 hc.1.symm with ⟨b, o, cap, hb, hle, ho, rfl, _⟩ | ⟨hx, _⟩
            · have ho := ho (by omega)
              subst ho
              refine SemOk.stay hs (indexAt_slice hu hc.2 b _ _ cap ik n h1.1 h1.2) ⟨hlt, b, _, rfl, fun r' xs' g'' hk' => ?_⟩
              rw [hk] at hk'
              cases hk'
              exact ⟨by omega, fun _ => ⟨hb, by omega, by simp [Nat.add_mul]⟩⟩
            · subst hx; omega
          · cases h
        · cases h
      | _ => cases h
    · rename_i m e hu
      cases p with
      | apl k i m' g =>
        simp only at h
        split at h
        · rename_i r xs g' hk
          split at h
          · rename_i hc
            cases h
            simp only [Bool.and_eq_true, decide_eq_true_eq] at h1
            obtain ⟨hlt, b, o', rfl, hv⟩ := hvp
            obtain ⟨hb, hle, rfl⟩ := (hv _ _ _ hk).2 hc.1.symm
            refine SemOk.stay hs (indexAt_array hu hc.2.1 b _ ik n h1.1 h1.2) ⟨hlt, b, _, rfl, fun r' xs' g'' hk' => ?_⟩
            rw [hk] at hk'
            cases hk'
            exact ⟨by omega, fun _ => ⟨hb, by omega, by simp [Nat.add_mul]⟩⟩
          · cases h
        · cases h
      | _ => cases h
    · cases h

theorem index_ok {t : TypeId} {p q : PV} {y z : Value} {tr : Tri} (h : oIndex P t p q σ = some tr) (h1 : tr.ok = true) (hs : St base σ pb w) (hvp : VR σ pb w p y) (hvq : VR σ pb w q z) :
    SemOk P base σ pb w (Instr.index t y z) tr := by
  unfold oIndex at h
  cases hn : asI q with
  | none => rw [hn] at h; cases h
  | some n =>
    rw [hn] at h
    obtain ⟨ik, rfl⟩ := asI_rel hn hvq
    simp only at h
    split at h
    · rename_i s hu
      cases h
      simp only [Bool.and_eq_true, decide_eq_true_eq] at h1
      have hvp : y = .string s := hvp
      subst hvp
      have hlt : n.toNat < s.size := by omega
      refine SemOk.stay hs (z := .int .u8 (s[n.toNat]).toNat) ?_ ?_
      · unfold Instr.index
        simp [asIntOf, und_run hu, h1.1, hlt]
      · show Value.int .u8 _ = Value.int .u8 _
        congr 1
        have : n.toNat < s.data.toList.length := by simpa using hlt
        have hd : n.toNat < s.data.size := hlt
        simp [bytesL, List.getD_eq_getElem?_getD, Array.getElem?_eq_getElem hd]
        rfl
    · rename_i k l m e hu
      split at h
      · rename_i k2 hk2
        split at h
        · rename_i hz
          cases h
          simp only [Bool.and_eq_true, decide_eq_true_eq] at h1
          have hvp : y = .agg (l.map (Value.int k)).toArray := hvp
          subst hvp
          have hlt : n.toNat < l.length := by omega
          refine SemOk.stay hs (z := .int k l[n.toNat]) ?_ ?_
          · unfold Instr.index part
            have ha : isAggT P e = false := by unfold isAggT; rw [hk2]
            simp [asIntOf, und_run hu, h1.1, h1.2.1, size_run' hk2, hz, agg_run hk2, ha, hlt]
          · show Value.int k _ = Value.int k _
            simp [List.getD_eq_getElem?_getD, hlt]
        · cases h
      · cases h
    · cases h

theorem extract_ok {p : PV} {i : Nat} {y : Value} {tr : Tri} (h : oExtract p i σ = some tr) (hs : St base σ pb w) (hv : VR σ pb w p y) : SemOk P base σ pb w (Instr.extract y i) tr := by
  unfold oExtract at h
  cases p with
  | tup vs =>
    simp only at h
    split at h
    · rename_i q hq
      cases h
      obtain ⟨ys, rfl, hr⟩ := hv
      have get : ∀ (vs : List PV) (ys : List Value) (i : Nat), ARs σ pb w vs ys → vs[i]? = some q → ∃ y, ys[i]? = some y ∧ AR σ pb w q y := by
        intro vs
        induction vs with
        | nil => intro ys i _ h; simp at h
        | cons v vs ih =>
          intro ys i hr hi
          cases ys with
          | nil => exact hr.elim
          | cons y ys =>
            cases i with
            | zero => simp at hi; subst hi; exact ⟨y, rfl, hr.1⟩
            | succ i => simpa using ih ys i hr.2 (by simpa using hi)
      obtain ⟨y, h1, h2⟩ := get _ _ _ hr hq
      refine SemOk.stay hs (z := y) ?_ ?_
      · unfold Instr.extract
        simp [h1]
      · cases q <;> first | exact h2 | exact h2.elim
    · cases h
  | _ => cases h

end Go.Proofs.YthkjjombaoffcaaGreatDoorPM

/- Single operations: cuts, reckonings, lengths. -/
set_option linter.unusedVariables false
set_option linter.unusedSectionVars false
set_option linter.unusedSimpArgs false
noncomputable section
namespace Go.Proofs.YthkjjombaoffcaaGreatDoorPM
open Go Go.RowKit
variable [Foreign]

variable {P : Program} {base : Nat} {σ : Sig} {pb : Pb} {w : World}

def LoIs (v : Option Value) (d a : Int) : Prop := match v with
  | none => a = d
  | some v => ∃ k, v = .int k a
theorem bounds_run (isSl : Bool) (len cap : Nat) (lo hi : Option Value) (a b : Int) (hlo : LoIs lo 0 a) (hhi : LoIs hi len b) (h0 : 0 ≤ a) (h1 : a ≤ b) (h2 : b ≤ len) (h3 : len ≤ cap) :
    (Instr.sliceBounds isSl len cap lo hi none).run P w = .ok (a.toNat, b.toNat, cap) w := by
  unfold Instr.sliceBounds
  have hb : (if isSl then BoundsCode.sliceAcap else .sliceAlen) = if isSl then BoundsCode.sliceAcap else .sliceAlen := rfl
  cases hi with
  | none =>
    have hhi : b = len := hhi
    subst hhi
    cases lo with
    | none => have hlo : a = 0 := hlo; subst hlo; simp
    | some v => obtain ⟨k, rfl⟩ := hlo; simp [Instr.sliceBound, asIntOf, h0, h1]
  | some u =>
    obtain ⟨k', rfl⟩ := hhi
    have hb0 : 0 ≤ b := by omega
    have hbc : b ≤ (cap : Int) := by omega
    cases lo with
    | none => have hlo : a = 0 := hlo; subst hlo; simp [Instr.sliceBound, asIntOf, hb0, hbc]
    | some v =>
      obtain ⟨k, rfl⟩ := hlo
      have : a ≤ ((b.toNat : Nat) : Int) := by omega
      simp [Instr.sliceBound, asIntOf, h0, hb0, hbc, this]
      intro hx
      exfalso
      omega

def OptR (σ : Sig) (pb : Pb) (w : World) : Option PV → Option Value → Prop
  | none, none => True
  | some p, some y => VR σ pb w p y
  | _, _ => False
theorem low_rel {lo : Option PV} {l : Option Value} {a : Int} (h : lowOf lo = some a) (hr : OptR σ pb w lo l) : LoIs l 0 a := by
  cases lo with
  | none => cases l with
    | none => cases h; rfl
    | some => exact hr.elim
  | some p => cases l with
    | none => exact hr.elim
    | some y => obtain ⟨k, e⟩ := asI_rel (show asI p = some a from h) hr; exact ⟨k, e⟩
theorem high_rel {d : Int} {lo : Option PV} {l : Option Value} {a : Int} (h : highOf d lo = some a) (hr : OptR σ pb w lo l) : LoIs l d a := by
  cases lo with
  | none => cases l with
    | none => cases h; rfl
    | some => exact hr.elim
  | some p => cases l with
    | none => exact hr.elim
    | some y => obtain ⟨k, e⟩ := asI_rel (show asI p = some a from h) hr; exact ⟨k, e⟩

theorem slice_run {t e : TypeId} {r : Sh} (hu : P.underlying t = some (.slice e)) (hel : elOk P e r = true) {a0 : Option Addr} {len cap : Nat} {lo hi : Option Value} {a b : Int}
    (hb : (Instr.sliceBounds true len cap lo hi none).run P w = .ok (a.toNat, b.toNat, cap) w) :
    (Instr.sliceAt t (.slice a0 len cap) lo hi none).run P w = .ok (.slice (if cap = a.toNat then a0 else a0.map (·.add (a.toNat * r.n))) (b.toNat - a.toNat) (cap - a.toNat)) w := by
  obtain ⟨e1, _, ti, hti⟩ := elOk_spec hel
  unfold Instr.sliceAt Instr.slice
  simp [und_run hu, hb, size_run hti, e1]

theorem cut_rows {r : Sh} {xs : List r.den} {a : Option Addr} {i j : Int} {cap : Nat} (h0 : 0 ≤ i) (h1 : i ≤ j) (h2 : j ≤ xs.length) (hc : xs.length ≤ cap) (h : RowsR pb w r.n (ER pb w r) xs a) :
    RowsR pb w r.n (ER pb w r) (cut xs i j) (if cap = i.toNat then a else a.map (·.add (i.toNat * r.n))) := by
  intro q hq
  have hlen : (cut xs i j).length = j.toNat - i.toNat := by simp [cut]; omega
  rw [hlen] at hq
  obtain ⟨b, o, vs, rfl, him, hl, hcell, he⟩ := h (i.toNat + q) (by omega)
  rw [if_neg (by omega)]
  refine ⟨b, o + i.toNat * r.n, vs, by simp [add_mk], him, hl, fun p hp => ?_, ?_⟩
  · rw [← hcell p hp]
    congr 2
    rw [Nat.add_mul]
    omega
  · have : (cut xs i j)[q]'(by omega) = xs[i.toNat + q]'(by omega) := by simp [cut]
    rw [this]
    exact he

theorem slice_ok {t : TypeId} {p : PV} {lo hi : Option PV} {y : Value} {l h' : Option Value} {tr : Tri} (h : oSlice P t p lo hi σ = some tr) (h1 : tr.ok = true) (hs : St base σ pb w) (hv : VR σ pb w p y)
    (hl : OptR σ pb w lo l) (hh : OptR σ pb w hi h') :
    SemOk P base σ pb w (Instr.sliceAt t y l h' none) tr := by
  unfold oSlice at h
  split at h
  · rename_i hu
    cases p with
    | v x =>
      cases x with
      | string s =>
        simp only at h
        split at h
        · rename_i a b ha hb
          cases h
          simp only [Bool.and_eq_true, decide_eq_true_eq] at h1
          have hv : y = .string s := hv
          subst hv
          refine SemOk.stay hs (z := .string (s.extract a.toNat b.toNat)) ?_ rfl
          unfold Instr.sliceAt Instr.slice
          have := bounds_run (P := P) (w := w) false s.size s.size l h' a b (low_rel ha hl) (high_rel hb hh) h1.1 h1.2.1 h1.2.2 (Nat.le_refl _)
          simp [und_run hu, this]
        · cases h
      | _ => cases h
    | _ => cases h
  · rename_i e hu
    cases p with
    | v x =>
      replace h : oSliceNil P e x (lowOf lo) (highOf 0 hi) σ = some tr := h
      unfold oSliceNil at h
      split at h
      · rename_i ti a b hi' ha hb
        cases h
        simp only [Bool.and_eq_true, decide_eq_true_eq] at h1
        obtain ⟨rfl, rfl⟩ := h1
        have hv : y = .slice none 0 0 := hv
        subst hv
        have hbd := bounds_run (P := P) (w := w) true 0 0 l h' 0 0 (low_rel ha hl) (high_rel hb hh) (by omega) (by omega) (by omega) (Nat.le_refl _)
        refine SemOk.stay hs (z := .slice none 0 0) ?_ rfl
        unfold Instr.sliceAt Instr.slice
        simp at hbd
        simp [und_run hu, hbd, sizeOf, typeInfo, hi']
      · cases h
    | rows full r xs =>
      simp only at h
      split at h
      · rename_i a b ha hb
        split at h
        · rename_i hel
          cases h
          simp only [Bool.and_eq_true, decide_eq_true_eq] at h1
          obtain ⟨a0, cap, rfl, hc, _, hr⟩ := hv
          have := bounds_run (P := P) (w := w) true xs.length cap l h' a b (low_rel ha hl) (high_rel hb hh) h1.1 h1.2.1 h1.2.2 hc
          refine SemOk.stay hs (slice_run hu hel this) ⟨_, cap - a.toNat, ?_, ?_, fun e => (by cases e), cut_rows h1.1 h1.2.1 h1.2.2 hc hr⟩
          · congr 1
            simp [cut]; omega
          · simp [cut]; omega
        · cases h
      · cases h
    | own k g =>
      simp only at h
      split at h
      · rename_i r xs g' hk
        split at h
        · rename_i a b ha hb
          split at h
          · rename_i hc
            cases h
            simp only [Bool.and_eq_true, decide_eq_true_eq] at h1
            obtain ⟨hlt, hv⟩ := hv
            rcases (hv _ _ _ hk).2 hc.1.symm with ⟨bl, cap, hb', rfl, hcap, _⟩ | ⟨_, hx, a0, rfl⟩
            · have := bounds_run (P := P) (w := w) true xs.length cap l h' a b (low_rel ha hl) (high_rel hb hh) h1.1 h1.2.1 h1.2.2 hcap
              refine SemOk.stay hs (slice_run hu hc.2 this) ⟨hlt, fun r' xs' g'' hk' => ?_⟩
              rw [hk] at hk'
              cases hk'
              refine ⟨by omega, fun _ => .inl ⟨bl, if cap = a.toNat then 0 else a.toNat * r.n, cap - a.toNat, hb', by omega, fun hp => if_neg (by omega), ?_, by omega⟩⟩
              split <;> simp [add_mk]
            · subst hx
              simp at h1
              have := bounds_run (P := P) (w := w) true 0 0 l h' a b (low_rel ha hl) (high_rel hb hh) h1.1 h1.2.1 (by omega) (Nat.le_refl _)
              refine SemOk.stay hs (slice_run hu hc.2 this) ⟨hlt, fun r' xs' g'' hk' => ?_⟩
              rw [hk] at hk'
              cases hk'
              exact ⟨by omega, fun _ => .inr ⟨by omega, _, by rw [show b.toNat - a.toNat = 0 by omega, show 0 - a.toNat = 0 by omega]⟩⟩
          · cases h
        · cases h
      · cases h
    | ref k i n g =>
      simp only at h
      split at h
      · rename_i r xs g' hk
        split at h
        · rename_i a b ha hb
          split at h
          · rename_i hc
            cases h
            simp only [Bool.and_eq_true, decide_eq_true_eq] at h1
            obtain ⟨hlt, hv⟩ := hv
            rcases (hv _ _ _ hk).2 hc.1.symm with ⟨bl, o, cap, hb', hle, ho, rfl, hcap⟩ | ⟨hx, a0, rfl⟩
            · have := bounds_run (P := P) (w := w) true n cap l h' a b (low_rel ha hl) (high_rel hb hh) h1.1 h1.2.1 h1.2.2 hcap
              refine SemOk.stay hs (slice_run hu hc.2 this) ⟨hlt, fun r' xs' g'' hk' => ?_⟩
              rw [hk] at hk'
              cases hk'
              refine ⟨by omega, fun _ => .inl ⟨bl, if cap = a.toNat then o else o + a.toNat * r.n, cap - a.toNat, hb', by omega, fun hp => ?_, ?_, by omega⟩⟩
              · rw [if_neg (by omega), ho (by omega), Nat.add_mul]
              · split <;> simp [add_mk]
            · subst hx
              have := bounds_run (P := P) (w := w) true 0 0 l h' a b (low_rel ha hl) (high_rel hb hh) h1.1 h1.2.1 (by omega) (Nat.le_refl _)
              refine SemOk.stay hs (slice_run hu hc.2 this) ⟨hlt, fun r' xs' g'' hk' => ?_⟩
              rw [hk] at hk'
              cases hk'
              exact ⟨by omega, fun _ => .inr ⟨by omega, _, by rw [show b.toNat - a.toNat = 0 by omega, show 0 - a.toNat = 0 by omega]⟩⟩
          · cases h
        · cases h
      · cases h
    | _ => cases h
  · rename_i m e hu
    cases p with
    | apl k i m' g =>
      simp only at h
      split at h
      · rename_i r xs g' hk
        split at h
        · rename_i a b ha hb
          split at h
          · rename_i hc
            cases h
            simp only [Bool.and_eq_true, decide_eq_true_eq] at h1
            obtain ⟨hlt, bl, o', rfl, hv⟩ := hv
            obtain ⟨rfl, hel, rfl⟩ := hc
            obtain ⟨hb', hle, rfl⟩ := (hv _ _ _ hk).2 rfl
            obtain ⟨e1, _, ti, hti⟩ := elOk_spec hel
            have := bounds_run (P := P) (w := w) false m' m' l h' a b (low_rel ha hl) (high_rel hb hh) h1.1 h1.2.1 h1.2.2 (Nat.le_refl _)
            refine SemOk.stay hs (z := .slice (some (if m' = a.toNat then ⟨bl, i * r.n, none⟩ else (⟨bl, i * r.n, none⟩ : Addr).add (a.toNat * r.n))) (b.toNat - a.toNat) (m' - a.toNat)) ?_ ⟨hlt, fun r' xs' g'' hk' => ?_⟩
            · unfold Instr.sliceAt
              simp [und_run hu, Instr.sureAddr, this, size_run hti, e1]
            · rw [hk] at hk'
              cases hk'
              refine ⟨by omega, fun _ => .inl ⟨bl, if m' = a.toNat then i * r.n else i * r.n + a.toNat * r.n, m' - a.toNat, hb', by omega, fun hp => ?_, ?_, by omega⟩⟩
              · rw [if_neg (by omega), Nat.add_mul]
              · split <;> simp [add_mk]
          · cases h
        · cases h
      · cases h
    | _ => cases h
  · cases h

end Go.Proofs.YthkjjombaoffcaaGreatDoorPM

/- Single operations: sums and the like, lengths, conversions, rows that are made. -/
set_option linter.unusedVariables false
set_option linter.unusedSectionVars false
set_option linter.unusedSimpArgs false
noncomputable section
namespace Go.Proofs.YthkjjombaoffcaaGreatDoorPM
open Go Go.RowKit
variable [Foreign]

variable {P : Program} {base : Nat} {σ : Sig} {pb : Pb} {w : World}

theorem arrayAt_ok {t : TypeId} {p : PV} {y : Value} {tr : Tri} (h : oArrayAt P t p σ = some tr) (h1 : tr.ok = true) (hs : St base σ pb w) (hv : VR σ pb w p y) : SemOk P base σ pb w (Instr.arrayAt t y) tr := by
  unfold oArrayAt at h
  split at h
  · rename_i n e hu
    have run : ∀ (a : Option Addr) (len cap : Nat), n ≤ len → (Instr.arrayAt t (.slice a len cap)).run P w = .ok (.pointer a) w := by
      intro a len cap hle
      unfold Instr.arrayAt
      simp [und_run hu]
      omega
    cases p with
    | rows full r xs =>
      cases r with
      | int k =>
        simp only at h
        cases h
        have h1 := of_decide_eq_true h1
        obtain ⟨a, cap, rfl, hc, _, hr⟩ := hv
        refine SemOk.stay hs (run a _ cap h1) ⟨h1, a, rfl, hr, ?_⟩
        by_cases hn : n = 0
        · exact .inl hn
        · obtain ⟨b, o, vs, rfl, _⟩ := hr 0 (by have : n ≤ List.length (α := Int) xs := h1; show 0 < List.length (α := Int) xs; omega)
          exact .inr rfl
      | _ => cases h
    | own k g =>
      simp only at h
      split at h
      · rename_i r xs g' hk
        split at h
        · rename_i hc
          cases h
          simp only [Bool.and_eq_true, decide_eq_true_eq] at h1
          obtain ⟨hlt, hv⟩ := hv
          rcases (hv _ _ _ hk).2 hc.symm with ⟨b, cap, hb, rfl, hcap, _⟩ | ⟨_, hx, _⟩
          · refine SemOk.stay hs (run _ _ cap h1.2) ⟨hlt, b, 0, rfl, fun r' xs' g'' hk' => ?_⟩
            rw [hk] at hk'
            cases hk'
            exact ⟨by omega, fun _ => ⟨hb, by omega, by simp⟩⟩
          · subst hx; simp at h1; omega
        · cases h
      · cases h
    | ref k i m g =>
      simp only at h
      split at h
      · rename_i r xs g' hk
        split at h
        · rename_i hc
          cases h
          simp only [Bool.and_eq_true, decide_eq_true_eq] at h1
          obtain ⟨hlt, hv⟩ := hv
          rcases (hv _ _ _ hk).2 hc.symm with ⟨b, o, cap, hb, hle, ho, rfl, hcap⟩ | ⟨hx, _⟩
          · have ho := ho (by omega)
            subst ho
            refine SemOk.stay hs (run _ _ cap h1.2) ⟨hlt, b, _, rfl, fun r' xs' g'' hk' => ?_⟩
            rw [hk] at hk'
            cases hk'
            exact ⟨by omega, fun _ => ⟨hb, by omega, rfl⟩⟩
          · omega
        · cases h
      · cases h
    | _ => cases h
  · cases h

theorem kInt_some {k k' : IntKind} {n : Int} {c : Bool} {r : Value} (h : kInt k k' n = some (c, r)) : k = k' ∧ c = true ∧ r = .int k n := by
  unfold kInt at h
  split at h
  · rename_i e; cases h; exact ⟨e, rfl, rfl⟩
  · cases h
theorem kBool_some {k k' : IntKind} {b : Bool} {c : Bool} {r : Value} (h : kBool k k' b = some (c, r)) : k = k' ∧ c = true ∧ r = .bool b := by
  unfold kBool at h
  split at h
  · rename_i e; cases h; exact ⟨e, rfl, rfl⟩
  · cases h
theorem bytes_toList (a : ByteArray) : a.toList = a.data.toList := by
  have go : ∀ (n i : Nat) (r : List UInt8), a.size - i = n → ByteArray.toList.loop a i r = r.reverse ++ a.data.toList.drop i := by
    intro n
    induction n with
    | zero =>
      intro i r h
      unfold ByteArray.toList.loop
      rw [if_neg (by omega), List.drop_of_length_le (by simp; omega)]
      simp
    | succ n ih =>
      intro i r h
      unfold ByteArray.toList.loop
      have hi : i < a.size := by omega
      rw [if_pos hi, ih (i + 1) _ (by omega), List.drop_eq_getElem_cons (show i < a.data.toList.length by simpa using hi)]
      simp [ByteArray.get!, getElem!_pos, hi]
  exact (go _ 0 [] rfl).trans (by simp)
theorem toList_beq (a b : ByteArray) : (a.toList == b.toList) = decide (a = b) := by
  rw [Bool.eq_iff_iff, beq_iff_eq, decide_eq_true_iff, bytes_toList, bytes_toList]
  constructor
  · intro h
    cases a; cases b
    simp only [Array.toList_inj] at h
    rw [h]
  · rintro rfl; rfl
theorem beq_decide (a b : Int) : (a == b) = decide (a = b) := by
  rw [Bool.eq_iff_iff, beq_iff_eq, decide_eq_true_iff]
theorem bne_decide (a b : Int) : (a != b) = !decide (a = b) := by
  unfold bne; rw [beq_decide]

/-! ### structs compared -/
def EqRun (P : Program) (σ : Sig) (pb : Pb) (w : World) (d : Nat) (t : TypeId) (ps qs : List PV) (b : Bool) : Prop :=
  ∃ p q, wrapCells (isAggT P t) ps = some p ∧ wrapCells (isAggT P t) qs = some q ∧ ∀ z z', VR σ pb w p z → VR σ pb w q z' → ∀ m, (Op.equalIn (d + m) t z z').run P w = .ok b w
theorem eqFs_ok {d : Nat} {f : TypeId → List PV → List PV → Option Bool} (hf : ∀ t ps qs b, f t ps qs = some b → (∃ u, P.underlying t = some u) ∧ EqRun P σ pb w d t ps qs b) {ps qs : List PV} {xs ys : List Value} (hx : CRs σ pb w ps xs) (hy : CRs σ pb w qs ys) (m : Nat) :
    ∀ {fs : List Field} {b : Bool}, eqFs P f ps qs fs = some b → (Op.eqFields (d + m) xs.toArray ys.toArray fs).run P w = .ok b w := by
  have one : ∀ {x : Field} {a : Bool}, x.offset + szOf P x.type ≤ ps.length ∧ x.offset + szOf P x.type ≤ qs.length → f x.type ((ps.drop x.offset).take (szOf P x.type)) ((qs.drop x.offset).take (szOf P x.type)) = some a →
      ∃ z z', (part x.type xs.toArray x.offset).run P w = .ok z w ∧ (part x.type ys.toArray x.offset).run P w = .ok z' w ∧ (Op.equalIn (d + m) x.type z z').run P w = .ok a w := by
    intro x a hle h
    obtain ⟨⟨u, hu⟩, p, q, h1, h2, h3⟩ := hf _ _ _ _ h
    obtain ⟨z, z1, z2⟩ := part_run (P := P) (p := p) (show partOf P x.type ps x.offset = some p by unfold partOf; rw [hu]; simp only; rw [if_pos hle.1]; exact h1) hx
    obtain ⟨z', z3, z4⟩ := part_run (P := P) (p := q) (show partOf P x.type qs x.offset = some q by unfold partOf; rw [hu]; simp only; rw [if_pos hle.2]; exact h2) hy
    exact ⟨z, z', z1, z3, h3 z z' z2 z4 m⟩
  intro fs
  induction fs with
  | nil => intro b h; cases h; simp [Op.eqFields]
  | cons x fs ih =>
    intro b h
    have go : ∀ {a c : Bool}, (x.name == "_") = false → x.offset + szOf P x.type ≤ ps.length ∧ x.offset + szOf P x.type ≤ qs.length → f x.type ((ps.drop x.offset).take (szOf P x.type)) ((qs.drop x.offset).take (szOf P x.type)) = some a →
        (Op.eqFields (d + m) xs.toArray ys.toArray fs).run P w = .ok c w → (Op.eqFields (d + m) xs.toArray ys.toArray (x :: fs)).run P w = .ok (a && c) w := by
      intro a c hn hle h hr
      have hn' : x.name ≠ "_" := by simpa using hn
      obtain ⟨z, z', e1, e2, e3⟩ := one hle h
      rw [Op.eqFields]
      simp only [if_pos hn', Sem.run_bind, e1, e2, e3, Result.andThen_ok]
      cases a
      · simp
      · simpa using hr
    cases fs with
    | nil =>
      simp only [eqFs] at h
      split at h
      · cases h
      · rename_i hn
        split at h
        · rename_i hle
          have := go (c := true) (by simpa using hn) hle h (by simp [Op.eqFields])
          rwa [Bool.and_true] at this
        · cases h
    | cons y fs =>
      simp only [eqFs] at h
      split at h
      · cases h
      · rename_i hn
        split at h
        · rename_i hle
          split at h
          · rename_i a ha
            split at h
            · rename_i c hc
              cases h
              exact go (by simpa using hn) hle ha (ih hc)
            · cases h
          · cases h
        · cases h
theorem eqT_ok : ∀ (d : Nat) (t : TypeId) (ps qs : List PV) (b : Bool), eqT P d t ps qs = some b → (∃ u, P.underlying t = some u) ∧ EqRun P σ pb w d t ps qs b := by
  intro d
  induction d with
  | zero => intro t ps qs b h; cases h
  | succ d ih =>
    intro t ps qs b h
    unfold eqT at h
    split at h
    · rename_i hu
      have ha : isAggT P t = false := by unfold isAggT; rw [hu]
      split at h
      · cases h
        refine ⟨⟨_, hu⟩, _, _, by rw [ha]; rfl, by rw [ha]; rfl, fun z z' h1 h2 m => ?_⟩
        rw [h1, h2, Nat.add_right_comm]
        exact run_equalIn_bool' w (d + m) t _ _ hu
      · cases h
    · rename_i k0 hu
      have ha : isAggT P t = false := by unfold isAggT; rw [hu]
      split at h
      · split at h
        · rename_i ek
          subst ek
          cases h
          refine ⟨⟨_, hu⟩, _, _, by rw [ha]; rfl, by rw [ha]; rfl, fun z z' h1 h2 m => ?_⟩
          rw [h1, h2, Nat.add_right_comm, ← beq_decide]
          exact run_equalIn_int w (d + m) t _ _ _ _ hu
        · cases h
      · cases h
    · rename_i hu
      have ha : isAggT P t = false := by unfold isAggT; rw [hu]
      split at h
      · cases h
        refine ⟨⟨_, hu⟩, _, _, by rw [ha]; rfl, by rw [ha]; rfl, fun z z' h1 h2 m => ?_⟩
        rw [h1, h2, Nat.add_right_comm, ← toList_beq]
        exact run_equalIn_string w (d + m) t _ _ hu
      · cases h
    · rename_i fs hu
      have ha : isAggT P t = true := by unfold isAggT; rw [hu]
      split at h
      · rename_i hst
        have hff : P.fieldsOf t = fs := by simp [Program.fieldsOf, hu]
        refine ⟨⟨_, hu⟩, _, _, by rw [ha]; rfl, by rw [ha]; rfl, fun z z' h1 h2 m => ?_⟩
        obtain ⟨xs, rfl, hx⟩ := h1
        obtain ⟨ys, rfl, hy⟩ := h2
        rw [Nat.add_right_comm, run_equalIn_agg w (d + m) t _ _ (by rw [hff]; exact hu) hst, hff]
        exact eqFs_ok (d := d) ih hx hy m h
      · cases h
    · cases h
theorem eq_ok {op : BinOp} {neg : Bool} (hop : op = if neg then .neq else .eql) {t : TypeId} {xo yo : Operand} {ps qs : List PV} {y z : Value} {tr : Tri} (h : oEq P neg t ps qs σ = some tr) (hs : St base σ pb w) (hp : VR σ pb w (.agg ps) y) (hq : VR σ pb w (.agg qs) z) :
    SemOk P base σ pb w (do eqGuard op t xo yo y z; binOp op t y z) tr := by
  unfold oEq at h
  split at h
  · rename_i hg
    split at h
    · rename_i fs hu
      split at h
      · rename_i b hb
        cases h
        obtain ⟨_, p, q, e1, e2, e3⟩ := eqT_ok (σ := σ) (pb := pb) (w := w) 10 t ps qs b hb
        have ha : isAggT P t = true := by unfold isAggT; rw [hu]
        rw [ha] at e1 e2
        cases e1
        cases e2
        have he := e3 y z hp hq 9990
        obtain ⟨xs, rfl, hx⟩ := hp
        obtain ⟨ys, rfl, hy⟩ := hq
        refine SemOk.stay hs (z := .bool (bif neg then !b else b)) ?_ rfl
        rw [Sem.run_bind, run_eqGuard_agg w op t xo yo _ _ hg, Result.andThen_ok, hop]
        cases neg
        · simp only [Bool.false_eq_true, if_false, cond_false]
          rw [run_eql_struct, he]
          rfl
        · simp only [if_true, cond_true]
          rw [run_neq_struct, he]
          rfl
      · cases h
    · cases h
  · cases h

theorem nil_eq {t e : TypeId} {a : Addr} {n c : Nat} (hu : P.underlying t = some (.slice e)) : (Op.equal t (.slice (some a) n c) (.slice none 0 0)).run P w = .ok false w := by
  unfold Op.equal
  rw [show Op.maxDepth = 9999 + 1 from rfl]
  unfold Op.equalIn
  simp [und_run hu]
theorem nil_eql {t e : TypeId} {xo yo : Operand} {a : Addr} {n c : Nat} (hu : P.underlying t = some (.slice e)) : (do eqGuard .eql t xo yo (.slice (some a) n c) (.slice none 0 0); binOp .eql t (.slice (some a) n c) (.slice none 0 0) : Sem Value).run P w = .ok (.bool false) w := by
  have h : (Op.equal t (.slice (some a) n c) (.slice none 0 0)).run P w = .ok false w := nil_eq hu
  simp [eqGuard, binOp, h]
theorem nil_neq {t e : TypeId} {xo yo : Operand} {a : Addr} {n c : Nat} (hu : P.underlying t = some (.slice e)) : (do eqGuard .neq t xo yo (.slice (some a) n c) (.slice none 0 0); binOp .neq t (.slice (some a) n c) (.slice none 0 0) : Sem Value).run P w = .ok (.bool true) w := by
  have h : (Op.equal t (.slice (some a) n c) (.slice none 0 0)).run P w = .ok false w := nil_eq hu
  simp [eqGuard, binOp, h]
theorem ptr_nil {t u : TypeId} {c : Bool} {b : Nat} (hu : P.underlying t = some (.pointer u)) : (Op.equal t (.pointer (bif c then some ⟨b, 0, none⟩ else none)) (.pointer none)).run P w = .ok (!c) w := by
  unfold Op.equal
  rw [show Op.maxDepth = 9999 + 1 from rfl]
  unfold Op.equalIn
  cases c <;> simp [und_run hu]
theorem ptr_self {t u : TypeId} {c : Bool} {b : Nat} (hu : P.underlying t = some (.pointer u)) (hz : szOf P u ≠ 0) : (Op.equal t (.pointer (bif c then some ⟨b, 0, none⟩ else none)) (.pointer (some ⟨b, 0, none⟩))).run P w = .ok c w := by
  obtain ⟨ti, hti⟩ := szOf_info hz
  have hz' : ti.size ≠ 0 := by unfold szOf at hz; rw [hti] at hz; exact hz
  unfold Op.equal
  rw [show Op.maxDepth = 9999 + 1 from rfl]
  unfold Op.equalIn
  cases c
  · simp [und_run hu]
  · simp [und_run hu, sizeOf, typeInfo, hti, hz', sameAddr]
theorem binB_ok {op : BinOp} {t : TypeId} {xo yo : Operand} {p q : PV} {y z : Value} {tr : Tri} (h : oBinB P op t p q σ = some tr) (hs : St base σ pb w) (hp : VR σ pb w p y) (hq : VR σ pb w q z) :
    SemOk P base σ pb w (do eqGuard op t xo yo y z; binOp op t y z) tr := by
  unfold oBinB at h
  split at h
  · rename_i c k e e2
    split at h
    · rename_i u hu
      cases h
      obtain ⟨_, b, rfl, _⟩ := hp
      obtain rfl : z = .pointer none := hq
      refine SemOk.stay hs (z := .bool (!c)) ?_ rfl
      have := ptr_nil (P := P) (w := w) (c := c) (b := b) hu
      simp [eqGuard, binOp, this]
    · cases h
  · rename_i c k e e2 k2
    split at h
    · rename_i cs u hk hu
      split at h
      · rename_i hc
        obtain ⟨rfl, hz⟩ := hc
        cases h
        obtain ⟨_, b, rfl, hb⟩ := hp
        obtain ⟨_, b2, rfl, hb2⟩ := hq
        have h1 := (hb _ hk).1
        have h2 := hb2 _ hk
        rw [h1] at h2
        cases h2
        refine SemOk.stay hs (z := .bool (!c)) ?_ rfl
        have := ptr_self (P := P) (w := w) (c := c) (b := b) hu hz
        simp [eqGuard, binOp, this]
      · cases h
    · cases h
  · cases h
theorem fBin_run {op : BinOp} {t : TypeId} {xo yo : Operand} {a b : Nat} {c : Bool} {r : Value} (h : fBin op a b = some (c, r)) (h1 : c = true) :
    (do eqGuard op t xo yo (.float .f64 a) (.float .f64 b); binOp op t (.float .f64 a) (.float .f64 b) : Sem Value).run P w = .ok r w := by
  have ar : ∀ op : BinOp, fArOk op a b = true → (binOp op t (.float .f64 a) (.float .f64 b)).run P w = .ok (.float .f64 (fAr op a b)) w := by
    intro op h
    unfold fArOk at h
    obtain ⟨q, hq⟩ := Option.isSome_iff_exists.1 h
    unfold fAr
    rw [hq]
    exact run_float_arith w op t .f64 a b q hq
  unfold fBin at h
  split at h <;> cases h
  · simp [eqGuard, ar .add h1]
  · simp [eqGuard, ar .sub h1]
  · simp [eqGuard, ar .mul h1]
  · simp [eqGuard, ar .quo h1]
  · simp [eqGuard, binOp, Op.floatCmp, fEq]
  · simp [eqGuard, binOp, Op.floatCmp, fEq]; rfl
  · simp [eqGuard, binOp, Op.floatCmp, fLt]
  · simp [eqGuard, binOp, Op.floatCmp, fLt, fEq]
  · simp [eqGuard, binOp, Op.floatCmp, fGt]
  · simp [eqGuard, binOp, Op.floatCmp, fGt, fEq]
theorem bin_ok {op : BinOp} {t : TypeId} {xo yo : Operand} {p q : PV} {y z : Value} {tr : Tri} (h : oBin P op t xo yo p q σ = some tr) (h1 : tr.ok = true) (hs : St base σ pb w) (hp : VR σ pb w p y) (hq : VR σ pb w q z) :
    SemOk P base σ pb w (do eqGuard op t xo yo y z; binOp op t y z) tr := by
  unfold oBin at h
  split at h
  · exact eq_ok (neg := false) rfl h hs hp hq
  · exact eq_ok (neg := true) rfl h hs hp hq
  · split at h
    · rename_i e hu
      cases h
      obtain ⟨a, cap, rfl, _, _, hr⟩ := hp
      obtain rfl : z = .slice none 0 0 := hq
      obtain ⟨b, o, vs, rfl, _⟩ := hr 0 (by simp)
      exact SemOk.stay hs (z := .bool false) (nil_eql hu) rfl
    · cases h
  · split at h
    · rename_i e hu
      cases h
      obtain ⟨a, cap, rfl, _, _, hr⟩ := hp
      obtain rfl : z = .slice none 0 0 := hq
      obtain ⟨b, o, vs, rfl, _⟩ := hr 0 (by simp)
      exact SemOk.stay hs (z := .bool true) (nil_neq hu) rfl
    · cases h
  rename_i hx1 hx2 hx3 hx4
  clear hx1 hx2 hx3 hx4
  split at h
  · rename_i a b ha hb
    obtain rfl := toV_rel ha hp
    obtain rfl := toV_rel hb hq
    split at h
    · rename_i c r hbin
      cases h
      have main : (do eqGuard op t xo yo y z; binOp op t y z : Sem Value).run P w = .ok r w := by
        have h1 : c = true := h1
        unfold binS at hbin
        split at hbin
        · rename_i k a k' b
          split at hbin
          · rename_i e
            subst e
            cases hbin
            have : b ≠ 0 := by simpa using h1
            simp [eqGuard, binOp, Op.intDiv, this]
          · cases hbin
        · rename_i k a k' b
          split at hbin
          · rename_i e
            subst e
            cases hbin
            have : b ≠ 0 := by simpa using h1
            simp [eqGuard, binOp, Op.intDiv, this]
          · cases hbin
        · rename_i k a k' b
          cases hbin
          have h1 := of_decide_eq_true h1
          have : ¬ b < 0 := by omega
          simp [eqGuard, binOp, Op.shift, this, shlI, shrI]
        · rename_i k a k' b
          cases hbin
          have h1 := of_decide_eq_true h1
          have : ¬ b < 0 := by omega
          simp [eqGuard, binOp, Op.shift, this, shlI, shrI]
        · rename_i a b
          cases hbin
          have h1 := of_decide_eq_true h1
          have : ¬ (((a.size + b.size : Nat) : Int) > IntKind.i64.max) := by
            have : IntKind.i64.max = 9223372036854775807 := by decide
            rw [this]
            omega
          simp only [eqGuard, binOp, Op.stringOp]
          rw [if_neg this]
          rfl
        · cases hbin
          simp only [eqGuard, binOp, Op.stringOp]
          simp [toList_beq, sltB]
        · cases hbin
          simp only [eqGuard, binOp, Op.stringOp]
          simp [toList_beq, sltB]
        · cases hbin
          simp only [eqGuard, binOp, Op.stringOp]
          simp [toList_beq, sltB]
        · cases hbin
          simp only [eqGuard, binOp, Op.stringOp]
          simp [toList_beq, sltB]
        · cases hbin
          simp only [eqGuard, binOp, Op.stringOp]
          simp [toList_beq, sltB]
        · cases hbin
          simp only [eqGuard, binOp, Op.stringOp]
          simp [toList_beq, sltB]
        · rename_i k a k' b
          obtain ⟨e, rfl, rfl⟩ := kInt_some hbin
          subst e
          simp [eqGuard, binOp, Op.intArith, Op.intBits, bits]
        · rename_i k a k' b
          obtain ⟨e, rfl, rfl⟩ := kInt_some hbin
          subst e
          simp [eqGuard, binOp, Op.intArith, Op.intBits, bits]
        · rename_i k a k' b
          obtain ⟨e, rfl, rfl⟩ := kInt_some hbin
          subst e
          simp [eqGuard, binOp, Op.intArith, Op.intBits, bits]
        · rename_i k a k' b
          obtain ⟨e, rfl, rfl⟩ := kInt_some hbin
          subst e
          simp [eqGuard, binOp, Op.intArith, Op.intBits, bits]
        · rename_i k a k' b
          obtain ⟨e, rfl, rfl⟩ := kInt_some hbin
          subst e
          simp [eqGuard, binOp, Op.intArith, Op.intBits, bits]
        · rename_i k a k' b
          obtain ⟨e, rfl, rfl⟩ := kInt_some hbin
          subst e
          simp [eqGuard, binOp, Op.intArith, Op.intBits, bits]
        · rename_i k a k' b
          obtain ⟨e, rfl, rfl⟩ := kInt_some hbin
          subst e
          simp [eqGuard, binOp, Op.intArith, Op.intBits, bits]
        · rename_i k a k' b
          obtain ⟨e, rfl, rfl⟩ := kBool_some hbin
          subst e
          simp [eqGuard, binOp, Op.intCmp, beq_decide, bne_decide]
        · rename_i k a k' b
          obtain ⟨e, rfl, rfl⟩ := kBool_some hbin
          subst e
          simp [eqGuard, binOp, Op.intCmp, beq_decide, bne_decide]
        · rename_i k a k' b
          obtain ⟨e, rfl, rfl⟩ := kBool_some hbin
          subst e
          simp [eqGuard, binOp, Op.intCmp, beq_decide, bne_decide]
        · rename_i k a k' b
          obtain ⟨e, rfl, rfl⟩ := kBool_some hbin
          subst e
          simp [eqGuard, binOp, Op.intCmp, beq_decide, bne_decide]
        · rename_i k a k' b
          obtain ⟨e, rfl, rfl⟩ := kBool_some hbin
          subst e
          simp [eqGuard, binOp, Op.intCmp, beq_decide, bne_decide]
        · rename_i k a k' b
          obtain ⟨e, rfl, rfl⟩ := kBool_some hbin
          subst e
          simp [eqGuard, binOp, Op.intCmp, beq_decide, bne_decide]
        · exact fBin_run hbin h1
        · split at hbin
          · rename_i r' hr
            cases hbin
            exact val_run P _ _ w hr
          · cases hbin
      exact SemOk.stay hs main (ofV_rel σ pb w r)
    · cases h
  · cases h

theorem un_ok {op : UnOp} {p : PV} {y : Value} {tr : Tri} (h : oUn P op p σ = some tr) (hs : St base σ pb w) (hp : VR σ pb w p y) : SemOk P base σ pb w (Op.unary op y) tr := by
  unfold oUn at h
  split at h
  · rename_i a ha
    obtain rfl := toV_rel ha hp
    split at h
    · rename_i r hr
      cases h
      refine SemOk.stay hs ?_ (ofV_rel σ pb w r)
      unfold unS at hr
      split at hr
      · cases hr; simp [Op.unary, Op.intArith]
      · cases hr; simp [Op.unary, Op.intBits, bits]
      · cases hr; simp [Op.unary]
      · cases hr; simp [Op.unary, fNeg]
      · exact val_run P _ _ w hr
    · cases h
  · cases h

theorem len_ok {t : TypeId} {ts : Array TypeId} {ty : TypeId} {p : PV} {y : Value} {tr : Tri} (ht : ts[0]? = some t) (h : oLen P t p σ = some tr) (hs : St base σ pb w) (hp : VR σ pb w p y) :
    SemOk P base σ pb w (Builtin.len_ ts ty #[y]) tr := by
  unfold oLen at h
  split at h
  · rename_i hu
    cases p with
    | v x =>
      cases x with
      | string s =>
        cases h
        have hp : y = .string s := hp
        subst hp
        refine SemOk.stay hs (z := .int .i64 s.size) ?_ rfl
        unfold Builtin.len_
        simp [ht, und_run hu, goInt]
      | _ => cases h
    | _ => cases h
  · rename_i e hu
    have run : ∀ (a : Option Addr) (n cap : Nat), (Builtin.len_ ts ty #[.slice a n cap]).run P w = .ok (.int .i64 n) w := by
      intro a n cap
      unfold Builtin.len_
      simp [ht, und_run hu, goInt]
    cases p with
    | rows full r xs =>
      cases h
      obtain ⟨a, cap, rfl, _⟩ := hp
      exact SemOk.stay hs (run _ _ _) rfl
    | own k g =>
      simp only at h
      split at h
      · rename_i r xs g' hk
        split at h
        · rename_i hc
          cases h
          obtain ⟨hlt, hv⟩ := hp
          rcases (hv _ _ _ hk).2 hc.symm with ⟨b, cap, hb, rfl, hcap, _⟩ | ⟨_, hx, a, rfl⟩
          · exact SemOk.stay hs (run _ _ _) rfl
          · subst hx; exact SemOk.stay hs (run _ _ _) rfl
        · cases h
      · cases h
    | ot k g e =>
      simp only at h
      split at h
      · rename_i r xs g' hk
        split at h
        · rename_i hc
          cases h
          obtain ⟨⟨hlt, hv⟩, _⟩ := hp
          rcases (hv _ _ _ hk).2 hc.symm with ⟨b, cap, hb, rfl, hcap, _⟩ | ⟨_, hx, a, rfl⟩
          · exact SemOk.stay hs (run _ _ _) rfl
          · subst hx; exact SemOk.stay hs (run _ _ _) rfl
        · cases h
      · cases h
    | ref k i m g =>
      simp only at h
      split at h
      · rename_i r xs g' hk
        split at h
        · rename_i hc
          cases h
          obtain ⟨hlt, hv⟩ := hp
          rcases (hv _ _ _ hk).2 hc.symm with ⟨b, o, cap, hb, hle, ho, rfl, hcap⟩ | ⟨hx, a, rfl⟩
          · exact SemOk.stay hs (run _ _ _) rfl
          · subst hx; exact SemOk.stay hs (run _ _ _) rfl
        · cases h
      · cases h
    | v x =>
      have e : x = .slice none 0 0 ∧ tr = ⟨true, intV 0, σ⟩ := by
        cases x with
        | slice a n c => cases a with
          | some => cases h
          | none => cases n with
            | succ => cases h
            | zero => cases c with
              | succ => cases h
              | zero => cases h; exact ⟨rfl, rfl⟩
        | _ => cases h
      obtain ⟨rfl, rfl⟩ := e
      have hp : y = .slice none 0 0 := hp
      subst hp
      exact SemOk.stay hs (run _ _ _) rfl
    | _ => cases h
  · rename_i n e hu
    cases h
    refine SemOk.stay hs (z := .int .i64 n) ?_ rfl
    unfold Builtin.len_
    simp [ht, und_run hu, goInt]
  · cases h

theorem mmL_ok {mx : Bool} {k : IntKind} {w : World} : ∀ {ps : List PV} {a n : Int} {ys : List Value}, mmL mx k a ps = some n → CRs σ pb w ps ys →
    (ys.foldlM (if mx = true then Builtin.max2 else Builtin.min2) (.int k a)).run P w = .ok (.int k n) w := by
  intro ps
  induction ps with
  | nil => intro a n ys h hr; cases h; cases ys with
    | nil => rfl
    | cons => exact hr.elim
  | cons p ps ih =>
    intro a n ys h hr
    unfold mmL at h
    split at h
    · rename_i e; cases e
    · rename_i a' _ lp k' b r e
      cases e
      cases ys with
      | nil => exact hr.elim
      | cons y ys =>
        have hy : y = .int k' b := hr.1
        subst hy
        rw [List.foldlM_cons, Sem.run_bind]
        have : ((if mx = true then Builtin.max2 else Builtin.min2) (.int k a') (.int k' b)).run P w = .ok (.int k (mmI mx a' b)) w := by
          cases mx
          · simp [Builtin.min2, mmI]
          · simp [Builtin.max2, mmI]
        rw [this, Result.andThen_ok]
        exact ih h hr.2
    · cases h
end Go.Proofs.YthkjjombaoffcaaGreatDoorPM

/- Single operations: rows that are made, conversions, append. -/
set_option linter.unusedVariables false
set_option linter.unusedSectionVars false
set_option linter.unusedSimpArgs false
noncomputable section
namespace Go.Proofs.YthkjjombaoffcaaGreatDoorPM
open Go Go.RowKit
variable [Foreign]

variable {P : Program} {base : Nat} {σ : Sig} {pb : Pb} {w : World}

/-- A row that can be read: its cells, one behind the other. -/
def ReadR (pb : Pb) (w : World) (r : Sh) (xs : List r.den) (a : Option Addr) (ys : List Value) : Prop :=
  ys.length = xs.length * r.n ∧ (∀ p v, ys[p]? = some v → ∃ b o, a = some ⟨b, o, none⟩ ∧ w.cell? ⟨b, o + p, none⟩ = some v) ∧
  ∀ i (h : i < xs.length), ∃ vs, vs.length = r.n ∧ (∀ j, j < r.n → ys[i * r.n + j]? = vs[j]?) ∧ ER pb w r xs[i] vs

theorem read_of {r : Sh} {xs : List r.den} {a : Option Addr} (h : ∀ i (h : i < xs.length), ∃ b o vs, a = some ⟨b, o, none⟩ ∧ vs.length = r.n ∧ (∀ j, j < r.n → w.cell? ⟨b, o + i * r.n + j, none⟩ = vs[j]?) ∧ ER pb w r xs[i] vs) :
    ∃ ys, ReadR pb w r xs a ys := by
  rcases Nat.eq_zero_or_pos xs.length with h0 | h0
  · exact ⟨[], by simp [h0], fun p v hp => by simp at hp, fun i hi => by omega⟩
  · obtain ⟨b, o, _, rfl, _⟩ := h 0 h0
    have hcell : ∀ i (hi : i < xs.length), ∃ vs, vs.length = r.n ∧ (∀ j, j < r.n → w.cell? ⟨b, o + i * r.n + j, none⟩ = vs[j]?) ∧ ER pb w r xs[i] vs := by
      intro i hi
      obtain ⟨b', o', vs, e, h1, h2, h3⟩ := h i hi
      cases e
      exact ⟨vs, h1, h2, h3⟩
    have hex : ∀ p, p < xs.length * r.n → ∃ v, w.cell? ⟨b, o + p, none⟩ = some v := by
      intro p hp
      have hn : 0 < r.n := by
        rcases Nat.eq_zero_or_pos r.n with e | e
        · rw [e] at hp; simp at hp
        · exact e
      have hi : p / r.n < xs.length := by rw [Nat.div_lt_iff_lt_mul hn]; exact hp
      obtain ⟨vs, h1, h2, _⟩ := hcell _ hi
      have hj := Nat.mod_lt p hn
      have := h2 (p % r.n) hj
      rw [show o + p / r.n * r.n + p % r.n = o + p by rw [Nat.add_assoc, Nat.div_add_mod' p r.n]] at this
      rw [List.getElem?_eq_getElem (by omega)] at this
      exact ⟨_, this⟩
    refine ⟨(List.range (xs.length * r.n)).map fun p => (w.cell? ⟨b, o + p, none⟩).getD undef, by simp, fun p v hp => ⟨b, o, rfl, ?_⟩, fun i hi => ?_⟩
    · rw [List.getElem?_map] at hp
      by_cases hlt : p < xs.length * r.n
      · rw [List.getElem?_range hlt] at hp
        obtain ⟨u, hu⟩ := hex p hlt
        simp [hu] at hp
        rw [hu, hp]
      · rw [List.getElem?_eq_none (by simp; omega)] at hp
        cases hp
    · obtain ⟨vs, h1, h2, h3⟩ := hcell i hi
      refine ⟨vs, h1, fun j hj => ?_, h3⟩
      have hlt : i * r.n + j < xs.length * r.n := by
        have : (i + 1) * r.n ≤ xs.length * r.n := Nat.mul_le_mul_right _ hi
        rw [Nat.succ_mul] at this
        omega
      rw [List.getElem?_map, List.getElem?_range hlt]
      have := h2 j hj
      rw [← this]
      rw [List.getElem?_eq_getElem (by omega)] at this
      simp only [Option.map_some]
      rw [← Nat.add_assoc, this]
      rfl

theorem rowOf_read {p : PV} {r : Sh} {xs : List r.den} {y : Value} (h : rowOf σ p = some ⟨r, xs⟩) (hs : St base σ pb w) (hv : VR σ pb w p y) : ∃ a cap ys, y = .slice a xs.length cap ∧ ReadR pb w r xs a ys := by
  cases p with
  | rows full r' xs' =>
    simp only [rowOf] at h
    cases h
    obtain ⟨a, cap, rfl, _, _, hr⟩ := hv
    obtain ⟨ys, hys⟩ := read_of (a := a) (xs := xs) (fun i hi => by obtain ⟨b, o, vs, h1, _, h2, h3, h4⟩ := hr i hi; exact ⟨b, o, vs, h1, h2, h3, h4⟩)
    exact ⟨a, cap, ys, rfl, hys⟩
  | own k g =>
    simp only [rowOf] at h
    split at h
    · rename_i r' xs' g' hk
      split at h
      · rename_i hc
        cases h
        obtain ⟨hlt, hv⟩ := hv
        rcases (hv _ _ _ hk).2 hc.symm with ⟨b, cap, hb, rfl, _, _⟩ | ⟨_, hx, a, rfl⟩
        · obtain ⟨c, e, f, a1, a2, a3, a4⟩ := St.rows (hs := hs) hk hb
          obtain ⟨ys, hys⟩ := read_of (pb := pb) (w := w) (a := some ⟨b, 0, none⟩) (xs := xs) (fun i hi => by
            obtain ⟨vs, h1, h2, h3⟩ := a4 i hi
            exact ⟨b, 0, vs, rfl, h1, fun j hj => by rw [cell_mk w b _ a1, Nat.zero_add]; exact h2 j hj, h3⟩)
          exact ⟨_, cap, ys, rfl, hys⟩
        · subst hx
          exact ⟨a, 0, [], rfl, by simp, fun p v hp => by simp at hp, fun i hi => by simp at hi⟩
      · cases h
    · cases h
  | ref k i n g =>
    simp only [rowOf] at h
    split at h
    · rename_i r' xs' g' hk
      split at h
      · rename_i hc
        cases h
        obtain ⟨hlt, hv⟩ := hv
        rcases (hv _ _ _ hk).2 hc.symm with ⟨b, o, cap, hb, hle, ho, rfl, _⟩ | ⟨hx, a, rfl⟩
        · obtain ⟨c, e, f, a1, a2, a3, a4⟩ := St.rows (hs := hs) hk hb
          have hlen : ((xs'.drop i).take n).length = n := by simp; omega
          obtain ⟨ys, hys⟩ := read_of (pb := pb) (w := w) (a := some ⟨b, o, none⟩) (xs := (xs'.drop i).take n) (fun q hq => by
            rw [hlen] at hq
            obtain ⟨vs, h1, h2, h3⟩ := a4 (i + q) (by omega)
            refine ⟨b, o, vs, rfl, h1, fun j hj => ?_, ?_⟩
            · rw [ho (by omega), cell_mk w b _ a1, ← Nat.add_mul]
              exact h2 j hj
            · simpa using h3)
          exact ⟨_, cap, ys, by rw [hlen], hys⟩
        · subst hx
          exact ⟨a, 0, [], by simp, by simp, fun p v hp => by simp at hp, fun i hi => by simp at hi⟩
      · cases h
    · cases h
  | _ => cases h

theorem rowQ_read {P : Program} {e : TypeId} {p : PV} {r : Sh} {xs : List r.den} {y : Value} (h : rowQ P e σ p = some ⟨r, xs⟩) (hs : St base σ pb w) (hv : VR σ pb w p y) : ∃ a cap ys, y = .slice a xs.length cap ∧ ReadR pb w r xs a ys := by
  unfold rowQ at h
  split at h
  · rename_i a c
    split at h
    · cases h
      obtain rfl : y = .slice a 0 c := hv
      exact ⟨a, c, [], rfl, by simp, fun p v hp => by simp at hp, fun i hi => by simp at hi⟩
    · cases h
  · exact rowOf_read h hs hv
theorem ReadR.load {r : Sh} {xs : List r.den} {a : Addr} {ys : List Value} (h : ReadR pb w r xs (some a) ys) : (loadCells a (xs.length * r.n)).run P w = .ok ys.toArray w := by
  rw [← h.1]
  refine run_loadCells_list _ _ _ (fun j v hj => ?_)
  obtain ⟨b, o, e, hc⟩ := h.2.1 j v hj
  cases e
  rw [add_mk]
  exact hc
theorem ReadR.first {r : Sh} {xs : List r.den} {a : Option Addr} {ys : List Value} {len cap : Nat} (h : ReadR pb w r xs a ys) : (Builtin.firstCells r.n xs.length (.slice a len cap)).run P w = .ok ys.toArray w := by
  cases a with
  | some a => exact h.load
  | none =>
    have : ys = [] := by
      cases ys with
      | nil => rfl
      | cons v ys => obtain ⟨b, o, e, _⟩ := h.2.1 0 v rfl; cases e
    subst this
    rfl

theorem read_bytes {xs : List Int} {a : Option Addr} {ys : List Value} (h : ReadR pb w (.int .u8) xs a ys) : ys = xs.map (Value.int .u8) := by
  apply List.ext_getElem?
  intro i
  have h1 := h.1
  simp only [Sh.n, Nat.mul_one] at h1
  by_cases hi : i < List.length (α := Int) xs
  · obtain ⟨vs, _, h2, h3⟩ := h.2.2 i hi
    simp only [ER] at h3
    subst h3
    have := h2 0 (by simp [Sh.n])
    simp [Sh.n] at this
    rw [this]
    simp [hi]
  · rw [List.getElem?_eq_none (by rw [h1]; omega), List.getElem?_eq_none (by simp; omega)]

theorem foldl_push : ∀ (ns : List Int) (s : ByteArray), ns.foldl (fun r n => r.push (UInt8.ofNat n.toNat)) s = ⟨s.data ++ (ns.map fun n => UInt8.ofNat n.toNat).toArray⟩
  | [], s => by simp
  | n :: ns, s => by
    rw [List.foldl_cons, foldl_push ns]
    simp [ByteArray.push]

theorem convert0_ok {s d : TypeId} {p : PV} {y : Value} {tr : Tri} (h : oConvert0 P s d p σ = some tr) (h1 : tr.ok = true) (hsrc : ∃ u, P.underlying s = some u) (hs : St base σ pb w) (hv : VR σ pb w p y) : SemOk P base σ pb w (convert s d y) tr := by
  obtain ⟨us, hus⟩ := hsrc
  have rows : (match P.underlying s, P.underlying d with
      | some (.slice e), some .string => match P.underlying e with
        | some (.int .u8) => match rowOf σ p with
          | some ⟨.int .u8, xs⟩ => some (⟨true, .v (.string (strL xs)), σ⟩ : Tri)
          | _ => none
        | _ => none
      | _, _ => none) = some tr → SemOk P base σ pb w (convert s d y) tr := by
    intro h
    split at h
    · rename_i e hu1 hu2
      split at h
      · rename_i hu3
        split at h
        · rename_i xs hrow
          cases h
          obtain ⟨a, cap, ys, rfl, hread⟩ := rowOf_read hrow hs hv
          refine SemOk.stay hs (z := .string (strL xs)) ?_ rfl
          rw [run_convert_bytes_string w s d e _ _ _ hu1 hu3 hu2]
          cases a with
          | none =>
            have hx : xs = [] := by
              have := hread.1
              have h0 : ys = [] := by
                cases ys with
                | nil => rfl
                | cons v ys => obtain ⟨b, o, e, _⟩ := hread.2.1 0 v rfl; cases e
              rw [h0] at this
              simp [Sh.n] at this
              exact List.eq_nil_of_length_eq_zero this.symm
            subst hx
            rfl
          | some a =>
            have hl := hread.load (P := P)
            simp only [Sh.n, Nat.mul_one] at hl
            rw [read_bytes hread] at hl
            rw [run_bytesToString w a _ cap xs hl, foldl_push]
            simp [strL]
        · cases h
      · cases h
    · cases h
  unfold oConvert0 at h
  cases p with
  | v x =>
    have hv : y = x := hv
    subst hv
    have scalar : (match Sem.val P (convert s d y) with | some r => some (⟨true, .v r, σ⟩ : Tri) | none => none) = some tr → SemOk P base σ pb w (convert s d y) tr := by
      intro h
      split at h
      · rename_i r hr
        cases h
        exact SemOk.stay hs (val_run P _ _ w hr) rfl
      · cases h
    cases y with
    | string b =>
      simp only at h
      split at h
      · rename_i e hd
        split at h
        · rename_i he
          cases h
          have hW : Push w (Lib.bytesWorld w e b) (.cells (Lib.bytesCells w e b) e ((Lib.bytesCells w e b).size, (Lib.bytesCells w e b).size + 1)) :=
            ⟨rfl, rfl, rfl, Lib.bytesWorld_size w e b, fun j hj => Lib.bytesWorld_at_old w e b j hj, Lib.bytesWorld_at_new w e b⟩
          have hlen : (bytesL b).length = b.size := by simp [bytesL]
          have hcap : b.size ≤ grownCap w b.size 0 e := by unfold grownCap; exact Nat.le_add_right _ _
          have hsz : (Lib.bytesCells w e b).size = grownCap w b.size 0 e := by simp [Lib.bytesCells]; omega
          have hle : b.size ≤ (Lib.bytesCells w e b).size := by omega
          obtain ⟨h1, h2⟩ := push_place' hW hs (.rows (.int .u8) (bytesL b) 0) (fun σ' pb' he' => ⟨_, _, _, hW.new, fun o ho h => by simp only at h; omega, by simp only [Sh.n]; rw [hlen]; omega, fun i hi => ⟨[.int .u8 (bytesL b)[i]], rfl, fun j hj => by
            simp only [Sh.n] at hj ⊢
            have : j = 0 := by omega
            subst this
            have hi' : i < b.data.size := by rw [hlen] at hi; exact hi
            have hi2 : i < b.size := hi'
            simp [Lib.bytesCells, Array.getElem?_append, hi', hi2, bytesL], rfl⟩⟩)
          refine ⟨_, _, _, Lib.run_convert_string_bytes w s d e b hus hd he, h2, h1, by simp, fun r xs g' hk => ?_⟩
          rw [List.getElem?_append_right (Nat.le_refl _)] at hk
          simp at hk
          obtain ⟨rfl, hk, rfl⟩ := hk
          obtain rfl := eq_of_heq hk
          refine ⟨Nat.le_refl _, fun _ => .inl ⟨w.heap.size, grownCap w b.size 0 e, ?_, by rw [hlen], ?_, ?_⟩⟩
          · rw [List.getElem?_append_right (by rw [hs.len]; exact Nat.le_refl _), hs.len]
            simp
          · rw [hlen]; exact hcap
          · exact ⟨_, _, _, hW.new, by simp only [Sh.n, Nat.mul_one]; rw [hsz]; exact Nat.le_refl _, fun h => by cases h⟩
        · cases h
      · rename_i hd
        cases h
        refine SemOk.stay hs (z := .string b) ?_ rfl
        simp [convert, und_run hus, und_run hd]
      · cases h
    | int k0 n =>
      simp only at h
      split at h
      · rename_i k hd
        cases h
        exact SemOk.stay hs (z := .int k (k.wrap n)) (by simp [convert, und_run hus, und_run hd, Conv.intToInt]) rfl
      · rename_i k hd
        cases h
        exact SemOk.stay hs (z := .float .f64 (fOfI n)) (run_convert_int_float w s d k0 .f64 n (by rw [hus]; rfl) hd) rfl
      · cases h
    | float k0 x =>
      cases k0 with
      | f64 =>
        simp only at h
        split at h
        · rename_i k hd
          cases h
          obtain ⟨q, hq⟩ := Option.isSome_iff_exists.1 (show (floatToIntVal .f64 x k).isSome = true from h1)
          refine SemOk.stay hs (z := .int k (fToI k x)) ?_ rfl
          unfold fToI
          rw [hq]
          exact run_convert_float_int w s d .f64 k x q (by rw [hus]; rfl) hd hq
        · cases h
      | _ => exact scalar h
    | _ => exact scalar h
  | ptr k o =>
    cases o with
    | succ o => exact rows h
    | zero =>
      simp only at h
      split at h
      · rename_i c k' e e2 y0 hk
        split at h
        · rename_i ek
          subst ek
          obtain ⟨b', hpb, _, cc, f, hb, hsz⟩ := bp_ty hs hk
          have hv' : CR σ pb w (.ptr k' 0) y := hv
          obtain ⟨_, b, rfl, hbb⟩ := hv
          have hbb := hbb _ hk
          rw [hpb] at hbb
          cases hbb
          have hsh : w.shape? b' = some (e, 2) := by simp [World.shape?, hb, hsz]
          split at h
          · rename_i u hu1 hu2
            split at h
            · rename_i hz
              cases h
              obtain ⟨ti, hti⟩ := szOf_info hz
              have hz' : ti.size ≠ 0 := by unfold szOf at hz; rw [hti] at hz; exact hz
              exact SemOk.stay hs (z := .pointer (some ⟨b', 0, none⟩)) (Lib.run_to_unsafe w ⟨b', 0, none⟩ hu1 hu2 hti hz' hsh (by show 0 < 2; decide)) hv'
            · cases h
          · rename_i u hu1 hu2
            split at h
            · rename_i hz
              cases h
              obtain ⟨ti, hti⟩ := szOf_info hz.1
              exact SemOk.stay hs (z := .pointer (some ⟨b', 0, none⟩)) (Lib.run_from_unsafe w ⟨b', 0, none⟩ hu1 hu2 hti hsh hz.2) hv'
            · cases h
          · cases h
        · cases h
      · cases h
  | _ => exact rows h

theorem convert_ok {s d : TypeId} {p : PV} {y : Value} {tr : Tri} (h : oConvert P s d p σ = some tr) (h1 : tr.ok = true) (hs : St base σ pb w) (hv : VR σ pb w p y) : SemOk P base σ pb w (convert s d y) tr := by
  unfold oConvert at h
  split at h
  · rename_i u hu; exact convert0_ok h h1 ⟨u, hu⟩ hs hv
  · cases h

end Go.Proofs.YthkjjombaoffcaaGreatDoorPM

/- Single operations: append, rows made whole. -/
set_option linter.unusedVariables false
set_option linter.unusedSectionVars false
set_option linter.unusedSimpArgs false
noncomputable section
namespace Go.Proofs.YthkjjombaoffcaaGreatDoorPM
open Go Go.RowKit
variable [Foreign]

variable {P : Program} {base : Nat} {σ : Sig} {pb : Pb} {w : World}

theorem first_run {rn n len cap : Nat} {a : Option Addr} {ys : List Value} (hl : ys.length = n * rn) (hc : ∀ p v, ys[p]? = some v → ∃ b o, a = some ⟨b, o, none⟩ ∧ w.cell? ⟨b, o + p, none⟩ = some v) :
    (Builtin.firstCells rn n (.slice a len cap)).run P w = .ok ys.toArray w := by
  cases a with
  | some a =>
    show (loadCells a (n * rn)).run P w = _
    rw [← hl]
    refine run_loadCells_list _ _ _ (fun j v hj => ?_)
    obtain ⟨b, o, e, hq⟩ := hc j v hj
    cases e
    rw [add_mk]
    exact hq
  | none =>
    have : ys = [] := by
      cases ys with
      | nil => rfl
      | cons v ys => obtain ⟨b, o, e, _⟩ := hc 0 v rfl; cases e
    subst this
    rfl

theorem app_in {ts : Array TypeId} {t u e e' ty : TypeId} {i : TypeInfo} (h0 : ts[0]? = some t) (h1 : ts[1]? = some u) (ht : P.underlying t = some (.slice e)) (hu : P.underlying u = some (.slice e')) (hi : P.info? e = some i)
    {a : Option Addr} {n cap m c : Nat} {a1 : Option Addr} {ys : List Value} (hl : ys.length = m * i.size) (hc : ∀ p v, ys[p]? = some v → ∃ b o, a1 = some ⟨b, o, none⟩ ∧ w.cell? ⟨b, o + p, none⟩ = some v)
    (hle : n + m ≤ cap) {w' : World} (hs : ∀ x, a = some x → (storeCells (x.add (n * i.size)) ys).run P w = .ok () w') (hn : a = none → w' = w) :
    (Builtin.append_ ts ty #[.slice a n cap, .slice a1 m c]).run P w = .ok (.slice a (n + m) cap) w' := by
  have hf := first_run (P := P) (rn := i.size) (n := m) (len := m) (cap := c) hl hc
  cases a with
  | none =>
    have := hn rfl
    subst this
    simp [Builtin.append_, h0, h1, und_run ht, und_run hu, sizeOf, typeInfo, hi, Builtin.lenOf, hle, hf]
  | some x =>
    have hs := hs x rfl
    simp [Builtin.append_, h0, h1, und_run ht, und_run hu, sizeOf, typeInfo, hi, Builtin.lenOf, hle, hf, hs]

theorem app_grow {ts : Array TypeId} {t u e e' ty : TypeId} {i : TypeInfo} {z : Value} (h0 : ts[0]? = some t) (h1 : ts[1]? = some u) (ht : P.underlying t = some (.slice e)) (hu : P.underlying u = some (.slice e')) (hi : P.info? e = some i) (hz : i.zero = some z)
    {a : Option Addr} {n cap m c : Nat} {a1 : Option Addr} {xs ys : List Value} (hlx : xs.length = n * i.size) (hcx : ∀ p v, xs[p]? = some v → ∃ b o, a = some ⟨b, o, none⟩ ∧ w.cell? ⟨b, o + p, none⟩ = some v)
    (hl : ys.length = m * i.size) (hc : ∀ p v, ys[p]? = some v → ∃ b o, a1 = some ⟨b, o, none⟩ ∧ w.cell? ⟨b, o + p, none⟩ = some v)
    (hgt : cap < n + m) (hb : 0 < i.bytes) (hb' : i.bytes ≤ 1000) (hm : n + m < most) :
    (Builtin.append_ ts ty #[.slice a n cap, .slice a1 m c]).run P w =
      .ok (.slice (some ⟨w.heap.size, 0, none⟩) (n + m) (grownCap w (n + m) cap e)) (w.drew.alloc (.cells (xs.toArray ++ ys.toArray ++ Builtin.zeroCells z.cells (grownCap w (n + m) cap e - (n + m))) e)) := by
  have hn : ¬ (n + m ≤ cap) := by omega
  have hfx := first_run (P := P) (w := w.drew) (rn := i.size) (n := n) (len := n) (cap := cap) (a := a) hlx hcx
  have hf := first_run (P := P) (w := w.drew) (rn := i.size) (n := m) (len := m) (cap := c) (a := a1) hl hc
  have hbig : (n + m) * i.bytes ≤ 140737488355328 := by
    have : (n + m) * i.bytes ≤ 68719476736 * 1000 := Nat.mul_le_mul (by unfold most at hm; omega) hb'
    omega
  have hfit := growslice_fits (need := n + m) (old := cap) (bytes := i.bytes) hgt hbig
  have h48' : ¬ (281474976710656 < Builtin.nextslicecap (n + m) cap * i.bytes) := by omega
  have hb0 : i.bytes ≠ 0 := by omega
  simp [Builtin.append_, h0, h1, und_run ht, und_run hu, sizeOf, typeInfo, zeroValue, hi, hz, Builtin.lenOf, hn, hb0, h48', Question.forced, hf, hfx, newRow, grownCap]
  congr 2
  apply Array.ext'
  simp [List.append_assoc]

theorem firstS_run (rn : Nat) (s : ByteArray) : (Builtin.firstCells rn s.size (.string s)).run P w = .ok ((bytesL s).map (Value.int .u8)).toArray w := by
  have e : (s.extract 0 s.size).data.map (fun b => Value.int .u8 (b.toNat : Int)) = ((bytesL s).map (Value.int .u8)).toArray := by
    apply Array.ext'
    simp [bytesL, ByteArray.data_extract]
  show Sem.run P (pure _) w = _
  rw [← e]
  rfl
theorem app_inS {ts : Array TypeId} {t u e ty : TypeId} {i : TypeInfo} (h0 : ts[0]? = some t) (h1 : ts[1]? = some u) (ht : P.underlying t = some (.slice e)) (hu : P.underlying u = some .string) (hi : P.info? e = some i)
    {a : Option Addr} {n cap : Nat} {s : ByteArray} (hle : n + s.size ≤ cap) {w' : World} (hs : ∀ x, a = some x → (storeCells (x.add (n * i.size)) ((bytesL s).map (Value.int .u8))).run P w = .ok () w') (hn : a = none → w' = w) :
    (Builtin.append_ ts ty #[.slice a n cap, .string s]).run P w = .ok (.slice a (n + s.size) cap) w' := by
  have hf := firstS_run (P := P) (w := w) i.size s
  cases a with
  | none =>
    have := hn rfl
    subst this
    simp [Builtin.append_, h0, h1, und_run ht, und_run hu, sizeOf, typeInfo, hi, Builtin.lenOf, hle, hf]
  | some x =>
    have hs := hs x rfl
    simp [Builtin.append_, h0, h1, und_run ht, und_run hu, sizeOf, typeInfo, hi, Builtin.lenOf, hle, hf, hs]
theorem app_growS {ts : Array TypeId} {t u e ty : TypeId} {i : TypeInfo} {z : Value} (h0 : ts[0]? = some t) (h1 : ts[1]? = some u) (ht : P.underlying t = some (.slice e)) (hu : P.underlying u = some .string) (hi : P.info? e = some i) (hz : i.zero = some z)
    {a : Option Addr} {n cap : Nat} {s : ByteArray} {xs : List Value} (hlx : xs.length = n * i.size) (hcx : ∀ p v, xs[p]? = some v → ∃ b o, a = some ⟨b, o, none⟩ ∧ w.cell? ⟨b, o + p, none⟩ = some v)
    (hgt : cap < n + s.size) (hb : 0 < i.bytes) (hb' : i.bytes ≤ 1000) (hm : n + s.size < most) :
    (Builtin.append_ ts ty #[.slice a n cap, .string s]).run P w =
      .ok (.slice (some ⟨w.heap.size, 0, none⟩) (n + s.size) (grownCap w (n + s.size) cap e)) (w.drew.alloc (.cells (xs.toArray ++ ((bytesL s).map (Value.int .u8)).toArray ++ Builtin.zeroCells z.cells (grownCap w (n + s.size) cap e - (n + s.size))) e)) := by
  have hn : ¬ (n + s.size ≤ cap) := by omega
  have hfx := first_run (P := P) (w := w.drew) (rn := i.size) (n := n) (len := n) (cap := cap) (a := a) hlx hcx
  have hf := firstS_run (P := P) (w := w.drew) i.size s
  have hbig : (n + s.size) * i.bytes ≤ 140737488355328 := by
    have : (n + s.size) * i.bytes ≤ 68719476736 * 1000 := Nat.mul_le_mul (by unfold most at hm; omega) hb'
    omega
  have hfit := growslice_fits (need := n + s.size) (old := cap) (bytes := i.bytes) hgt hbig
  have h48' : ¬ (281474976710656 < Builtin.nextslicecap (n + s.size) cap * i.bytes) := by omega
  have hb0 : i.bytes ≠ 0 := by omega
  simp [Builtin.append_, h0, h1, und_run ht, und_run hu, sizeOf, typeInfo, zeroValue, hi, hz, Builtin.lenOf, hn, hb0, h48', Question.forced, hf, hfx, newRow, grownCap]
  congr 2
  apply Array.ext'
  simp [List.append_assoc]

/-- The elements of a row of cells. -/
def Els (pb : Pb) (w : World) (r : Sh) (xs : List r.den) (l : List Value) : Prop := ∀ i (h : i < xs.length), ∃ vs, vs.length = r.n ∧ (∀ j, j < r.n → l[i * r.n + j]? = vs[j]?) ∧ ER pb w r xs[i] vs
theorem Els.append {r : Sh} {xs ys : List r.den} {l1 l2 l3 : List Value} (h1 : Els pb w r xs l1) (e1 : l1.length = xs.length * r.n) (h2 : Els pb w r ys l2) (e2 : l2.length = ys.length * r.n) : Els pb w r (xs ++ ys) (l1 ++ l2 ++ l3) := by
  intro i hi
  simp only [List.length_append] at hi
  have hsucc : ∀ k n : Nat, k < n → k * r.n + r.n ≤ n * r.n := by
    intro k n hk
    have : (k + 1) * r.n ≤ n * r.n := Nat.mul_le_mul_right _ hk
    rwa [Nat.succ_mul] at this
  by_cases hlt : i < xs.length
  · obtain ⟨vs, a1, a2, a3⟩ := h1 i hlt
    have hb := hsucc i xs.length hlt
    refine ⟨vs, a1, fun j hj => ?_, by rw [List.getElem_append_left hlt]; exact a3⟩
    rw [List.append_assoc, List.getElem?_append_left (by omega)]
    exact a2 j hj
  · obtain ⟨vs, a1, a2, a3⟩ := h2 (i - xs.length) (by omega)
    have hb := hsucc (i - xs.length) ys.length (by omega)
    refine ⟨vs, a1, fun j hj => ?_, by rw [List.getElem_append_right (by omega)]; exact a3⟩
    have hidx : i * r.n = xs.length * r.n + (i - xs.length) * r.n := by rw [← Nat.add_mul]; congr 1; omega
    rw [List.append_assoc, List.getElem?_append_right (by omega), List.getElem?_append_left (by omega), ← a2 j hj]
    congr 1
    omega
theorem Els.mono {pb' : Pb} {w' : World} {r : Sh} {xs : List r.den} {l : List Value} (h : Els pb w r xs l) (k : Keeps pb w pb' w') : Els pb' w' r xs l := by
  intro i hi
  obtain ⟨vs, a1, a2, a3⟩ := h i hi
  exact ⟨vs, a1, a2, a3.mono k⟩

theorem drew_push (w : World) (o : Obj) : Push w (w.drew.alloc o) o := by
  refine ⟨rfl, rfl, rfl, by simp, fun j hj => ?_, ?_⟩
  · exact pushW_old w.drew o j hj
  · exact pushW_new w.drew o

theorem grown_place {r : Sh} {xs ys : List r.den} {l1 l2 : List Value} {z : Value} {c : Nat} {e : TypeId} {g : Nat} (hz : (zeroCellsP z).length = r.n) (h1 : Els pb w r xs l1) (e1 : l1.length = xs.length * r.n) (h2 : Els pb w r ys l2) (e2 : l2.length = ys.length * r.n) (hc : xs.length + ys.length + c ≤ 9223372036854775807) :
    (∀ σ' pb', Ext σ pb w σ' pb' (w.drew.alloc (.cells (l1.toArray ++ l2.toArray ++ Builtin.zeroCells z.cells c) e)) →
      PlaceR σ' pb' (w.drew.alloc (.cells (l1.toArray ++ l2.toArray ++ Builtin.zeroCells z.cells c) e)) (.rows r (xs ++ ys) g) (some w.heap.size)) ∧
    BlockOf (w.drew.alloc (.cells (l1.toArray ++ l2.toArray ++ Builtin.zeroCells z.cells c) e)) w.heap.size (xs.length + ys.length + c) r := by
  have hnew := (drew_push w (.cells (l1.toArray ++ l2.toArray ++ Builtin.zeroCells z.cells c) e)).new
  have hzc : z.cells.size = r.n := by
    rw [← hz]
    cases z <;> simp [zeroCellsP, Value.cells]
  have hsize : (l1.toArray ++ l2.toArray ++ Builtin.zeroCells z.cells c).size = (xs.length + ys.length + c) * r.n := by
    simp [Builtin.zeroCells, hzc, e1, e2, Nat.add_mul]
  refine ⟨fun σ' pb' he => ⟨_, e, (0, 0), hnew, fun o _ h => by omega, ?_, ?_⟩, ⟨_, _, _, hnew, by rw [hsize]; exact Nat.le_refl _, CapOk.of hc⟩⟩
  · rw [hsize, List.length_append]
    exact Nat.mul_le_mul_right _ (by omega)
  · have := (h1.append e1 h2 e2 (l3 := (Builtin.zeroCells z.cells c).toList)).mono he.keeps
    intro i hi
    obtain ⟨vs, a1, a2, a3⟩ := this i hi
    refine ⟨vs, a1, fun j hj => ?_, a3⟩
    rw [← a2 j hj, ← Array.getElem?_toList]
    congr 1
    simp

theorem cap_le {w : World} {need old : Nat} {e : TypeId} (h : need < most) : need + (grownCap w need old e - need) ≤ 9223372036854775807 := by
  unfold most at h
  have := Nat.mod_lt (w.tape w.drawn (.appendCap need old e)) (show 0 < 2 ^ 63 - need by omega)
  simp only [grownCap, Question.cut] at *
  omega
theorem cap_ge (w : World) (need old : Nat) (e : TypeId) : need ≤ grownCap w need old e := by unfold grownCap; exact Nat.le_add_right _ _

theorem range_flatten (zc : List Value) (d : Value) : ∀ n, (List.range (n * zc.length)).map (fun i => zc.getD (i % zc.length) d) = (List.replicate n zc).flatten := by
  intro n
  induction n with
  | zero => simp
  | succ n ih =>
    rw [List.replicate_succ', List.flatten_append, ← ih, Nat.succ_mul, List.range_add]
    simp only [List.map_append, List.map_map, List.flatten_singleton]
    congr 1
    apply List.ext_getElem?
    intro i
    rw [List.getElem?_map]
    by_cases hi : i < zc.length
    · rw [List.getElem?_range hi]
      simp [Nat.add_mod, Nat.mod_eq_of_lt hi, hi]
    · rw [List.getElem?_eq_none (by simp; omega), List.getElem?_eq_none (by omega)]
      rfl

theorem rep_els {r : Sh} {x : r.den} {zc : List Value} (hx : ER pb w r x zc) : ∀ n, Els pb w r (List.replicate n x) ((List.replicate n zc).flatten) := by
  intro n
  induction n with
  | zero => intro i hi; simp at hi
  | succ n ih =>
    intro i hi
    rw [List.replicate_succ, List.flatten_cons]
    cases i with
    | zero => exact ⟨zc, hx.len, fun j hj => by rw [Nat.zero_mul, Nat.zero_add, List.getElem?_append_left (by rw [hx.len]; exact hj)], by simpa [List.replicate_succ] using hx⟩
    | succ i =>
      obtain ⟨vs, a1, a2, a3⟩ := ih i (by simpa using hi)
      refine ⟨vs, a1, fun j hj => ?_, by simpa [List.replicate_succ] using a3⟩
      rw [List.getElem?_append_right (by rw [hx.len, Nat.succ_mul]; omega), ← a2 j hj, hx.len, Nat.succ_mul]
      congr 1
      omega
theorem app_in0 {ts : Array TypeId} {t u e ty : TypeId} {kk k : IntKind} {i : TypeInfo} {z : Value} (h0 : ts[0]? = some t) (h1 : ts[1]? = some u) (ht : P.underlying t = some (.slice e)) (hu : P.underlying u = some (.int kk)) (hi : P.info? e = some i) (hz : i.zero = some z) (hb' : i.bytes ≤ 1000)
    {a : Option Addr} {n cap m : Nat} (hm : m < 1000000000) {ys : List Value} (hy : Builtin.zeroCells z.cells m = ys.toArray) (hl : ys.length = m * i.size)
    (hle : n + m ≤ cap) {w' : World} (hs : ∀ x, a = some x → (storeCells (x.add (n * i.size)) ys).run P w = .ok () w') (hn : a = none → w' = w) :
    (Builtin.append_ ts ty #[.slice a n cap, .int k (m : Int)]).run P w = .ok (.slice a (n + m) cap) w' := by
  have e1 : IntKind.i64.wrap (m : Int) = (m : Int) := by rw [IntKind.wrap_i64]; omega
  have e2 : ¬ ((m : Int) < 0) := by omega
  have e3 : ¬ (281474976710656 < (m : Int) * (i.bytes : Int)) := by
    have : (m : Int) * (i.bytes : Int) ≤ (m : Int) * 1000 := Int.mul_le_mul_of_nonneg_left (by omega) (by omega)
    omega
  by_cases hz0 : m * i.size = 0
  · have hys : ys = [] := List.eq_nil_of_length_eq_zero (by rw [hl]; exact hz0)
    subst hys
    cases a with
    | none =>
      have := hn rfl
      subst this
      simp [Builtin.append_, h0, h1, und_run ht, und_run hu, sizeOf, typeInfo, hi, asInt, asIntOf, e1, e2, e3, hle, hz0]
    | some x =>
      have hs := hs x rfl
      simp [Builtin.append_, h0, h1, und_run ht, und_run hu, sizeOf, typeInfo, hi, asInt, asIntOf, e1, e2, e3, hle, hz0, hs]
  · cases a with
    | none =>
      have := hn rfl
      subst this
      simp [Builtin.append_, h0, h1, und_run ht, und_run hu, sizeOf, typeInfo, zeroValue, hi, hz, asInt, asIntOf, e1, e2, e3, hle, hz0]
    | some x =>
      have hs := hs x rfl
      simp [Builtin.append_, h0, h1, und_run ht, und_run hu, sizeOf, typeInfo, zeroValue, hi, hz, asInt, asIntOf, e1, e2, e3, hle, hz0, hy, hs]
theorem app_grow0 {ts : Array TypeId} {t u e ty : TypeId} {kk k : IntKind} {i : TypeInfo} {z : Value} (h0 : ts[0]? = some t) (h1 : ts[1]? = some u) (ht : P.underlying t = some (.slice e)) (hu : P.underlying u = some (.int kk)) (hi : P.info? e = some i) (hz : i.zero = some z)
    {a : Option Addr} {n cap m : Nat} {xs ys : List Value} (hlx : xs.length = n * i.size) (hcx : ∀ p v, xs[p]? = some v → ∃ b o, a = some ⟨b, o, none⟩ ∧ w.cell? ⟨b, o + p, none⟩ = some v)
    (hl : (Builtin.zeroCells z.cells m).size = m * i.size) (hy : Builtin.zeroCells z.cells m = ys.toArray)
    (hgt : cap < n + m) (hb : 0 < i.bytes) (hb' : i.bytes ≤ 1000) (hm : n + m < most) (hm2 : m < 1000000000) :
    (Builtin.append_ ts ty #[.slice a n cap, .int k (m : Int)]).run P w =
      .ok (.slice (some ⟨w.heap.size, 0, none⟩) (n + m) (grownCap w (n + m) cap e)) (w.drew.alloc (.cells (xs.toArray ++ ys.toArray ++ Builtin.zeroCells z.cells (grownCap w (n + m) cap e - (n + m))) e)) := by
  have e1 : IntKind.i64.wrap (m : Int) = (m : Int) := by rw [IntKind.wrap_i64]; omega
  have e2 : ¬ ((m : Int) < 0) := by omega
  have e3 : ¬ (281474976710656 < (m : Int) * (i.bytes : Int)) := by
    have : (m : Int) * (i.bytes : Int) ≤ (m : Int) * 1000 := Int.mul_le_mul_of_nonneg_left (by omega) (by omega)
    omega
  have hn : ¬ (n + m ≤ cap) := by omega
  have hfx := first_run (P := P) (w := w.drew) (rn := i.size) (n := n) (len := n) (cap := cap) (a := a) hlx hcx
  have hbig : (n + m) * i.bytes ≤ 140737488355328 := by
    have : (n + m) * i.bytes ≤ 68719476736 * 1000 := Nat.mul_le_mul (by unfold most at hm; omega) hb'
    omega
  have hfit := growslice_fits (need := n + m) (old := cap) (bytes := i.bytes) hgt hbig
  have h48' : ¬ (281474976710656 < Builtin.nextslicecap (n + m) cap * i.bytes) := by omega
  have hb0 : i.bytes ≠ 0 := by omega
  have hmax : ¬ (IntKind.i64.max < ((n + m : Nat) : Int)) := by
    have : IntKind.i64.max = 9223372036854775807 := rfl
    unfold most at hm
    omega
  have hmax' : ¬ (9223372036854775807 < (n : Int) + (m : Int)) := by unfold most at hm; omega
  by_cases hz0 : m * i.size = 0
  · have hys : ys = [] := by
      have : ys.length = 0 := by rw [hy] at hl; simpa [hz0] using hl
      exact List.eq_nil_of_length_eq_zero this
    subst hys
    simp [Builtin.append_, h0, h1, und_run ht, und_run hu, sizeOf, typeInfo, zeroValue, hi, hz, asInt, asIntOf, e1, e2, e3, hn, hb0, h48', hmax, hmax', Question.forced, hfx, newRow, grownCap, hz0]
  · simp [Builtin.append_, h0, h1, und_run ht, und_run hu, sizeOf, typeInfo, zeroValue, hi, hz, asInt, asIntOf, e1, e2, e3, hn, hb0, h48', hmax, hmax', Question.forced, hfx, newRow, grownCap, hz0, hy]
    try (congr 2; apply Array.ext'; simp [List.append_assoc])
theorem append_core {e ty : TypeId} {ts : Array TypeId} {ie : TypeInfo} {zv : Value} {p : PV} {y z : Value} {tr : Tri} {r : Sh} {ys : List r.den} {news : List Value} (hel : elOk P e r = true) (hb1 : 0 < ie.bytes) (hzc : (zeroCellsP zv).length = r.n) (hi : P.info? e = some ie)
    (hl1 : news.length = ys.length * r.n) (hel1 : Els pb w r ys news)
    (grow : ∀ {a0 : Option Addr} {xs : List r.den} {cap : Nat} {olds : List Value}, ReadR pb w r xs a0 olds → cap < xs.length + ys.length → xs.length + ys.length < most →
      (Builtin.append_ ts ty #[.slice a0 xs.length cap, z]).run P w =
        .ok (.slice (some ⟨w.heap.size, 0, none⟩) (xs.length + ys.length) (grownCap w (xs.length + ys.length) cap e)) (w.drew.alloc (.cells (olds.toArray ++ news.toArray ++ Builtin.zeroCells zv.cells (grownCap w (xs.length + ys.length) cap e - (xs.length + ys.length))) e)))
    (hin : ∀ {a0 : Option Addr} {n cap : Nat} {w' : World}, n + ys.length ≤ cap → (∀ x, a0 = some x → (storeCells (x.add (n * ie.size)) news).run P w = .ok () w') → (a0 = none → w' = w) → (Builtin.append_ ts ty #[.slice a0 n cap, z]).run P w = .ok (.slice a0 (n + ys.length) cap) w')
    (h : oAppR r ys p σ = some tr) (h1 : tr.ok = true) (hs : St base σ pb w) (hvp : VR σ pb w p y) :
    SemOk P base σ pb w (Builtin.append_ ts ty #[y, z]) tr := by
  obtain ⟨esz, hrn, _⟩ := elOk_spec hel
  have hisz : ie.size = r.n := by rw [← esz]; unfold szOf; rw [hi]
  unfold oAppR at h
  have fresh : ∀ {a0 : Option Addr} {xs : List r.den} {cap : Nat} {olds : List Value}, ReadR pb w r xs a0 olds → cap < xs.length + ys.length → xs.length + ys.length < most →
      SemOk P base σ pb w (Builtin.append_ ts ty #[.slice a0 xs.length cap, z]) ⟨true, .own σ.length 0, σ ++ [.rows r (xs ++ ys) 0]⟩ := by
    intro a0 xs cap olds hr hgt hm
    obtain ⟨hpl, hblk⟩ := grown_place (σ := σ) (g := 0) (c := grownCap w (xs.length + ys.length) cap e - (xs.length + ys.length)) (e := e) hzc hr.2.2 hr.1 hel1 hl1 (cap_le hm)
    obtain ⟨he, hst⟩ := push_place' (drew_push w _) hs (.rows r (xs ++ ys) 0) hpl
    refine ⟨_, _, _, grow hr hgt hm, hst, he, by simp, fun r' xs' g' hk => ?_⟩
    rw [List.getElem?_append_right (Nat.le_refl _)] at hk
    simp at hk
    obtain ⟨rfl, hk, rfl⟩ := hk
    obtain rfl := eq_of_heq hk
    refine ⟨Nat.le_refl _, fun _ => .inl ⟨w.heap.size, grownCap w (xs.length + ys.length) cap e, ?_, by simp, by simp; exact cap_ge _ _ _ _, ?_⟩⟩
    · rw [List.getElem?_append_right (by rw [hs.len]; exact Nat.le_refl _), hs.len]
      simp
    · have := cap_ge w (xs.length + ys.length) cap e
      rw [show xs.length + ys.length + (grownCap w (xs.length + ys.length) cap e - (xs.length + ys.length)) = grownCap w (xs.length + ys.length) cap e by omega] at hblk
      exact hblk
  -- onto nothing
  have onto : ∀ {a0 : Option Addr}, y = .slice a0 0 0 → ys.length < most → SemOk P base σ pb w (Builtin.append_ ts ty #[y, z]) ⟨true, .own σ.length 0, σ ++ [.rows r ys 0]⟩ := by
    intro a0 hy hm
    subst hy
    by_cases h0' : ys.length = 0
    · have hys : ys = [] := List.eq_nil_of_length_eq_zero h0'
      have hnews : news = [] := by
        rw [h0', Nat.zero_mul] at hl1
        exact List.eq_nil_of_length_eq_zero hl1
      have hl := hs.len
      have he : Ext σ pb w (σ ++ [.rows r ys 0]) (pb ++ [none]) w := by
        refine ⟨rfl, rfl, rfl, Nat.le_refl _, ⟨fun b hb => ⟨⟨hb.1, fun hm => ?_, hb.2.2⟩, rfl⟩, fun _ _ => rfl⟩, fun b c e f h => ⟨c, f, h, rfl, fun x => x⟩, PlExt.snoc σ pb hl _ _⟩
        rcases List.mem_append.mp hm with h | h
        · exact hb.2.1 h
        · simp at h
      have hlt : ∀ (i b : Nat), (pb ++ [none])[i]? = some (some b) → pb[i]? = some (some b) := by
        intro i b h
        by_cases q : i < pb.length
        · rwa [List.getElem?_append_left q] at h
        · rw [List.getElem?_append_right (by omega)] at h
          have : i - pb.length = 0 := by have := (List.getElem?_eq_some_iff.mp h).1; simp at this; omega
          rw [this] at h
          simp at h
      refine ⟨pb ++ [none], w, .slice a0 0 0, ?_, ⟨hs.bs, by simp [hl], fun i j b hi hj => hs.inj i j b (hlt _ _ hi) (hlt _ _ hj), fun i b hi => hs.bnd i b (hlt _ _ hi), fun b hb => ⟨(hs.frn b hb).1, fun hm => ?_⟩, fun k p q hk hq => ?_⟩, he, by simp, fun r' xs' g' hk => ?_⟩
      · have := hin (w' := w) (a0 := a0) (n := 0) (cap := 0) (by omega) (fun x _ => by rw [hnews]; rfl) (fun _ => rfl)
        rw [h0'] at this
        exact this
      · rcases List.mem_append.mp hm with h | h
        · exact (hs.frn b hb).2 h
        · simp at h
      · by_cases q1 : k < σ.length
        · rw [List.getElem?_append_left q1] at hk
          rw [List.getElem?_append_left (by omega)] at hq
          exact PlaceR.ext he (fun _ _ => rfl) (hs.pl k p q hk hq)
        · rw [List.getElem?_append_right (by omega)] at hk
          rw [List.getElem?_append_right (by omega)] at hq
          have : k - σ.length = 0 := by have := (List.getElem?_eq_some_iff.mp hk).1; simp at this; omega
          rw [this] at hk
          rw [show k - pb.length = 0 by omega] at hq
          simp at hk hq
          subst hk
          subst hq
          exact hys
      · rw [List.getElem?_append_right (Nat.le_refl _)] at hk
        simp at hk
        obtain ⟨rfl, hk, rfl⟩ := hk
        obtain rfl := eq_of_heq hk
        refine ⟨Nat.le_refl _, fun _ => .inr ⟨?_, hys, a0, rfl⟩⟩
        rw [List.getElem?_append_right (by omega), hl]
        simp
    · obtain ⟨pb', w', z', a1, a2, a3, a4⟩ := fresh (a0 := a0) (xs := []) (cap := 0) (olds := []) ⟨by simp, fun p v hp => by simp at hp, fun i hi => by simp at hi⟩ (by simp; omega) (by simpa using hm)
      exact ⟨pb', w', z', a1, a2, a3, a4⟩
  cases p with
  | own k g =>
    simp only at h
    split at h
    · rename_i r' xs g' hk
      split at h
      · rename_i er
        subst er
        split at h
        · rename_i hg
          subst hg
          cases h
          have hm := of_decide_eq_true h1
          have hlt : k < σ.length := (List.getElem?_eq_some_iff.mp hk).1
          obtain ⟨_, hv⟩ := hvp
          have hread := rowOf_read (σ := σ) (pb := pb) (w := w) (p := .own k g') (r := r') (xs := xs) (y := y) (by simp [rowOf, hk]) hs ⟨hlt, hv⟩
          obtain ⟨a0, cap0, olds, rfl, hr⟩ := hread
          rcases (hv _ _ _ hk).2 rfl with ⟨b, cap, hb, hy, hcap, hblk⟩ | ⟨hpb, hx, a, hy⟩
          · injection hy with hy1 hy2 hy3
            subst hy1
            subst hy3
            by_cases hle : xs.length + ys.length ≤ cap0
            · obtain ⟨cc, ee, ff, b1, b2, b3, b4⟩ := St.rows (hs := hs) hk hb
              obtain ⟨cc', ee', ff', d1, d2⟩ := hblk
              rw [b1] at d1
              cases d1
              have hroom : xs.length * r'.n + news.length ≤ cc.size := by
                rw [hl1, ← Nat.add_mul]
                exact Nat.le_trans (Nat.mul_le_mul_right _ hle) d2.1
              have hone : news.all oneB = true := by
                rw [List.all_eq_true]
                intro v hv
                obtain ⟨p, hp, rfl⟩ := List.getElem_of_mem hv
                have hpos : 0 < r'.n := by omega
                rw [hl1] at hp
                have hi' : p / r'.n < ys.length := by rw [Nat.div_lt_iff_lt_mul hpos]; exact hp
                obtain ⟨vs, q1, q2, q3⟩ := hel1 _ hi'
                have := q2 (p % r'.n) (Nat.mod_lt _ hpos)
                rw [Nat.div_add_mod' p r'.n, List.getElem?_eq_getElem (by rw [hl1]; exact hp), List.getElem?_eq_getElem (by rw [q1]; exact Nat.mod_lt _ hpos)] at this
                injection this with this
                rw [this]
                exact ER.one q3 _ (List.getElem_mem _)
              obtain ⟨w', hrun, hupd⟩ := storeCells_run (P := P) b (xs.length * r'.n) news 0 w cc ee ff b1 b2 (by omega) hone
              have hal : Alike (.rows r' xs g') (.rows r' (xs ++ ys) (g' + 1)) := ⟨rfl, by omega, fun e => by omega⟩
              have he := hupd.ext hb hk hal hs.nf
              have hst := hupd.st hs hb hk hal (by
                obtain ⟨e3, f3, c1', c2'⟩ := hupd.at_
                rw [b1] at c1'
                cases c1'
                refine ⟨_, _, _, c2', by rw [hupd.sz]; exact b2, by rw [hupd.sz, List.length_append, Nat.add_mul, ← hl1]; exact hroom, ?_⟩
                have hels : Els pb w r' (xs ++ ys) (cc.toList.take (xs.length * r'.n) ++ news ++ cc.toList.drop (xs.length * r'.n + news.length)) := by
                  refine Els.append (fun i hi => ?_) (by simp; omega) hel1 hl1
                  obtain ⟨vs, q1, q2, q3⟩ := b4 i hi
                  refine ⟨vs, q1, fun j hj => ?_, q3⟩
                  have : (i + 1) * r'.n ≤ xs.length * r'.n := Nat.mul_le_mul_right _ hi
                  rw [Nat.succ_mul] at this
                  rw [List.getElem?_take, if_pos (by omega), Array.getElem?_toList]
                  exact q2 j hj
                have hels := hels.mono he.keeps
                intro i hi
                obtain ⟨vs, q1, q2, q3⟩ := hels i hi
                refine ⟨vs, q1, fun j hj => ?_, q3⟩
                rw [← q2 j hj, ← Array.getElem?_toList, setL_arr, Nat.add_zero, setL_get _ _ _ _ (by simp; omega)]
                have hidx : i * r'.n + j < (xs ++ ys).length * r'.n := by
                  have : (i + 1) * r'.n ≤ (xs ++ ys).length * r'.n := Nat.mul_le_mul_right _ hi
                  rw [Nat.succ_mul] at this
                  omega
                rw [List.length_append, Nat.add_mul, ← hl1] at hidx
                rw [List.append_assoc]
                by_cases hp : xs.length * r'.n ≤ i * r'.n + j
                · rw [if_pos ⟨hp, hidx⟩, List.getElem?_append_right (by simp; omega), List.getElem?_append_left (by simp; omega)]
                  congr 1
                  simp
                  omega
                · rw [if_neg (by omega), List.getElem?_append_left (by simp; omega), List.getElem?_take, if_pos (by omega)])
              refine ⟨pb, w', .slice (some ⟨b, 0, none⟩) (xs.length + ys.length) cap0, ?_, hst, he, by simpa using hlt, fun r'' xs' g'' hk' => ?_⟩
              · refine hin hle (fun x hx => ?_) (fun e => (by cases e))
                cases hx
                rw [add_mk, hisz]
                simpa using hrun
              · rw [show (σ.set k (.rows r' (xs ++ ys) (g' + 1)))[k]? = some (.rows r' (xs ++ ys) (g' + 1)) by simp [hlt]] at hk'
                cases hk'
                exact ⟨Nat.le_refl _, fun _ => .inl ⟨b, cap0, hb, by simp, by simpa using hle, BlockOf.ext he ⟨_, _, _, b1, d2⟩⟩⟩
            · obtain ⟨hpl, hblk'⟩ := grown_place (σ := σ) (g := g' + 1) (c := grownCap w (xs.length + ys.length) cap0 e - (xs.length + ys.length)) (e := e) hzc hr.2.2 hr.1 hel1 hl1 (cap_le hm)
              obtain ⟨he, hst⟩ := push_replace (drew_push w _) hs hk (by omega) hpl
              refine ⟨_, _, _, grow hr (by omega) hm, hst, he, by simpa using hlt, fun r'' xs' g'' hk' => ?_⟩
              rw [show (σ.set k (.rows r' (xs ++ ys) (g' + 1)))[k]? = some (.rows r' (xs ++ ys) (g' + 1)) by simp [hlt]] at hk'
              cases hk'
              refine ⟨Nat.le_refl _, fun _ => .inl ⟨w.heap.size, grownCap w (xs.length + ys.length) cap0 e, by simp [hs.len, hlt], by simp, by simp; exact cap_ge _ _ _ _, ?_⟩⟩
              have := cap_ge w (xs.length + ys.length) cap0 e
              rw [show xs.length + ys.length + (grownCap w (xs.length + ys.length) cap0 e - (xs.length + ys.length)) = grownCap w (xs.length + ys.length) cap0 e by omega] at hblk'
              exact hblk'
          · subst hx
            injection hy with hy1 hy2 hy3
            subst hy1
            subst hy3
            by_cases h0' : ys.length = 0
            · have hys : ys = [] := List.eq_nil_of_length_eq_zero h0'
              subst hys
              have hal : Alike (.rows r' [] g') (.rows r' ([] ++ []) (g' + 1)) := ⟨rfl, by omega, fun e => by omega⟩
              have he : Ext σ pb w (σ.set k (.rows r' ([] ++ []) (g' + 1))) pb w := ⟨rfl, rfl, rfl, Nat.le_refl _, Keeps.refl _ _, fun b c e f h => ⟨c, f, h, rfl, fun x => x⟩, PlExt.set hk hal⟩
              have hnews : news = [] := by
                simp at hl1
                exact hl1
              subst hnews
              refine ⟨pb, w, .slice a0 0 0, ?_, ⟨hs.bs, by simpa using hs.len, hs.inj, hs.bnd, hs.frn, fun i q q' hi' hq' => ?_⟩, he, by simpa using hlt, fun r'' xs' g'' hk' => ?_⟩
              · exact hin (Nat.le_refl _) (fun x _ => rfl) (fun _ => rfl)
              · by_cases eik : i = k
                · subst eik
                  rw [show (σ.set i (.rows r' ([] ++ []) (g' + 1)))[i]? = some (.rows r' ([] ++ []) (g' + 1)) by simp [hlt]] at hi'
                  cases hi'
                  rw [hpb] at hq'
                  cases hq'
                  rfl
                · rw [show (σ.set k (.rows r' ([] ++ []) (g' + 1)))[i]? = σ[i]? by simp [List.getElem?_set, Ne.symm eik]] at hi'
                  exact PlaceR.ext he (fun _ _ => rfl) (hs.pl i q q' hi' hq')
              · rw [show (σ.set k (.rows r' ([] ++ []) (g' + 1)))[k]? = some (.rows r' ([] ++ []) (g' + 1)) by simp [hlt]] at hk'
                cases hk'
                exact ⟨Nat.le_refl _, fun _ => .inr ⟨hpb, rfl, a0, rfl⟩⟩
            · obtain ⟨hpl, hblk'⟩ := grown_place (σ := σ) (g := g' + 1) (c := grownCap w (0 + ys.length) 0 e - (0 + ys.length)) (e := e) hzc hr.2.2 hr.1 hel1 hl1 (cap_le (by simpa using hm))
              obtain ⟨he, hst⟩ := push_replace (drew_push w _) hs hk (by omega) hpl
              have hg := grow hr (cap := 0) (by simp; omega) (by simpa using hm)
              simp only [List.length_nil] at hg
              refine ⟨_, _, _, hg, hst, he, by simpa using hlt, fun r'' xs' g'' hk' => ?_⟩
              rw [show (σ.set k (.rows r' ([] ++ ys) (g' + 1)))[k]? = some (.rows r' ([] ++ ys) (g' + 1)) by simp [hlt]] at hk'
              cases hk'
              refine ⟨Nat.le_refl _, fun _ => .inl ⟨w.heap.size, grownCap w (0 + ys.length) 0 e, by simp [hs.len, hlt], by simp, by have := cap_ge w (0 + ys.length) 0 e; simpa using this, ?_⟩⟩
              have := cap_ge w (0 + ys.length) 0 e
              simp only [List.length_nil] at hblk'
              rw [show 0 + ys.length + (grownCap w (0 + ys.length) 0 e - (0 + ys.length)) = grownCap w (0 + ys.length) 0 e by omega] at hblk'
              exact hblk'
        · cases h
      · cases h
    · cases h
  | v x =>
    have e : x = .slice none 0 0 ∧ tr = ⟨decide (ys.length < most), .own σ.length 0, σ ++ [.rows r ys 0]⟩ := by
      cases x with
      | slice a n c => cases a with
        | some => cases h
        | none => cases n with
          | succ => cases h
          | zero => cases c with
            | succ => cases h
            | zero => cases h; exact ⟨rfl, rfl⟩
      | _ => cases h
    obtain ⟨rfl, rfl⟩ := e
    exact onto hvp (of_decide_eq_true h1)
  | rows full r' xs =>
    cases full with
    | false => cases h
    | true =>
      cases xs with
      | nil =>
        simp only at h
        split at h
        · rename_i er
          subst er
          cases h
          obtain ⟨a, cap, e1, e2, e3, _⟩ := hvp
          have e3 := e3 rfl
          simp only [List.length_nil] at e1 e3
          subst e3
          exact onto e1 (of_decide_eq_true h1)
        · cases h
      | cons x0 xs =>
      simp only at h
      split at h
      · rename_i er
        subst er
        cases h
        simp only [Bool.and_eq_true, decide_eq_true_eq] at h1
        obtain ⟨a0, cap0, olds, hy, hr⟩ := rowOf_read (σ := σ) (pb := pb) (w := w) (p := .rows true r' (x0 :: xs)) (r := r') (xs := x0 :: xs) (y := y) rfl hs hvp
        obtain ⟨a, cap, e1, e2, e3, _⟩ := hvp
        subst hy
        injection e1 with _ _ e4
        have e3 := e3 rfl
        subst e4
        obtain ⟨pb', w', z', a1, a2, a3, a4⟩ := fresh hr (cap := cap0) (by omega) h1.2
        exact ⟨pb', w', z', a1, a2, a3, a4⟩
      · cases h
  | _ => cases h

theorem bytes_els (s : ByteArray) : Els pb w (.int .u8) (bytesL s) ((bytesL s).map (Value.int .u8)) := by
  intro i hi
  refine ⟨[.int .u8 (bytesL s)[i]], rfl, fun j hj => ?_, rfl⟩
  simp only [Sh.n] at hj ⊢
  obtain rfl : j = 0 := by omega
  have hi : i < List.length (α := Int) (bytesL s) := hi
  simp [hi]
theorem appT_ok {t u ty : TypeId} {ts : Array TypeId} (h0 : ts[0]? = some t) (hts : ts[1]? = some u) {p : PV} {y : Value} {s : ByteArray} {tr : Tri} {e : TypeId} {ie : TypeInfo} {zv : Value} (ht : P.underlying t = some (.slice e)) (hu : P.underlying u = some .string)
    (hi : P.info? e = some ie) (hiz : ie.zero = some zv) (hel : elOk P e (.int .u8) = true) (hb1 : 0 < ie.bytes) (hb2 : ie.bytes ≤ 1000) (hzc : (zeroCellsP zv).length = 1)
    (h : oAppT e (bytesL s) p σ = some tr) (h1 : tr.ok = true) (hs : St base σ pb w) (hvp : VR σ pb w p y) : SemOk P base σ pb w (Builtin.append_ ts ty #[y, .string s]) tr := by
  obtain ⟨esz, hrn, _⟩ := elOk_spec hel
  have hisz : ie.size = 1 := by rw [show (1 : Nat) = (Sh.int .u8).n from rfl, ← esz]; unfold szOf; rw [hi]
  have hbl : (bytesL s).length = s.size := by simp [bytesL]
  have hl1 : ((bytesL s).map (Value.int .u8)).length = (bytesL s).length * (Sh.int .u8).n := by rw [List.length_map]; exact (Nat.mul_one _).symm
  have grow : ∀ {a0 : Option Addr} {xs : List Int} {cap : Nat} {olds : List Value}, ReadR pb w (.int .u8) xs a0 olds → cap < xs.length + (bytesL s).length → xs.length + (bytesL s).length < most →
      (Builtin.append_ ts ty #[.slice a0 xs.length cap, .string s]).run P w =
        .ok (.slice (some ⟨w.heap.size, 0, none⟩) (xs.length + (bytesL s).length) (grownCap w (xs.length + (bytesL s).length) cap e)) (w.drew.alloc (.cells (olds.toArray ++ ((bytesL s).map (Value.int .u8)).toArray ++ Builtin.zeroCells zv.cells (grownCap w (xs.length + (bytesL s).length) cap e - (xs.length + (bytesL s).length))) e)) := by
    intro a0 xs cap olds hr hgt hm
    rw [hbl] at hgt hm ⊢
    exact app_growS h0 hts ht hu hi hiz (by rw [hisz]; exact hr.1) hr.2.1 hgt hb1 hb2 hm
  have hin : ∀ {a0 : Option Addr} {n cap : Nat} {w' : World}, n + (bytesL s).length ≤ cap → (∀ x, a0 = some x → (storeCells (x.add (n * ie.size)) ((bytesL s).map (Value.int .u8))).run P w = .ok () w') → (a0 = none → w' = w) →
      (Builtin.append_ ts ty #[.slice a0 n cap, .string s]).run P w = .ok (.slice a0 (n + (bytesL s).length) cap) w' := by
    intro a0 n cap w' hle hs' hn
    rw [hbl] at hle ⊢
    exact app_inS h0 hts ht hu hi hle hs' hn
  have core : ∀ {q : PV} {tr' : Tri}, oAppR (.int .u8) (bytesL s) q σ = some tr' → tr'.ok = true → VR σ pb w q y → SemOk P base σ pb w (Builtin.append_ ts ty #[y, .string s]) tr' :=
    fun hq h1' hv => append_core (ie := ie) (zv := zv) hel hb1 hzc hi hl1 (bytes_els s) grow hin hq h1' hs hv
  unfold oAppT at h
  split at h
  · rename_i k g e'
    split at h
    · rename_i ee
      subst ee
      split at h
      · rename_i c k' g' σ' hq
        cases h
        simp only [Bool.and_eq_true, decide_eq_true_eq] at h1
        obtain ⟨hpos, hc⟩ := h1
        obtain ⟨hown, hty⟩ := hvp
        obtain ⟨pb', w', z', a1, a2, a3, a4⟩ := core hq hc hown
        refine ⟨pb', w', z', a1, a2, a3, a4, fun r xs hr b hb => ?_⟩
        have fresh : ∀ {a0 : Option Addr} {xs : List Int} {cap : Nat} {olds : List Value}, y = .slice a0 xs.length cap → ReadR pb w (.int .u8) xs a0 olds → cap < xs.length + (bytesL s).length → xs.length + (bytesL s).length < most → ∀ b1 n1 c1, z' = .slice (some ⟨b1, 0, none⟩) n1 c1 → TyOf w' b1 e' := by
          intro a0 xs cap olds hy hr hgt hm b1 n1 c1 hz
          subst hy
          have := grow hr hgt hm
          rw [a1] at this
          injection this with this hw
          rw [hz] at this
          injection this with this
          injection this with this
          injection this with this
          subst this
          rw [hw]
          exact ⟨_, _, (drew_push w _).new⟩
        unfold oAppR at hq
        simp only at hq
        split at hq
        · rename_i r' xs0 g0 hk
          split at hq
          · rename_i er
            subst er
            split at hq
            · rename_i eg
              subst eg
              cases hq
              have hm := of_decide_eq_true hc
              have hlt : k < σ.length := hown.1
              have hr0 : (σ.set k (Place.rows (Sh.int .u8) (xs0 ++ bytesL s) (g0 + 1)))[k]? = some (.rows (.int .u8) (xs0 ++ bytesL s) (g0 + 1)) := List.getElem?_set_self hlt
              rcases (a4.2 _ _ _ hr0).2 rfl with ⟨b1, cap1, p1, p2, p3, p4⟩ | ⟨p1, p2, _⟩
              · rw [p1] at hb
                cases hb
                rcases (hown.2 _ _ _ hk).2 rfl with ⟨b0, cap0, q1, q2, q3, q4⟩ | ⟨q1, q2, a0, q3⟩
                · subst q2
                  by_cases hle : xs0.length + (bytesL s).length ≤ cap0
                  · obtain ⟨cc, ee, ff, c1, c2, c3, c4⟩ := St.rows (hs := hs) hk q1
                    obtain ⟨cc', ee', ff', d1, d2⟩ := q4
                    rw [c1] at d1
                    cases d1
                    simp only [Sh.n, Nat.mul_one] at d2
                    obtain ⟨w'', hrun, _⟩ := storeCells_run (P := P) b0 xs0.length ((bytesL s).map (Value.int .u8)) 0 w cc ee ff c1 c2 (by rw [List.length_map]; omega) (by simp [oneB])
                    have := hin (a0 := some ⟨b0, 0, none⟩) (n := xs0.length) (cap := cap0) (w' := w'') hle (fun x hx => by
                      cases hx
                      rw [add_mk, hisz]
                      simpa using hrun) (fun e => by cases e)
                    rw [a1] at this
                    injection this with this _
                    rw [p2] at this
                    injection this with this
                    injection this with this
                    injection this with this
                    subst this
                    exact (hty _ _ hk _ q1).ext a3
                  · obtain ⟨a0, cap2, olds, hy, hr⟩ := rowOf_read (σ := σ) (pb := pb) (w := w) (p := .own k g0) (r := .int .u8) (xs := xs0) (y := .slice (some ⟨b0, 0, none⟩) xs0.length cap0) (by simp [rowOf, hk]) hs hown
                    have hy2 := hy
                    injection hy2 with _ _ hcap
                    exact fresh hy hr (by omega) hm _ _ _ p2
                · subst q2
                  refine fresh (a0 := a0) (xs := []) (cap := 0) (olds := []) q3 ⟨by simp, fun p v hp => by simp at hp, fun i hi => by simp at hi⟩ (by simpa using hpos) ?_ _ _ _ p2
                  simpa using hm
              · rw [p1] at hb; cases hb
            · cases hq
          · cases hq
        · cases hq
      · cases h
    · cases h
  · exact core h h1 hvp
theorem append_ok {t u ty : TypeId} {ts : Array TypeId} (h0 : ts[0]? = some t) (hts : ts[1]? = some u) {p q : PV} {y z : Value} {tr : Tri} (h : oAppend P t u p q σ = some tr) (h1 : tr.ok = true) (hs : St base σ pb w) (hvp : VR σ pb w p y) (hvq : VR σ pb w q z) :
    SemOk P base σ pb w (Builtin.append_ ts ty #[y, z]) tr := by
  unfold oAppend at h
  split at h
  · rename_i e ht hu
    split at h
    · rename_i s ie zv hu8 hi hzv
      split at h
      · rename_i hc
        obtain ⟨hel, hb1, hb2, hzc⟩ := hc
        have hiz : ie.zero = some zv := by unfold zeroOf at hzv; rw [hi] at hzv; exact hzv
        obtain rfl : z = .string s := hvq
        exact appT_ok h0 hts ht hu hi hiz hel hb1 hb2 hzc h h1 hs hvp
      · cases h
    · cases h
  · rename_i e e' ht hu
    split at h
    · rename_i r ys ie zv hrow hi hzv
      split at h
      · rename_i hc
        obtain ⟨hel, hb1, hb2, hzc⟩ := hc
        obtain ⟨esz, hrn, _⟩ := elOk_spec hel
        have hisz : ie.size = r.n := by rw [← esz]; unfold szOf; rw [hi]
        have hiz : ie.zero = some zv := by unfold zeroOf at hzv; rw [hi] at hzv; exact hzv
        obtain ⟨a1, c1, news, rfl, hl1, hc1, hel1⟩ := rowQ_read hrow hs hvq
        have hl1' : news.length = ys.length * ie.size := by rw [hisz]; exact hl1
        have grow : ∀ {a0 : Option Addr} {xs : List r.den} {cap : Nat} {olds : List Value}, ReadR pb w r xs a0 olds → cap < xs.length + ys.length → xs.length + ys.length < most →
            (Builtin.append_ ts ty #[.slice a0 xs.length cap, .slice a1 ys.length c1]).run P w =
              .ok (.slice (some ⟨w.heap.size, 0, none⟩) (xs.length + ys.length) (grownCap w (xs.length + ys.length) cap e)) (w.drew.alloc (.cells (olds.toArray ++ news.toArray ++ Builtin.zeroCells zv.cells (grownCap w (xs.length + ys.length) cap e - (xs.length + ys.length))) e)) := by
          intro a0 xs cap olds hr hgt hm
          exact app_grow h0 hts ht hu hi hiz (by rw [hisz]; exact hr.1) hr.2.1 hl1' hc1 hgt hb1 hb2 hm
        exact append_core (ie := ie) (zv := zv) hel hb1 hzc hi hl1 hel1 grow (fun hle hs hn => app_in h0 hts ht hu hi hl1' hc1 hle hs hn) h h1 hs hvp
      · cases h
    · cases h
  · rename_i e k' ht hu
    split at h
    · rename_i k n r ie zv hsh hi hzv
      split at h
      · rename_i x hpa
        split at h
        · rename_i hc
          obtain ⟨hel, hb1, hb2, hzc⟩ := hc
          obtain ⟨esz, hrn, _⟩ := elOk_spec hel
          have hisz : ie.size = r.n := by rw [← esz]; unfold szOf; rw [hi]
          have hiz : ie.zero = some zv := by unfold zeroOf at hzv; rw [hi] at hzv; exact hzv
          split at h
          · rename_i tr' htr
            cases h
            simp only [Bool.and_eq_true, decide_eq_true_eq] at h1
            obtain ⟨n0, n1, h1⟩ := h1
            have hz : z = .int k n := hvq
            subst hz
            obtain ⟨m, rfl⟩ := Int.eq_ofNat_of_zero_le n0
            rw [Int.toNat_natCast] at htr
            have hzr : CRs σ pb w (zeroCellsP zv) zv.cells.toList := by
              cases zv with
              | agg c => exact CRs.map_v' _ _ _ _
              | _ => exact ⟨rfl, trivial⟩
            obtain ⟨u, v, e1, e2, e3⟩ := parse_er hpa hzr
            have hv0 : v = [] := by
              cases v with
              | nil => rfl
              | cons a v => exact e3.elim
            rw [hv0, List.append_nil] at e1
            have hzl : zv.cells.toList.length = r.n := by rw [e1]; exact e2.len
            have hzsz : zv.cells.size = r.n := by rw [← hzl]; simp
            have hul : ((List.replicate m u).flatten).length = m * r.n := by simp [List.length_flatten, e2.len]
            have hzero : Builtin.zeroCells zv.cells m = ((List.replicate m u).flatten).toArray := by
              unfold Builtin.zeroCells
              apply Array.ext'
              rw [← e1, ← range_flatten zv.cells.toList default m]
              simp only [Array.toList_map, Array.toList_range, hzl, hzsz]
              apply List.map_congr_left
              intro i _
              simp [Array.getElem!_eq_getD, List.getD_eq_getElem?_getD, Array.getD_eq_getD_getElem?]
            have hlen : (List.replicate m x).length = m := List.length_replicate
            have key : SemOk P base σ pb w (Builtin.append_ ts ty #[y, .int k (m : Int)]) tr' := by
              refine append_core (ie := ie) (zv := zv) (news := (List.replicate m u).flatten) hel hb1 hzc hi (by rw [hlen]; exact hul) (rep_els e2 m) ?_ ?_ htr h1 hs hvp
              · intro a0 xs cap olds hr hgt hm
                rw [hlen] at hgt hm ⊢
                exact app_grow0 h0 hts ht hu hi hiz (by rw [hisz]; exact hr.1) hr.2.1 (by rw [hzero, hisz]; simpa using hul) hzero hgt hb1 hb2 hm (by omega)
              · intro a0 nn cap w' hle hs' hn'
                rw [hlen] at hle ⊢
                exact app_in0 h0 hts ht hu hi hiz hb2 (by omega) hzero (by rw [hul, hisz]) hle hs' hn'
            obtain ⟨pb', w', z', q⟩ := key
            exact ⟨pb', w', z', q⟩
          · cases h
        · cases h
      · cases h
    · cases h
  · cases h

end Go.Proofs.YthkjjombaoffcaaGreatDoorPM

/- Single operations: made rows, literals of slices. -/
set_option linter.unusedVariables false
set_option linter.unusedSectionVars false
set_option linter.unusedSimpArgs false
noncomputable section
namespace Go.Proofs.YthkjjombaoffcaaGreatDoorPM
open Go Go.RowKit
variable [Foreign]

variable {P : Program} {base : Nat} {σ : Sig} {pb : Pb} {w : World}

theorem wrap_small {n : Int} (h0 : 0 ≤ n) (h1 : n < 9223372036854775808) : IntKind.i64.wrap n = n := by
  simp only [IntKind.wrap, IntKind.bits, IntKind.signed]
  have : n % (2 ^ 64 : Int) = n := by omega
  simp only [this]
  split
  · rename_i h; simp at h; omega
  · rfl

theorem parseAll_els {r : Sh} (hn : r.n ≠ 0) : ∀ (n : Nat) {cs : List PV} {xs : List r.den} {ys : List Value}, parseAll r n cs = some xs → CRs σ pb w cs ys → xs.length = n ∧ Els pb w r xs ys := by
  intro n
  induction n with
  | zero => intro cs xs ys h _; cases h; exact ⟨rfl, fun i hi => by simp at hi⟩
  | succ n ih =>
    intro cs xs ys h hr
    simp only [parseAll] at h
    split at h
    · rename_i x t hp
      split at h
      · rename_i l hl
        cases h
        obtain ⟨u, v, rfl, e1, e2⟩ := parse_er hp hr
        obtain ⟨h1, h2⟩ := ih hl e2
        refine ⟨by simp [h1], fun i hi => ?_⟩
        cases i with
        | zero => exact ⟨u, e1.len, fun j hj => by rw [Nat.zero_mul, Nat.zero_add, List.getElem?_append_left (by rw [e1.len]; exact hj)], e1⟩
        | succ i =>
          obtain ⟨vs, a1, a2, a3⟩ := h2 i (by simpa using hi)
          refine ⟨vs, a1, fun j hj => ?_, by simpa using a3⟩
          rw [List.getElem?_append_right (by rw [e1.len, Nat.succ_mul]; omega), ← a2 j hj, e1.len, Nat.succ_mul]
          congr 1
          omega
      · cases h
    · cases h

theorem makeSlice2_ok {t e : TypeId} {n m : Int} {k1 k2 : IntKind} {tr : Tri} (hu : P.underlying t = some (.slice e)) (h : oMakeSlice2 P e n m σ = some tr) (h1 : tr.ok = true) (hs : St base σ pb w) : SemOk P base σ pb w (Instr.makeSlice t (.int k1 n) (.int k2 m)) tr := by
  unfold oMakeSlice2 at h
  split at h
  · rename_i z ie r hz hi hsh
    split at h
    · rename_i x hpa
      split at h
      · rename_i hc
        obtain ⟨hel, hby⟩ := hc
        cases h
        simp only [Bool.and_eq_true, decide_eq_true_eq] at h1
        obtain ⟨h0, hlt, rfl⟩ := h1
        have hlt := smallI_lt hlt
        obtain ⟨esz, hrn, ti, hti⟩ := elOk_spec hel
        have hiz : ie.zero = some z := by unfold zeroOf at hz; rw [hi] at hz; exact hz
        have hzr : CRs σ pb w (zeroCellsP z) z.cells.toList := by
          cases z with
          | agg c => exact CRs.map_v' _ _ _ _
          | _ => exact ⟨rfl, trivial⟩
        obtain ⟨u, v, e1, e2, e3⟩ := parse_er hpa hzr
        have hv0 : v = [] := by
          cases v with
          | nil => rfl
          | cons a v => exact e3.elim
        rw [hv0, List.append_nil] at e1
        have hzl : z.cells.toList.length = r.n := by rw [e1]; exact e2.len
        have hsz : ie.size = r.n := by rw [← esz]; unfold szOf; rw [hi]
        have hzsz : z.cells.size = r.n := by rw [← hzl]; simp
        have hrange : ∀ N : Nat, ((Array.range (N * r.n)).map fun i => z.cells[i % z.cells.size]!) = ((List.replicate N u).flatten).toArray := by
          intro N
          apply Array.ext'
          rw [← e1, ← range_flatten z.cells.toList default N]
          simp only [Array.toList_map, Array.toList_range, hzl, hzsz]
          apply List.map_congr_left
          intro i _
          simp [Array.getElem!_eq_getD, List.getD_eq_getElem?_getD, Array.getD_eq_getD_getElem?]
        have hrun : (Instr.makeSlice t (.int k1 n) (.int k2 n)).run P w = .ok (.slice (some ⟨w.heap.size, 0, none⟩) n.toNat n.toNat) (pushW w (.cells ((List.replicate n.toNat u).flatten).toArray e)) := by
          have hw := wrap_small (n := n) h0 (by omega)
          have hb : (ie.bytes : Int) * n ≤ 281474976710656 := by
            have : (ie.bytes : Int) * n ≤ 1000 * n := Int.mul_le_mul_of_nonneg_right (by omega) h0
            omega
          unfold Instr.makeSlice
          rw [Sem.run_bind, und_run hu, Result.andThen_ok]
          simp only [asInt, asIntOf, typeInfo]
          by_cases hN : n.toNat = 0
          · have hn0 : n = 0 := by omega
            subst hn0
            simp [hi, hw, hsz, sizeOf, typeInfo, newRow, pushW]
            congr 2
            apply Array.ext'
            simp
          · have hN2 : ¬ n.toNat * r.n = 0 := by
              intro h
              rcases Nat.mul_eq_zero.1 h with h | h
              · exact hN h
              · exact hrn h
            have e4 : ¬ (n < 0) := by omega
            have e5 : ¬ (281474976710656 < (ie.bytes : Int) * n) := by omega
            simp only [hi, Sem.run_bind, Sem.run_pure, Result.andThen_ok, hw, sizeOf, typeInfo, hsz]
            simp [hi, hsz, hN2, zeroValue, typeInfo, hiz, e4, e5, newRow, hrange]
            rfl
        obtain ⟨h2, h3⟩ := push_place hs (.rows r (List.replicate n.toNat x) 0) (.cells ((List.replicate n.toNat u).flatten).toArray e) (fun σ' pb' he => by
          refine ⟨_, e, (0, 0), pushW_new _ _, fun o _ h => by omega, by simp [e2.len, List.length_flatten], fun i hi => ?_⟩
          obtain ⟨vs, q1, q2, q3⟩ := ((rep_els e2 n.toNat).mono he.keeps) i hi
          exact ⟨vs, q1, fun j hj => by rw [← q2 j hj]; simp, q3⟩)
        refine ⟨_, _, _, hrun, h3, h2, by simp, fun r' xs g' hk => ?_⟩
        rw [List.getElem?_append_right (Nat.le_refl _)] at hk
        simp at hk
        obtain ⟨rfl, hk, rfl⟩ := hk
        obtain rfl := eq_of_heq hk
        refine ⟨Nat.le_refl _, fun _ => .inl ⟨w.heap.size, n.toNat, ?_, by simp, by simp, ⟨_, _, _, pushW_new _ _, by simp [e2.len, List.length_flatten], CapOk.of (by omega)⟩⟩⟩
        rw [List.getElem?_append_right (by rw [hs.len]; exact Nat.le_refl _), hs.len]
        simp
      · cases h
    · cases h
  · cases h

theorem makeSlice_ok {t : TypeId} {p q : PV} {y z : Value} {tr : Tri} (h : oMakeSlice P t p q σ = some tr) (h1 : tr.ok = true) (hs : St base σ pb w) (hvp : VR σ pb w p y) (hvq : VR σ pb w q z) : SemOk P base σ pb w (Instr.makeSlice t y z) tr := by
  unfold oMakeSlice at h
  split at h
  · rename_i n m hn hm
    obtain ⟨k1, rfl⟩ := asI_rel hn hvp
    obtain ⟨k2, rfl⟩ := asI_rel hm hvq
    split at h
    · rename_i e hu
      split at h
      · rename_i k k' ie he hz hi
        split at h
        · rename_i hc
          obtain ⟨rfl, hsz, hby⟩ := hc
          cases h
          simp only [Bool.and_eq_true, decide_eq_true_eq] at h1
          obtain ⟨h0, hlt, rfl⟩ := h1
          have hlt := smallI_lt hlt
          have hsz' : ie.size = 1 := by unfold szOf at hsz; rw [hi] at hsz; exact hsz
          have hiz : ie.zero = some (.int k' 0) := by unfold zeroOf at hz; rw [hi] at hz; exact hz
          have hcells : ∀ N : Nat, ((Array.range N).map fun i => (#[Value.int k' 0] : Array Value)[i % (#[Value.int k' 0] : Array Value).size]!) = ((List.replicate N (0 : Int)).map (Value.int k')).toArray := by
            intro N
            apply Array.ext'
            simp only [Array.toList_map, Array.toList_range]
            apply List.ext_getElem?
            intro i
            simp only [List.getElem?_map]
            by_cases hi : i < N
            · rw [List.getElem?_range hi, List.getElem?_replicate_of_lt hi]
              simp [Nat.mod_one]
            · rw [List.getElem?_eq_none (by simp; omega), List.getElem?_eq_none (by simp; omega)]
              rfl
          have hrun : (Instr.makeSlice t (.int k1 n) (.int k2 n)).run P w = .ok (.slice (some ⟨w.heap.size, 0, none⟩) n.toNat n.toNat) (pushW w (.cells ((List.replicate n.toNat (0 : Int)).map (Value.int k')).toArray e)) := by
            have hw := wrap_small (n := n) h0 (by omega)
            have hb : (ie.bytes : Int) * n ≤ 281474976710656 := by
              have : (ie.bytes : Int) * n ≤ 8 * n := Int.mul_le_mul_of_nonneg_right (by omega) h0
              omega
            unfold Instr.makeSlice
            rw [Sem.run_bind, und_run hu, Result.andThen_ok]
            simp only [asInt, asIntOf, typeInfo]
            by_cases hN : n.toNat = 0
            · have hn0 : n = 0 := by omega
              subst hn0
              simp [hi, hw, hsz', sizeOf, typeInfo, newRow, pushW]
              congr 2
              apply Array.ext'
              simp
            · simp [hi, hw, hsz', hN, sizeOf, typeInfo, zeroValue, hiz, Value.cells]
              have e1 : ¬ (n < 0) := by omega
              have e2 : ¬ (281474976710656 < (ie.bytes : Int) * n) := by omega
              simp [e1, e2, newRow]
              show pushW w _ = pushW w _
              congr 2
              apply Array.ext'
              simp only [Array.toList_map, Array.toList_range, Array.toList_replicate]
              apply List.ext_getElem?
              intro i
              rw [List.getElem?_map]
              by_cases hlt' : i < n.toNat
              · rw [List.getElem?_range hlt', List.getElem?_replicate_of_lt hlt']
                simp [Nat.mod_one]
              · rw [List.getElem?_eq_none (by simp; omega), List.getElem?_eq_none (by simp; omega)]
                rfl
          obtain ⟨h2, h3⟩ := push_place hs (.rows (.int k') (List.replicate n.toNat (0 : Int)) 0) (.cells ((List.replicate n.toNat (0 : Int)).map (Value.int k')).toArray e) (fun σ' pb' he => by
            refine ⟨_, e, (0, 0), pushW_new _ _, fun o _ h => by omega, by simp [Sh.n], fun i hi => ⟨[.int k' (List.replicate n.toNat (0 : Int))[i]], rfl, fun j hj => ?_, rfl⟩⟩
            simp only [Sh.n] at hj ⊢
            have : j = 0 := by omega
            subst this
            have hi' : i < n.toNat := by simpa using hi
            simp [hi'])
          refine ⟨_, _, _, hrun, h3, h2, by simp, fun r xs g' hk => ?_⟩
          rw [List.getElem?_append_right (Nat.le_refl _)] at hk
          simp at hk
          obtain ⟨rfl, hk, rfl⟩ := hk
          obtain rfl := eq_of_heq hk
          refine ⟨Nat.le_refl _, fun _ => .inl ⟨w.heap.size, n.toNat, ?_, by simp, by simp, ⟨_, _, _, pushW_new _ _, by simp [Sh.n], CapOk.of (by omega)⟩⟩⟩
          rw [List.getElem?_append_right (by rw [hs.len]; exact Nat.le_refl _), hs.len]
          simp
        · cases h
      · exact makeSlice2_ok hu h h1 hs
    · cases h
  · cases h

theorem buildSlice_ok {t : TypeId} {n : Nat} {parts : List (Nat × PV)} {vals : List (Nat × Value)} {tr : Tri} (h : oBuildSlice P t n parts σ = some tr) (hs : St base σ pb w)
    (hp : parts.length = vals.length) (hv : ∀ (i n : Nat) (p : PV), parts[i]? = some (n, p) → ∃ v, vals[i]? = some (n, v) ∧ VR σ pb w p v) : SemOk P base σ pb w (Instr.buildSlice t n vals.toArray) tr := by
  unfold oBuildSlice at h
  split at h
  · rename_i e hu
    split at h
    · rename_i r z hsh hz
      split at h
      · rename_i hc
        obtain ⟨hel, h24, hzc⟩ := hc
        obtain ⟨esz, hrn, ti, hti⟩ := elOk_spec hel
        split at h
        · rename_i cs hf
          split at h
          · rename_i xs hpa
            cases h
            have hzr : CRs σ pb w (zeroCellsP z) z.cells.toList := by
              cases z with
              | agg c => exact CRs.map_v' _ _ _ _
              | _ => exact ⟨rfl, trivial⟩
            have hzl : z.cells.toList.length = szOf P e := by rw [← hzr.length, hzc]
            have hflat : ∀ m, CRs σ pb w ((List.replicate m (zeroCellsP z)).flatten) ((List.replicate m z.cells.toList).flatten) := by
              intro m
              induction m with
              | zero => exact trivial
              | succ m ih => simp only [List.replicate_succ, List.flatten_cons]; exact hzr.append ih
            obtain ⟨ys', a1, a2⟩ := fill_ok (σ := σ) (pb := pb) (w := w) (place := fun i => some (i * szOf P e, szOf P e)) (parts := vals) hf (hflat n) (by simpa using hp) (fun i o s p hi => by
              rw [List.getElem?_map] at hi
              cases hq : parts[i]? with
              | none => rw [hq] at hi; cases hi
              | some q =>
                obtain ⟨m, p'⟩ := q
                rw [hq] at hi
                simp at hi
                obtain ⟨rfl, rfl, rfl⟩ := hi
                obtain ⟨v, v1, v2⟩ := hv i m _ hq
                exact ⟨m, v, v1, rfl, v2⟩)
            obtain ⟨hlen, hels⟩ := parseAll_els hrn n hpa a2
            obtain ⟨he, hst, him⟩ := push_ext hs (.cells ys'.toArray e)
            have hels := hels.mono he.keeps
            refine ⟨pb, pushW w (.cells ys'.toArray e), .slice (some ⟨w.heap.size, 0, none⟩) n n, ?_, hst, he, some ⟨w.heap.size, 0, none⟩, n, by rw [hlen], by omega, fun _ => by omega, fun i hi => ?_⟩
            · have hrange : ((Array.range (n * szOf P e)).map fun i => z.cells[i % z.cells.size]!) = ((List.replicate n z.cells.toList).flatten).toArray := by
                apply Array.ext'
                rw [← range_flatten z.cells.toList default n]
                simp only [Array.toList_map, Array.toList_range, hzl]
                have : z.cells.size = szOf P e := by rw [← hzl]; simp
                rw [this]
                apply List.map_congr_left
                intro i _
                simp [Array.getElem!_eq_getD, List.getD_eq_getElem?_getD, Array.getD_eq_getD_getElem?]
              unfold Instr.buildSlice
              rw [Sem.run_bind, und_run hu, Result.andThen_ok]
              simp only
              rw [Sem.run_bind, size_run hti, Result.andThen_ok]
              rw [if_neg (by omega)]
              by_cases h0 : n * szOf P e = 0
              · simp only [h0, if_true]
                have : ((List.replicate n z.cells.toList).flatten).toArray = (Array.range 0).map fun i => (#[] : Array Value)[i % 0]! := by
                  rw [← hrange, h0]; apply Array.ext'; simp
                rw [this] at a1
                simp at a1 ⊢
                simp [a1, newRow, pushW]
              · simp only [h0, if_false]
                simp [zero_run hz, hrange, a1, newRow, pushW]
            · obtain ⟨vs, q1, q2, q3⟩ := hels i hi
              refine ⟨w.heap.size, 0, vs, rfl, him, q1, fun j hj => ?_, q3⟩
              rw [cell_mk _ _ _ (pushW_new _ _), Nat.zero_add, ← q2 j hj]
              simp
          · cases h
        · cases h
      · cases h
    · cases h
  · cases h

end Go.Proofs.YthkjjombaoffcaaGreatDoorPM
