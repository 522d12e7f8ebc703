/- Code, reckoned by values. -/
import Derived.Test.YtcngjidojibleaaPmRel
import Derived.Test.YtcngjidojibleaaPmPat
set_option linter.unusedVariables false
set_option linter.unusedSectionVars false
set_option linter.unusedSimpArgs false
namespace Go.Proofs.YtcngjidojibleaaPM
open Go Go.RowKit

def sel {α : Type} (t : Bool) (a b : α) : α := match t with
  | true => a
  | false => b
def chk {R : Type} (t : Bool) (x : Option R) : Option R := match t with
  | true => x
  | false => none
theorem chk_some {R : Type} {t : Bool} {x : Option R} {r : R} (h : chk t x = some r) : t = true ∧ x = some r := by
  cases t
  · cases h
  · exact ⟨rfl, h⟩

def CallK := (R : Type) → FuncId → List PV → Sig → (PV → Sig → Option R) → Option R

/-- Steps that may be told in another way: a text's bytes as rows that nobody writes, a written-out slice as a row of one's own, the beginning of an own row as the row. -/
def oAlt (P : Program) (f : Fr) (σ : Sig) (o : Oper) : Option Tri := match o.op with
  | .convert s d x => match ev f x with
    | .v (.string b) => match P.underlying s, P.underlying d with
      | some _, some (.slice e) => match P.underlying e with
        | some (.int .u8) => some ⟨true, .rows false (.int .u8) (bytesL b), σ⟩
        | _ => none
      | _, _ => none
    | _ => none
  | .buildSlice t n parts => match oBuildSlice P t n (partsE f parts.toList) σ with
    | some ⟨_, .rows _ r xs, _⟩ => some ⟨true, .own σ.length 0, σ ++ [.rows r xs 0]⟩
    | _ => none
  | .slice t x none (some hi) none => match ev f x, asI (ev f hi) with
    | .own k g, some n => match P.underlying t, σ[k]? with
      | some (.slice e), some (.rows r xs g') => if g' = g ∧ elOk P e r = true then some ⟨decide (0 ≤ n) && decide (n ≤ xs.length), .own k (g + 1), σ.set k (.rows r (xs.take n.toNat) (g + 1))⟩ else none
      | _, _ => none
    | _, _ => none
  | _ => none
def hasN (t : Nat) : List Nat → Bool
  | [] => false
  | x :: r => Nat.beq x t || hasN t r
def dstIn (o : Oper) (l : List Nat) : Bool := match o.dst with
  | some d => hasN d l
  | none => false
def opK (P : Program) (call : CallK) (al : Bool) {R : Type} (f : Fr) (σ : Sig) (o : Oper) (k : PV → Sig → Option R) : Option R :=
  match o.op with
  | .pick c a b => match ev f c with
    | .v (.bool t) => sel t (k (ev f a) σ) (k (ev f b) σ)
    | _ => none
  | .call { callee := .value g, args := args, argTypes := _ } => match ev f g with
    | .fn n caps => call R n (evs f args.toList ++ caps) σ k
    | _ => none
  | _ => match (bif al then oAlt P f σ o else stp P f σ o) with
    | some t => chk t.ok (k t.pv t.σ)
    | none => none

def gdst (ops : List Oper) (j : Nat) : Option Nat := match ops[j]? with
  | some o => o.dst
  | none => none

/-- What a step leaves that is not wanted. -/
def undefV : PV := .v (.tuple #[])
def opsK (P : Program) (call : CallK) (alt : List Nat) {R : Type} (all : List Oper) : List Oper → Fr → Sig → (Fr → Sig → Option R) → Option R
  | [], f, σ, k => k f σ
  | o :: r, f, σ, k => match o.guard with
    | none => opK P call (dstIn o alt) f σ o fun p σ' => opsK P call alt all r (f.put o.dst p) σ' k
    | some (j, want) => match gdst all j with
      | none => none
      | some d => match f.get d with
        | .v (.bool t) => sel t
            (sel want (opK P call (dstIn o alt) ((d, .v (.bool true)) :: f) σ o fun p σ' => opsK P call alt all r (Fr.put ((d, .v (.bool true)) :: f) o.dst p) σ' k)
              (opsK P call alt all r (Fr.put ((d, .v (.bool true)) :: f) o.dst undefV) σ k))
            (sel want (opsK P call alt all r (Fr.put ((d, .v (.bool false)) :: f) o.dst undefV) σ k)
              (opK P call (dstIn o alt) ((d, .v (.bool false)) :: f) σ o fun p σ' => opsK P call alt all r (Fr.put ((d, .v (.bool false)) :: f) o.dst p) σ' k))
        | .v (.tuple _) => opsK P call alt all r (f.put o.dst undefV) σ k
        | _ => none

/-- What a step has to do with memory: nothing; it looks (at all of it, at some places, at what kind and how long some places are); it writes (anywhere, into some places, or further places too). -/
inductive Cl where
  | pure | rdAll | wrAll
  | rd (m : Nat)
  | sh (m : Nat)
  | wr (m : Nat)
  | wl (m n : Nat)
def isW : Cl → Bool
  | .wrAll => true
  | .wr _ => true
  | .wl _ _ => true
  | _ => false
/-- Whether what one writes may be what the other looks at, or writes. -/
def hits : Cl → Cl → Bool
  | _, .pure => false
  | .wr m, .rd m' => !(Nat.beq (Nat.land m m') 0)
  | .wr _, .sh _ => false
  | .wl m n, .rd m' => !(Nat.beq (Nat.land m m') 0 && Nat.blt m' (2 ^ n))
  | .wl m n, .sh m' => !(Nat.beq (Nat.land m m') 0 && Nat.blt m' (2 ^ n))
  | _, _ => true
def shC : PV → Cl
  | .own k _ => .sh (2 ^ k)
  | .ref k _ _ _ => .sh (2 ^ k)
  | .apl k _ _ _ => .sh (2 ^ k)
  | .rows .. => .pure
  | .v _ => .pure
  | _ => .rdAll
/-- The rows that a value's cells hang on. -/
def mskL : List PV → Nat
  | [] => 0
  | .own k _ :: r => Nat.lor (2 ^ k) (mskL r)
  | .ref k _ _ _ :: r => Nat.lor (2 ^ k) (mskL r)
  | _ :: r => mskL r
def mskPs : List (Nat × PV) → Nat
  | [] => 0
  | (_, p) :: r => Nat.lor (mskL (pvCells p)) (mskPs r)
def clsOf (qt : FuncId → List PV → Sig → Cl) (f : Fr) (σ : Sig) (o : Oper) : Cl := match o.op with
  | .store _ a _ => match ev f a with
    | .ptr k _ => .wr (2 ^ k)
    | .rp k _ _ _ => .wr (2 ^ k)
    | .apl k _ _ _ => .wl (2 ^ k) σ.length
    | _ => .wrAll
  | .alloc _ => .wl 0 σ.length
  | .box .. => .wl 0 σ.length
  | .makeSlice .. => .wl 0 σ.length
  | .build _ parts => .sh (mskPs (partsE f parts.toList))
  | .buildSlice _ _ parts => .sh (mskPs (partsE f parts.toList))
  | .convert _ _ x => match ev f x with
    | .v (.string _) => .wl 0 σ.length
    | .v _ => .pure
    | _ => .rdAll
  | .load _ x => match ev f x with
    | .ep .. => .pure
    | .apr .. => .pure
    | .ptr k _ => .rd (2 ^ k)
    | .rp k _ _ _ => .rd (2 ^ k)
    | .apl k _ _ _ => .rd (2 ^ k)
    | _ => .rdAll
  | .indexAddr _ x _ => shC (ev f x)
  | .fieldAddr _ x _ => match ev f x with
    | .apl k _ _ _ => .sh (2 ^ k)
    | _ => .pure
  | .slice _ x _ _ none => shC (ev f x)
  | .slice _ x _ _ (some _) => match ev f x with
    | .v _ => .pure
    | .rows .. => .pure
    | _ => .rdAll
  | .sliceToArrayPointer _ x => match ev f x with
    | .rows .. => .pure
    | .own k _ => .sh (2 ^ k)
    | .ref k _ _ _ => .sh (2 ^ k)
    | _ => .rdAll
  | .call { callee := .value g, args := args, argTypes := _ } => match ev f g with
    | .fn n caps => qt n (evs f args.toList ++ caps) σ
    | _ => .wrAll
  | .call { callee := .builtin b, args := args, argTypes := _ } => match b with
    | .append => match evs f args.toList with
      | .own k _ :: _ => .wl (2 ^ k) σ.length
      | .v _ :: _ => .wl 0 σ.length
      | .rows .. :: _ => .wl 0 σ.length
      | _ => .wrAll
    | .copy => match evs f args.toList with
      | .own k _ :: _ => .wl (2 ^ k) σ.length
      | .ref k _ _ _ :: _ => .wl (2 ^ k) σ.length
      | _ => .wrAll
    | .min => .pure
    | .max => .pure
    | .len => match evs f args.toList with
      | p :: _ => shC p
      | _ => .rdAll
    | _ => .rdAll
  | _ => .pure

/-- The same of steps that may be told in another way. -/
def clsA (alt : List Nat) (qt : FuncId → List PV → Sig → Cl) (f : Fr) (σ : Sig) (o : Oper) : Cl := bif dstIn o alt then (match o.op with
  | .convert .. => .pure
  | .buildSlice .. => .wrAll
  | .slice .. => .wrAll
  | _ => clsOf qt f σ o) else clsOf qt f σ o
def bmOf (acc : List Nat) : List Edge → Nat
  | [] => 0
  | e :: r => bif Region.binds .any e then (2 ^ e.on ||| acc.getD e.on 0) ||| bmOf acc r else bmOf acc r
def bms (acc : List Nat) : List Oper → List Nat
  | [] => acc
  | o :: r => bms (acc ++ [bmOf acc o.after.toList]) r
def edgesOk (i : Nat) : List Edge → Bool
  | [] => true
  | e :: r => (!(Region.binds .any e) || Nat.blt e.on i) && edgesOk i r
def allEdges : Nat → List Oper → Bool
  | _, [] => true
  | i, o :: r => edgesOk i o.after.toList && allEdges (i + 1) r
def tmpsOf : List Operand → List Nat
  | [] => []
  | .tmp t :: r => t :: tmpsOf r
  | _ :: r => tmpsOf r
def readsOf (all : List Oper) (o : Oper) : List Nat := (match o.guard with
  | some (j, _) => match gdst all j with
    | some d => [d]
    | none => []
  | none => []) ++ tmpsOf o.op.operands.toList
def sameDst (o p : Oper) : Bool := match o.dst, p.dst with
  | some d, some e => Nat.beq d e
  | _, _ => false
/-- Two operations of a region, i ahead of j in the text: either in order, or apart. -/
def apartB (all : List Oper) (bm : List Nat) (cls : List Cl) (i j : Nat) : Bool :=
  match all[i]?, all[j]? with
  | some o, some p => !(sameDst o p) && (Nat.testBit (bm.getD j 0) i ||
      (!(dstIn o (readsOf all p)) && !(dstIn p (readsOf all o)) &&
        !((isW (cls.getD i .pure) && hits (cls.getD i .pure) (cls.getD j .pure)) || (isW (cls.getD j .pure) && hits (cls.getD j .pure) (cls.getD i .pure)))))
  | _, _ => true
def pairsB (all : List Oper) (bm : List Nat) (cls : List Cl) (j : Nat) : Nat → Bool
  | 0 => true
  | i + 1 => apartB all bm cls i j && pairsB all bm cls j i
def allPairs (all : List Oper) (bm : List Nat) (cls : List Cl) : Nat → Bool
  | 0 => true
  | j + 1 => pairsB all bm cls j j && allPairs all bm cls j
def selfOk (all : List Oper) : List Oper → Bool
  | [] => true
  | o :: r => !(dstIn o (readsOf all o)) && selfOk all r
def drawOk (all : List Oper) (cls : List Cl) : Bool := allEdges 0 all && (selfOk all all && allPairs all (bms [] all) cls all.length)

/-- The operations of a region whose order is open: as the text has them; what they have to do with memory is kept. -/
def opsD (P : Program) (call : CallK) (alt : List Nat) (qt : FuncId → List PV → Sig → Cl) {R : Type} (all : List Oper) : List Oper → List Cl → Fr → Sig → (List Cl → Fr → Sig → Option R) → Option R
  | [], cl, f, σ, k => k cl f σ
  | o :: r, cl, f, σ, k => match o.guard with
    | none => opK P call (dstIn o alt) f σ o fun p σ' => opsD P call alt qt all r (cl ++ [clsA alt qt f σ o]) (f.put o.dst p) σ' k
    | some (j, want) => match gdst all j with
      | none => none
      | some d => match f.get d with
        | .v (.bool t) => sel t
            (sel want (opK P call (dstIn o alt) ((d, .v (.bool true)) :: f) σ o fun p σ' => opsD P call alt qt all r (cl ++ [clsA alt qt ((d, .v (.bool true)) :: f) σ o]) (Fr.put ((d, .v (.bool true)) :: f) o.dst p) σ' k)
              (opsD P call alt qt all r (cl ++ [.pure]) (Fr.put ((d, .v (.bool true)) :: f) o.dst undefV) σ k))
            (sel want (opsD P call alt qt all r (cl ++ [.pure]) (Fr.put ((d, .v (.bool false)) :: f) o.dst undefV) σ k)
              (opK P call (dstIn o alt) ((d, .v (.bool false)) :: f) σ o fun p σ' => opsD P call alt qt all r (cl ++ [clsA alt qt ((d, .v (.bool false)) :: f) σ o]) (Fr.put ((d, .v (.bool false)) :: f) o.dst p) σ' k))
        | .v (.tuple _) => opsD P call alt qt all r (cl ++ [.pure]) (f.put o.dst undefV) σ k
        | _ => none

inductive Ex where
  | normal | exit (id : Nat) | ret
def sameEx : Ex → Ex → Bool
  | .normal, .normal => true
  | .exit i, .exit j => Nat.beq i j
  | .ret, .ret => true
  | _, _ => false

/-- How a state is made ready: rows out of nothing, rows that are let go, further places that stay. -/
structure Prep where
  mats : List (Nat × Sh)
  cm : List (Nat × (Nat × Sh))
  fz : List Nat
  ex : List Nat
/-- A state at an exit: which temporaries and places count, and of what kinds they are. -/
structure Alt where
  e : Ex
  kp : List Nat
  ts : List Nat
  ks : List AK
  qk : List PK
  preps : List Prep
@[reducible] def Alt.den (A : Alt) : Type := adens A.ks × pdens A.qk
@[reducible] def densO : List Alt → Type
  | [] => Empty
  | [A] => A.den
  | A :: B :: l => A.den ⊕ densO (B :: l)

/-! ### rows that nobody turns any more -/
def frzC (k g : Nat) (r : Sh) (xs : List r.den) (p : PV) : PV := match p with
  | .own k' g' => bif Nat.beq k' k && Nat.beq g' g then .rows false r xs else .own k' g'
  | .ref k' i n g' => bif Nat.beq k' k && Nat.beq g' g then .rows false r ((xs.drop i).take n) else .ref k' i n g'
  | p => p
def frzV (k g : Nat) (r : Sh) (xs : List r.den) (p : PV) : PV := match p with
  | .agg cs => .agg (cs.map (frzC k g r xs))
  | .fn f cs => .fn f (cs.map (frzC k g r xs))
  | .tup vs => .tup vs
  | p => frzC k g r xs p
def frzP (k g : Nat) (r : Sh) (xs : List r.den) (p : Place) : Place := match p with
  | .cells cs => .cells (cs.map (frzC k g r xs))
  | p => p
def frz1 (k : Nat) (f : Fr) (σ : Sig) : Option (Fr × Sig) := match nth σ k with
  | some (.rows r xs g) => some (f.map fun e => (e.1, frzV k g r xs e.2), (σ.map (frzP k g r xs)).set k .dead)
  | _ => none
def frzs : List Nat → Fr → Sig → Option (Fr × Sig)
  | [], f, σ => some (f, σ)
  | k :: l, f, σ => match frz1 k f σ with
    | some (f', σ') => frzs l f' σ'
    | none => none
def mat1 (t : Nat) (s : Sh) (f : Fr) (σ : Sig) : Option (Fr × Sig) := match f.get t with
  | .v (.slice none 0 0) => some ((t, .own σ.length 0) :: f, σ ++ [.rows s [] 0])
  | .rows true s' [] => some ((t, .own σ.length 0) :: f, σ ++ [.rows s [] 0])
  | _ => none
def matsF : List (Nat × Sh) → Fr → Sig → Option (Fr × Sig)
  | [], f, σ => some (f, σ)
  | (t, s) :: l, f, σ => match mat1 t s f σ with
    | some (f', σ') => matsF l f' σ'
    | none => none

def nilC : PV → Bool
  | .v (.slice none 0 0) => true
  | .rows true _ [] => true
  | _ => false
/-- A cell that holds a slice of nothing: a row of one's own. -/
def matC1 (k i : Nat) (s : Sh) (f : Fr) (σ : Sig) : Option (Fr × Sig) := match nth σ k with
  | some (.cells cs) => match nth cs i with
    | some p => bif nilC p then some (f, (σ ++ [Place.rows s [] 0]).set k (Place.cells (cs.set i (PV.own σ.length 0)))) else none
    | none => none
  | _ => none
def matsC : List (Nat × (Nat × Sh)) → Fr → Sig → Option (Fr × Sig)
  | [], f, σ => some (f, σ)
  | (k, (i, s)) :: l, f, σ => match matC1 k i s f σ with
    | some (f', σ') => matsC l f' σ'
    | none => none

/-! ### states by patterns -/
def zipF : List Nat → List PV → Fr
  | t :: ts, p :: ps => (t, p) :: zipF ts ps
  | _, _ => []
def getsF (f : Fr) : List Nat → List PV
  | [] => []
  | t :: r => f.get t :: getsF f r
def exI (n0 : Nat) (ex : List Nat) (j : Nat) : Nat := bif Nat.blt j n0 then j else (match nth ex (j - n0) with
  | some k => k
  | none => 0)
def exM (σ : Sig) (n0 : Nat) (ex : List Nat) (j : Nat) : Nat × Nat := genI σ (exI n0 ex j)
def notInK (k : Nat) : List Nat → Bool
  | [] => true
  | i :: r => !(Nat.beq i k) && notInK k r
def exOk (n0 len : Nat) : List Nat → Bool
  | [] => true
  | k :: r => Nat.ble n0 k && (Nat.blt k len && (notInK k r && exOk n0 len r))
def decState (n0 : Nat) (ks : List AK) (qk : List PK) (ex : List Nat) (ps : List PV) (σ : Sig) : Option (adens ks × pdens qk) :=
  match decAs (exM σ n0 ex) ks ps with
  | some a => match decPs (exM σ n0 ex) σ 0 qk with
    | some s => bif Nat.ble n0 σ.length && ((Nat.beq qk.length (n0 + ex.length) && exOk n0 σ.length ex) && (okAs qk.length ks && okPs qk.length qk)) then some (a, s) else none
    | none => none
  | none => none
def decPrep (n0 : Nat) (ts : List Nat) (ks : List AK) (qk : List PK) (p : Prep) (f : Fr) (σ : Sig) : Option (adens ks × pdens qk) := match matsF p.mats f σ with
  | some (f1, σ1) => match matsC p.cm f1 σ1 with
    | some (f3, σ3) => match frzs p.fz f3 σ3 with
      | some (f2, σ2) => decState n0 ks qk p.ex (getsF f2 ts) σ2
      | none => none
    | none => none
  | none => none
def decPreps (n0 : Nat) (ts : List Nat) (ks : List AK) (qk : List PK) : List Prep → Fr → Sig → Option (adens ks × pdens qk)
  | [], _, _ => none
  | p :: l, f, σ => match decPrep n0 ts ks qk p f σ with
    | some x => some x
    | none => decPreps n0 ts ks qk l f σ
def decAlt (n0 : Nat) (A : Alt) (f : Fr) (σ : Sig) : Option A.den := decPreps n0 A.ts A.ks A.qk A.preps f σ
def decO (n0 : Nat) : (l : List Alt) → Ex → Fr → Sig → Option (densO l)
  | [], _, _, _ => none
  | [A], e, f, σ => bif sameEx e A.e then decAlt n0 A f σ else none
  | A :: B :: l, e, f, σ => match (bif sameEx e A.e then decAlt n0 A f σ else none) with
    | some x => some (.inl x)
    | none => match decO n0 (B :: l) e f σ with
      | some y => some (.inr y)
      | none => none
def encAlt {R : Type} (A : Alt) (kf : Fr) (d : A.den) (k : Fr → Sig → Option R) : Option R := k (zipF A.ts (encAs (resI A.qk) A.ks d.1) ++ kf) (encPs (resI A.qk) 0 A.qk d.2)
def orK {α β R : Type} (t : α ⊕ β) (f : α → Option R) (g : β → Option R) : Option R := match t with
  | .inl a => f a
  | .inr b => g b
/-- One, then the other. -/
def andK {α R : Type} (x : Option α) (k : α → Option R) : Option R := match x with
  | some u => k u
  | none => none
theorem andK_some {α R : Type} {x : Option α} {k : α → Option R} {r : R} (h : andK x k = some r) : ∃ u, x = some u ∧ k u = some r := by
  cases x with
  | none => cases h
  | some u => exact ⟨u, rfl, h⟩
def encO {R : Type} (kf : List Nat → Fr) : (l : List Alt) → densO l → (Ex → Fr → Sig → Option R) → Option R
  | [], t, _ => nomatch t
  | [A], d, k => encAlt A (kf A.kp) d (k A.e)
  | A :: B :: l, t, k => orK t (fun d => encAlt A (kf A.kp) d (k A.e)) (fun d => encO kf (B :: l) d k)

/-! ### temporaries that a piece of code does not write -/
def unwO (t : Nat) : List Oper → Bool
  | [] => true
  | o :: r => (match o.dst with
    | some d => !(Nat.beq d t)
    | none => true) && unwO t r
def unwB (t : Nat) : Code → Bool
  | .region _ ops _ => unwO t ops.toList
  | .seq a b => unwB t a && unwB t b
  | .cond _ a b => unwB t a && unwB t b
  | .block _ a => unwB t a
  | .loop a => unwB t a
  | _ => true
def freeC : PV → Bool
  | .v _ => true
  | .rows .. => true
  | _ => false
def freeV : PV → Bool
  | .v _ => true
  | .rows .. => true
  | .arr .. => true
  | .agg cs => cs.all freeC
  | .fn _ cs => cs.all freeC
  | _ => false
def keptF (c : Code) (f : Fr) : List Nat → Fr
  | [] => []
  | t :: r => bif unwB t c && freeV (f.get t) then (t, f.get t) :: keptF c f r else keptF c f r

/-- What is told of a place in code: nothing; which states leave a piece; those of a loop; that a loop is gone through so often at most. -/
inductive Cut where
  | none
  | join (outs : List Alt)
  | loop (hd : Alt) (outs : List Alt)
  | unroll (n : Nat)
  | alts (ts : List Nat)
abbrev Hints := Nat → Cut
def altsOf : Cut → List Nat
  | .alts ts => ts
  | _ => []

def firstR : Code → Nat
  | .region id _ _ => id
  | .seq a _ => firstR a
  | .block _ a => firstR a
  | .loop a => firstR a
  | .scope a => firstR a
  | _ => 1000000

def loopF (outs : List Alt) (hd : Alt) (n0 : Nat) (kf : Fr) (body : Nat → Fr → Sig → (Ex → Fr → Sig → Option (densO outs)) → Option (densO outs)) : Nat → hd.den → Option (densO outs)
  | 0, _ => none
  | N + 1, s => encAlt hd kf s fun f σ => body N f σ fun e f' σ' => match e with
    | .normal => match decAlt n0 hd f' σ' with
      | some s' => loopF outs hd n0 kf body N s'
      | none => none
    | .exit i => decO n0 outs (.exit i) f' σ'
    | .ret => decO n0 outs .ret f' σ'
def iterK {R : Type} (body : Fr → Sig → (Ex → Fr → Sig → Option R) → Option R) : Nat → Fr → Sig → (Ex → Fr → Sig → Option R) → Option R
  | 0, _, _, _ => none
  | n + 1, f, σ, k => body f σ fun e f' σ' => match e with
    | .normal => iterK body n f' σ' k
    | .exit id => k (.exit id) f' σ'
    | .ret => k .ret f' σ'
def cutK (c : Cut) (n0 : Nat) (kf : List Nat → Fr) (run : (R : Type) → (Ex → Fr → Sig → Option R) → Option R) {R : Type} (k : Ex → Fr → Sig → Option R) : Option R := match c with
  | .join outs => andK (run (densO outs) (decO n0 outs)) fun t => encO kf outs t k
  | _ => run R k

def runK (P : Program) (call : Nat → CallK) (qt : Nat → FuncId → List PV → Sig → Cl) (H : Hints) : Code → (N : Nat) → (R : Type) → Fr → Sig → (Ex → Fr → Sig → Option R) → Option R
  | .skip, N, R, f, σ, k => k .normal f σ
  | .region id ops draw, N, R, f, σ, k => cutK (H (5000000 + id)) σ.length (keptF (.region id ops draw) f) (fun R k => match draw with
    | false => opsK P (call N) (altsOf (H (8000000 + id))) ops.toList ops.toList f σ fun f' σ' => k .normal f' σ'
    | true => opsD P (call N) (altsOf (H (8000000 + id))) (qt N) ops.toList ops.toList [] f σ fun cs f' σ' => chk (drawOk ops.toList cs) (k .normal f' σ')) k
  | .seq a b, N, R, f, σ, k => cutK (H (firstR b)) σ.length (keptF a f) (fun R k => runK P call qt H a N R f σ k) fun e f' σ' => match e with
    | .normal => runK P call qt H b N R f' σ' k
    | .exit id => k (.exit id) f' σ'
    | .ret => k .ret f' σ'
  | .cond c a b, N, R, f, σ, k => match ev f c with
    | .v (.bool t) => sel t (runK P call qt H a N R f σ k) (runK P call qt H b N R f σ k)
    | _ => none
  | .block id a, N, R, f, σ, k => runK P call qt H a N R f σ fun e f' σ' => match e with
    | .exit i => bif Nat.beq i id then k .normal f' σ' else k (.exit i) f' σ'
    | .normal => k .normal f' σ'
    | .ret => k .ret f' σ'
  | .loop a, N, R, f, σ, k => match H (2000000 + firstR a) with
    | .loop hd outs => match decAlt σ.length hd f σ with
      | some s => andK (loopF outs hd σ.length (keptF (.loop a) f hd.kp) (fun N f σ k => runK P call qt H a N (densO outs) f σ k) N s) fun t => encO (keptF (.loop a) f) outs t k
      | none => none
    | .unroll n => iterK (fun f σ k => runK P call qt H a N R f σ k) n f σ k
    | _ => none
  | .exit id, N, R, f, σ, k => k (.exit id) f σ
  | .ret, N, R, f, σ, k => k .ret f σ
  | _, _, _, _, _, _ => none

/-- A loop by itself. -/
def loopK (P : Program) (call : Nat → CallK) (qt : Nat → FuncId → List PV → Sig → Cl) (H : Hints) (a : Code) (n0 : Nat) (hd : Alt) (outs : List Alt) (kf : Fr) : Nat → hd.den → Option (densO outs) :=
  loopF outs hd n0 kf (fun N f σ k => runK P call qt H a N (densO outs) f σ k)

/-- A piece of code, by its way down: 0 the first part, 1 the second. -/
def codeAt : Code → List Nat → Code
  | c, [] => c
  | .seq a b, i :: r => bif Nat.beq i 0 then codeAt a r else codeAt b r
  | .cond _ a b, i :: r => bif Nat.beq i 0 then codeAt a r else codeAt b r
  | .block _ a, _ :: r => codeAt a r
  | .loop a, _ :: r => codeAt a r
  | _, _ => .skip
def bodyOf (fn : Func) : Code := match fn.body with
  | some c => c
  | none => .skip

def okDsts (n : Nat) : List Oper → Bool
  | [] => true
  | o :: r => (match o.dst with | some d => decide (d < n) | none => true) && okDsts n r
def okCode (n : Nat) : Code → Bool
  | .region _ ops _ => okDsts n ops.toList
  | .seq a b => okCode n a && okCode n b
  | .cond _ a b => okCode n a && okCode n b
  | .block _ a => okCode n a
  | .loop a => okCode n a
  | _ => true

def getRes (P : Program) (f : Fr) (σ : Sig) : List ResultVar → Option (List PV)
  | [] => some []
  | .tmp t :: rs => match getRes P f σ rs with
    | some l => some (f.get t :: l)
    | none => none
  | .cell a t :: rs => match oLoad P t (f.get a) σ with
    | some q => match getRes P f σ rs with
      | some l => some (q.pv :: l)
      | none => none
    | none => none
def packRes : List PV → PV
  | [p] => p
  | l => .tup l

def fnK (P : Program) (call : Nat → CallK) (qt : Nat → FuncId → List PV → Sig → Cl) (H : Hints) {R : Type} (N : Nat) (fn : Func) (args : List PV) (σ : Sig) (k : List PV → Sig → Option R) : Option R :=
  match fn.body with
  | none => none
  | some c => runK P call qt H c N R (Fr.args 0 args) σ fun e f σ' => match e with
    | .exit _ => none
    | .normal => match getRes P f σ' fn.results.toList with
      | some l => k l σ'
      | none => none
    | .ret => match getRes P f σ' fn.results.toList with
      | some l => k l σ'
      | none => none

end Go.Proofs.YtcngjidojibleaaPM
