/- Calls by what the callee says of typed arguments. -/
import Derived.Test.YtcngjidojibleaaPmRun
set_option linter.unusedVariables false
set_option linter.unusedSectionVars false
set_option linter.unusedSimpArgs false
namespace Go.Proofs.YtcngjidojibleaaPM
open Go Go.RowKit

def putAll {α : Type} : List α → List (Nat × Nat) → List α → List α
  | l, [], ps => l ++ ps
  | l, (k, _) :: ι, p :: ps => putAll (l.set k p) ι ps
  | l, _ :: _, [] => l
def atI (ι : List (Nat × Nat)) (j : Nat) : Nat × Nat := match nth ι j with
  | some x => x
  | none => (0, 0)
def outI (ι : List (Nat × Nat)) (n len : Nat) (qk : List PK) (j : Nat) : Nat × Nat := bif Nat.blt j n then ((atI ι j).1, bif kpAt qk j then (atI ι j).2 else (atI ι j).2 + 1) else (len + (j - n), 0)

def dropN {α : Type} : Nat → List α → List α
  | 0, l => l
  | _ + 1, [] => []
  | n + 1, _ :: l => dropN n l
abbrev Acc := List (Nat × (Nat × Nat))
def findL : List CK → List PV → Acc → Acc
  | [], _, acc => acc
  | c :: l, ps, acc => match c with
    | .sh r => findL l (dropN r.n ps) acc
    | .ptr j _ => match ps with
      | .ptr k _ :: t => findL l t ((j, (k, 0)) :: acc)
      | _ => acc
    | .own j => match ps with
      | .own k g :: t => findL l t ((j, (k, g)) :: acc)
      | _ => acc
    | .ref j => match ps with
      | .ref k _ _ g :: t => findL l t ((j, (k, g)) :: acc)
      | _ => acc
    | .rp j _ => match ps with
      | .rp k _ _ g :: t => findL l t ((j, (k, g)) :: acc)
      | _ => acc
    | .apl j _ _ => match ps with
      | .apl k _ _ g :: t => findL l t ((j, (k, g)) :: acc)
      | _ => acc
    | .ep _ _ => findL l (dropN 1 ps) acc
    | .nil => findL l (dropN 1 ps) acc
    | .any => findL l (dropN 1 ps) acc
def findA (a : AK) (p : PV) (acc : Acc) : Acc := match a, p with
  | .one c, p => findL [c] [p] acc
  | .agg l, .agg cs => findL l cs acc
  | .fn _ l, .fn _ cs => findL l cs acc
  | _, _ => acc
def findAs : List AK → List PV → Acc → Acc
  | a :: l, p :: ps, acc => findAs l ps (findA a p acc)
  | _, _, acc => acc
def lookI : Acc → Nat → Option (Nat × Nat)
  | [], _ => none
  | (j, x) :: r, i => bif Nat.beq j i then some x else lookI r i
def findP (σ : Sig) : Nat → List PK → Acc → Acc
  | _, [], acc => acc
  | j, p :: l, acc => match lookI acc j with
    | some x => match p, nth σ x.1 with
      | .cells cl, some (.cells cs) => findP σ (j + 1) l (findL cl cs acc)
      | _, _ => findP σ (j + 1) l acc
    | none => acc
def gather (acc : Acc) : Nat → Nat → Option (List (Nat × Nat))
  | _, 0 => some []
  | j, n + 1 => match lookI acc j with
    | some x => match gather acc (j + 1) n with
      | some r => some (x :: r)
      | none => none
    | none => none
def notIn (k : Nat) : List (Nat × Nat) → Bool
  | [] => true
  | (i, _) :: r => !(Nat.beq i k) && notIn k r
/-- Apart from each other, and places at all. -/
def apartI (len : Nat) : List (Nat × Nat) → Bool
  | [] => true
  | (i, _) :: r => Nat.blt i len && (notIn i r && apartI len r)

/-- What is said of a function: typed arguments and places, what comes out. -/
structure Say where
  bor : Bool
  fn : FuncId
  ak : List AK
  pk : List PK
  rk : List AK
  qk : List PK
  F : adens ak → pdens pk → Option (adens rk × pdens qk)

/-- A place that is out of sight: what led to it is told by what it holds. -/
def hide1 (k : Nat) (f : Fr) (σ : Sig) : Fr × Sig := match nth σ k with
  | some (.rows r xs g) => (f.map fun e => (e.1, frzV k g r xs e.2), (σ.map (frzP k g r xs)).set k .dead)
  | _ => (f, σ.set k .dead)
def hides : List Nat → Fr → Sig → Fr × Sig
  | [], f, σ => (f, σ)
  | k :: l, f, σ => hides l (hide1 k f σ).1 (hide1 k f σ).2
def othersOf (ι : List (Nat × Nat)) : Nat → Sig → List Nat
  | _, [] => []
  | i, _ :: r => bif notIn i ι then i :: othersOf ι (i + 1) r else othersOf ι (i + 1) r
def rng : Nat → Nat → List Nat
  | _, 0 => []
  | i, n + 1 => i :: rng (i + 1) n
def flatSh : Sh → Bool
  | .rows _ => false
  | .pair a b => flatSh a && flatSh b
  | _ => true
def flatC : CK → Bool
  | .sh r => flatSh r
  | .ep _ _ => false
  | _ => true
def flatL : List CK → Bool
  | [] => true
  | c :: l => flatC c && flatL l
def flatA : AK → Bool
  | .one c => flatC c
  | .agg l => flatL l
  | .fn _ l => flatL l
  | _ => true
def flatAs : List AK → Bool
  | [] => true
  | c :: l => flatA c && flatAs l
def flatP : PK → Bool
  | .cells l => flatL l
  | .rows r _ => flatSh r
  | .gone => true
def flatPs : List PK → Bool
  | [] => true
  | c :: l => flatP c && flatPs l
def Say.dec1 (S : Say) (ι : List (Nat × Nat)) (args : List PV) (σ : Sig) : Option (List (Nat × Nat) × (adens S.ak × pdens S.pk)) := match decAs (atI ι) S.ak args with
  | some a => match decPs (atI ι) σ 0 S.pk with
    | some s => some (ι, (a, s))
    | none => none
  | none => none
def Say.dec (S : Say) (args : List PV) (σ : Sig) : Option (List (Nat × Nat) × (adens S.ak × pdens S.pk)) :=
  match gather (findP σ 0 S.pk (findAs S.ak args [])) 0 S.pk.length with
  | some ι => bif apartI σ.length ι then (match S.bor with
    | false => S.dec1 ι args σ
    | true => bif flatAs S.rk && (flatPs S.qk && Nat.ble S.pk.length S.qk.length) then S.dec1 ι (getsF (hides (othersOf ι 0 σ) (Fr.args 0 args) σ).1 (rng 0 args.length)) (hides (othersOf ι 0 σ) (Fr.args 0 args) σ).2 else none) else none
  | none => none
/-- A call, by what the first one says whose patterns fit. -/
def callBy : List Say → CallK
  | [], _, _, _, _, _ => none
  | S :: l, R, g, args, σ, k => bif Nat.beq g S.fn then (match S.dec args σ with
    | some x => andK (S.F x.2.1 x.2.2) fun u => k (packRes (encAs (outI x.1 S.pk.length σ.length S.qk) S.rk u.1)) (putAll σ x.1 (encPs (outI x.1 S.pk.length σ.length S.qk) 0 S.qk u.2))
    | none => callBy l R g args σ k) else callBy l R g args σ k

/-- What a function's own code says. -/
def ofFn (P : Program) (call : Nat → CallK) (qt : Nat → FuncId → List PV → Sig → Cl) (H : Hints) (N : Nat) (fn : Func) (ak : List AK) (pk : List PK) (rk : List AK) (qk : List PK) (preps : List Prep) (a : adens ak) (s : pdens pk) : Option (adens rk × pdens qk) :=
  fnK P call qt H N fn (encAs locI ak a) (encPs locI 0 pk s) fun l σ => bif Nat.beq l.length rk.length then decPreps pk.length (rng 0 rk.length) rk qk preps (Fr.args 0 l) σ else none

end Go.Proofs.YtcngjidojibleaaPM
