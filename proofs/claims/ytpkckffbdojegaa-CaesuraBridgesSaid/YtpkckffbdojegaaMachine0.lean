/- The evaluator of the model's code over told values, and that what it tells is so: part 1. No condition. -/
import Derived.Orders
import Derived.Below
import Derived.KernelRfl
import Derived.Laws.Sem
import Derived.Laws.Cells
import Derived.Laws.CopyRow
import Derived.Laws.Rows
import Derived.Still
set_option linter.unusedVariables false
set_option linter.unusedSimpArgs false
namespace Go.Proofs.R
open Go

/-- The types of values that a program's data can be told as. -/
inductive Ty where
  | unit
  | int (k : IntKind)
  | bool
  | str
  | pair (a b : Ty)
  | sl (t : Ty)
  | arr (n : Nat) (t : Ty)
  deriving DecidableEq

@[reducible] def Ty.V : Ty → Type
  | .unit => Unit
  | .int _ => Int
  | .bool => Bool
  | .str => ByteArray
  | .pair a b => a.V × b.V
  | .sl t => List t.V
  | .arr _ t => List t.V

def Ty.size : Ty → Nat
  | .unit => 0
  | .pair a b => a.size + b.size
  | .arr n t => n * t.size
  | _ => 1

/-- A value with its type. -/
structure DV where
  t : Ty
  x : t.V

@[reducible] def HV : List Ty → Type
  | [] => Unit
  | t :: ts => t.V × HV ts

end Go.Proofs.R

/- The evaluator: the code of the model over told values, without memory. -/
namespace Go.Proofs.R
open Go

/-- A leaf: what one cell (or an array's cells) holds. -/
inductive Lf where
  | v (t : Ty) (x : t.V)
  | nil (e : TypeId) (t : Ty)
  | row (n : Nat)
  | ref (n off : Nat)
  | eref (n : Nat) (i : Int) (off : Nat)
  | pref (ls : List Lf) (off : Nat)
  | clo (f : FuncId) (caps : List Lf)
  | nilp
  | mp (n : Nat)
  | undef
  /-- a part of a row of the call's own, which stays its own -/
  | view (n : Nat) (lo hi : Int)

/-- What a slot holds. -/
inductive AV where
  | one (l : Lf)
  | agg (ls : List Lf)
  | tup (vs : List (Bool × List Lf))

/-- of a row of rows: all are there; one's value lies in a slot; one is taken out -/
inductive RSt where
  | full
  | lent (d : Nat) (i : Int)
  | hole (i : Int)
  /-- the rows are written in place; a row, or a place in one, is in a slot -/
  | own
  | lentO (d : Nat) (i : Int)
  | atO (d : Nat) (i j : Int)
def RSt.fz : RSt → Bool
  | .own | .lentO _ _ | .atO _ _ _ => false
  | _ => true
def RSt.slotD : RSt → Option Nat
  | .lent d _ | .lentO d _ | .atO d _ _ => some d
  | _ => none

/-- The objects of a call's own. -/
inductive AObj where
  | box (T : TypeId) (ls : List Lf)
  | row (e : TypeId) (t : Ty) (xs : List t.V) (fz : Bool)
  | iter (s : ByteArray) (pos : Nat)
  | mp (k e : TypeId) (t u : Ty) (m : List (t.V × u.V))
  /-- a walk over a map: the map, how many entries it had at the walk's begin, which ones have come -/
  | miter (l : Lf) (k : Nat) (seen : List Nat)
  /-- a row of rows, each of them the call's own: what they hold; whether one is lent to a slot, or taken out -/
  | rows (e e' : TypeId) (t : Ty) (xss : List (List t.V)) (s : RSt)
  /-- the same, in memory: the rows' names -/
  | lrow (e : TypeId) (hs : List Nat)
  | dead

/-- What is known of a type of the program. -/
inductive TI where
  | int (k : IntKind) | bool | str
  | slice (e : TypeId)
  | struct (fs : List TypeId)
  | arr (n : Nat) (e : TypeId)
  | ptr (e : TypeId)
  | map (k e : TypeId)
  | func
  | other
structure TE where
  d : TI
  ty : Option Ty
  sz : Nat
  offs : List Nat
  z : List Lf

/-- A result's leaf: read only, or a row made by the call. -/
inductive RS where
  | ro (t : Ty)
  | fresh (e : TypeId) (t : Ty)
def RS.ty : RS → Ty
  | .ro t => t
  | .fresh _ t => .sl t
abbrev RetD := List (Bool × List RS)
def rsTys : List RS → List Ty
  | [] => []
  | r :: rs => r.ty :: rsTys rs

/-- a function's meaning that is given, not told from its code -/
structure Given where
  run : {ρ : Type} → List AV → (List DV → Option ρ) → Option ρ

/-- functions of the library that work on an object of the caller's -/
inductive Intr where
  | bwrite (T U X : TypeId)
  | bbyte (T U X e : TypeId)
  | bstr (T e : TypeId)
  | grow (T : TypeId)
  | rev (T : TypeId)
  /-- slices.SortFunc, slices.SortStableFunc: the slice's type, whether its elements are structs, whether equals keep their order -/
  | sort (T : TypeId) (ag st : Bool)
  /-- a function that sorts a struct's slice (leaf j) by a function, and returns the struct -/
  | sortF (U T : TypeId) (j : Nat) (g : FuncId)
  /-- the same, unless the struct's number (leaf i) or its slice's length is too large: then the zero value and an error -/
  | sortS (U T : TypeId) (i j : Nat) (g : FuncId) (mi mj er : Int)

/-- what a call does with a leaf of a variable of its caller's: it stays; a told value; a row of the caller's own -/
inductive LS where
  | keep (l : Lf)
  | val (t : Ty)
  | own (e : TypeId) (t : Ty)
structure BoxS where
  T : TypeId
  ls : List LS

/-- the slot of what has none -/
def noSlot : Nat := 1048576
/-- behind this one: no slots, but the caller's variables that a call was handed -/
def rootBase : Nat := 2097152

structure St where
  σ : List (Nat × AV)
  O : List (Nat × AObj)

structure Ctx where

  te : List (TypeId × TE)
  ret : FuncId → RetD
  fn : List (FuncId × Func)
  keep : FuncId → Nat → Option (List Nat × List (Nat × Option Nat))
  joins : FuncId → Nat → Option (List Nat × List (Nat × Option Nat))
  given : FuncId → Option Given := fun _ => none
  intr : FuncId → Option Intr := fun _ => none
  rowsT : List TypeId := []
  moveT : List TypeId := []
  /-- functions that are handed variables of their callers': these, in the order in which they are reached -/
  shape : FuncId → Option (List BoxS) := fun _ => none
  /-- regions that a chapter tells by hand, by their operations -/
  mac : Array Oper → Option (Nat → St → Option St) := fun _ => none

def lkp {α : Type} : List (Nat × α) → Nat → Option α
  | [], _ => none
  | (m, a) :: l, n => bif Nat.beq m n then some a else lkp l n

def lkpG : List (Nat × Given) → Nat → Option Given
  | [], _ => none
  | (m, a) :: l, n => bif Nat.beq m n then some a else lkpG l n

def lkpI : List (FuncId × Intr) → Nat → Option Intr
  | [], _ => none
  | (m, a) :: l, n => bif Nat.beq m n then some a else lkpI l n

inductive Ex where
  | normal
  | exit (id : Nat)
  | ret

structure Interp (c : Ctx) where
  call : (f : FuncId) → List AV → Option (HV (rsTys ((c.ret f).flatMap (·.2))))
  loop : {ρ : Type} → FuncId → Code → St → (Ex → St → Option ρ) → Option ρ
  join : {ρ : Type} → FuncId → Code → St → (Ex → St → Option ρ) → Option ρ

/-! ### leaves -/
def leaves : (t : Ty) → t.V → List Lf
  | .unit, _ => []
  | .pair a b, x => leaves a x.1 ++ leaves b x.2
  | .int k, x => [.v (.int k) x]
  | .bool, x => [.v .bool x]
  | .str, x => [.v .str x]
  | .sl t, x => [.v (.sl t) x]
  | .arr n t, x => [.v (.arr n t) x]

def castV (t u : Ty) (x : t.V) : Option u.V := if h : t = u then some (h ▸ x) else none

/-- values, told at types -/
def castHV : (ts : List Ty) → List DV → Option (HV ts)
  | [], [] => some ()
  | t :: ts, d :: ds => (castV d.t t d.x).bind fun y => (castHV ts ds).bind fun z => some (y, z)
  | _, _ => none

/-- a leaf, told at a type -/
def toLeaf (u : Ty) : List Lf → Option (u.V × List Lf)
  | .v t x :: ls => (castV t u x).bind fun y => some (y, ls)
  | .nil _ t :: ls => (castV (.sl t) u ([] : List t.V)).bind fun y => some (y, ls)
  | _ => none

def toTy : (t : Ty) → List Lf → Option (t.V × List Lf)
  | .unit, ls => some ((), ls)
  | .pair a b, ls => (toTy a ls).bind fun p => (toTy b p.2).bind fun q => some ((p.1, q.1), q.2)
  | .int k, ls => toLeaf (.int k) ls
  | .bool, ls => toLeaf .bool ls
  | .str, ls => toLeaf .str ls
  | .sl u, ls => toLeaf (.sl u) ls
  | .arr n u, ls => toLeaf (.arr n u) ls

def Lf.size : Lf → Nat
  | .v t _ => t.size
  | _ => 1

def AV.leafs : AV → List Lf
  | .one l => [l]
  | .agg ls => ls
  | .tup _ => []
/-- the leafs of a value that is known -/
def AV.leafs? : AV → Option (List Lf)
  | .one .undef => none
  | .one l => some [l]
  | .agg ls => some ls
  | .tup _ => none

/-- the leafs that fill 'n' cells -/
def takeCells : List Lf → Nat → Option (List Lf × List Lf)
  | ls, 0 => some ([], ls)
  | [], _ + 1 => none
  | l :: ls, n + 1 => bif Nat.ble l.size (n + 1) then (takeCells ls (n + 1 - l.size)).bind fun p => some (l :: p.1, p.2) else none

/-- the leafs from cell 'off' on, 'n' cells -/
def subCells (ls : List Lf) (off n : Nat) : Option (List Lf) :=
  (takeCells ls off).bind fun p => (takeCells p.2 n).bind fun q => some q.1

/-- the leafs with 'n' cells from 'off' on replaced -/
def setCells (ls : List Lf) (off n : Nat) (new : List Lf) : Option (List Lf) :=
  (takeCells ls off).bind fun p => (takeCells p.2 n).bind fun q => some (p.1 ++ (new ++ q.2))

mutual
def Lf.names : Lf → List Nat
  | .row n | .ref n _ | .eref n _ _ | .mp n | .view n _ _ => [n]
  | .pref ls _ => Lf.namesL ls
  | .clo _ cs => Lf.namesL cs
  | .v _ _ | .nil _ _ | .nilp | .undef => []
def Lf.namesL : List Lf → List Nat
  | [] => []
  | l :: ls => l.names ++ Lf.namesL ls
end

def AV.names : AV → List Nat
  | .one l => l.names
  | .agg ls => Lf.namesL ls
  | .tup vs => vs.flatMap fun p => Lf.namesL p.2

def AObj.names : AObj → List Nat
  | .box _ ls => Lf.namesL ls
  | .miter l _ _ => l.names
  | _ => []

def optL {α : Type} : Option α → (α → List Nat) → List Nat
  | some a, f => f a
  | none, _ => []

def reach (O : List (Nat × AObj)) : Nat → List Nat → List Nat
  | 0, ns => ns
  | k + 1, ns => ns ++ reach O k (ns.flatMap fun n => optL (lkp O n) AObj.names)

def memB : List Nat → Nat → Bool
  | [], _ => false
  | m :: l, n => Nat.beq m n || memB l n

abbrev Upd := List (Nat × AObj)

/-! ### what a leaf is to a callee, or in a row -/
mutual
def resolve (lk : Nat → Option AObj) : Nat → Lf → Option Lf
  | 0, _ => none
  | k + 1, l => match l with
    | .row n => match lk n with
      | some (.row _ t xs _) => some (.v (.sl t) xs)
      | _ => none
    | .ref n off => match lk n with
      | some (.box _ ls) => (resolveL lk k ls).bind fun ms => some (.pref ms off)
      | _ => none
    | .nil _ t => some (.v (.sl t) [])
    | .clo g cs => (resolveL lk k cs).bind fun ds => some (.clo g ds)
    | .v t x => some (.v t x)
    | .pref ls off => (resolveL lk k ls).bind fun ms => some (.pref ms off)
    | .undef => some .undef
    | .nilp => some .nilp
    | .mp _ => none
    | .eref _ _ _ => none
    | .view _ _ _ => none
def resolveL (lk : Nat → Option AObj) : Nat → List Lf → Option (List Lf)
  | 0, _ => none
  | _ + 1, [] => some []
  | k + 1, l :: ls => (resolve lk k l).bind fun m => (resolveL lk k ls).bind fun ms => some (m :: ms)
end

def resolveAV (lk : Nat → Option AObj) : AV → Option AV
  | .one l => (resolve lk 64 l).bind fun m => some (.one m)
  | .agg ls => (resolveL lk 64 ls).bind fun ms => some (.agg ms)
  | .tup _ => none

def resolveAVs (lk : Nat → Option AObj) : List AV → Option (List AV)
  | [] => some []
  | a :: as => (resolveAV lk a).bind fun b => (resolveAVs lk as).bind fun bs => some (b :: bs)

/-- the rows among names, frozen -/
def freezes (lk : Nat → Option AObj) : List Nat → Upd
  | [] => []
  | n :: ns => match lk n with
    | some (.row e t xs false) => (n, .row e t xs true) :: freezes lk ns
    | _ => freezes lk ns

/-- the rows among names -/
def rowLk (lk : Nat → Option AObj) (ns : List Nat) (n : Nat) : Option AObj :=
  bif memB ns n then match lk n with
    | some (.row e t xs fz) => some (.row e t xs fz)
    | _ => none
  else none

def Ty.hasSl : Ty → Bool
  | .sl _ => true
  | .pair a b => a.hasSl || b.hasSl
  | .arr _ t => t.hasSl
  | _ => false
def disjB : List Nat → List Nat → Bool
  | [], _ => true
  | n :: l, m => !memB m n && disjB l m
/-- what the cells of a value hold: numbers, truths, strings, slices -/
def tagsC : Ty → List Nat
  | .unit => []
  | .int _ => [1]
  | .bool => [2]
  | .str => [3]
  | .sl _ => [4]
  | .pair a b => tagsC a ++ tagsC b
  | .arr _ t => tagsC t
/-- what the cells hold to which a value leads -/
def tagsI : Ty → List Nat
  | .sl t => tagsC t ++ tagsI t
  | .pair a b => tagsI a ++ tagsI b
  | .arr _ t => tagsI t
  | _ => []
def RS.elt : RS → Ty
  | .ro t => t
  | .fresh _ t => t
/-- the names but those of rows that hold nothing to which results may lead -/
def shNames (lk : Nat → Option AObj) (R : List Nat) : List Nat → List Nat
  | [] => []
  | n :: ns => match lk n with
    | some (.row _ t _ false) => bif disjB (tagsC t) R then shNames lk R ns else n :: shNames lk R ns
    | _ => n :: shNames lk R ns
def RS.shares : RS → Bool
  | .ro t => t.hasSl
  | .fresh _ t => t.hasSl

def unpackL (d : Nat) : (rs : List RS) → HV (rsTys rs) → Nat → List Lf × Upd
  | [], _, _ => ([], [])
  | .ro t :: rs, x, j => (.v t x.1 :: (unpackL d rs x.2 j).1, (unpackL d rs x.2 j).2)
  | .fresh e t :: rs, x, j => (.row (d * 8 + j) :: (unpackL d rs x.2 (j + 1)).1, (d * 8 + j, .row e t x.1 false) :: (unpackL d rs x.2 (j + 1)).2)

/-- how many rows are made -/
def freshNum : List RS → Nat
  | [] => 0
  | .ro _ :: rs => freshNum rs
  | .fresh _ _ :: rs => freshNum rs + 1

def group : RetD → List Lf → List (Bool × List Lf)
  | [], _ => []
  | (a, rs) :: d, ls => (a, ls.take rs.length) :: group d (ls.drop rs.length)

def avOf : Bool × List Lf → Option AV
  | (true, ls) => some (.agg ls)
  | (false, [l]) => some (.one l)
  | _ => none

def groupAV (d : RetD) (ls : List Lf) : Option AV :=
  match group d ls with
  | [p] => avOf p
  | ps => bif ps.all fun p => p.1 || Nat.beq p.2.length 1 then some (.tup ps) else none

/-- the results' values; 'sh': some of them lead to memory that others may share -/
def packL (lk : Nat → Option AObj) (sh : Bool) : (rs : List RS) → List Lf → Option (HV (rsTys rs))
  | [], [] => some ()
  | .ro t :: rs, l :: ls => match resolve lk 64 l with
    | some (.v u x) => (castV u t x).bind fun y => (packL lk sh rs ls).bind fun z => some (y, z)
    | _ => none
  | .fresh e t :: rs, .row n :: ls => match lk n with
    | some (.row e' u xs fz) => bif Nat.beq e e' && !(sh && fz) then (castV (.sl u) (.sl t) xs).bind fun y => (packL lk sh rs ls).bind fun z => some (y, z) else none
    | _ => none
  | .fresh e t :: rs, .nil e' u :: ls => bif Nat.beq e e' && decide (u = t) then (packL lk sh rs ls).bind fun z => some ([], z) else none
  | _, _ => none

def freshNames : List RS → List Lf → List Nat
  | .fresh _ _ :: rs, .row n :: ls => n :: freshNames rs ls
  | _ :: rs, _ :: ls => freshNames rs ls
  | _, _ => []
def roNames : List RS → List Lf → List Nat
  | .ro _ :: rs, l :: ls => l.names ++ roNames rs ls
  | _ :: rs, _ :: ls => roNames rs ls
  | _, _ => []
def nodupB : List Nat → Bool
  | [] => true
  | n :: l => !memB l n && nodupB l

/-! ### arithmetic -/
/-- what depends on values that are not known: a choice, and what may fail -/
def ifB {α : Type} (b : Bool) (x y : Option α) : Option α := bif b then x else y
def bindD {α β : Type} (o : Option α) (f : α → Option β) : Option β := o.bind f
def ixAt {α : Type} (xs : List α) (i : Int) : Option α := if 0 ≤ i then xs[i.toNat]? else none
def strAt (s : ByteArray) (i : Int) : Option Int := if 0 ≤ i then s[i.toNat]?.map fun b => (b.toNat : Int) else none
def subL {α : Type} (xs : List α) (l h : Int) : Option (List α) := if 0 ≤ l ∧ l ≤ h ∧ h ≤ xs.length then some ((xs.take h.toNat).drop l.toNat) else none
def subS (s : ByteArray) (l h : Int) : Option ByteArray := if 0 ≤ l ∧ l ≤ h ∧ h ≤ s.size then some (s.extract l.toNat h.toNat) else none
def mostLen : Nat := 4294967296
def grow (n : Nat) : Option Unit := if n ≤ mostLen then some () else none
def mkLen (n m : Int) : Option Nat := if 0 ≤ n ∧ n ≤ m ∧ m ≤ (mostLen : Int) then some n.toNat else none
def setRow {α : Type} (xs : List α) (i : Int) (x : α) : List α := xs.set i.toNat x
def seenAdd (seen : List Nat) (j : Nat) : List Nat := seen ++ [j]
/-- the entry that came last -/
def entryAt {α : Type} (xs : List α) (k : Nat) (seen : List Nat) : Option α := if xs.length = k then seen.getLast?.bind fun j => xs[j]? else none
open Classical in
/-- a step of a walk over entries: any one that has not come yet; with all of them it must come to the same -/
noncomputable def eachB {α ρ : Type} (xs : List α) (k : Nat) (seen : List Nat) (done : Option ρ) (f : Nat → α → Option ρ) : Option ρ :=
  if xs.length = k then
    if ∃ j, j < k ∧ j ∉ seen then
      if h : ∃ r, ∀ j x, xs[j]? = some x → j ∉ seen → f j x = some r then some h.choose else none
    else done
  else none
def revL {α : Type} (xs : List α) : List α := xs.reverse
/-- neither comes ahead of the other -/
def eqvB {α : Type} (cf : α → α → Int) (x z : α) : Bool := !decide (cf x z < 0) && !decide (cf z x < 0)
/-- a list, sorted; with 'st' equals keep their order -/
structure SortRes {α : Type} (st : Bool) (cf : α → α → Int) (xs r : List α) : Prop where
  perm : r.Perm xs
  asc : r.Pairwise fun a b => ¬ cf b a < 0
  stab : st = true → ∀ x ∈ xs, r.filter (eqvB cf x) = xs.filter (eqvB cf x)
structure SortsBy {α : Type} (cf : α → α → Int) (xs : List α) : Prop where
  irr : ∀ x ∈ xs, ¬ cf x x < 0
  tr : ∀ x ∈ xs, ∀ y ∈ xs, ∀ z ∈ xs, cf x y < 0 → cf y z < 0 → cf x z < 0
  ntr : ∀ x ∈ xs, ∀ y ∈ xs, ∀ z ∈ xs, ¬ cf x y < 0 → ¬ cf y z < 0 → ¬ cf x z < 0
/-- the one list that sorting comes to -/
def SortsTo {α : Type} (st : Bool) (cmp : α → α → Option Int) (xs r : List α) : Prop :=
  ∃ cf : α → α → Int, (∀ x ∈ xs, ∀ y ∈ xs, cmp x y = some (cf x y)) ∧ SortsBy cf xs ∧ SortRes st cf xs r ∧ ∀ r', SortRes st cf xs r' → r' = r
open Classical in
/-- what a list comes to, sorted -/
noncomputable def sortB {α : Type} (st : Bool) (cmp : α → α → Option Int) (xs : List α) : Option (List α) :=
  if h : ∃ r, SortsTo st cmp xs r then some h.choose else none
def bitsOp (op : BinOp) (k : IntKind) (x y : Int) : Int :=
  k.wrap (match op with
    | .and => (BitVec.ofInt k.bits x &&& BitVec.ofInt k.bits y).toNat
    | .or => (BitVec.ofInt k.bits x ||| BitVec.ofInt k.bits y).toNat
    | .xor => (BitVec.ofInt k.bits x ^^^ BitVec.ofInt k.bits y).toNat
    | _ => (BitVec.ofInt k.bits x &&& ~~~ BitVec.ofInt k.bits y).toNat)
def shlInt (k : IntKind) (x y : Int) : Int := k.wrap (x * 2 ^ (min y.toNat k.bits))
def shrInt (k : IntKind) (x y : Int) : Int := x.fdiv (2 ^ (min y.toNat k.bits))

/-- the rune at a place of a string; the next place -/
def runeAt (s : ByteArray) (pos : Nat) : Int := (Utf8.decode s pos).1
def nextAt (s : ByteArray) (pos : Nat) : Nat := pos + (Utf8.decode s pos).2

/-- equality, field by field -/
def eqFs (c : Ctx) (eq : TypeId → List Lf → List Lf → Option Bool) (xs ys : List Lf) : List TypeId → List Nat → Option Bool
  | [], [] => some true
  | f :: fs, o :: os => (lkp c.te f).bind fun fe => (subCells xs o fe.sz).bind fun a => (subCells ys o fe.sz).bind fun b => (eq f a b).bind fun r =>
      match fs, os with
      | [], [] => some r
      | fs, os => (eqFs c eq xs ys fs os).bind fun q => some (r && q)
  | _, _ => none
def eqT (c : Ctx) : Nat → TypeId → List Lf → List Lf → Option Bool
  | 0, _, _, _ => none
  | k + 1, T, xs, ys => (lkp c.te T).bind fun te => match te.d with
    | .int _ => match xs, ys with
      | [.v (.int i) x], [.v (.int j) y] => if i = j then some (x == y) else none
      | _, _ => none
    | .bool => match xs, ys with
      | [.v .bool x], [.v .bool y] => some (x == y)
      | _, _ => none
    | .str => match xs, ys with
      | [.v .str x], [.v .str y] => some (x.toList == y.toList)
      | _, _ => none
    | .struct fs => eqFs c (eqT c k) xs ys fs te.offs
    | _ => none
/-- equality of two values of a type -/
def eqAV (c : Ctx) (T : TypeId) (a b : AV) : Option Bool :=
  (lkp c.te T).bind fun te => match te.d, a, b with
    | .struct _, .agg xs, .agg ys => eqT c 8 T xs ys
    | .bool, .one (.v .bool x), .one (.v .bool y) => some (x == y)
    | _, _, _ => none

section
variable {ρ : Type}
def intBin (op : BinOp) (k : IntKind) (m n : Int) (K : Lf → Option ρ) : Option ρ :=
  match op with
  | .add => K (.v (.int k) (k.wrap (m + n)))
  | .sub => K (.v (.int k) (k.wrap (m - n)))
  | .mul => K (.v (.int k) (k.wrap (m * n)))
  | .quo => ifB (n == 0) none <| K (.v (.int k) (k.wrap (m.tdiv n)))
  | .rem => ifB (n == 0) none <| K (.v (.int k) (m.tmod n))
  | .and => K (.v (.int k) (bitsOp .and k m n))
  | .or => K (.v (.int k) (bitsOp .or k m n))
  | .xor => K (.v (.int k) (bitsOp .xor k m n))
  | .andNot => K (.v (.int k) (bitsOp .andNot k m n))
  | .eql => K (.v .bool (m == n))
  | .neq => K (.v .bool (m != n))
  | .lss => K (.v .bool (decide (m < n)))
  | .leq => K (.v .bool (decide (m ≤ n)))
  | .gtr => K (.v .bool (decide (m > n)))
  | .geq => K (.v .bool (decide (m ≥ n)))
  | .shl | .shr => none

def strBin (op : BinOp) (x y : ByteArray) (K : Lf → Option ρ) : Option ρ :=
  match op with
  | .add => bindD (grow (x.size + y.size)) fun _ => K (.v .str (x ++ y))
  | .eql => K (.v .bool (x.toList == y.toList))
  | .neq => K (.v .bool (!(x.toList == y.toList)))
  | .lss => K (.v .bool (Op.bytesLess x.toList y.toList))
  | .leq => K (.v .bool (Op.bytesLess x.toList y.toList || x.toList == y.toList))
  | .gtr => K (.v .bool (!(Op.bytesLess x.toList y.toList || x.toList == y.toList)))
  | .geq => K (.v .bool (!Op.bytesLess x.toList y.toList))
  | _ => none

def binL (c : Ctx) (op : BinOp) (T : TypeId) (a b : AV) (K : Lf → Option ρ) : Option ρ :=
  match a, b with
  | .one (.v (.int k) m), .one (.v (.int k') n) =>
    match op with
    | .shl => ifB (decide (n < 0)) none <| K (.v (.int k) (shlInt k m n))
    | .shr => ifB (decide (n < 0)) none <| K (.v (.int k) (shrInt k m n))
    | op => if k = k' then intBin op k m n K else none
  | .one (.v .str x), .one (.v .str y) => strBin op x y K
  | a, b => match op with
    | .eql => (eqAV c T a b).bind fun r => K (.v .bool r)
    | .neq => (eqAV c T a b).bind fun r => K (.v .bool (!r))
    | _ => none

def unL (op : UnOp) (a : AV) (K : Lf → Option ρ) : Option ρ :=
  match op, a with
  | .neg, .one (.v (.int k) n) => K (.v (.int k) (k.wrap (0 - n)))
  | .xor, .one (.v (.int k) n) => K (.v (.int k) (bitsOp .xor k (if k.signed then -1 else k.max) n))
  | .not, .one (.v .bool b) => K (.v .bool (!b))
  | _, _ => none

/-! ### the operations -/
variable (c : Ctx) (I : Interp c)

def aggOf (te : TE) : Bool := match te.d with | .struct _ | .arr _ _ => true | _ => false
/-- a value of a type out of leafs -/
def valOf (te : TE) (ls : List Lf) : Option AV :=
  bif aggOf te then some (.agg ls) else match ls with | [l] => some (.one l) | _ => none

def gv (σ : List (Nat × AV)) (x : Operand) (T : TypeId) : Option AV :=
  match x with
  | .tmp d => bif Nat.blt d rootBase then lkp σ d else none
  | .const (.int k n) => some (.one (.v (.int k) n))
  | .const (.bool b) => some (.one (.v .bool b))
  | .const (.string s) => some (.one (.v .str s))
  | .const (.slice none 0 0) => (lkp c.te T).bind fun te => match te.d, te.ty with
    | .slice e, some (.sl t) => some (.one (.nil e t))
    | _, _ => none
  | .func f => some (.one (.clo f []))
  | _ => none

def gvs (σ : List (Nat × AV)) : List Operand → List TypeId → Option (List AV)
  | [], _ => some []
  | x :: xs, ts => (gv c σ x (ts.headD 0)).bind fun a => (gvs σ xs ts.tail).bind fun as => some (a :: as)

def partsOf (σ : List (Nat × AV)) (ty : Nat → TypeId) : List (Nat × Operand) → Option (List (Nat × AV))
  | [] => some []
  | (i, x) :: r => (gv c σ x (ty i)).bind fun a => (partsOf σ ty r).bind fun as => some ((i, a) :: as)

/-- parts laid into leafs: part i at field i -/
def fillParts (fs : List TypeId) (offs : List Nat) : List Lf → List (Nat × AV) → Option (List Lf)
  | ls, [] => some ls
  | ls, (i, a) :: r => (fs[i]?).bind fun ft => (lkp c.te ft).bind fun fe => (offs[i]?).bind fun o =>
      a.leafs?.bind fun as => bif Nat.beq fe.sz ((as.map Lf.size).sum) then (setCells ls o fe.sz as).bind fun ls' => fillParts fs offs ls' r else none

/-- n places from place i on: what the parts say, else the zero value -/
def setAll {α : Type} : List α → List (Nat × α) → List α
  | xs, [] => xs
  | xs, (i, a) :: r => setAll (xs.set i a) r
def mkParts {α : Type} (z : α) (ps : List (Nat × α)) : Nat → Nat → List α
  | 0, _ => []
  | n + 1, i => (lkp ps i).getD z :: mkParts z ps n (i + 1)

def typedParts (t : Ty) (lk : Nat → Option AObj) (n : Nat) : List (Nat × AV) → Option (List (Nat × t.V))
  | [] => some []
  | (i, a) :: r => bif Nat.blt i n then a.leafs?.bind fun as => (resolveL lk 64 as).bind fun ls => (toTy t ls).bind fun p => match p.2 with
    | [] => (typedParts t lk n r).bind fun q => some ((i, p.1) :: q)
    | _ => none
    else none

/-- a string's bytes, as numbers -/
def ints (s : ByteArray) : List Int := s.data.toList.map fun b => (b.toNat : Int)
/-- numbers, as bytes -/
def bytesOf (l : List Int) : Option ByteArray := if (l.all (fun n => decide (0 ≤ n) && decide (n < 256)) && Nat.ble l.length 4294967296) = true then some ⟨(l.map fun n => UInt8.ofNat n.toNat).toArray⟩ else none

/-- a part of a list -/
def viewL {α : Type} (xs : List α) (lo hi : Int) : List α := (xs.take hi.toNat).drop lo.toNat
def rowsOf (lk : Nat → Option AObj) : Lf → Option (Σ t : Ty, List t.V)
  | .v .str s => some ⟨.int .u8, ints s⟩
  | .v (.sl t) xs => some ⟨t, xs⟩
  | .nil _ t => some ⟨t, []⟩
  | .row n => match lk n with
    | some (.row _ t xs _) => some ⟨t, xs⟩
    | _ => none
  | .view n lo hi => match lk n with
    | some (.row _ t xs false) => some ⟨t, viewL xs lo hi⟩
    | _ => none
  | _ => none

def scal : Ty → Bool
  | .int _ | .bool | .str => true
  | _ => false
/-- the array whose cells begin at a place -/
def arrAt (ls : List Lf) (off : Nat) : Option (List Lf × Nat × (Σ t : Ty, List t.V) × List Lf) :=
  (takeCells ls off).bind fun p => match p.2 with
    | .v (.arr m t) xs :: r => some (p.1, m, ⟨t, xs⟩, r)
    | _ => none

def loadOp (lk : Nat → Option AObj) (te : TE) (a : Lf) (K : AV → Upd → Option ρ) : Option ρ :=
  match a with
  | .ref n off => match lk n with
    | some (.box _ ls) => (subCells ls off te.sz).bind fun q => (valOf te q).bind fun v => K v []
    | _ => none
  | .pref ls off => (subCells ls off te.sz).bind fun q => (valOf te q).bind fun v => K v []
  | .eref n i off => match lk n with
    | some (.row _ t xs _) => bindD (ixAt xs i) fun x => (subCells (leaves t x) off te.sz).bind fun q => (valOf te q).bind fun v => K v []
    | some (.box _ ls) => (arrAt ls off).bind fun q => bif scal q.2.2.1.1 && Nat.beq te.sz 1 then bindD (ixAt q.2.2.1.2 i) fun x => (valOf te [.v q.2.2.1.1 x]).bind fun v => K v [] else none
    | _ => none
  | _ => none

def storeOp (lk : Nat → Option AObj) (te : TE) (a : Lf) (x : AV) (K : Upd → Option ρ) : Option ρ :=
  match a with
  | .ref n off => match lk n with
    | some (.box T ls) => x.leafs?.bind fun xs => bif Nat.beq te.sz ((xs.map Lf.size).sum) then (setCells ls off te.sz xs).bind fun ls' => K [(n, .box T ls')] else none
    | _ => none
  | .eref n i off => match lk n with
    | some (.row e t xs false) => bindD (ixAt xs i) fun y => x.leafs?.bind fun as => (resolveL (rowLk lk (Lf.namesL as)) 64 as).bind fun ms =>
        bif Nat.beq te.sz ((ms.map Lf.size).sum) && !memB (Lf.namesL as) n then (setCells (leaves t y) off te.sz ms).bind fun ls' => (toTy t ls').bind fun p => match p.2 with
          | [] => K ((n, .row e t (setRow xs i p.1) false) :: freezes lk (Lf.namesL as))
          | _ => none
        else none
    | some (.box T ls) => (arrAt ls off).bind fun q => bif scal q.2.2.1.1 && Nat.beq te.sz 1 then x.leafs?.bind fun as => (toTy q.2.2.1.1 as).bind fun p => match p.2 with
          | [] => bindD (ixAt q.2.2.1.2 i) fun _ => K [(n, .box T (q.1 ++ (.v (.arr q.2.1 q.2.2.1.1) (setRow q.2.2.1.2 i p.1) :: q.2.2.2)))]
          | _ => none
        else none
    | _ => none
  | _ => none

/-- is what a leaf names still there? -/
def aliveB (lk : Nat → Option AObj) : Lf → Bool
  | .row n | .eref n _ _ => match lk n with
    | some (.row _ _ _ _) => true
    | _ => false
  | .ref n _ => match lk n with
    | some (.box _ _) => true
    | _ => false
  | .mp n => match lk n with
    | some (.mp _ _ _ _ _) => true
    | _ => false
  | .undef => false
  | .view _ _ _ => false
  | _ => true
def moveAddr (a : Lf) (o : Nat) : Option Lf :=
  match a with
  | .ref n off => some (.ref n (off + o))
  | .eref n i off => some (.eref n i (off + o))
  | .pref ls off => some (.pref ls (off + o))
  | _ => none

def boundOf (x : Option AV) (dflt : Int) : Option Int :=
  match x with
  | none => some dflt
  | some (.one (.v (.int _) n)) => some n
  | _ => none

def optG (σ : List (Nat × AV)) : Option Operand → Option (Option AV)
  | none => some none
  | some x => (gv c σ x 0).bind fun a => some (some a)

/-- is T a slice of elements that fill what a t fills? -/
def eltOk (T : TypeId) (t : Ty) : Bool :=
  match lkp c.te T with
  | some te => match te.d with
    | .slice e => match lkp c.te e with
      | some ee => Nat.beq ee.sz t.size && Nat.blt 0 ee.sz
      | none => false
    | _ => false
  | none => false

def strOk (T : TypeId) : Bool :=
  match lkp c.te T with
  | some te => match te.d with
    | .str => true
    | _ => false
  | none => false

def sliceOp (lk : Nat → Option AObj) (T : TypeId) (x : Lf) (lo hi : Option AV) (K : AV → Upd → Option ρ) : Option ρ :=
  match x with
  | .v .str s => bif strOk c T then (boundOf lo 0).bind fun l => (boundOf hi s.size).bind fun h => bindD (subS s l h) fun r => K (.one (.v .str r)) [] else none
  | .v (.sl t) xs => bif eltOk c T t then (boundOf lo 0).bind fun l => (boundOf hi xs.length).bind fun h => bindD (subL xs l h) fun r => K (.one (.v (.sl t) r)) [] else none
  | .row n => match lk n with
    | some (.row e t xs fz) => bif eltOk c T t then (boundOf lo 0).bind fun l => (boundOf hi xs.length).bind fun h => bindD (subL xs l h) fun r =>
        bif !fz && memB c.moveT (T + 2000000) then K (.one (.view n l h)) [] else K (.one (.v (.sl t) r)) [(n, .row e t xs true)] else none
    | _ => none
  | _ => none

/-- a part of a row, the row given up for it -/
def moveOp (lk : Nat → Option AObj) (d : Nat) (T : TypeId) (x : Lf) (lo hi : Option AV) (K : AV → Upd → Option ρ) : Option ρ :=
  match x with
  | .row n => match lk n with
    | some (.row e t xs false) => bif eltOk c T t then (boundOf lo 0).bind fun l => (boundOf hi xs.length).bind fun h => bindD (subL xs l h) fun r => K (.one (.row (d * 8))) [(n, .dead), (d * 8, .row e t r false)] else none
    | _ => sliceOp c lk T x lo hi K
  | _ => sliceOp c lk T x lo hi K

def indexAddrOp (lk : Nat → Option AObj) (T : TypeId) (x : Lf) (i : Int) (K : AV → Upd → Option ρ) : Option ρ :=
  match x with
  | .v (.sl t) xs => bif eltOk c T t then bindD (ixAt xs i) fun y => K (.one (.pref (leaves t y) 0)) [] else none
  | .row n => match lk n with
    | some (.row _ t xs _) => bif eltOk c T t then bindD (ixAt xs i) fun _ => K (.one (.eref n i 0)) [] else none
    | _ => none
  | .eref n j off => (lkp c.te T).bind fun te => match te.d with
    | .slice e => (lkp c.te e).bind fun ee => bif decide (j < 0) && Nat.beq ee.sz 1 && decide (0 ≤ i) && decide (i < -j) then match lk n with
        | some (.box _ _) => K (.one (.ref n (off + i.toNat))) []
        | _ => none
      else none
    | _ => none
  | .ref n off => match lk n with
    | some (.box _ ls) => (lkp c.te T).bind fun te => match te.d with
      | .arr m e => (lkp c.te e).bind fun ee => (arrAt ls off).bind fun q => bif Nat.beq ee.sz 1 && Nat.beq m q.2.1 && scal q.2.2.1.1 then bindD (ixAt q.2.2.1.2 i) fun _ => K (.one (.eref n i off)) [] else none
      | _ => none
    | _ => none
  | _ => none

def slOk (T : TypeId) : Bool :=
  match lkp c.te T with
  | some te => match te.d with
    | .slice _ => true
    | _ => false
  | none => false

def lenOp (lk : Nat → Option AObj) (T : TypeId) (x : Lf) : Option Int :=
  match x with
  | .v .str s => bif strOk c T then some (s.size : Int) else none
  | .v (.sl _) xs => bif slOk c T then some (xs.length : Int) else none
  | .nil _ _ => bif slOk c T then some 0 else none
  | .row n => bif slOk c T then match lk n with
    | some (.row _ _ xs _) => some (xs.length : Int)
    | _ => none
    else none
  | .eref n i _ => bif slOk c T && decide (i < 0) then match lk n with
    | some (.box _ _) => some (-i)
    | _ => none
    else none
  | .mp n => (lkp c.te T).bind fun te => match te.d with
    | .map _ _ => match lk n with
      | some (.mp _ _ _ _ m) => some (m.length : Int)
      | _ => none
    | _ => none
  | _ => none

def appendOp (lk : Nat → Option AObj) (d : Nat) (T : TypeId) (s x : Lf) (K : AV → Upd → Option ρ) : Option ρ :=
  (lkp c.te T).bind fun te => match te.d with
  | .slice e => (rowsOf lk x).bind fun ys => bif eltOk c T ys.1 then match s with
    | .nil e' t => bif Nat.beq e e' then (castV (.sl ys.1) (.sl t) ys.2).bind fun zs => bindD (grow zs.length) fun _ =>
        K (.one (.row (d * 8))) [(d * 8, .row e t zs false)] else none
    | .row n => match lk n with
      | some (.row e' t xs fz) => bif Nat.beq e e' then (castV (.sl ys.1) (.sl t) ys.2).bind fun zs => bindD (grow (xs.length + zs.length)) fun _ =>
          K (.one (.row (d * 8))) [(n, .dead), (d * 8, .row e t (xs ++ zs) fz)] else none
      | _ => none
    | _ => none
    else none
  | _ => none

/-- the same, onto a part of a row of the call's own: the row is given up for it -/
def appendV (lk : Nat → Option AObj) (d : Nat) (T : TypeId) (s x : Lf) (K : AV → Upd → Option ρ) : Option ρ :=
  match s with
  | .view n lo hi => match lk n with
    | some (.row e t xs false) => bif disjB x.names [n, d * 8 + 1] then
        appendOp c (fun k => bif Nat.beq k (d * 8 + 1) then some (.row e t (viewL xs lo hi) false) else bif Nat.beq k n then none else lk k) d T (.row (d * 8 + 1)) x fun av u => K av (u ++ [(n, .dead)]) else none
    | _ => none
  | s => appendOp c lk d T s x K

/-- may this cell be a builder's mark of its own place? -/
def selfOk (a : Lf) (n : Nat) : Bool :=
  match a with
  | .nilp => true
  | .ref m 0 => Nat.beq m n
  | _ => false

/-- a strings.Builder's bytes, appended to -/
def bappOp (lk : Nat → Option AObj) (d : Nat) (T U : TypeId) (n : Nat) (x : Lf) (r : AV) (K : AV → Upd → Option ρ) : Option ρ :=
  match lk n with
  | some (.box T' [a, l]) => bif Nat.beq T T' && selfOk a n then appendOp c lk d U l x fun av u => match av with
      | .one y => K r ((n, .box T [.ref n 0, y]) :: u)
      | _ => none
    else none
  | _ => none

def bstrOp (lk : Nat → Option AObj) (T e : TypeId) (n : Nat) (K : AV → Upd → Option ρ) : Option ρ :=
  match lk n with
  | some (.box T' [a, l]) => bif Nat.beq T T' && selfOk a n then match l with
      | .nil _ _ => K (.one (.v .str ⟨#[]⟩)) []
      | .row m => match lk m with
        | some (.row e' t xs false) => bif Nat.beq e e' then (castV (.sl t) (.sl (.int .u8)) xs).bind fun ys => bindD (bytesOf ys) fun s => K (.one (.v .str s)) [(m, .dead)] else none
        | _ => none
      | _ => none
    else none
  | _ => none

/-- an element as an argument -/
def elAV (ag : Bool) (t : Ty) (x : t.V) : AV := bif ag then .agg (leaves t x) else .one (.v t x)
def elOk (ag : Bool) (t : Ty) : Bool := ag || scal t
def retInt : RetD → Bool
  | [(false, [.ro (.int .i64)])] => true
  | _ => false
def intRes : (rs : List RS) → HV (rsTys rs) → Option Int
  | [.ro (.int .i64)], x => some x.1
  | _, _ => none
/-- a row, sorted in its place -/
noncomputable def sortRow (lk : Nat → Option AObj) (T : TypeId) (ag st : Bool) (g : FuncId) (cs : List Lf) (l : Lf) (K : Upd → Option ρ) : Option ρ :=
  match l with
  | .nil _ _ => bif slOk c T then K [] else none
  | .row n => match lk n with
    | some (.row e t xs false) => bif eltOk c T t && elOk ag t && retInt (c.ret g) && cs.all (fun l => Nat.beq l.size 1) && (c.shape g).isNone then
        (resolveAVs (fun m => bif Nat.beq m n then none else lk m) (cs.map AV.one)).bind fun as => bindD (Go.Proofs.R.grow xs.length) fun _ =>
          bindD (sortB st (fun x y => bindD (I.call g ([elAV ag t x, elAV ag t y] ++ as)) fun r => intRes ((c.ret g).flatMap (·.2)) r) xs) fun r => K [(n, .row e t r false)]
      else none
    | _ => none
  | _ => none
def rowLen (lk : Nat → Option AObj) : Lf → Option Int
  | .nil _ _ => some 0
  | .row n => match lk n with
    | some (.row _ _ xs _) => some (xs.length : Int)
    | _ => none
  | _ => none
/-- a leaf of a struct, one cell -/
def leafAt (U : TypeId) (j : Nat) (ls : List Lf) : Option Lf := (lkp c.te U).bind fun te => match te.d with
  | .struct _ => bif Nat.beq te.sz te.z.length && Nat.beq ls.length te.z.length && ls.all (fun l => Nat.beq l.size 1) then ls[j]? else none
  | _ => none

noncomputable def intrOp (lk : Nat → Option AObj) (d : Nat) (k : Intr) (vs : List AV) (K : AV → Upd → Option ρ) : Option ρ :=
  match k, vs with
  | .bwrite T U X, [.one (.ref n 0), .one (.v .str s)] => bif strOk c X then bappOp c lk d T U n (.v .str s) (.tup [(false, [.v (.int .i64) (s.size : Int)]), (false, [.undef])]) K else none
  | .bbyte T U X e, [.one (.ref n 0), .one (.v (.int .u8) x)] => bif slOk c X then
      bappOp c (fun k => bif Nat.beq k (d * 8 + 1) then some (.row e (.int .u8) [x] false) else lk k) d T U n (.row (d * 8 + 1)) (.one .undef) fun r u => K r (u ++ [(d * 8 + 1, .row e (.int .u8) [x] false)]) else none
  | .bstr T e, [.one (.ref n 0)] => bstrOp lk T e n K
  | .grow T, [.one (.nil e t), .one (.v (.int .i64) n)] => (lkp c.te T).bind fun te => match te.d with
    | .slice e' => bif Nat.beq e e' && eltOk c T t then ifB (decide (n < 0)) none (bindD (Go.Proofs.R.grow n.toNat) fun _ => K (.one (.row (d * 8))) [(d * 8, .row e t [] false)]) else none
    | _ => none
  | .rev T, [.one l] => match l with
    | .nil _ _ => bif slOk c T then K (.tup []) [] else none
    | .row n => match lk n with
      | some (.row e t xs false) => bif eltOk c T t && Nat.beq t.size 1 then bindD (Go.Proofs.R.grow xs.length) fun _ => K (.tup []) [(n, .row e t (revL xs) false)] else none
      | _ => none
    | _ => none
  | .sort T ag st, [.one l, .one (.clo g cs)] => sortRow c I lk T ag st g cs l fun u => K (.tup []) u
  | .sortF U T j g, [.agg ls] => (leafAt c U j ls).bind fun l => sortRow c I lk T true false g [] l fun u => K (.agg ls) u
  | .sortS U T i j g mi mj er, [.agg ls] => (lkp c.te U).bind fun te => (leafAt c U j ls).bind fun l => (leafAt c U i ls).bind fun q => match q with
    | .v (.int .i64) n => (rowLen lk l).bind fun m => ifB (decide (n > mi)) (K (.tup [(true, te.z), (false, [.v (.int .i64) er])]) []) (ifB (decide (m > mj)) (K (.tup [(true, te.z), (false, [.v (.int .i64) er])]) [])
        (sortRow c I lk T true false g [] l fun u => K (.tup [(true, ls), (false, [.v (.int .i64) 0])]) u))
    | _ => none
  | _, _ => none

/-! ### maps -/
/-- what a told value of a plain type is in memory -/
def scV : (t : Ty) → t.V → Value
  | .int k, x => .int k x
  | .bool, x => .bool x
  | .str, x => .string x
  | _, _ => .bool false
def flatT : Ty → List Ty
  | .pair a b => flatT a ++ flatT b
  | t => [t]
def flatV : (t : Ty) → t.V → List Value
  | .pair a b, x => flatV a x.1 ++ flatV b x.2
  | t, x => [scV t x]
/-- what a told key, or a plain value, is in memory -/
def plainV : (t : Ty) → t.V → Option Value
  | .int k, x => some (.int k x)
  | .bool, x => some (.bool x)
  | .str, x => some (.string x)
  | .pair a b, x => some (.agg (flatV (.pair a b) x).toArray)
  | .arr n t, xs => if (xs : List t.V).length = n then some (.agg (List.map (scV t) xs).toArray) else none
  | _, _ => none
def tyOfD : TI → Option Ty
  | .int k => some (.int k)
  | .bool => some .bool
  | .str => some .str
  | _ => none
def listEq {α : Type} (e : α → α → Bool) : List α → List α → Bool
  | [], [] => true
  | x :: xs, y :: ys => e x y && listEq e xs ys
  | _, _ => false
def keyEq : (t : Ty) → t.V → t.V → Bool
  | .int _, x, y => decide ((x : Int) = y)
  | .bool, x, y => decide ((x : Bool) = y)
  | .str, x, y => decide ((x : ByteArray) = y)
  | .pair a b, x, y => keyEq a x.1 y.1 && keyEq b x.2 y.2
  | .arr _ t, xs, ys => listEq (keyEq t) xs ys
  | _, _, _ => false
/-- the fields of a key: plain, one cell each -/
def fieldsK : List TypeId → List Nat → Nat → List Ty → Bool
  | [], [], _, [] => true
  | f :: fs, o :: os, i, t :: ts => Nat.beq o i && (match lkp c.te f with
      | some fe => decide (tyOfD fe.d = some t)
      | none => false) && fieldsK fs os (i + 1) ts
  | _, _, _, _ => false
def keyTy (ke : TE) : Option Ty := match ke.d with
  | .struct fs => ke.ty.bind fun t => match t with
    | .pair a b => bif fieldsK c fs ke.offs 0 (flatT (.pair a b)) then some (.pair a b) else none
    | _ => none
  | .arr n e => (lkp c.te e).bind fun ee => (tyOfD ee.d).map fun t => .arr n t
  | d => tyOfD d
def aggT : Ty → Bool
  | .pair _ _ | .arr _ _ => true
  | _ => false
/-- a key out of a slot -/
def keyOfAV (t : Ty) : AV → Option t.V
  | .one (.v t' x) => bif aggT t then none else castV t' t x
  | .agg ls => bif aggT t then (toTy t ls).bind fun p => bif p.2.isEmpty then some p.1 else none else none
  | _ => none
/-- the value at a key, and whether there is one -/
def mget (t : Ty) {β : Type} (z : β) (k : t.V) : List (t.V × β) → β × Bool
  | [] => (z, false)
  | p :: m => bif keyEq t k p.1 then (p.2, true) else mget t z k m
def mput (t : Ty) {β : Type} (k : t.V) (v : β) : List (t.V × β) → List (t.V × β)
  | [] => [(k, v)]
  | p :: m => bif keyEq t k p.1 then (p.1, v) :: m else p :: mput t k v m

/-- the place of a key: the place of its entry, or of the next one -/
def mfind (t : Ty) {β : Type} (k : t.V) : List (t.V × β) → Nat
  | [] => 0
  | p :: m => bif keyEq t k p.1 then 0 else mfind t k m + 1
/-- the value at a place -/
def mstore {α β : Type} (m : List (α × β)) (j : Int) (v : β) : Option (List (α × β)) := if 0 ≤ j then (m[j.toNat]?).map fun p => m.set j.toNat (p.1, v) else none

def makeMapOp (d : Nat) (T : TypeId) (K : AV → Upd → Option ρ) : Option ρ :=
  (lkp c.te T).bind fun te => match te.d with
    | .map k e => (lkp c.te k).bind fun ke => (lkp c.te e).bind fun ve => match keyTy c ke, tyOfD ve.d with
      | some t, some u => K (.one (.mp (d * 8))) [(d * 8, .mp k e t u [])]
      | _, _ => none
    | _ => none

/-- is this map one of these types? -/
def mapOk (T k e : TypeId) (t u : Ty) : Bool :=
  match lkp c.te T, lkp c.te k, lkp c.te e with
  | some te, some ke, some ve => (match te.d with
      | .map k' e' => Nat.beq k k' && Nat.beq e e'
      | _ => false) && decide (keyTy c ke = some t) && decide (tyOfD ve.d = some u)
  | _, _, _ => false

def lookupOp (lk : Nat → Option AObj) (T : TypeId) (a b : AV) (ok : Bool) (K : AV → Upd → Option ρ) : Option ρ :=
  match a with
  | .one (.mp n) => match lk n with
    | some (.mp k e t u m) => bif mapOk c T k e t u then (keyOfAV t b).bind fun key => (lkp c.te e).bind fun ve => (toTy u ve.z).bind fun z =>
        bif ok then K (.tup [(false, [.v u (mget t z.1 key m).1]), (false, [.v .bool (mget t z.1 key m).2])]) [] else K (.one (.v u (mget t z.1 key m).1)) [] else none
    | _ => none
  | _ => none

def mapPlaceOp (lk : Nat → Option AObj) (T : TypeId) (a b : AV) (K : AV → Upd → Option ρ) : Option ρ :=
  match a with
  | .one (.mp n) => match lk n with
    | some (.mp k e t u m) => bif mapOk c T k e t u then (keyOfAV t b).bind fun key => (lkp c.te e).bind fun ve => (toTy u ve.z).bind fun z =>
        K (.tup [(false, [.v u (mget t z.1 key m).1]), (false, [.v (.int .i64) (mfind t key m : Int)])]) [(n, .mp k e t u (mput t key (mget t z.1 key m).1 m))] else none
    | _ => none
  | _ => none

def mapStoreOp (lk : Nat → Option AObj) (T : TypeId) (a b v : AV) (K : AV → Upd → Option ρ) : Option ρ :=
  match a, b, v with
  | .one (.mp n), .one (.v (.int .i64) j), .one (.v u' y) => match lk n with
    | some (.mp k e t u m) => bif mapOk c T k e t u then (castV u' u y).bind fun val => bindD (mstore m j val) fun m' => K (.one .undef) [(n, .mp k e t u m')] else none
    | _ => none
  | _, _, _ => none

def mapUpdOp (lk : Nat → Option AObj) (T : TypeId) (a b v : AV) (K : AV → Upd → Option ρ) : Option ρ :=
  match a, v with
  | .one (.mp n), .one (.v u' y) => match lk n with
    | some (.mp k e t u m) => bif mapOk c T k e t u then (keyOfAV t b).bind fun key => (castV u' u y).bind fun val => K (.one .undef) [(n, .mp k e t u (mput t key val m))] else none
    | _ => none
  | _, _ => none

/-- plain keys and values -/
def plainK : Ty → Bool
  | .arr _ t => scal t
  | t => (flatT t).all scal
/-- the place of a walk over a map -/
def mapRange (lk : Nat → Option AObj) (d : Nat) (T : TypeId) (n : Nat) (K : AV → Upd → Option ρ) : Option ρ :=
  match lk n with
  | some (.mp k e t u m) => bif mapOk c T k e t u then K (.one (.ref (d * 8) 0)) [(d * 8, .miter (.mp n) m.length [])] else none
  | _ => none

/-- what came last of a walk over a map -/
def mapEntry (lk : Nat → Option AObj) (n : Nat) (K : AV → Upd → Option ρ) : Option ρ :=
  match lk n with
  | some (.miter (.mp m) k seen) => match lk m with
    | some (.mp _ _ t u l) => bif plainK t && scal u then bindD (entryAt l k seen) fun x => K (.tup [(aggT t, leaves t x.1), (false, [.v u x.2])]) [] else none
    | _ => none
  | _ => none

def minMax (op : Bool) : List AV → Option Lf
  | [.one (.v (.int k) a), .one (.v (.int k') b)] =>
    if k = k' then some (.v (.int k) (bif op then (if b < a then b else a) else (if a < b then b else a))) else none
  | _ => none

def callOp (lk : Nat → Option AObj) (d : Nat) (g : FuncId) (args : List AV) (ns : List Nat) (K : AV → Upd → Option ρ) : Option ρ :=
  bif Nat.blt (freshNum ((c.ret g).flatMap (·.2))) 6 then (resolveAVs lk args).bind fun as => bindD (I.call g as) fun r =>
    (groupAV (c.ret g) (unpackL d ((c.ret g).flatMap (·.2)) r 0).1).bind fun v =>
      K v ((unpackL d ((c.ret g).flatMap (·.2)) r 0).2 ++ (bif ((c.ret g).flatMap (·.2)).any RS.shares then freezes lk (shNames lk (((c.ret g).flatMap (·.2)).flatMap fun r => tagsI r.elt) ns) else [])) else none
/-! ### calls that change variables of their caller's -/
def idxN : List Nat → Nat → Nat → Option Nat
  | [], _, _ => none
  | m :: l, n, k => bif Nat.beq m n then some k else idxN l n (k + 1)
def dedupN : List Nat → List Nat → List Nat
  | [], _ => []
  | n :: l, seen => bif memB seen n then dedupN l seen else n :: dedupN l (n :: seen)
def isBox (lk : Nat → Option AObj) (n : Nat) : Bool := match lk n with
  | some (.box _ _) => true
  | _ => false
/-- the variables among names -/
def boxNs (lk : Nat → Option AObj) (ns : List Nat) : List Nat := dedupN (ns.filter (isBox lk)) []
def boxName (k : Nat) : Nat := k * 8 + 7
mutual
/-- a leaf, as the callee sees it -/
def keepL (lk : Nat → Option AObj) (bs : List Nat) : Nat → Lf → Option Lf
  | 0, _ => none
  | k + 1, l => match l with
    | .row n => match lk n with
      | some (.row _ t xs _) => some (.v (.sl t) xs)
      | _ => none
    | .ref n off => (idxN bs n 0).bind fun j => some (.ref (boxName j) off)
    | .nil _ t => some (.v (.sl t) [])
    | .clo g cs => (keepLs lk bs k cs).bind fun ds => some (.clo g ds)
    | .v t x => some (.v t x)
    | .nilp => some .nilp
    | _ => none
def keepLs (lk : Nat → Option AObj) (bs : List Nat) : Nat → List Lf → Option (List Lf)
  | 0, _ => none
  | _ + 1, [] => some []
  | k + 1, l :: ls => (keepL lk bs k l).bind fun m => (keepLs lk bs k ls).bind fun ms => some (m :: ms)
end
def keepAV (lk : Nat → Option AObj) (bs : List Nat) : AV → Option AV
  | .one l => (keepL lk bs 64 l).bind fun m => some (.one m)
  | .agg ls => (keepLs lk bs 64 ls).bind fun ms => some (.agg ms)
  | .tup _ => none
def keepAVs (lk : Nat → Option AObj) (bs : List Nat) : List AV → Option (List AV)
  | [] => some []
  | a :: as => (keepAV lk bs a).bind fun b => (keepAVs lk bs as).bind fun cs => some (b :: cs)
mutual
/-- the same closure, the same place -/
def eqLf : Lf → Lf → Bool
  | .ref n off, .ref m off' => Nat.beq n m && Nat.beq off off'
  | .clo g cs, .clo h ds => Nat.beq g h && eqLfs cs ds
  | .nilp, .nilp => true
  | _, _ => false
def eqLfs : List Lf → List Lf → Bool
  | [], [] => true
  | l :: ls, m :: ms => eqLf l m && eqLfs ls ms
  | _, _ => false
end
/-- the told leafs of a variable -/
def encLs (lk : Nat → Option AObj) (bs : List Nat) : List LS → List Lf → Option (List Lf)
  | [], [] => some []
  | .keep l :: ss, m :: ms => (keepL lk bs 64 m).bind fun m' => bif eqLf l m' then encLs lk bs ss ms else none
  | .val t :: ss, m :: ms => match keepL lk bs 64 m with
    | some (.v u x) => (castV u t x).bind fun y => (encLs lk bs ss ms).bind fun r => some (.v t y :: r)
    | _ => none
  | .own e t :: ss, .nil e' u :: ms => bif Nat.beq e e' && decide (u = t) then (encLs lk bs ss ms).bind fun r => some (.v (.sl t) [] :: r) else none
  | .own e t :: ss, .row n :: ms => match lk n with
    | some (.row e' u xs false) => bif Nat.beq e e' then (castV (.sl u) (.sl t) xs).bind fun ys => (encLs lk bs ss ms).bind fun r => some (.v (.sl t) ys :: r) else none
    | _ => none
  | _, _ => none
def encBs (lk : Nat → Option AObj) (bs : List Nat) : List BoxS → List Nat → Option (List AV)
  | [], [] => some []
  | s :: ss, n :: ns => match lk n with
    | some (.box T ls) => bif Nat.beq T s.T then (encLs lk bs s.ls ls).bind fun ms => (encBs lk bs ss ns).bind fun r => some (.agg ms :: r) else none
    | _ => none
  | _, _ => none
/-- the rows that are handed over -/
def ownLs : List LS → List Lf → List Nat
  | .own _ _ :: ss, .row n :: ms => n :: ownLs ss ms
  | _ :: ss, _ :: ms => ownLs ss ms
  | _, _ => []
def ownBs (lk : Nat → Option AObj) : List BoxS → List Nat → List Nat
  | s :: ss, n :: ns => match lk n with
    | some (.box _ ls) => ownLs s.ls ls ++ ownBs lk ss ns
    | _ => ownBs lk ss ns
  | _, _ => []
/-- the rows that are only read: names in the leafs that stay, and in the told ones -/
def roLs : List LS → List Lf → List Nat
  | .own _ _ :: ss, _ :: ms => roLs ss ms
  | _ :: ss, m :: ms => m.names ++ roLs ss ms
  | _, _ => []
def roBs (lk : Nat → Option AObj) : List BoxS → List Nat → List Nat
  | s :: ss, n :: ns => match lk n with
    | some (.box _ ls) => roLs s.ls ls ++ roBs lk ss ns
    | _ => roBs lk ss ns
  | _, _ => []
/-- a variable's leafs behind the call -/
def fillLs : List LS → List Lf → List Lf → Option (List Lf × List Lf)
  | [], [], cs => some ([], cs)
  | .keep _ :: ss, m :: ms, cs => (fillLs ss ms cs).bind fun p => some (m :: p.1, p.2)
  | _ :: ss, _ :: ms, x :: cs => (fillLs ss ms cs).bind fun p => some (x :: p.1, p.2)
  | _, _, _ => none
def fillBs (lk : Nat → Option AObj) : List BoxS → List Nat → List Lf → Option Upd
  | [], [], [] => some []
  | s :: ss, n :: ns, cs => match lk n with
    | some (.box T ls) => (fillLs s.ls ls cs).bind fun p => (fillBs lk ss ns p.2).bind fun u => some ((n, .box T p.1) :: u)
    | _ => none
  | _, _, _ => none
def contRS : List LS → List RS
  | [] => []
  | .keep _ :: ss => contRS ss
  | .val t :: ss => .ro t :: contRS ss
  | .own e t :: ss => .fresh e t :: contRS ss
def contBs : List BoxS → List RS
  | [] => []
  | s :: ss => contRS s.ls ++ contBs ss
def eqRS : List RS → List RS → Bool
  | [], [] => true
  | .ro t :: a, .ro u :: b => decide (t = u) && eqRS a b
  | .fresh e t :: a, .fresh f u :: b => Nat.beq e f && decide (t = u) && eqRS a b
  | _, _ => false
/-- the last of a call's results are what the variables hold -/
def retS (c : Ctx) (g : FuncId) (sh : List BoxS) : Bool := match (c.ret g).getLast? with
  | some (true, rs) => eqRS rs (contBs sh)
  | _ => false
def deadU (ns : List Nat) : Upd := ns.map fun n => (n, .dead)
def scallOp (lk : Nat → Option AObj) (d : Nat) (g : FuncId) (sh : List BoxS) (args : List AV) (ns : List Nat) (K : AV → Upd → Option ρ) : Option ρ :=
  bif Nat.blt (freshNum ((c.ret g).flatMap (·.2))) 6 && retS c g sh && nodupB (ownBs lk sh (boxNs lk ns)) && disjB (ownBs lk sh (boxNs lk ns)) (args.flatMap AV.names ++ roBs lk sh (boxNs lk ns)) then
    (keepAVs lk (boxNs lk ns) args).bind fun as => (encBs lk (boxNs lk ns) sh (boxNs lk ns)).bind fun st => bindD (I.call g (as ++ st)) fun r =>
    (groupAV (c.ret g).dropLast ((unpackL d ((c.ret g).flatMap (·.2)) r 0).1.take (((c.ret g).flatMap (·.2)).length - (contBs sh).length))).bind fun v =>
    (fillBs lk sh (boxNs lk ns) ((unpackL d ((c.ret g).flatMap (·.2)) r 0).1.drop (((c.ret g).flatMap (·.2)).length - (contBs sh).length))).bind fun bu =>
      K v (bu ++ (deadU (ownBs lk sh (boxNs lk ns)) ++ ((unpackL d ((c.ret g).flatMap (·.2)) r 0).2 ++ freezes lk (ns.filter fun n => !memB (ownBs lk sh (boxNs lk ns)) n)))) else none

/-- a variable out of its told leafs: its leafs, its rows (from name number m on) -/
def decLs : List LS → List Lf → Nat → Option (List Lf × Upd)
  | [], [], _ => some ([], [])
  | .keep l :: ss, ms, m => (decLs ss ms m).bind fun p => some (l :: p.1, p.2)
  | .val t :: ss, .v u x :: ms, m => (castV u t x).bind fun y => (decLs ss ms m).bind fun p => some (.v t y :: p.1, p.2)
  | .own e t :: ss, .v u x :: ms, m => (castV u (.sl t) x).bind fun ys => (decLs ss ms (m + 1)).bind fun p => some (.row (boxName m) :: p.1, (boxName m, .row e t ys false) :: p.2)
  | _, _, _ => none
def ownNum : List LS → Nat
  | [] => 0
  | .own _ _ :: ss => ownNum ss + 1
  | _ :: ss => ownNum ss
def decBs : List BoxS → List AV → Nat → Nat → Option (List (Nat × AObj))
  | [], [], _, _ => some []
  | s :: ss, .agg ms :: as, k, m => (decLs s.ls ms m).bind fun p => (decBs ss as (k + 1) (m + ownNum s.ls)).bind fun O => some ((boxName k, .box s.T p.1) :: (p.2 ++ O))
  | _, _, _, _ => none
/-- what the variables hold at a call's end -/
def endLs (bs : List Nat) : List LS → List Lf → Option (List Lf)
  | [], [] => some []
  | .keep l :: ss, m :: ms => (keepL (fun _ => none) bs 64 m).bind fun m' => bif eqLf l m' then endLs bs ss ms else none
  | .val t :: ss, m :: ms => bif Nat.beq m.size t.size then (endLs bs ss ms).bind fun r => some (m :: r) else none
  | .own _ _ :: ss, m :: ms => bif Nat.beq m.size 1 then (endLs bs ss ms).bind fun r => some (m :: r) else none
  | _, _ => none
/-- the names of the variables at a call's end -/
def rootNs (σ : List (Nat × AV)) : Nat → Nat → Option (List Nat)
  | 0, _ => some []
  | n + 1, k => match lkp σ (rootBase + k) with
    | some (.one (.ref m 0)) => (rootNs σ n (k + 1)).bind fun ns => some (m :: ns)
    | _ => none
def rootSlots : Nat → Nat → List (Nat × AV)
  | 0, _ => []
  | n + 1, k => (rootBase + k, .one (.ref (boxName k) 0)) :: rootSlots n (k + 1)
def endBs (lk : Nat → Option AObj) (bs : List Nat) : List BoxS → List Nat → Option (List Lf)
  | [], [] => some []
  | s :: ss, n :: ns => match lk n with
    | some (.box T ls) => bif Nat.beq T s.T then (endLs bs s.ls ls).bind fun ms => (endBs lk bs ss ns).bind fun r => some (ms ++ r) else none
    | _ => none
  | _, _ => none
end
end Go.Proofs.R

/- The evaluator, second part: an operation, a region, code, a call; the limit over all numbers of rounds. -/
namespace Go.Proofs.R
noncomputable section
open Go

section
variable {ρ : Type} (c : Ctx) (I : Interp c)

def one? : AV → Option Lf
  | .one l => some l
  | _ => none
def intOf? : AV → Option Int
  | .one (.v (.int _) n) => some n
  | _ => none

/-- values of one leaf each -/
def onesL : List AV → Option (List Lf)
  | [] => some []
  | .one .undef :: _ => none
  | .one l :: r => (onesL r).bind fun ls => some (l :: ls)
  | _ => none

/-- the calls' side: a value that is called -/
def calleeOf (σ : List (Nat × AV)) (x : Operand) : Option (FuncId × List Lf) :=
  match x with
  | .func f => some (f, [])
  | .tmp d => match (bif Nat.blt d rootBase then lkp σ d else none) with
    | some (.one (.clo f caps)) => some (f, caps)
    | _ => none
  | _ => none

/-- One operation: what its slot holds behind it ('none': it has none), which objects change. -/
def opC (σ : List (Nat × AV)) (lk : Nat → Option AObj) (ns : List Nat) (d : Nat) (o : Oper) (K : AV → Upd → Option ρ) : Option ρ :=
  match o.op with
  | .move x | .assign x => (gv c σ x o.type).bind fun a => K a []
  | .pick x a b => match gv c σ x 0 with
    | some (.one (.v .bool g)) => match gv c σ a o.type, gv c σ b o.type with
      | some (.one (.v t p)), some (.one (.v u q)) => (castV u t q).bind fun q' => K (.one (.v t (bif g then p else q'))) []
      | p, q => ifB g (p.bind fun v => K v []) (q.bind fun v => K v [])
    | _ => none
  | .alloc T => (lkp c.te T).bind fun te => K (.one (.ref (d * 8) 0)) [(d * 8, .box T te.z)]
  | .box T x => (gv c σ x T).bind fun a => a.leafs?.bind fun ls => K (.one (.ref (d * 8) 0)) [(d * 8, .box T ls)]
  | .build T ps => (lkp c.te T).bind fun te => match te.d, te.ty with
    | .struct fs, _ => (partsOf c σ (fun i => fs.getD i 0) ps.toList).bind fun as => (fillParts c fs te.offs te.z as).bind fun ls => K (.agg ls) []
    | .arr m e, _ => match te.z with
      | [.v (.arr m' t) zs] => (lkp c.te e).bind fun ee => bif Nat.beq m m' && Nat.beq ee.sz 1 && scal t then (partsOf c σ (fun _ => e) ps.toList).bind fun as => (typedParts t (fun _ => none) m as).bind fun qs => K (.agg [.v (.arr m' t) (setAll zs qs)]) [] else none
      | _ => none
    | _, _ => none
  | .buildSlice T n ps => (lkp c.te T).bind fun te => match te.d, te.ty with
    | .slice e, some (.sl t) => bif eltOk c T t && Nat.ble (n * t.size) 16777216 then (lkp c.te e).bind fun ee => (toTy t ee.z).bind fun z => (partsOf c σ (fun _ => e) ps.toList).bind fun as => (typedParts t (rowLk lk (as.flatMap fun p => p.2.names)) n as).bind fun qs =>
        bif nodupB (qs.map (·.1)) then K (.one (.row (d * 8))) ((d * 8, .row e t (mkParts z.1 qs n 0) false) :: freezes lk (as.flatMap fun p => p.2.names)) else none else none
    | _, _ => none
  | .load T a => (lkp c.te T).bind fun te => (gv c σ a 0).bind fun p => (one? p).bind fun l => loadOp lk te l K
  | .store T a x => (lkp c.te T).bind fun te => (gv c σ a 0).bind fun p => (one? p).bind fun l => (gv c σ x T).bind fun v => storeOp lk te l v (fun u => K (.one .undef) u)
  | .nilCheck x => (gv c σ x 0).bind fun a => match a with
    | .one (.ref n off) => bif aliveB lk (.ref n off) then K (.one (.ref n off)) [] else none
    | .one (.pref ls off) => K (.one (.pref ls off)) []
    | .one (.eref n i off) => bif aliveB lk (.eref n i off) then K (.one (.eref n i off)) [] else none
    | .one (.clo f caps) => K (.one (.clo f caps)) []
    | _ => none
  | .binOp op T x y U => (gv c σ x T).bind fun a => (gv c σ y U).bind fun b => binL c op T a b fun l => K (.one l) []
  | .unOp op _ x => (gv c σ x 0).bind fun a => unL op a fun l => K (.one l) []
  | .convert s t x => (lkp c.te s).bind fun a => (lkp c.te t).bind fun b => (gv c σ x s).bind fun v => match a.d, b.d, v with
    | .int _, .int k, .one (.v (.int _) n) => K (.one (.v (.int k) (k.wrap n))) []
    | .str, .str, .one (.v .str n) => K (.one (.v .str n)) []
    | _, _, _ => none
  | .makeFunc (.func f) first caps => bif first.isEmpty then (gvs c σ caps.toList []).bind fun as => (onesL as).bind fun ls => K (.one (.clo f ls)) [] else none
  | .makeSlice T l m => (lkp c.te T).bind fun te => match te.d, te.ty with
    | .slice e, some (.sl t) => bif eltOk c T t then (lkp c.te e).bind fun ee => (toTy t ee.z).bind fun z => (gv c σ l 0).bind fun a => (intOf? a).bind fun n => (gv c σ m 0).bind fun b => (intOf? b).bind fun m' =>
        bindD (mkLen n m') fun len => K (.one (.row (d * 8))) [(d * 8, .row e t (List.replicate len z.1) false)] else none
    | .slice e, none => (lkp c.te e).bind fun ee => (gv c σ l 0).bind fun a => (intOf? a).bind fun n => (gv c σ m 0).bind fun b => (intOf? b).bind fun m' =>
        bif decide (n = m') && decide (0 < n) then bindD (mkLen n m') fun len => K (.one (.eref (d * 8) (-(len : Int)) 0)) [(d * 8, .box e (List.replicate len ee.z).flatten)] else none
    | _, _ => none
  | .slice T x lo hi mx => bif mx.isNone then (gv c σ x 0).bind fun a => (one? a).bind fun l => (optG c σ lo).bind fun lv => (optG c σ hi).bind fun hv => bif memB c.moveT T && (hv.isNone || memB c.moveT (T + 1000000)) then moveOp c lk d T l lv hv K else sliceOp c lk T l lv hv K else none
  | .fieldAddr T x f => (lkp c.te T).bind fun te => (gv c σ x 0).bind fun a => (one? a).bind fun l => (te.offs[f]?).bind fun o' => (moveAddr l o').bind fun l' => bif aliveB lk l then (match te.d with | .struct _ => K (.one l') [] | _ => none) else none
  | .field T x f => (lkp c.te T).bind fun te => match te.d with
    | .struct fs => (fs[f]?).bind fun ft => (lkp c.te ft).bind fun fe => (te.offs[f]?).bind fun o' => (gv c σ x T).bind fun a => match a with
      | .agg ls => (subCells ls o' fe.sz).bind fun q => (valOf fe q).bind fun v => K v []
      | _ => none
    | _ => none
  | .indexAddr T x i => (gv c σ x 0).bind fun a => (one? a).bind fun l => (gv c σ i 0).bind fun b => (intOf? b).bind fun n => indexAddrOp c lk T l n K
  | .index T x i => (gv c σ x 0).bind fun a => (gv c σ i 0).bind fun b => (intOf? b).bind fun n => match a with
    | .one (.v .str s) => bif strOk c T then bindD (strAt s n) fun y => K (.one (.v (.int .u8) y)) [] else none
    | _ => none
  | .extract x i => (gv c σ x 0).bind fun a => match a with
    | .tup vs => (vs[i]?).bind fun p => (avOf p).bind fun v => K v []
    | _ => none
  | .range T x => bif strOk c T then (gv c σ x 0).bind fun a => match a with
      | .one (.v .str s) => K (.one (.ref (d * 8) 0)) [(d * 8, .iter s 0)]
      | _ => none
    else (gv c σ x 0).bind fun a => match a with
      | .one (.mp n) => mapRange c lk d T n K
      | _ => none
  | .next it true => (gv c σ it 0).bind fun a => match a with
    | .one (.ref n 0) => match lk n with
      | some (.iter s pos) => ifB (decide (pos < s.size)) (K (.tup [(false, [.v .bool true]), (false, [.v (.int .i64) (pos : Int)]), (false, [.v (.int .i32) (runeAt s pos)])]) [(n, .iter s (nextAt s pos))]) (K (.tup [(false, [.v .bool false])]) [])
      | _ => none
    | _ => none
  | .entry it => (gv c σ it 0).bind fun a => match a with
    | .one (.ref n 0) => mapEntry lk n K
    | _ => none
  | .makeMap T r => bif r.isNone then makeMapOp c d T K else none
  | .lookup T x i ok => (gv c σ x 0).bind fun a => (gv c σ i 0).bind fun b => lookupOp c lk T a b ok K
  | .mapEntry T x i => (gv c σ x 0).bind fun a => (gv c σ i 0).bind fun b => mapPlaceOp c lk T a b K
  | .entryStore T x i y => (gv c σ x 0).bind fun a => (gv c σ i 0).bind fun b => (gv c σ y 0).bind fun v => mapStoreOp c lk T a b v K
  | .insert T x i y => (gv c σ x 0).bind fun a => (gv c σ i 0).bind fun b => (gv c σ y 0).bind fun v => mapUpdOp c lk T a b v K
  | .mapUpdate T x i y => (gv c σ x 0).bind fun a => (gv c σ i 0).bind fun b => (gv c σ y 0).bind fun v => mapUpdOp c lk T a b v K
  | .call { callee := .builtin b, args := as, argTypes := ts } => (gvs c σ as.toList ts.toList).bind fun vs => match b, vs, ts.toList with
    | .len, [.one l], [T] => (lenOp c lk T l).bind fun n => K (.one (.v (.int .i64) n)) []
    | .append, [.one s, .one x], [T, U] => bif slOk c U || strOk c U then appendV c lk d T s x K else none
    | .min, vs, _ => (minMax true vs).bind fun l => K (.one l) []
    | .max, vs, _ => (minMax false vs).bind fun l => K (.one l) []
    | _, _, _ => none
  | .call { callee := .value x, args := as, argTypes := ts } => (calleeOf σ x).bind fun g => (gvs c σ as.toList ts.toList).bind fun vs => match c.intr g.1 with
    | some k => bif g.2.isEmpty then intrOp c I lk d k vs K else none
    | none =>
      bif g.2.all fun l => Nat.beq l.size 1 then (match c.shape g.1 with
        | some sh => scallOp c I lk d g.1 sh (vs ++ g.2.map AV.one) ns K
        | none => callOp c I lk d g.1 (vs ++ g.2.map AV.one) ns K) else none
  | _ => none

/-- The objects' names that an operation may read. -/
def boxRef (σ : List (Nat × AV)) (O : List (Nat × AObj)) : Operand → Option Nat
  | .tmp d => match lkp σ d with
    | some (.one (.ref n _)) => match lkp O n with
      | some (.box _ _) => some n
      | _ => none
    | _ => none
  | _ => none
/-- the operation reads or writes a variable's own cells alone -/
def boxOnly (σ : List (Nat × AV)) (O : List (Nat × AObj)) (o : Oper) : Option Nat :=
  match o.op with
  | .store _ x _ => boxRef σ O x
  | .load _ x => boxRef σ O x
  | .fieldAddr _ x _ => boxRef σ O x
  | _ => none
def namesAt (σ : List (Nat × AV)) (O : List (Nat × AObj)) (o : Oper) : List Nat :=
  match boxOnly σ O o with
  | some n => [n]
  | none => reach O 4 (o.op.operands.toList.flatMap fun x => match x with
    | .tmp d => optL (lkp σ d) AV.names
    | _ => [])

/-- rows of rows: the plain operations do not see them -/
def fltO : Option AObj → Option AObj
  | some (.rows _ _ _ _ _) => none
  | some (.lrow _ _) => none
  | o => o
def plainN : AObj → Bool
  | .rows _ _ _ _ _ => false
  | .lrow _ _ => false
  | _ => true
def plainO : Option AObj → Bool
  | some o => plainN o
  | none => true
/-- names behind this one are memory's own -/
def bigName : Nat := 4611686018427387904

def lookIn (O : List (Nat × AObj)) (ns : List Nat) (n : Nat) : Option AObj := bif memB ns n then fltO (lkp O n) else none

/-- May these objects be changed: they are new, and the operation's own, or among the names. -/
def updOk (O : List (Nat × AObj)) (ns : List Nat) (d : Nat) : Upd → Bool
  | [] => true
  | (n, o) :: r => (bif Nat.beq (n / 8) d && Nat.blt (n % 8) 5 then (lkp O n).isNone else memB ns n) && (plainO (lkp O n) && plainN o && Nat.blt n bigName) && updOk O ns d r

def putS (nt : Nat) (dst : Option Nat) (a : AV) (σ : List (Nat × AV)) : Option (List (Nat × AV)) :=
  match dst with
  | none => some σ
  | some d => bif Nat.blt d nt then some ((d, a) :: σ) else none

structure Log where
  i : Nat
  ns : List Nat
  ws : List Nat

def apartB (x y : Log) : Bool := disjB x.ws y.ns && disjB x.ws y.ws && disjB y.ws x.ns

/-- one operation, and what it read and wrote -/
def stepOp (nt : Nat) (st : St) (i : Nat) (o : Oper) (K : St → Log → Option ρ) : Option ρ :=
  opC c I st.σ (lookIn st.O (namesAt st.σ st.O o)) (namesAt st.σ st.O o) (o.dst.getD noSlot) o fun a u =>
    bif updOk st.O (namesAt st.σ st.O o) (o.dst.getD noSlot) u then
      match putS nt o.dst a st.σ with
      | some σ' => K ⟨σ', u ++ st.O⟩ ⟨i, namesAt st.σ st.O o, u.map (·.1)⟩
      | none => none
    else none

/-- must operation i come before operation j? -/
def befB (ops : Array Oper) (i : Nat) : Nat → Nat → Bool
  | 0, _ => false
  | k + 1, j => match ops[j]? with
    | some o => o.after.toList.any (fun e => Region.binds .any e && Nat.beq e.on i) || o.after.toList.any (fun e => Region.binds .any e && befB ops i k e.on)
    | none => false

/-- a look into a map, and a place made in one: these may change places -/
def soft1 (a b : Oper) : Bool :=
  match a.op, b.op with
  | .lookup _ _ _ false, .mapEntry _ _ _ => true
  | _, _ => false
/-- a part of a row that stays, or a slot's value: these change nothing but a row's mark -/
def quiet (mt : List TypeId) (o : Oper) : Bool :=
  match o.op with
  | .slice T _ _ _ _ => !(memB mt T) && !(memB mt (T + 2000000))
  | .move _ => true
  | _ => false
def soft2 (mt : List TypeId) (a b : Oper) : Bool := soft1 a b || (quiet mt a && quiet mt b)
def softB (mt : List TypeId) (ops : Array Oper) (i j : Nat) : Bool :=
  match ops[i]?, ops[j]? with
  | some a, some b => soft2 mt a b
  | _, _ => false

def okLog (mt : List TypeId) (ops : Array Oper) (x : Log) : List Log → Bool
  | [] => true
  | y :: r => (apartB x y || (softB mt ops y.i x.i || befB ops y.i 8 x.i)) && okLog mt ops x r

def evalOps (nt : Nat) (dr : Bool) (ops : Array Oper) : List (Oper × Nat) → St → List Log → (St → Option ρ) → Option ρ
  | [], st, _, K => K st
  | (o, i) :: r, st, log, K =>
    match o.guard with
    | none => stepOp c I nt st i o fun st' x => bif !dr || okLog c.moveT ops x log then evalOps nt dr ops r st' (x :: log) K else none
    | some (j, want) => match ((ops[j]?).bind (·.dst)).bind fun dj => (bif Nat.blt dj rootBase then lkp st.σ dj else none).bind fun a => some (dj, a) with
      | some (dj, .one (.v .bool g)) =>
        let go (b : Bool) : Option ρ :=
          let st1 : St := ⟨(dj, .one (.v .bool b)) :: st.σ, st.O⟩
          bif (b == want) then stepOp c I nt st1 i o fun st' x => bif !dr || okLog c.moveT ops x log then evalOps nt dr ops r st' (x :: log) K else none
          else match putS nt o.dst (.tup []) st1.σ with
            | some σ' => evalOps nt dr ops r ⟨σ', st1.O⟩ log K
            | none => none
        ifB g (go true) (go false)
      | some (_, .tup []) => match putS nt o.dst (.tup []) st.σ with
            | some σ' => evalOps nt dr ops r ⟨σ', st.O⟩ log K
            | none => none
      | _ => none

/-! ### a state, brought into one form at a loop's head -/
mutual
def renL (m : Nat → Option Nat) : Lf → Lf
  | .row n => match m n with | some k => .row k | none => .undef
  | .ref n off => match m n with | some k => .ref k off | none => .undef
  | .eref n i off => match m n with | some k => .eref k i off | none => .undef
  | .view n i off => match m n with | some k => .view k i off | none => .undef
  | .clo f cs => .clo f (renLs m cs)
  | .v t x => .v t x
  | .nil e t => .nil e t
  | .pref ls off => .pref (renLs m ls) off
  | .undef => .undef
  | .nilp => .nilp
  | .mp n => match m n with | some k => .mp k | none => .undef
def renLs (m : Nat → Option Nat) : List Lf → List Lf
  | [] => []
  | l :: ls => renL m l :: renLs m ls
end
def renAV (m : Nat → Option Nat) : AV → AV
  | .one l => .one (renL m l)
  | .agg ls => .agg (renLs m ls)
  | .tup vs => .tup (vs.map fun p => (p.1, renLs m p.2))
def renObj (m : Nat → Option Nat) : AObj → AObj
  | .box T ls => .box T (renLs m ls)
  | .row e t xs fz => .row e t xs fz
  | .iter s pos => .iter s pos
  | .mp k e t u l => .mp k e t u l
  | .miter l k s => .miter (renL m l) k s
  | .rows e e' t xss s => .rows e e' t xss s
  | .lrow e hs => .lrow e hs
  | .dead => .dead

def indexIn : List Nat → Nat → Nat → Option Nat
  | [], _, _ => none
  | m :: l, n, k => bif Nat.beq m n then some k else indexIn l n (k + 1)
def newName (ns : List Nat) (n : Nat) : Option Nat := (indexIn ns n 0).bind fun k => some (k * 8 + 7)

def dedup : List Nat → List Nat → List Nat
  | [], _ => []
  | n :: l, seen => bif memB seen n then dedup l seen else n :: dedup l (n :: seen)

def liveNames (O : List (Nat × AObj)) : List Nat → List Nat
  | [] => []
  | n :: l => match lkp O n with
    | some .dead | none => liveNames O l
    | _ => n :: liveNames O l

def keepSlots (m : Nat → Option Nat) (σ : List (Nat × AV)) : List Nat → List (Nat × AV)
  | [] => []
  | s :: r => match lkp σ s with
    | some a => (s, renAV m a) :: keepSlots m σ r
    | none => keepSlots m σ r

def keepObjs (m : Nat → Option Nat) (O : List (Nat × AObj)) : List Nat → Nat → List (Nat × AObj)
  | [], _ => []
  | n :: r, k => match lkp O n with
    | some b => (k * 8 + 7, renObj m b) :: keepObjs m O r (k + 1)
    | none => keepObjs m O r (k + 1)

/-- the names that are kept: those of the slots, and of what these lead to, once each -/
def namesKept (st : St) (ks : List Nat) : List Nat :=
  liveNames st.O (dedup (reach st.O 4 (ks.flatMap fun s => optL (lkp st.σ s) AV.names)) [])

/-- a nil slice in a slot becomes a row of the call's own -/
def ownNil (st : St) : List (Nat × Option Nat) → St
  | [] => st
  | (s, none) :: r => match lkp st.σ s with
    | some (.one (.nil e t)) => let st' := ownNil st r; bif (lkp st'.O (s * 8 + 6)).isNone && Nat.blt (s * 8 + 6) bigName then ⟨(s, .one (.row (s * 8 + 6))) :: st'.σ, (s * 8 + 6, .row e t [] false) :: st'.O⟩ else st'
    | _ => ownNil st r
  | (s, some j) :: r => match lkp st.σ s with
    | some (.one (.ref n 0)) => let st' := ownNil st r; match lkp st'.O n with
      | some (.box T ls) => match ls[j]? with
        | some (.nil e t) => bif (lkp st'.O ((s * 64 + j) * 8 + 5)).isNone && Nat.blt ((s * 64 + j) * 8 + 5) bigName then ⟨st'.σ, (n, .box T (ls.set j (.row ((s * 64 + j) * 8 + 5)))) :: ((s * 64 + j) * 8 + 5, .row e t [] false) :: st'.O⟩ else st'
        | _ => st'
      | _ => st'
    | _ => ownNil st r

def canon (ks : List Nat) (hs : List (Nat × Option Nat)) (st : St) : Option St :=
  let st' := ownNil st hs
  let ns := namesKept st' ks
  bif nodupB ns && Nat.blt (ns.length * 8) bigName && ns.all (fun n => Nat.blt n bigName) then some ⟨keepSlots (newName ns) st'.σ ks, keepObjs (newName ns) st'.O ns 0⟩ else none

def firstRegion : Code → Nat
  | .region id _ _ => id
  | .seq a _ => firstRegion a
  | .block _ b => firstRegion b
  | .loop b => firstRegion b
  | .scope b => firstRegion b
  | _ => 0

/-! ### rows of rows -/
def touchT (rowsT : List TypeId) (o : Oper) : Bool :=
  match o.op with
  | .makeSlice T _ _ => memB rowsT T
  | .indexAddr T _ _ => memB rowsT T
  | .call { callee := .builtin .len, args := _, argTypes := ts } => memB rowsT (ts.toList.headD 0)
  | .call { callee := .value _, args := _, argTypes := ts } => ts.toList.any fun T => memB rowsT T
  | _ => false

/-- which row of rows is lent to a slot? -/
def findLent (d : Nat) : List (Nat × AObj) → Option Nat
  | [] => none
  | (n, .rows _ _ _ _ (.lent d' _)) :: r => bif Nat.beq d' d then some n else findLent d r
  | _ :: r => findLent d r
/-- is nothing lent to the slot? -/
def freeSlot (O : List (Nat × AObj)) (dst : Option Nat) : Bool :=
  O.all fun p => match lkp O p.1, dst with
    | some (.rows _ _ _ _ s), some d => (match s.slotD with
      | some d' => !(Nat.beq d' d)
      | none => true)
    | _, _ => true
def noHole (O : List (Nat × AObj)) : Bool :=
  O.all fun p => match lkp O p.1 with
    | some (.rows _ _ _ _ (.hole _)) => false
    | _ => true
def fullO : AObj → AObj
  | .rows e e' t xss (.lent _ _) => .rows e e' t xss .full
  | .rows e e' t xss (.lentO _ _) => .rows e e' t xss .own
  | .rows e e' t xss (.atO _ _ _) => .rows e e' t xss .own
  | o => o
def fullAll (O : List (Nat × AObj)) : List (Nat × AObj) := O.map fun p => (p.1, fullO p.2)

def plainOp (nt : Nat) (st : St) (o : Oper) (K : St → Option ρ) : Option ρ :=
  bif freeSlot st.O o.dst then opC c I st.σ (lookIn st.O (namesAt st.σ st.O o)) (namesAt st.σ st.O o) (o.dst.getD noSlot) o fun a u =>
    bif updOk st.O (namesAt st.σ st.O o) (o.dst.getD noSlot) u then
      match putS nt o.dst a st.σ with
      | some σ' => K ⟨σ', u ++ st.O⟩
      | none => none
    else none
  else none

def putK (nt : Nat) (st : St) (o : Oper) (a : AV) (O : List (Nat × AObj)) (K : St → Option ρ) : Option ρ :=
  bif freeSlot st.O o.dst then match putS nt o.dst a st.σ with
    | some σ' => K ⟨σ', O⟩
    | none => none
  else none

/-- the rows that a call is handed -/
def rowArgs (σ : List (Nat × AV)) : List Operand → List Nat
  | [] => []
  | .tmp t :: r => match lkp σ t with
    | some (.one (.row n)) => n :: rowArgs σ r
    | _ => rowArgs σ r
  | _ :: r => rowArgs σ r
/-- rows of rows among them, told as rows of values -/
def flatNs (O : List (Nat × AObj)) : List Nat → Upd
  | [] => []
  | n :: ns => match lkp O n with
    | some (.rows e _ t xss .full) => (n, .row e (.sl t) xss false) :: flatNs O ns
    | _ => flatNs O ns

/-- an operation of a region in which rows of rows are touched -/
def specOp0 (nt : Nat) (st : St) (o : Oper) (K : St → Option ρ) : Option ρ :=
  match o.op with
  | .makeSlice T l m => bif memB c.rowsT T then
      (lkp c.te T).bind fun te => match te.d with
        | .slice e => (lkp c.te e).bind fun ee => match ee.d, ee.z with
          | .slice e', [.nil _ t] => bif eltOk c T (.sl t) && eltOk c e t && (lkp st.O (o.dst.getD noSlot * 8)).isNone && Nat.blt (o.dst.getD noSlot * 8) bigName then
              (gv c st.σ l 0).bind fun a => (intOf? a).bind fun n => (gv c st.σ m 0).bind fun b => (intOf? b).bind fun m' =>
              bindD (mkLen n m') fun len => putK nt st o (.one (.row (o.dst.getD noSlot * 8))) ((o.dst.getD noSlot * 8, .rows e e' t (List.replicate len []) .full) :: st.O) K
            else none
          | _, _ => none
        | _ => none
      else plainOp c I nt st o K
  | .indexAddr T x i => match gv c st.σ x 0 with
    | some (.one (.row n)) => match lkp st.O n with
      | some (.rows _ _ t xss _) => bif eltOk c T (.sl t) then (gv c st.σ i 0).bind fun b => (intOf? b).bind fun k => bindD (ixAt xss k) fun _ => putK nt st o (.one (.eref n k 0)) st.O K else none
      | _ => plainOp c I nt st o K
    | _ => plainOp c I nt st o K
  | .load T a => match gv c st.σ a 0 with
    | some (.one (.eref n i 0)) => match lkp st.O n, o.dst with
      | some (.rows e e' t xss .full), some d => (lkp c.te T).bind fun te => bif Nat.beq te.sz 1 && !(aggOf te) then
          bindD (ixAt xss i) fun xs => putK nt st o (.one (.v (.sl t) xs)) ((n, .rows e e' t xss (.lent d i)) :: st.O) K else none
      | some (.rows _ _ _ _ _), _ => none
      | _, _ => plainOp c I nt st o K
    | _ => plainOp c I nt st o K
  | .store T a x => match gv c st.σ a 0 with
    | some (.one (.eref n i 0)) => match lkp st.O n with
      | some (.rows e e' t xss (.hole j)) => match gv c st.σ x T with
        | some (.one (.row m)) => match lkp st.O m with
          | some (.row e2 t2 xs2 true) => (lkp c.te T).bind fun te => bif Nat.beq te.sz 1 && Nat.beq e2 e' && !(Nat.beq m n) && o.dst.isNone then
              (castV (.sl t2) (.sl t) xs2).bind fun zs => ifB (decide (i = j)) (K ⟨st.σ, (n, .rows e e' t (setRow xss i zs) .full) :: (m, .dead) :: st.O⟩) none else none
          | _ => none
        | _ => none
      | some (.rows _ _ _ _ _) => none
      | _ => plainOp c I nt st o K
    | _ => plainOp c I nt st o K
  | .call { callee := .builtin .append, args := as, argTypes := ts } => match as.toList, ts.toList with
    | [.tmp d0, y], [T, U] => match findLent d0 st.O with
      | some n => match lkp st.O n with
        | some (.rows e e' t xss (.lent d1 i)) => (gv c st.σ y U).bind fun b => (one? b).bind fun l => (lkp c.te T).bind fun te => match te.d with
          | .slice e2 => bif Nat.beq d1 d0 && Nat.beq e2 e' && (slOk c U || strOk c U) && (lkp st.O (o.dst.getD noSlot * 8)).isNone && Nat.blt (o.dst.getD noSlot * 8) bigName then
              (rowsOf (lookIn st.O l.names) l).bind fun ys => bif eltOk c T ys.1 then (castV (.sl ys.1) (.sl t) ys.2).bind fun zs => bindD (ixAt xss i) fun xs => bindD (Go.Proofs.R.grow (xs.length + zs.length)) fun _ =>
                putK nt st o (.one (.row (o.dst.getD noSlot * 8))) ((n, .rows e e' t xss (.hole i)) :: (o.dst.getD noSlot * 8, .row e' t (xs ++ zs) true) :: st.O) K else none
            else none
          | _ => none
        | _ => none
      | none => plainOp c I nt st o K
    | _, _ => plainOp c I nt st o K
  | .call { callee := .builtin .len, args := as, argTypes := ts } => match as.toList, ts.toList with
    | [x], [T] => match gv c st.σ x T with
      | some (.one (.row n)) => match lkp st.O n with
        | some (.rows _ _ _ xss _) => bif slOk c T then putK nt st o (.one (.v (.int .i64) (xss.length : Int))) st.O K else none
        | _ => plainOp c I nt st o K
      | _ => plainOp c I nt st o K
    | _, _ => plainOp c I nt st o K
  | .call { callee := .value _, args := as, argTypes := _ } => plainOp c I nt ⟨st.σ, flatNs st.O (rowArgs st.σ as.toList) ++ st.O⟩ o K
  | _ => plainOp c I nt st o K

/-! ### tables: rows of rows that are written in place -/
inductive TabK where
  | make (T : TypeId) (l m : Operand)
  | load (n : Nat) (i : Int) (T : TypeId)
  | index (n : Nat) (T : TypeId) (x : Operand)
  | get (n : Nat) (T : TypeId)
  | put (n : Nat) (T : TypeId) (x : Operand)
  | row (n : Nat) (i : Int) (T : TypeId) (x : Operand)
/-- which table has lent to the slot? -/
def findO (d : Nat) : List (Nat × AObj) → Option Nat
  | [] => none
  | (n, .rows _ _ _ _ (.lentO d' _)) :: r => bif Nat.beq d' d then some n else findO d r
  | (n, .rows _ _ _ _ (.atO d' _ _)) :: r => bif Nat.beq d' d then some n else findO d r
  | _ :: r => findO d r
def slotOf : Operand → Nat
  | .tmp d => d
  | _ => noSlot
def tabOf (st : St) (o : Oper) : Option TabK :=
  match o.op with
  | .makeSlice T l m => bif memB c.rowsT (T + 1000000) then some (.make T l m) else none
  | .load T a => match gv c st.σ a 0 with
    | some (.one (.eref n i 0)) => match lkp st.O n with
      | some (.rows _ _ _ _ .own) => some (.load n i T)
      | _ => none
    | some (.one .undef) => (findO (slotOf a) st.O).bind fun n => some (.get n T)
    | _ => none
  | .indexAddr T a x => match gv c st.σ a 0 with
    | some (.one .undef) => (findO (slotOf a) st.O).bind fun n => some (.index n T x)
    | _ => none
  | .store T a x => match gv c st.σ a 0 with
    | some (.one (.eref n i 0)) => match lkp st.O n with
      | some (.rows _ _ _ _ .own) => some (.row n i T x)
      | _ => none
    | some (.one .undef) => (findO (slotOf a) st.O).bind fun n => some (.put n T x)
    | _ => none
  | _ => none
/-- the operand that a table's step looks at -/
def tabArg (o : Oper) : Nat := match o.op with
  | .load _ a | .indexAddr _ a _ | .store _ a _ => slotOf a
  | _ => noSlot
def tabStep (nt : Nat) (st : St) (o : Oper) (K : St → Option ρ) : TabK → Option ρ
  | .make T l m => (lkp c.te T).bind fun te => match te.d with
    | .slice e => (lkp c.te e).bind fun ee => match ee.d, ee.z with
      | .slice e', [.nil _ t] => bif eltOk c T (.sl t) && eltOk c e t && (lkp st.O (o.dst.getD noSlot * 8)).isNone && Nat.blt (o.dst.getD noSlot * 8) bigName then
          (gv c st.σ l 0).bind fun a => (intOf? a).bind fun n => (gv c st.σ m 0).bind fun b => (intOf? b).bind fun m' =>
          bindD (mkLen n m') fun len => putK nt st o (.one (.row (o.dst.getD noSlot * 8))) ((o.dst.getD noSlot * 8, .rows e e' t (List.replicate len []) .own) :: st.O) K
        else none
      | _, _ => none
    | _ => none
  | .load n i T => match lkp st.O n, o.dst with
    | some (.rows e e' t xss .own), some d => (lkp c.te T).bind fun te => bif Nat.beq te.sz 1 && !(aggOf te) then
        bindD (ixAt xss i) fun _ => putK nt st o (.one .undef) ((n, .rows e e' t xss (.lentO d i)) :: st.O) K else none
    | _, _ => none
  | .index n T x => match lkp st.O n, o.dst with
    | some (.rows e e' t xss (.lentO d0 i)), some d => bif Nat.beq d0 (tabArg o) && eltOk c T t then
        (gv c st.σ x 0).bind fun b => (intOf? b).bind fun k => bindD (ixAt xss i) fun xs => bindD (ixAt xs k) fun _ => putK nt st o (.one .undef) ((n, .rows e e' t xss (.atO d i k)) :: st.O) K else none
    | _, _ => none
  | .get n T => match lkp st.O n with
    | some (.rows e e' t xss (.atO d0 i k)) => (lkp c.te T).bind fun te => bif Nat.beq d0 (tabArg o) && scal t && Nat.beq te.sz 1 && !(aggOf te) then
        bindD (ixAt xss i) fun xs => bindD (ixAt xs k) fun x => putK nt st o (.one (.v t x)) ((n, .rows e e' t xss .own) :: st.O) K else none
    | _ => none
  | .put n T y => match lkp st.O n, gv c st.σ y T with
    | some (.rows e e' t xss (.atO d0 i k)), some (.one (.v t2 x)) => (lkp c.te T).bind fun te => bif Nat.beq d0 (tabArg o) && scal t && Nat.beq te.sz 1 && o.dst.isNone then
        (castV t2 t x).bind fun z => bindD (ixAt xss i) fun xs => bindD (ixAt xs k) fun _ => K ⟨st.σ, (n, .rows e e' t (setRow xss i (setRow xs k z)) .own) :: st.O⟩ else none
    | _, _ => none
  | .row n i T y => match lkp st.O n, gv c st.σ y T with
    | some (.rows e e' t xss .own), some (.one (.row m)) => match lkp st.O m with
      | some (.row e2 t2 xs2 false) => (lkp c.te T).bind fun te => bif Nat.beq te.sz 1 && Nat.beq e2 e' && !(Nat.beq m n) && o.dst.isNone then
          (castV (.sl t2) (.sl t) xs2).bind fun zs => bindD (ixAt xss i) fun _ => K ⟨st.σ, (n, .rows e e' t (setRow xss i zs) .own) :: (m, .dead) :: st.O⟩ else none
      | _ => none
    | _, _ => none
/-- what a table's step reads and writes -/
def tabLog (st : St) (o : Oper) : TabK → List Nat × List Nat
  | .make _ _ _ => ([], [o.dst.getD noSlot * 8])
  | .load n _ _ | .index n _ _ | .get n _ | .put n _ _ => ([n], [n])
  | .row n _ T y => match gv c st.σ y T with
    | some (.one (.row m)) => ([n, m], [n, m])
    | _ => ([n], [n])

/-- one operation of a region that works on rows of rows -/
def specOp (nt : Nat) (st : St) (o : Oper) (K : St → Option ρ) : Option ρ :=
  match tabOf c st o with
  | some k => tabStep c nt st o K k
  | none => specOp0 c I nt st o K

def skipK (nt : Nat) (st : St) (o : Oper) (K : St → Option ρ) : Option ρ :=
  bif freeSlot st.O o.dst then match putS nt o.dst (.tup []) st.σ with
    | some σ' => K ⟨σ', st.O⟩
    | none => none
  else none

def evalSpec (nt : Nat) (ops : Array Oper) : List Oper → St → (St → Option ρ) → Option ρ
  | [], st, K => bif noHole st.O then K ⟨st.σ, fullAll st.O⟩ else none
  | o :: r, st, K => match o.guard with
    | none => specOp c I nt st o fun st' => evalSpec nt ops r st' K
    | some (j, want) => match ((ops[j]?).bind (·.dst)).bind fun dj => (bif Nat.blt dj rootBase then lkp st.σ dj else none).bind fun a => some (dj, a) with
      | some (dj, .one (.v .bool g)) =>
        let go (b : Bool) : Option ρ :=
          let st1 : St := ⟨(dj, .one (.v .bool b)) :: st.σ, st.O⟩
          bif (b == want) then specOp c I nt st1 o fun st' => evalSpec nt ops r st' K
          else skipK nt st1 o fun st' => evalSpec nt ops r st' K
        ifB g (go true) (go false)
      | some (_, .tup []) => skipK nt st o fun st' => evalSpec nt ops r st' K
      | _ => none

/-- the rows of rows -/
def rowNs (O : List (Nat × AObj)) : List Nat := (O.map (·.1)).filter fun n => match lkp O n with
  | some (.rows _ _ _ _ _) => true
  | _ => false
/-- does the operation work on a row of rows? what it reads and writes -/
def specLog0 (st : St) (o : Oper) : Option (List Nat × List Nat) :=
  match o.op with
  | .makeSlice T _ _ => bif memB c.rowsT T then some ([], [o.dst.getD noSlot * 8]) else none
  | .indexAddr _ x _ => match gv c st.σ x 0 with
    | some (.one (.row n)) => match lkp st.O n with
      | some (.rows _ _ _ _ _) => some ([n], [])
      | _ => none
    | _ => none
  | .load _ a => match gv c st.σ a 0 with
    | some (.one (.eref n _ 0)) => match lkp st.O n with
      | some (.rows _ _ _ _ _) => some ([n], [n])
      | _ => none
    | _ => none
  | .store T a x => match gv c st.σ a 0 with
    | some (.one (.eref n _ 0)) => match lkp st.O n with
      | some (.rows _ _ _ _ _) => match gv c st.σ x T with
        | some (.one (.row m)) => some ([n, m], [n, m])
        | _ => none
      | _ => none
    | _ => none
  | .call { callee := .builtin .append, args := as, argTypes := ts } => match as.toList, ts.toList with
    | [.tmp d0, y], [_, U] => match findLent d0 st.O with
      | some n => match gv c st.σ y U with
        | some (.one l) => some (n :: l.names, [n, o.dst.getD noSlot * 8])
        | _ => none
      | none => none
    | _, _ => none
  | .call { callee := .builtin .len, args := as, argTypes := ts } => match as.toList, ts.toList with
    | [x], [T] => match gv c st.σ x T with
      | some (.one (.row n)) => match lkp st.O n with
        | some (.rows _ _ _ _ _) => some ([n], [])
        | _ => none
      | _ => none
    | _, _ => none
  | _ => none
def specLog (st : St) (o : Oper) : Option (List Nat × List Nat) :=
  match tabOf c st o with
  | some k => some (tabLog c st o k)
  | none => specLog0 c st o
/-- one operation of a region that draws its order, and what it read and wrote -/
def stepD (nt : Nat) (RN : List Nat) (st : St) (i : Nat) (o : Oper) (K : St → Log → Option ρ) : Option ρ :=
  match specLog c st o with
  | some l => specOp c I nt st o fun st' => K st' ⟨i, l.1, l.2⟩
  | none => bif freeSlot st.O o.dst then stepOp c I nt st i o fun st' x => K st' ⟨x.i, x.ns.filter fun n => !memB RN n, x.ws⟩ else none
def okLogD (ops : Array Oper) (x : Log) : List Log → Bool
  | [] => true
  | y :: r => (apartB x y || befB ops y.i 8 x.i) && okLogD ops x r
def evalDraw (nt : Nat) (RN : List Nat) (ops : Array Oper) : List (Oper × Nat) → St → List Log → (St → Option ρ) → Option ρ
  | [], st, _, K => bif noHole st.O then K ⟨st.σ, fullAll st.O⟩ else none
  | (o, i) :: r, st, log, K => match o.guard with
    | none => stepD c I nt RN st i o fun st' x => bif okLogD ops x log then evalDraw nt RN ops r st' (x :: log) K else none
    | some (j, want) => match ((ops[j]?).bind (·.dst)).bind fun dj => (bif Nat.blt dj rootBase then lkp st.σ dj else none).bind fun a => some (dj, a) with
      | some (dj, .one (.v .bool g)) =>
        let go (b : Bool) : Option ρ :=
          let st1 : St := ⟨(dj, .one (.v .bool b)) :: st.σ, st.O⟩
          bif (b == want) then stepD c I nt RN st1 i o fun st' x => bif okLogD ops x log then evalDraw nt RN ops r st' (x :: log) K else none
          else skipK nt st1 o fun st' => evalDraw nt RN ops r st' (⟨i, [], []⟩ :: log) K
        ifB g (go true) (go false)
      | some (_, .tup []) => skipK nt st o fun st' => evalDraw nt RN ops r st' (⟨i, [], []⟩ :: log) K
      | _ => none

def hasRows (O : List (Nat × AObj)) : Bool := O.any fun p => match p.2 with
  | .rows _ _ _ _ _ => true
  | _ => false
def makesT (rowsT : List TypeId) (o : Oper) : Bool :=
  match o.op with
  | .makeSlice T _ _ => memB rowsT T
  | _ => false

/-- does the region begin with a walk's step: the walk, the slot, what comes behind -/
def headNext (ops : Array Oper) (draw : Bool) : Option (Operand × Option Nat × List (Oper × Nat)) :=
  match draw, ops.toList.zipIdx with
  | false, (o, _) :: r => match o.guard, o.op with
    | none, .next it false => some (it, o.dst, r)
    | _, _ => none
  | _, _ => none

/-- a walk's step: any entry that has not come yet -/
def nextMap (nt : Nat) (st : St) (it : Operand) (dst : Option Nat) (K : St → Option ρ) : Option ρ :=
  match gv c st.σ it 0 with
  | some (.one (.ref n 0)) => match lkp st.O n with
    | some (.miter (.mp m) k seen) => match lkp st.O m with
      | some (.mp _ _ t u l) => bif plainK t && scal u then eachB l k seen (match putS nt dst (.tup [(false, [.v .bool false])]) st.σ with
          | some σ' => K ⟨σ', st.O⟩
          | none => none) fun j x => match putS nt dst (.tup [(false, [.v .bool true]), (aggT t, leaves t x.1), (false, [.v u x.2])]) st.σ with
          | some σ' => K ⟨σ', (n, .miter (.mp m) k (seenAdd seen j)) :: st.O⟩
          | none => none
        else none
      | _ => none
    | _ => none
  | _ => none

def evalPlain (nt : Nat) (ops : Array Oper) (draw : Bool) (st : St) (K : Ex → St → Option ρ) : Option ρ :=
  match headNext ops draw with
  | some (it, dst, r) => nextMap c nt st it dst fun st' => evalOps c I nt false ops r st' [] fun st' => K .normal st'
  | none => bif ops.toList.any (makesT c.rowsT) || (hasRows st.O && ops.toList.any (touchT c.rowsT)) then
      bif draw then evalDraw c I nt (rowNs st.O) ops ops.toList.zipIdx st [] fun st' => K .normal st' else evalSpec c I nt ops ops.toList st fun st' => K .normal st'
    else evalOps c I nt draw ops ops.toList.zipIdx st [] fun st' => K .normal st'

/-- a region: told by hand, or by its operations -/
def evalRegion (nt : Nat) (ops : Array Oper) (draw : Bool) (st : St) (K : Ex → St → Option ρ) : Option ρ :=
  match c.mac ops with
  | some m => match m nt st with
    | some st' => K .normal st'
    | none => none
  | none => evalPlain c I nt ops draw st K

/-- what comes behind, by how the code before ends -/
def seqK (b : St → Option ρ) (K : Ex → St → Option ρ) (ex : Ex) (st : St) : Option ρ :=
  match ex with
  | .normal => b st
  | e => K e st
def blockK (id : Nat) (K : Ex → St → Option ρ) (ex : Ex) (st : St) : Option ρ :=
  match ex with
  | .exit i => bif Nat.beq i id then K .normal st else K (.exit i) st
  | e => K e st
def toLoop (f : Nat) (body : Code) (K : Ex → St → Option ρ) (st : St) : Option ρ :=
  match c.keep f (firstRegion body) with
  | some (ks, hs) => match canon ks hs st with
    | some st' => I.loop f body st' K
    | none => none
  | none => none
def loopK (f : Nat) (body : Code) (K : Ex → St → Option ρ) (ex : Ex) (st : St) : Option ρ :=
  match ex with
  | .normal => toLoop c I f body K st
  | e => K e st

def evalC (f nt : Nat) : Code → St → (Ex → St → Option ρ) → Option ρ
  | .skip, st, K => K .normal st
  | .label _, st, K => K .normal st
  | .region id ops draw, st, K => match c.joins f id with
    | some (ks, hs) => match canon ks hs st with
      | some st' => I.join f (.region id ops draw) st' K
      | none => none
    | none => evalRegion c I nt ops draw st K
  | .seq a b, st, K => evalC f nt a st (seqK (fun st' => evalC f nt b st' K) K)
  | .cond x t e, st, K => match gv c st.σ x 0 with
    | some (.one (.v .bool g)) => ifB g (evalC f nt t st K) (evalC f nt e st K)
    | _ => none
  | .block id body, st, K => evalC f nt body st (blockK id K)
  | .loop body, st, K => toLoop c I f body K st
  | .exit id, st, K => K (.exit id) st
  | .ret, st, K => K .ret st
  | _, _, _ => none

/-- the place of a loop (or of a region) in code: its code, and what comes behind it -/
def placeIn (f nt : Nat) (r : Nat) (isLoop : Bool) : Code → (Ex → St → Option ρ) → Option (Code × (Ex → St → Option ρ))
  | .region id ops draw, K => bif !isLoop && Nat.beq id r then some (.region id ops draw, K) else none
  | .seq a b, K => match placeIn f nt r isLoop a (seqK (fun st' => evalC c I f nt b st' K) K) with
    | some p => some p
    | none => placeIn f nt r isLoop b K
  | .cond _ t e, K => match placeIn f nt r isLoop t K with
    | some p => some p
    | none => placeIn f nt r isLoop e K
  | .block id body, K => placeIn f nt r isLoop body (blockK id K)
  | .loop body, K => bif isLoop && Nat.beq (firstRegion body) r then some (body, K) else placeIn f nt r isLoop body (loopK c I f body K)
  | _, _ => none

def initSlots : List AV → Nat → List (Nat × AV)
  | [], _ => []
  | a :: as, i => (i, a) :: initSlots as (i + 1)

def retLeafs (c : Ctx) (st : St) : List ResultVar → Option (List AV)
  | [] => some []
  | .tmp t :: r => (bif Nat.blt t rootBase then lkp st.σ t else none).bind fun a => (retLeafs c st r).bind fun as => some (a :: as)
  | .cell s T :: r =>
    match (bif Nat.blt s rootBase then lkp st.σ s else none) with
    | some (.one (.ref n off)) =>
      match lkp st.O n with
      | some (.box _ ls) => (lkp c.te T).bind fun te => (subCells ls off te.sz).bind fun q => (valOf te q).bind fun a => (retLeafs c st r).bind fun as => some (a :: as)
      | _ => none
    | _ => none

def fitRet : RetD → List AV → Bool
  | [], [] => true
  | (true, rs) :: d, .agg ls :: as => Nat.beq rs.length ls.length && fitRet d as
  | (false, rs) :: d, .one _ :: as => Nat.beq rs.length 1 && fitRet d as
  | _, _ => false

/-- the results of a call, told as its type says -/
def packRet (c : Ctx) (d : RetD) (rv : List ResultVar) (st : St) : Option (HV (rsTys (d.flatMap (·.2)))) :=
  (retLeafs c st rv).bind fun as =>
    bif as.all (fun a => a.leafs?.isSome) && fitRet d as && nodupB (freshNames (d.flatMap (·.2)) (as.flatMap AV.leafs)) &&
        disjB (reach st.O 4 (roNames (d.flatMap (·.2)) (as.flatMap AV.leafs))) (freshNames (d.flatMap (·.2)) (as.flatMap AV.leafs))
      then packL (lkp st.O) ((d.flatMap (·.2)).any RS.shares) (d.flatMap (·.2)) (as.flatMap AV.leafs) else none

/-- the same, with what the caller's variables hold -/
def packRetS (c : Ctx) (sh : List BoxS) (d : RetD) (rv : List ResultVar) (st : St) : Option (HV (rsTys (d.flatMap (·.2)))) :=
  (retLeafs c st rv).bind fun as0 => (rootNs st.σ sh.length 0).bind fun bs => (endBs (lkp st.O) bs sh bs).bind fun cl =>
    bif (as0 ++ [AV.agg cl]).all (fun a => a.leafs?.isSome) && fitRet d (as0 ++ [AV.agg cl]) && nodupB (freshNames (d.flatMap (·.2)) ((as0 ++ [AV.agg cl]).flatMap AV.leafs)) &&
        disjB (reach st.O 4 (roNames (d.flatMap (·.2)) ((as0 ++ [AV.agg cl]).flatMap AV.leafs))) (freshNames (d.flatMap (·.2)) ((as0 ++ [AV.agg cl]).flatMap AV.leafs))
      then packL (lkp st.O) true (d.flatMap (·.2)) ((as0 ++ [AV.agg cl]).flatMap AV.leafs) else none

def plainOf : AObj → AObj
  | .rows e _ t xss .full => .row e (.sl t) xss false
  | .rows _ _ _ _ .own => .dead
  | o => o
/-- rows of rows, told as rows of values -/
def plainSt (st : St) : St := ⟨st.σ, st.O.map fun p => (p.1, plainOf p.2)⟩

def endK (f : Nat) (fn : Func) (ex : Ex) (st : St) : Option (HV (rsTys ((c.ret f).flatMap (·.2)))) :=
  match ex with
  | .exit _ => none
  | _ => match c.shape f with
    | some sh => packRetS c sh (c.ret f) fn.results.toList (plainSt st)
    | none => packRet c (c.ret f) fn.results.toList (plainSt st)

def stepCall (f : FuncId) (args : List AV) : Option (HV (rsTys ((c.ret f).flatMap (·.2)))) :=
  match c.given f with
  | some g => g.run args (castHV _)
  | none => match lkp c.fn f with
    | some fn => match fn.body with
      | some body => match c.shape f with
        | some sh => bif Nat.ble sh.length args.length && Nat.ble (args.length - sh.length) fn.ntmps && Nat.ble fn.ntmps rootBase then (decBs sh (args.drop (args.length - sh.length)) 0 sh.length).bind fun O => bif O.all (fun p => plainN p.2 && Nat.blt p.1 bigName) then
            evalC c I f fn.ntmps body ⟨initSlots (args.take (args.length - sh.length)) 0 ++ rootSlots sh.length 0, O⟩ (endK c f fn) else none else none
        | none => bif Nat.ble args.length fn.ntmps && Nat.ble fn.ntmps rootBase then evalC c I f fn.ntmps body ⟨initSlots args 0, []⟩ (endK c f fn) else none
      | none => none
    | none => none
def stepLoop (f : FuncId) (body : Code) (st : St) (K : Ex → St → Option ρ) : Option ρ :=
  match lkp c.fn f with
  | some fn => evalC c I f fn.ntmps body st (loopK c I f body K)
  | none => none
def stepJoin (f : FuncId) (code : Code) (st : St) (K : Ex → St → Option ρ) : Option ρ :=
  match lkp c.fn f with
  | some fn => match code with
    | .region _ ops draw => evalRegion c I fn.ntmps ops draw st K
    | _ => none
  | none => none
def stepI : Interp c where
  call := stepCall c I
  loop := stepLoop c I
  join := stepJoin c I

/-- a loop of a function, from a state on, to the call's end -/
def loopAt (f r : Nat) (st : St) : Option (HV (rsTys ((c.ret f).flatMap (·.2)))) :=
  match lkp c.fn f with
  | some fn => match fn.body with
    | some body => match placeIn c I f fn.ntmps r true body (endK c f fn) with
      | some p => I.loop f p.1 st p.2
      | none => none
    | none => none
  | none => none
def loopAtS (f r : Nat) (st : St) : Option (HV (rsTys ((c.ret f).flatMap (·.2)))) :=
  match lkp c.fn f with
  | some fn => match fn.body with
    | some body => match placeIn c I f fn.ntmps r true body (endK c f fn) with
      | some p => stepLoop c I f p.1 st p.2
      | none => none
    | none => none
  | none => none
def noI : Interp c where
  call _ _ := none
  loop _ _ _ _ := none
  join _ _ _ _ := none

def E : Nat → Interp c
  | 0 => noI c
  | n + 1 => stepI c (E n)
end
end
end Go.Proofs.R

/- What is told with a continuation is what is told without one, and then the continuation. -/
namespace Go.Proofs.R
open Go

theorem nat_bind {α β γ : Type} (o : Option α) (f : α → Option γ) (f' : α → Option β) (g : β → Option γ) (h : ∀ a, f a = (f' a).bind g) : o.bind f = (o.bind f').bind g := by
  cases o with
  | none => rfl
  | some a => exact h a
theorem nat_bindD {α β γ : Type} (o : Option α) (f : α → Option γ) (f' : α → Option β) (g : β → Option γ) (h : ∀ a, f a = (f' a).bind g) : bindD o f = (bindD o f').bind g := nat_bind o f f' g h
theorem nat_cond {β γ : Type} (b : Bool) (x y : Option γ) (x' y' : Option β) (g : β → Option γ) (h1 : x = x'.bind g) (h2 : y = y'.bind g) : (bif b then x else y) = (bif b then x' else y').bind g := by
  cases b <;> assumption
theorem nat_ite {β γ : Type} (p : Prop) [Decidable p] (x y : Option γ) (x' y' : Option β) (g : β → Option γ) (h1 : x = x'.bind g) (h2 : y = y'.bind g) : (if p then x else y) = (if p then x' else y').bind g := by
  split <;> assumption
theorem nat_ifB {β γ : Type} (b : Bool) (x y : Option γ) (x' y' : Option β) (g : β → Option γ) (h1 : x = x'.bind g) (h2 : y = y'.bind g) : ifB b x y = (ifB b x' y').bind g := nat_cond b x y x' y' g h1 h2

theorem SortRes.to {α : Type} {st : Bool} {cf cf' : α → α → Int} {xs r : List α} (h : SortRes st cf xs r) (he : ∀ x ∈ xs, ∀ y ∈ xs, cf x y = cf' x y) : SortRes st cf' xs r := by
  have hm : ∀ x ∈ r, x ∈ xs := fun x hx => h.perm.mem_iff.1 hx
  refine ⟨h.perm, h.asc.imp_of_mem fun ha hb hn => by rw [← he _ (hm _ hb) _ (hm _ ha)]; exact hn, fun hs x hx => ?_⟩
  have e : ∀ z ∈ xs, eqvB cf' x z = eqvB cf x z := fun z hz => by unfold eqvB; rw [he x hx z hz, he z hz x hx]
  rw [List.filter_congr (fun z hz => e z (hm z hz)), List.filter_congr e]
  exact h.stab hs x hx
theorem SortsTo.uniq {α : Type} {st : Bool} {cmp : α → α → Option Int} {xs r r' : List α} (h : SortsTo st cmp xs r) (h' : SortsTo st cmp xs r') : r' = r := by
  obtain ⟨cf, h1, _, h3, h4⟩ := h
  obtain ⟨cf', g1, _, g3, _⟩ := h'
  exact h4 r' (g3.to fun x hx y hy => by
    have := (h1 x hx y hy).symm.trans (g1 x hx y hy)
    exact (Option.some.inj this).symm)
theorem sortB_some {α : Type} {st : Bool} {cmp : α → α → Option Int} {xs r : List α} : sortB st cmp xs = some r ↔ SortsTo st cmp xs r := by
  unfold sortB
  by_cases h : ∃ r, SortsTo st cmp xs r
  · rw [dif_pos h]
    constructor
    · intro e; cases e; exact h.choose_spec
    · intro hr; rw [hr.uniq h.choose_spec]
  · rw [dif_neg h]
    exact ⟨fun e => (by cases e), fun hr => (h ⟨r, hr⟩).elim⟩

theorem eachB_some {α ρ : Type} {xs : List α} {k : Nat} {seen : List Nat} {done : Option ρ} {f : Nat → α → Option ρ} {r : ρ} :
    eachB xs k seen done f = some r ↔ xs.length = k ∧ ((∃ j, j < k ∧ j ∉ seen) → ∀ j x, xs[j]? = some x → j ∉ seen → f j x = some r) ∧ ((¬ ∃ j, j < k ∧ j ∉ seen) → done = some r) := by
  unfold eachB
  by_cases hl : xs.length = k
  · rw [if_pos hl]
    by_cases he : ∃ j, j < k ∧ j ∉ seen
    · rw [if_pos he]
      by_cases h : ∃ r, ∀ j x, xs[j]? = some x → j ∉ seen → f j x = some r
      · rw [dif_pos h]
        constructor
        · intro e; cases e; exact ⟨hl, fun _ => h.choose_spec, fun hn => (hn he).elim⟩
        · rintro ⟨_, hr, _⟩
          obtain ⟨j, hj, hs⟩ := he
          have hx : xs[j]? = some (xs[j]'(by omega)) := List.getElem?_eq_getElem (by omega)
          have h1 := h.choose_spec j _ hx hs
          have h2 := hr ⟨j, hj, hs⟩ j _ hx hs
          rw [h1] at h2; exact h2
      · rw [dif_neg h]
        constructor
        · intro e; cases e
        · rintro ⟨_, hr, _⟩; exact (h ⟨r, hr he⟩).elim
    · rw [if_neg he]
      exact ⟨fun e => ⟨hl, fun h => (he h).elim, fun _ => e⟩, fun e => e.2.2 he⟩
  · rw [if_neg hl]
    constructor
    · intro e; cases e
    · rintro ⟨h, _⟩; exact (hl h).elim

section
variable {ρ : Type} (c : Ctx) (I : Interp c)

theorem intBin_nat (op : BinOp) (k : IntKind) (m n : Int) (K : Lf → Option ρ) : intBin op k m n K = (intBin op k m n some).bind K := by
  unfold intBin
  split <;> first | rfl | exact nat_cond _ _ _ _ _ _ rfl rfl | exact nat_ifB _ _ _ _ _ _ rfl rfl
theorem strBin_nat (op : BinOp) (x y : ByteArray) (K : Lf → Option ρ) : strBin op x y K = (strBin op x y some).bind K := by
  unfold strBin
  split <;> first | rfl | exact nat_bindD _ _ _ _ (fun _ => rfl)
theorem binL_nat (op : BinOp) (T : TypeId) (a b : AV) (K : Lf → Option ρ) : binL c op T a b K = (binL c op T a b some).bind K := by
  unfold binL
  split
  · split
    · exact nat_ifB _ _ _ _ _ _ rfl rfl
    · exact nat_ifB _ _ _ _ _ _ rfl rfl
    · exact nat_ite _ _ _ _ _ _ (intBin_nat _ _ _ _ _) rfl
  · exact strBin_nat _ _ _ _
  · split <;> first | rfl | exact nat_bind _ _ _ _ (fun _ => rfl)
theorem unL_nat (op : UnOp) (a : AV) (K : Lf → Option ρ) : unL op a K = (unL op a some).bind K := by
  unfold unL
  split <;> rfl

/-- a result with its changes -/
abbrev Two := AV × Upd
def two (a : AV) (u : Upd) : Option Two := some (a, u)

theorem loadOp_nat (lk : Nat → Option AObj) (te : TE) (a : Lf) (K : AV → Upd → Option ρ) : loadOp lk te a K = (loadOp lk te a two).bind fun p => K p.1 p.2 := by
  unfold loadOp
  split
  · split
    · exact nat_bind _ _ _ _ fun _ => nat_bind _ _ _ _ fun _ => rfl
    · rfl
  · exact nat_bind _ _ _ _ fun _ => nat_bind _ _ _ _ fun _ => rfl
  · split
    · exact nat_bindD _ _ _ _ fun _ => nat_bind _ _ _ _ fun _ => nat_bind _ _ _ _ fun _ => rfl
    · exact nat_bind _ _ _ _ fun _ => nat_cond _ _ _ _ _ _ (nat_bindD _ _ _ _ fun _ => nat_bind _ _ _ _ fun _ => rfl) rfl
    · rfl
  · rfl
theorem storeOp_nat (lk : Nat → Option AObj) (te : TE) (a : Lf) (x : AV) (K : Upd → Option ρ) : storeOp lk te a x K = (storeOp lk te a x some).bind K := by
  unfold storeOp
  split
  · split
    · exact nat_bind _ _ _ _ fun _ => nat_cond _ _ _ _ _ _ (nat_bind _ _ _ _ fun _ => rfl) rfl
    · rfl
  · split
    · refine nat_bindD _ _ _ _ fun _ => nat_bind _ _ _ _ fun _ => nat_bind _ _ _ _ fun _ => nat_cond _ _ _ _ _ _ (nat_bind _ _ _ _ fun _ => nat_bind _ _ _ _ fun _ => ?_) rfl
      split <;> rfl
    · refine nat_bind _ _ _ _ fun _ => nat_cond _ _ _ _ _ _ (nat_bind _ _ _ _ fun _ => nat_bind _ _ _ _ fun _ => ?_) rfl
      split
      · exact nat_bindD _ _ _ _ fun _ => rfl
      · rfl
    · rfl
  · rfl
theorem sliceOp_nat (lk : Nat → Option AObj) (T : TypeId) (x : Lf) (lo hi : Option AV) (K : AV → Upd → Option ρ) : sliceOp c lk T x lo hi K = (sliceOp c lk T x lo hi two).bind fun p => K p.1 p.2 := by
  unfold sliceOp
  split
  · exact nat_cond _ _ _ _ _ _ (nat_bind _ _ _ _ fun _ => nat_bind _ _ _ _ fun _ => nat_bindD _ _ _ _ fun _ => rfl) rfl
  · exact nat_cond _ _ _ _ _ _ (nat_bind _ _ _ _ fun _ => nat_bind _ _ _ _ fun _ => nat_bindD _ _ _ _ fun _ => rfl) rfl
  · split
    · exact nat_cond _ _ _ _ _ _ (nat_bind _ _ _ _ fun _ => nat_bind _ _ _ _ fun _ => nat_bindD _ _ _ _ fun _ => nat_cond _ _ _ _ _ _ rfl rfl) rfl
    · rfl
  · rfl
theorem moveOp_nat (lk : Nat → Option AObj) (d : Nat) (T : TypeId) (x : Lf) (lo hi : Option AV) (K : AV → Upd → Option ρ) : moveOp c lk d T x lo hi K = (moveOp c lk d T x lo hi two).bind fun p => K p.1 p.2 := by
  unfold moveOp
  split
  · split
    · exact nat_cond _ _ _ _ _ _ (nat_bind _ _ _ _ fun _ => nat_bind _ _ _ _ fun _ => nat_bindD _ _ _ _ fun _ => rfl) rfl
    · exact sliceOp_nat _ _ _ _ _ _ _
  · exact sliceOp_nat _ _ _ _ _ _ _
theorem indexAddrOp_nat (lk : Nat → Option AObj) (T : TypeId) (x : Lf) (i : Int) (K : AV → Upd → Option ρ) : indexAddrOp c lk T x i K = (indexAddrOp c lk T x i two).bind fun p => K p.1 p.2 := by
  unfold indexAddrOp
  split
  · exact nat_cond _ _ _ _ _ _ (nat_bindD _ _ _ _ fun _ => rfl) rfl
  · split
    · exact nat_cond _ _ _ _ _ _ (nat_bindD _ _ _ _ fun _ => rfl) rfl
    · rfl
  · refine nat_bind _ _ _ _ fun _ => ?_
    split
    · refine nat_bind _ _ _ _ fun _ => nat_cond _ _ _ _ _ _ ?_ rfl
      split <;> rfl
    · rfl
  · split
    · refine nat_bind _ _ _ _ fun _ => ?_
      split
      · exact nat_bind _ _ _ _ fun _ => nat_bind _ _ _ _ fun _ => nat_cond _ _ _ _ _ _ (nat_bindD _ _ _ _ fun _ => rfl) rfl
      · rfl
    · rfl
  · rfl
theorem appendOp_nat (lk : Nat → Option AObj) (d : Nat) (T : TypeId) (s x : Lf) (K : AV → Upd → Option ρ) : appendOp c lk d T s x K = (appendOp c lk d T s x two).bind fun p => K p.1 p.2 := by
  unfold appendOp
  refine nat_bind _ _ _ _ fun _ => ?_
  split
  · refine nat_bind _ _ _ _ fun _ => nat_cond _ _ _ _ _ _ ?_ rfl
    split
    · exact nat_cond _ _ _ _ _ _ (nat_bind _ _ _ _ fun _ => nat_bindD _ _ _ _ fun _ => rfl) rfl
    · split
      · exact nat_cond _ _ _ _ _ _ (nat_bind _ _ _ _ fun _ => nat_bindD _ _ _ _ fun _ => rfl) rfl
      · rfl
    · rfl
  · rfl
theorem appendV_nat (lk : Nat → Option AObj) (d : Nat) (T : TypeId) (s x : Lf) (K : AV → Upd → Option ρ) : appendV c lk d T s x K = (appendV c lk d T s x two).bind fun p => K p.1 p.2 := by
  unfold appendV
  split
  · split
    · refine nat_cond _ _ _ _ _ _ ?_ rfl
      conv => lhs; rw [appendOp_nat]
      conv => rhs; arg 1; rw [appendOp_nat]
      rw [Option.bind_assoc]
      rfl
    · rfl
  · exact appendOp_nat _ _ _ _ _ _ _
theorem bappOp_nat (lk : Nat → Option AObj) (d : Nat) (T U : TypeId) (n : Nat) (x : Lf) (r : AV) (K : AV → Upd → Option ρ) : bappOp c lk d T U n x r K = (bappOp c lk d T U n x r two).bind fun p => K p.1 p.2 := by
  unfold bappOp
  split
  · refine nat_cond _ _ _ _ _ _ ?_ rfl
    conv => lhs; rw [appendOp_nat]
    conv => rhs; arg 1; rw [appendOp_nat]
    refine nat_bind _ _ _ _ fun p => ?_
    obtain ⟨av, u⟩ := p
    cases av <;> rfl
  · rfl
theorem bstrOp_nat (lk : Nat → Option AObj) (T e : TypeId) (n : Nat) (K : AV → Upd → Option ρ) : bstrOp lk T e n K = (bstrOp lk T e n two).bind fun p => K p.1 p.2 := by
  unfold bstrOp
  split
  · refine nat_cond _ _ _ _ _ _ ?_ rfl
    split
    · rfl
    · split
      · exact nat_cond _ _ _ _ _ _ (nat_bind _ _ _ _ fun _ => nat_bindD _ _ _ _ fun _ => rfl) rfl
      · rfl
    · rfl
  · rfl
theorem sortRow_nat (lk : Nat → Option AObj) (T : TypeId) (ag st : Bool) (g : FuncId) (cs : List Lf) (l : Lf) (K : Upd → Option ρ) : sortRow c I lk T ag st g cs l K = (sortRow c I lk T ag st g cs l some).bind K := by
  unfold sortRow
  split
  · exact nat_cond _ _ _ _ _ _ rfl rfl
  · split
    · exact nat_cond _ _ _ _ _ _ (nat_bind _ _ _ _ fun _ => nat_bindD _ _ _ _ fun _ => nat_bindD _ _ _ _ fun _ => rfl) rfl
    · rfl
  · rfl
theorem intrOp_nat (lk : Nat → Option AObj) (d : Nat) (k : Intr) (vs : List AV) (K : AV → Upd → Option ρ) : intrOp c I lk d k vs K = (intrOp c I lk d k vs two).bind fun p => K p.1 p.2 := by
  unfold intrOp
  split
  · exact nat_cond _ _ _ _ _ _ (bappOp_nat _ _ _ _ _ _ _ _ _) rfl
  · refine nat_cond _ _ _ _ _ _ ?_ rfl
    conv => lhs; rw [bappOp_nat]
    conv => rhs; arg 1; rw [bappOp_nat]
    exact nat_bind _ _ _ _ fun _ => rfl
  · exact bstrOp_nat _ _ _ _ _
  · refine nat_bind _ _ _ _ fun _ => ?_
    split
    · exact nat_cond _ _ _ _ _ _ (nat_ifB _ _ _ _ _ _ rfl (nat_bindD _ _ _ _ fun _ => rfl)) rfl
    · rfl
  · split
    · exact nat_cond _ _ _ _ _ _ rfl rfl
    · split
      · exact nat_cond _ _ _ _ _ _ (nat_bindD _ _ _ _ fun _ => rfl) rfl
      · rfl
    · rfl
  · conv => lhs; rw [sortRow_nat]
    conv => rhs; arg 1; rw [sortRow_nat]
    exact nat_bind _ _ _ _ fun _ => rfl
  · refine nat_bind _ _ _ _ fun _ => ?_
    conv => lhs; rw [sortRow_nat]
    conv => rhs; arg 1; rw [sortRow_nat]
    exact nat_bind _ _ _ _ fun _ => rfl
  · refine nat_bind _ _ _ _ fun _ => nat_bind _ _ _ _ fun _ => nat_bind _ _ _ _ fun _ => ?_
    split
    · refine nat_bind _ _ _ _ fun _ => nat_ifB _ _ _ _ _ _ rfl (nat_ifB _ _ _ _ _ _ rfl ?_)
      conv => lhs; rw [sortRow_nat]
      conv => rhs; arg 1; rw [sortRow_nat]
      exact nat_bind _ _ _ _ fun _ => rfl
    · rfl
  · rfl
theorem callOp_nat (lk : Nat → Option AObj) (d : Nat) (g : FuncId) (args : List AV) (ns : List Nat) (K : AV → Upd → Option ρ) :
    callOp c I lk d g args ns K = (callOp c I lk d g args ns two).bind fun p => K p.1 p.2 := by
  unfold callOp
  exact nat_cond _ _ _ _ _ _ (nat_bind _ _ _ _ fun _ => nat_bindD _ _ _ _ fun _ => nat_bind _ _ _ _ fun _ => rfl) rfl

theorem scallOp_nat (lk : Nat → Option AObj) (d : Nat) (g : FuncId) (sh : List BoxS) (args : List AV) (ns : List Nat) (K : AV → Upd → Option ρ) :
    scallOp c I lk d g sh args ns K = (scallOp c I lk d g sh args ns two).bind fun p => K p.1 p.2 := by
  unfold scallOp
  exact nat_cond _ _ _ _ _ _ (nat_bind _ _ _ _ fun _ => nat_bind _ _ _ _ fun _ => nat_bindD _ _ _ _ fun _ => nat_bind _ _ _ _ fun _ => nat_bind _ _ _ _ fun _ => rfl) rfl

theorem makeMapOp_nat (d : Nat) (T : TypeId) (K : AV → Upd → Option ρ) : makeMapOp c d T K = (makeMapOp c d T two).bind fun p => K p.1 p.2 := by
  unfold makeMapOp
  refine nat_bind _ _ _ _ fun _ => ?_
  split
  · refine nat_bind _ _ _ _ fun _ => nat_bind _ _ _ _ fun _ => ?_
    split <;> rfl
  · rfl
theorem lookupOp_nat (lk : Nat → Option AObj) (T : TypeId) (a b : AV) (ok : Bool) (K : AV → Upd → Option ρ) : lookupOp c lk T a b ok K = (lookupOp c lk T a b ok two).bind fun p => K p.1 p.2 := by
  unfold lookupOp
  split
  · split
    · exact nat_cond _ _ _ _ _ _ (nat_bind _ _ _ _ fun _ => nat_bind _ _ _ _ fun _ => nat_bind _ _ _ _ fun _ => nat_cond _ _ _ _ _ _ rfl rfl) rfl
    · rfl
  · rfl
theorem mapPlaceOp_nat (lk : Nat → Option AObj) (T : TypeId) (a b : AV) (K : AV → Upd → Option ρ) : mapPlaceOp c lk T a b K = (mapPlaceOp c lk T a b two).bind fun p => K p.1 p.2 := by
  unfold mapPlaceOp
  split
  · split
    · exact nat_cond _ _ _ _ _ _ (nat_bind _ _ _ _ fun _ => nat_bind _ _ _ _ fun _ => nat_bind _ _ _ _ fun _ => rfl) rfl
    · rfl
  · rfl
theorem mapStoreOp_nat (lk : Nat → Option AObj) (T : TypeId) (a b v : AV) (K : AV → Upd → Option ρ) : mapStoreOp c lk T a b v K = (mapStoreOp c lk T a b v two).bind fun p => K p.1 p.2 := by
  unfold mapStoreOp
  split
  · split
    · exact nat_cond _ _ _ _ _ _ (nat_bind _ _ _ _ fun _ => nat_bindD _ _ _ _ fun _ => rfl) rfl
    · rfl
  · rfl
theorem mapUpdOp_nat (lk : Nat → Option AObj) (T : TypeId) (a b v : AV) (K : AV → Upd → Option ρ) : mapUpdOp c lk T a b v K = (mapUpdOp c lk T a b v two).bind fun p => K p.1 p.2 := by
  unfold mapUpdOp
  split
  · split
    · exact nat_cond _ _ _ _ _ _ (nat_bind _ _ _ _ fun _ => nat_bind _ _ _ _ fun _ => rfl) rfl
    · rfl
  · rfl
theorem opC_nat (σ : List (Nat × AV)) (lk : Nat → Option AObj) (ns : List Nat) (d : Nat) (o : Oper) (K : AV → Upd → Option ρ) :
    opC c I σ lk ns d o K = (opC c I σ lk ns d o two).bind fun p => K p.1 p.2 := by
  unfold opC
  split
  · exact nat_bind _ _ _ _ fun _ => rfl
  · exact nat_bind _ _ _ _ fun _ => rfl
  · split
    · split
      · exact nat_bind _ _ _ _ fun _ => rfl
      · exact nat_ifB _ _ _ _ _ _ (nat_bind _ _ _ _ fun _ => rfl) (nat_bind _ _ _ _ fun _ => rfl)
    · rfl
  · exact nat_bind _ _ _ _ fun _ => rfl
  · exact nat_bind _ _ _ _ fun _ => nat_bind _ _ _ _ fun _ => rfl
  · refine nat_bind _ _ _ _ fun _ => ?_
    split
    · exact nat_bind _ _ _ _ fun _ => nat_bind _ _ _ _ fun _ => rfl
    · split
      · exact nat_bind _ _ _ _ fun _ => nat_cond _ _ _ _ _ _ (nat_bind _ _ _ _ fun _ => nat_bind _ _ _ _ fun _ => rfl) rfl
      · rfl
    · rfl
  · refine nat_bind _ _ _ _ fun _ => ?_
    split
    · exact nat_cond _ _ _ _ _ _ (nat_bind _ _ _ _ fun _ => nat_bind _ _ _ _ fun _ => nat_bind _ _ _ _ fun _ => nat_bind _ _ _ _ fun _ => nat_cond _ _ _ _ _ _ rfl rfl) rfl
    · rfl
  · exact nat_bind _ _ _ _ fun _ => nat_bind _ _ _ _ fun _ => nat_bind _ _ _ _ fun _ => loadOp_nat _ _ _ _
  · refine nat_bind _ _ _ _ fun _ => nat_bind _ _ _ _ fun _ => nat_bind _ _ _ _ fun _ => nat_bind _ _ _ _ fun _ => ?_
    rw [storeOp_nat, storeOp_nat (K := fun u => two _ u)]
    exact nat_bind _ _ _ _ fun _ => rfl
  · refine nat_bind _ _ _ _ fun _ => ?_
    split <;> first | rfl | exact nat_cond _ _ _ _ _ _ rfl rfl
  · refine nat_bind _ _ _ _ fun _ => nat_bind _ _ _ _ fun _ => ?_
    rw [binL_nat, binL_nat (K := fun l => two (AV.one l) [])]
    exact nat_bind _ _ _ _ fun _ => rfl
  · refine nat_bind _ _ _ _ fun _ => ?_
    rw [unL_nat, unL_nat (K := fun l => two (AV.one l) [])]
    exact nat_bind _ _ _ _ fun _ => rfl
  · refine nat_bind _ _ _ _ fun _ => nat_bind _ _ _ _ fun _ => nat_bind _ _ _ _ fun _ => ?_
    split <;> rfl
  · exact nat_cond _ _ _ _ _ _ (nat_bind _ _ _ _ fun _ => nat_bind _ _ _ _ fun _ => rfl) rfl
  · refine nat_bind _ _ _ _ fun _ => ?_
    split
    · exact nat_cond _ _ _ _ _ _ (nat_bind _ _ _ _ fun _ => nat_bind _ _ _ _ fun _ => nat_bind _ _ _ _ fun _ => nat_bind _ _ _ _ fun _ => nat_bind _ _ _ _ fun _ => nat_bind _ _ _ _ fun _ => nat_bindD _ _ _ _ fun _ => rfl) rfl
    · exact nat_bind _ _ _ _ fun _ => nat_bind _ _ _ _ fun _ => nat_bind _ _ _ _ fun _ => nat_bind _ _ _ _ fun _ => nat_bind _ _ _ _ fun _ => nat_cond _ _ _ _ _ _ (nat_bindD _ _ _ _ fun _ => rfl) rfl
    · rfl
  · exact nat_cond _ _ _ _ _ _ (nat_bind _ _ _ _ fun _ => nat_bind _ _ _ _ fun _ => nat_bind _ _ _ _ fun _ => nat_bind _ _ _ _ fun _ => nat_cond _ _ _ _ _ _ (moveOp_nat _ _ _ _ _ _ _ _) (sliceOp_nat _ _ _ _ _ _ _)) rfl
  · refine nat_bind _ _ _ _ fun _ => nat_bind _ _ _ _ fun _ => nat_bind _ _ _ _ fun _ => nat_bind _ _ _ _ fun _ => nat_bind _ _ _ _ fun _ => nat_cond _ _ _ _ _ _ ?_ rfl
    split <;> rfl
  · refine nat_bind _ _ _ _ fun _ => ?_
    split
    · refine nat_bind _ _ _ _ fun _ => nat_bind _ _ _ _ fun _ => nat_bind _ _ _ _ fun _ => nat_bind _ _ _ _ fun _ => ?_
      split
      · exact nat_bind _ _ _ _ fun _ => nat_bind _ _ _ _ fun _ => rfl
      · rfl
    · rfl
  · exact nat_bind _ _ _ _ fun _ => nat_bind _ _ _ _ fun _ => nat_bind _ _ _ _ fun _ => nat_bind _ _ _ _ fun _ => indexAddrOp_nat _ _ _ _ _ _
  · refine nat_bind _ _ _ _ fun _ => nat_bind _ _ _ _ fun _ => nat_bind _ _ _ _ fun _ => ?_
    split
    · exact nat_cond _ _ _ _ _ _ (nat_bindD _ _ _ _ fun _ => rfl) rfl
    · rfl
  · refine nat_bind _ _ _ _ fun _ => ?_
    split
    · exact nat_bind _ _ _ _ fun _ => nat_bind _ _ _ _ fun _ => rfl
    · rfl
  · refine nat_cond _ _ _ _ _ _ (nat_bind _ _ _ _ fun _ => ?_) (nat_bind _ _ _ _ fun _ => ?_)
    · split <;> rfl
    · split
      · unfold mapRange
        split
        · exact nat_cond _ _ _ _ _ _ rfl rfl
        · rfl
      · rfl
  · refine nat_bind _ _ _ _ fun _ => ?_
    split
    · split
      · exact nat_ifB _ _ _ _ _ _ rfl rfl
      · rfl
    · rfl
  · refine nat_bind _ _ _ _ fun _ => ?_
    split
    · unfold mapEntry
      split
      · split
        · exact nat_cond _ _ _ _ _ _ (nat_bindD _ _ _ _ fun _ => rfl) rfl
        · rfl
      · rfl
    · rfl
  · exact nat_cond _ _ _ _ _ _ (makeMapOp_nat _ _ _ _) rfl
  · exact nat_bind _ _ _ _ fun _ => nat_bind _ _ _ _ fun _ => lookupOp_nat _ _ _ _ _ _ _
  · exact nat_bind _ _ _ _ fun _ => nat_bind _ _ _ _ fun _ => mapPlaceOp_nat _ _ _ _ _ _
  · exact nat_bind _ _ _ _ fun _ => nat_bind _ _ _ _ fun _ => nat_bind _ _ _ _ fun _ => mapStoreOp_nat _ _ _ _ _ _ _
  · exact nat_bind _ _ _ _ fun _ => nat_bind _ _ _ _ fun _ => nat_bind _ _ _ _ fun _ => mapUpdOp_nat _ _ _ _ _ _ _
  · exact nat_bind _ _ _ _ fun _ => nat_bind _ _ _ _ fun _ => nat_bind _ _ _ _ fun _ => mapUpdOp_nat _ _ _ _ _ _ _
  · refine nat_bind _ _ _ _ fun _ => ?_
    split
    · exact nat_bind _ _ _ _ fun _ => rfl
    · exact nat_cond _ _ _ _ _ _ (appendV_nat _ _ _ _ _ _ _) rfl
    · exact nat_bind _ _ _ _ fun _ => rfl
    · exact nat_bind _ _ _ _ fun _ => rfl
    · rfl
  · refine nat_bind _ _ _ _ fun _ => nat_bind _ _ _ _ fun _ => ?_
    split
    · exact nat_cond _ _ _ _ _ _ (intrOp_nat _ _ _ _ _ _ _) rfl
    · refine nat_cond _ _ _ _ _ _ ?_ rfl
      split
      · exact scallOp_nat _ _ _ _ _ _ _ _ _
      · exact callOp_nat _ _ _ _ _ _ _ _
  · rfl
end
end Go.Proofs.R

/- The evaluator's limit over all numbers of rounds. -/
namespace Go.Proofs.R
open Go
variable (c : Ctx)
open Classical in
noncomputable def Einf : Interp c where
  call f args := if h : ∃ r, ∃ n, (E c n).call f args = some r then some h.choose else none
  loop f body st K := if h : ∃ r, ∃ n, (E c n).loop f body st K = some r then some h.choose else none
  join f code st K := if h : ∃ r, ∃ n, (E c n).join f code st K = some r then some h.choose else none

/-- 'in the end' -/
structure Fil (ι : Type) where
  Ev : (ι → Prop) → Prop
  all : ∀ {p : ι → Prop}, (∀ i, p i) → Ev p
  imp : ∀ {p q : ι → Prop}, (∀ i, p i → q i) → Ev p → Ev q
  and : ∀ {p q : ι → Prop}, Ev p → Ev q → Ev fun i => p i ∧ q i

def Fil.one : Fil Unit := ⟨fun p => p (), fun h => h (), fun h hp => h () hp, fun h h' => ⟨h, h'⟩⟩
def Fil.nat : Fil Nat := ⟨fun p => ∃ m, ∀ i, m ≤ i → p i, fun h => ⟨0, fun i _ => h i⟩, fun h ⟨m, hm⟩ => ⟨m, fun i hi => h i (hm i hi)⟩,
  fun ⟨m, hm⟩ ⟨n, hn⟩ => ⟨max m n, fun i hi => ⟨hm i (by omega), hn i (by omega)⟩⟩⟩

section
variable {c : Ctx} {ι : Type} (X : Fil ι)

def AppK {ρ : Type} (K : Ex → St → Option ρ) (L : ι → Ex → St → Option ρ) : Prop := ∀ ex st r, K ex st = some r → X.Ev fun i => L i ex st = some r

structure App (I : Interp c) (J : ι → Interp c) : Prop where
  call : ∀ f args r, I.call f args = some r → X.Ev fun i => (J i).call f args = some r
  loop : ∀ {ρ : Type} f body st (K : Ex → St → Option ρ) (L : ι → Ex → St → Option ρ) r, AppK X K L → I.loop f body st K = some r → X.Ev fun i => (J i).loop f body st (L i) = some r
  join : ∀ {ρ : Type} f code st (K : Ex → St → Option ρ) (L : ι → Ex → St → Option ρ) r, AppK X K L → I.join f code st K = some r → X.Ev fun i => (J i).join f code st (L i) = some r

variable {X}
theorem ev_all {α : Type} {p : α → ι → Prop} : ∀ (l : List α), (∀ a ∈ l, X.Ev (p a)) → X.Ev fun i => ∀ a ∈ l, p a i
  | [], _ => X.all fun _ a ha => by cases ha
  | b :: l, h => X.imp (fun i hi a ha => by
      rcases List.mem_cons.1 ha with rfl | ha
      · exact hi.1
      · exact hi.2 a ha) (X.and (h b List.mem_cons_self) (ev_all l fun a ha => h a (List.mem_cons_of_mem _ ha)))

theorem eachB_app {α ρ : Type} {xs : List α} {k : Nat} {seen : List Nat} {done : Option ρ} {done' : ι → Option ρ} {f : Nat → α → Option ρ} {g : ι → Nat → α → Option ρ} {r : ρ}
    (hd : done = some r → X.Ev fun i => done' i = some r) (hf : ∀ j x, f j x = some r → X.Ev fun i => g i j x = some r) (h : eachB xs k seen done f = some r) : X.Ev fun i => eachB xs k seen (done' i) (g i) = some r := by
  obtain ⟨h1, h2, h3⟩ := eachB_some.1 h
  by_cases he : ∃ j, j < k ∧ j ∉ seen
  · have := ev_all (X := X) (p := fun q i => q.2 ∉ seen → g i q.2 q.1 = some r) xs.zipIdx (by
      rintro ⟨x, j⟩ hq
      by_cases hs : j ∈ seen
      · exact X.all fun _ hn => (hn hs).elim
      · refine X.imp (fun i hi _ => hi) (hf j x (h2 he j x ?_ hs))
        have := List.mk_mem_zipIdx_iff_getElem?.1 hq
        exact this)
    refine X.imp (fun i hi => ?_) this
    exact eachB_some.2 ⟨h1, fun _ j x hx hs => hi (x, j) (List.mk_mem_zipIdx_iff_getElem?.2 hx) hs, fun hn => (hn he).elim⟩
  · exact X.imp (fun i hi => eachB_some.2 ⟨h1, fun hn => (he hn).elim, fun _ => hi⟩) (hd (h3 he))

theorem nextMap_app {ρ : Type} {nt : Nat} {st : St} {it : Operand} {dst : Option Nat} {K : St → Option ρ} {L : ι → St → Option ρ} {r : ρ} (hK : ∀ st r, K st = some r → X.Ev fun j => L j st = some r) (h : nextMap c nt st it dst K = some r) :
    X.Ev fun j => nextMap c nt st it dst (L j) = some r := by
  unfold nextMap at h ⊢
  split at h
  · split at h
    · split at h
      · rename_i t u l _
        cases hb : plainK t && scal u with
        | false => rw [hb] at h; cases h
        | true =>
          rw [hb] at h; simp only [cond_true] at h ⊢
          refine eachB_app (X := X) ?_ ?_ h
          · intro hd
            split at hd
            · exact hK _ _ hd
            · cases hd
          · intro j x hd
            split at hd
            · exact hK _ _ hd
            · cases hd
      · cases h
    · cases h
  · cases h

theorem sortB_app {α : Type} {st : Bool} {cmp : α → α → Option Int} {cmp' : ι → α → α → Option Int} {xs r : List α} (hc : ∀ x y v, cmp x y = some v → X.Ev fun i => cmp' i x y = some v) (h : sortB st cmp xs = some r) : X.Ev fun i => sortB st (cmp' i) xs = some r := by
  obtain ⟨cf, h1, h2⟩ := sortB_some.1 h
  have := ev_all (X := X) (p := fun x i => ∀ y ∈ xs, cmp' i x y = some (cf x y)) xs (fun x hx => ev_all (X := X) (p := fun y i => cmp' i x y = some (cf x y)) xs fun y hy => hc x y _ (h1 x hx y hy))
  exact X.imp (fun i hi => sortB_some.2 ⟨cf, hi, h2⟩) this

variable {I : Interp c} {J : ι → Interp c} (hA : App X I J)
include hA
theorem sortRow_app {lk : Nat → Option AObj} {T : TypeId} {ag st : Bool} {g : FuncId} {cs : List Lf} {l : Lf} {u : Upd} (h : sortRow c I lk T ag st g cs l some = some u) : X.Ev fun i => sortRow c (J i) lk T ag st g cs l some = some u := by
  unfold sortRow at h ⊢
  split at h
  · exact X.all fun _ => h
  · split at h
    · rename_i e t xs _
      cases hb : (eltOk c T t && elOk ag t && retInt (c.ret g) && cs.all (fun l => Nat.beq l.size 1) && (c.shape g).isNone) with
      | false => rw [hb] at h; cases h
      | true =>
        rw [hb] at h
        simp only [cond_true, Option.bind_eq_some_iff, bindD] at h ⊢
        obtain ⟨as, h1, q, h2, r, h3, h4⟩ := h
        refine X.imp (fun i hi => ⟨as, h1, q, h2, r, hi, h4⟩) (sortB_app (fun x y v hv => ?_) h3)
        simp only [bindD, Option.bind_eq_some_iff] at hv ⊢
        obtain ⟨z, h5, h6⟩ := hv
        exact X.imp (fun i hi => ⟨z, hi, h6⟩) (hA.call _ _ _ h5)
    · cases h
  · cases h
theorem intrOp_app {lk : Nat → Option AObj} {d : Nat} {k : Intr} {vs : List AV} {p : Two} (h : intrOp c I lk d k vs two = some p) : X.Ev fun i => intrOp c (J i) lk d k vs two = some p := by
  unfold intrOp at h ⊢
  split at h
  · exact X.all fun _ => h
  · exact X.all fun _ => h
  · exact X.all fun _ => h
  · exact X.all fun _ => h
  · exact X.all fun _ => h
  · rw [sortRow_nat] at h
    simp only [Option.bind_eq_some_iff] at h
    obtain ⟨u, h1, h2⟩ := h
    exact X.imp (fun i hi => by rw [sortRow_nat, hi]; exact h2) (sortRow_app hA h1)
  · simp only [Option.bind_eq_some_iff] at h ⊢
    obtain ⟨l, h0, h⟩ := h
    rw [sortRow_nat] at h
    simp only [Option.bind_eq_some_iff] at h
    obtain ⟨u, h1, h2⟩ := h
    exact X.imp (fun i hi => ⟨l, h0, by rw [sortRow_nat, hi]; exact h2⟩) (sortRow_app hA h1)
  · simp only [Option.bind_eq_some_iff] at h ⊢
    obtain ⟨te, h00, l, h0, q, h01, h⟩ := h
    split at h
    · rename_i n
      simp only [Option.bind_eq_some_iff] at h
      obtain ⟨m, h02, h⟩ := h
      cases hd1 : decide (n > _) with
      | true => rw [hd1] at h; exact X.all fun i => ⟨te, h00, l, h0, _, h01, by simp only [Option.bind_eq_some_iff]; exact ⟨m, h02, by rw [hd1]; exact h⟩⟩
      | false =>
        rw [hd1] at h
        cases hd2 : decide (m > _) with
        | true => rw [hd2] at h; exact X.all fun i => ⟨te, h00, l, h0, _, h01, by simp only [Option.bind_eq_some_iff]; exact ⟨m, h02, by rw [hd1, hd2]; exact h⟩⟩
        | false =>
          rw [hd2] at h
          simp only [ifB, cond_false] at h
          rw [sortRow_nat] at h
          simp only [Option.bind_eq_some_iff] at h
          obtain ⟨u, h1, h2⟩ := h
          exact X.imp (fun i hi => ⟨te, h00, l, h0, _, h01, by simp only [Option.bind_eq_some_iff]; exact ⟨m, h02, by rw [hd1, hd2]; simp only [ifB, cond_false]; rw [sortRow_nat, hi]; exact h2⟩⟩) (sortRow_app hA h1)
    · cases h
  · cases h

theorem scallOp_app {lk : Nat → Option AObj} {d : Nat} {g : FuncId} {sh : List BoxS} {args : List AV} {ns : List Nat} {p : Two} (h : scallOp c I lk d g sh args ns two = some p) : X.Ev fun i => scallOp c (J i) lk d g sh args ns two = some p := by
  unfold scallOp at h ⊢
  generalize hb : (Nat.blt (freshNum ((c.ret g).flatMap (·.2))) 6 && retS c g sh && nodupB (ownBs lk sh (boxNs lk ns)) && disjB (ownBs lk sh (boxNs lk ns)) (args.flatMap AV.names ++ roBs lk sh (boxNs lk ns))) = b at h ⊢
  cases b with
  | false => cases h
  | true =>
    simp only [cond_true, Option.bind_eq_some_iff, bindD] at h ⊢
    obtain ⟨as, h1, st, h2, r, h3, h4⟩ := h
    exact X.imp (fun i hi => ⟨as, h1, st, h2, r, hi, h4⟩) (hA.call _ _ _ h3)

theorem opC_app {σ : List (Nat × AV)} {lk : Nat → Option AObj} {ns : List Nat} {d : Nat} {o : Oper} {p : Two} (h : opC c I σ lk ns d o two = some p) : X.Ev fun i => opC c (J i) σ lk ns d o two = some p := by
  obtain ⟨dst, op, type, pos, after, guard⟩ := o
  cases op
  case call cl =>
    obtain ⟨callee, as, ts⟩ := cl
    cases callee with
    | value x =>
      simp only [opC] at h ⊢
      simp only [Option.bind_eq_some_iff] at h
      obtain ⟨g, h1, vs, h2, h⟩ := h
      rw [h1, h2]
      simp only [Option.bind_some]
      cases hk : c.intr g.1 with
      | some k =>
        rw [hk] at h; simp only at h ⊢
        cases hb : g.2.isEmpty with
        | false => rw [hb] at h; cases h
        | true => rw [hb] at h; simp only [cond_true] at h ⊢; exact intrOp_app hA h
      | none =>
        rw [hk] at h; simp only at h ⊢
        cases hb : (g.2.all fun l => Nat.beq l.size 1) with
        | false => rw [hb] at h; cases h
        | true =>
          rw [hb] at h; simp only [cond_true] at h ⊢
          cases hsh : c.shape g.1 with
          | some sh =>
            rw [hsh] at h; simp only at h ⊢
            exact scallOp_app hA h
          | none =>
          rw [hsh] at h; simp only at h ⊢
          unfold callOp at h ⊢
          cases hb2 : Nat.blt (freshNum ((c.ret g.1).flatMap (·.2))) 6 with
          | false => rw [hb2] at h; cases h
          | true =>
            rw [hb2] at h
            simp only [cond_true, Option.bind_eq_some_iff, bindD] at h ⊢
            obtain ⟨args, h3, r, h4, h5⟩ := h
            refine X.imp ?_ (hA.call _ _ _ h4)
            intro i hi
            exact ⟨args, h3, r, hi, h5⟩
    | builtin b => exact X.all fun i => h
    | invoke r m => cases h
  case makeFunc fn first caps => cases fn <;> first | exact X.all fun i => h | cases h
  case next it b => cases b <;> first | exact X.all fun i => h | cases h
  all_goals first | exact X.all fun i => h | cases h

theorem stepOp_app {ρ : Type} {nt : Nat} {st : St} {i : Nat} {o : Oper} {K : St → Log → Option ρ} {L : ι → St → Log → Option ρ} (hK : ∀ st x r, K st x = some r → X.Ev fun j => L j st x = some r) {r : ρ} (h : stepOp c I nt st i o K = some r) :
    X.Ev fun j => stepOp c (J j) nt st i o (L j) = some r := by
  unfold stepOp at h ⊢
  rw [opC_nat] at h
  simp only [Option.bind_eq_some_iff] at h
  obtain ⟨p, h1, h⟩ := h
  have h2 := opC_app hA h1
  cases hb : updOk st.O (namesAt st.σ st.O o) (o.dst.getD noSlot) p.2 with
  | false => rw [hb] at h; cases h
  | true =>
    rw [hb] at h; simp only [cond_true] at h
    split at h
    · rename_i σ' hσ
      refine X.imp ?_ (X.and h2 (hK _ _ _ h))
      rintro j ⟨h3, h4⟩
      rw [opC_nat, h3]
      simp only [Option.bind_some, hb, cond_true, hσ]
      exact h4
    · cases h

theorem evalOps_app {ρ : Type} {nt : Nat} {dr : Bool} {ops : Array Oper} {K : St → Option ρ} {L : ι → St → Option ρ} (hK : ∀ st r, K st = some r → X.Ev fun j => L j st = some r) {r : ρ} : ∀ {l : List (Oper × Nat)} {st : St} {log : List Log}, evalOps c I nt dr ops l st log K = some r →
    X.Ev fun j => evalOps c (J j) nt dr ops l st log (L j) = some r
  | [], st, log, h => hK _ _ h
  | (o, i) :: l, st, log, h => by
    simp only [evalOps] at h ⊢
    have hk : ∀ st' x r, (bif !dr || okLog c.moveT ops x log then evalOps c I nt dr ops l st' (x :: log) K else none) = some r → X.Ev fun j => (bif !dr || okLog c.moveT ops x log then evalOps c (J j) nt dr ops l st' (x :: log) (L j) else none) = some r := by
      intro st' x r h
      cases hb : (!dr || okLog c.moveT ops x log) with
      | false => rw [hb] at h; cases h
      | true =>
        rw [hb] at h; simp only [cond_true] at h ⊢
        exact evalOps_app hK h
    split at h
    · rename_i hg
      exact stepOp_app hA hk h
    · rename_i j want hg
      split at h
      · rename_i dj g hq
        cases g with
        | true =>
          simp only [ifB, cond_true] at h ⊢
          cases hw : (true == want) with
          | true => rw [hw] at h; simp only [cond_true] at h ⊢; exact stepOp_app hA hk h
          | false =>
            rw [hw] at h; simp only [cond_false] at h ⊢
            split at h
            · exact evalOps_app hK h
            · cases h
        | false =>
          simp only [ifB, cond_false] at h ⊢
          cases hw : (false == want) with
          | true => rw [hw] at h; simp only [cond_true] at h ⊢; exact stepOp_app hA hk h
          | false =>
            rw [hw] at h; simp only [cond_false] at h ⊢
            split at h
            · exact evalOps_app hK h
            · cases h
      · split at h
        · exact evalOps_app hK h
        · cases h
      · cases h

section
omit hA
theorem bind_app {α ρ : Type} {o : Option α} {f : α → Option ρ} {g : ι → α → Option ρ} {r : ρ} (hf : ∀ a, f a = some r → X.Ev fun i => g i a = some r) (h : o.bind f = some r) : X.Ev fun i => o.bind (g i) = some r := by
  cases o with
  | none => cases h
  | some a => exact hf a h
theorem bindD_app {α ρ : Type} {o : Option α} {f : α → Option ρ} {g : ι → α → Option ρ} {r : ρ} (hf : ∀ a, f a = some r → X.Ev fun i => g i a = some r) (h : bindD o f = some r) : X.Ev fun i => bindD o (g i) = some r := bind_app hf h
theorem cond_app {ρ : Type} {b : Bool} {x y : Option ρ} {x' y' : ι → Option ρ} {r : ρ} (h1 : x = some r → X.Ev fun i => x' i = some r) (h2 : y = some r → X.Ev fun i => y' i = some r) (h : (bif b then x else y) = some r) : X.Ev fun i => (bif b then x' i else y' i) = some r := by
  cases b with
  | true => exact h1 h
  | false => exact h2 h
theorem no_app {ρ : Type} {x' : ι → Option ρ} {r : ρ} (h : (none : Option ρ) = some r) : X.Ev fun i => x' i = some r := by cases h

theorem putK_app {ρ : Type} {nt : Nat} {st : St} {o : Oper} {a : AV} {O : List (Nat × AObj)} {K : St → Option ρ} {L : ι → St → Option ρ} {r : ρ} (hK : ∀ st r, K st = some r → X.Ev fun j => L j st = some r) (h : putK nt st o a O K = some r) : X.Ev fun j => putK nt st o a O (L j) = some r := by
  unfold putK at h ⊢
  refine cond_app (fun h => ?_) no_app h
  split at h
  · exact hK _ _ h
  · cases h
end

theorem plainOp_app {ρ : Type} {nt : Nat} {st : St} {o : Oper} {K : St → Option ρ} {L : ι → St → Option ρ} {r : ρ} (hK : ∀ st r, K st = some r → X.Ev fun j => L j st = some r) (h : plainOp c I nt st o K = some r) : X.Ev fun j => plainOp c (J j) nt st o (L j) = some r := by
  unfold plainOp at h ⊢
  refine cond_app (fun h => ?_) no_app h
  rw [opC_nat] at h
  simp only [Option.bind_eq_some_iff] at h
  obtain ⟨p, h1, h⟩ := h
  have h2 := opC_app hA h1
  cases hb : updOk st.O (namesAt st.σ st.O o) (o.dst.getD noSlot) p.2 with
  | false => rw [hb] at h; cases h
  | true =>
    rw [hb] at h; simp only [cond_true] at h
    split at h
    · rename_i σ' hσ
      refine X.imp ?_ (X.and h2 (hK _ _ h))
      rintro j ⟨h3, h4⟩
      rw [opC_nat, h3]
      simp only [Option.bind_some, hb, cond_true, hσ]
      exact h4
    · cases h

theorem specOp0_app {ρ : Type} {nt : Nat} {st : St} {o : Oper} {K : St → Option ρ} {L : ι → St → Option ρ} {r : ρ} (hK : ∀ st r, K st = some r → X.Ev fun j => L j st = some r) (h : specOp0 c I nt st o K = some r) : X.Ev fun j => specOp0 c (J j) nt st o (L j) = some r := by
  unfold specOp0 at h ⊢
  split at h
  · refine cond_app (fun h => ?_) (plainOp_app hA hK) h
    refine bind_app (fun te h => ?_) h
    split at h
    · refine bind_app (fun ee h => ?_) h
      split at h
      · refine cond_app (fun h => ?_) no_app h
        exact bind_app (fun _ h => bind_app (fun _ h => bind_app (fun _ h => bind_app (fun _ h => bindD_app (fun _ h => putK_app hK h) h) h) h) h) h
      · cases h
    · cases h
  · split at h
    · split at h
      · refine cond_app (fun h => ?_) no_app h
        exact bind_app (fun _ h => bind_app (fun _ h => bindD_app (fun _ h => putK_app hK h) h) h) h
      · exact plainOp_app hA hK h
    · exact plainOp_app hA hK h
  · split at h
    · split at h
      · refine bind_app (fun te h => ?_) h
        exact cond_app (fun h => bindD_app (fun _ h => putK_app hK h) h) no_app h
      · cases h
      · exact plainOp_app hA hK h
    · exact plainOp_app hA hK h
  · split at h
    · split at h
      · split at h
        · split at h
          · refine bind_app (fun te h => ?_) h
            refine cond_app (fun h => ?_) no_app h
            refine bind_app (fun zs h => ?_) h
            exact cond_app (fun h => hK _ _ h) no_app h
          · cases h
        · cases h
      · cases h
      · exact plainOp_app hA hK h
    · exact plainOp_app hA hK h
  · split at h
    · split at h
      · split at h
        · refine bind_app (fun b h => bind_app (fun l h => bind_app (fun te h => ?_) h) h) h
          split at h
          · refine cond_app (fun h => ?_) no_app h
            refine bind_app (fun ys h => ?_) h
            refine cond_app (fun h => ?_) no_app h
            exact bind_app (fun zs h => bindD_app (fun xs h => bindD_app (fun _ h => putK_app hK h) h) h) h
          · cases h
        · cases h
      · exact plainOp_app hA hK h
    · exact plainOp_app hA hK h
  · split at h
    · split at h
      · split at h
        · exact cond_app (fun h => putK_app hK h) no_app h
        · exact plainOp_app hA hK h
      · exact plainOp_app hA hK h
    · exact plainOp_app hA hK h
  · exact plainOp_app hA hK h
  · exact plainOp_app hA hK h

omit hA in
theorem tabStep_app {ρ : Type} {nt : Nat} {st : St} {o : Oper} {k : TabK} {K : St → Option ρ} {L : ι → St → Option ρ} {r : ρ} (hK : ∀ st r, K st = some r → X.Ev fun j => L j st = some r) (h : tabStep c nt st o K k = some r) : X.Ev fun j => tabStep c nt st o (L j) k = some r := by
  unfold tabStep at h ⊢
  split at h
  · refine bind_app (fun te h => ?_) h
    split at h
    · refine bind_app (fun ee h => ?_) h
      split at h
      · refine cond_app (fun h => ?_) no_app h
        exact bind_app (fun _ h => bind_app (fun _ h => bind_app (fun _ h => bind_app (fun _ h => bindD_app (fun _ h => putK_app hK h) h) h) h) h) h
      · cases h
    · cases h
  · split at h
    · refine bind_app (fun te h => ?_) h
      exact cond_app (fun h => bindD_app (fun _ h => putK_app hK h) h) no_app h
    · cases h
  · split at h
    · refine cond_app (fun h => ?_) no_app h
      exact bind_app (fun _ h => bind_app (fun _ h => bindD_app (fun _ h => bindD_app (fun _ h => putK_app hK h) h) h) h) h
    · cases h
  · split at h
    · refine bind_app (fun te h => ?_) h
      exact cond_app (fun h => bindD_app (fun _ h => bindD_app (fun _ h => putK_app hK h) h) h) no_app h
    · cases h
  · split at h
    · refine bind_app (fun te h => ?_) h
      refine cond_app (fun h => ?_) no_app h
      exact bind_app (fun _ h => bindD_app (fun _ h => bindD_app (fun _ h => hK _ _ h) h) h) h
    · cases h
  · split at h
    · split at h
      · refine bind_app (fun te h => ?_) h
        refine cond_app (fun h => ?_) no_app h
        exact bind_app (fun zs h => bindD_app (fun _ h => hK _ _ h) h) h
      · cases h
    · cases h
theorem specOp_app {ρ : Type} {nt : Nat} {st : St} {o : Oper} {K : St → Option ρ} {L : ι → St → Option ρ} {r : ρ} (hK : ∀ st r, K st = some r → X.Ev fun j => L j st = some r) (h : specOp c I nt st o K = some r) : X.Ev fun j => specOp c (J j) nt st o (L j) = some r := by
  unfold specOp at h ⊢
  split at h
  · exact tabStep_app hK h
  · exact specOp0_app hA hK h

omit hA in
theorem skipK_app {ρ : Type} {nt : Nat} {st : St} {o : Oper} {K : St → Option ρ} {L : ι → St → Option ρ} {r : ρ} (hK : ∀ st r, K st = some r → X.Ev fun j => L j st = some r) (h : skipK nt st o K = some r) : X.Ev fun j => skipK nt st o (L j) = some r := by
  unfold skipK at h ⊢
  refine cond_app (fun h => ?_) no_app h
  split at h
  · exact hK _ _ h
  · cases h

theorem evalSpec_app {ρ : Type} {nt : Nat} {ops : Array Oper} {K : St → Option ρ} {L : ι → St → Option ρ} (hK : ∀ st r, K st = some r → X.Ev fun j => L j st = some r) : ∀ (l : List Oper) {st : St} {r : ρ}, evalSpec c I nt ops l st K = some r → X.Ev fun j => evalSpec c (J j) nt ops l st (L j) = some r
  | [], st, r, h => cond_app (fun h => hK _ _ h) no_app h
  | o :: l, st, r, h => by
    simp only [evalSpec] at h ⊢
    split at h
    · exact specOp_app hA (fun st r h => evalSpec_app hK l h) h
    · rename_i j want hg
      split at h
      · rename_i dj g hq
        cases g with
        | true =>
          simp only [ifB, cond_true] at h ⊢
          exact cond_app (fun h => specOp_app hA (fun st r h => evalSpec_app hK l h) h) (fun h => skipK_app (fun st r h => evalSpec_app hK l h) h) h
        | false =>
          simp only [ifB, cond_false] at h ⊢
          exact cond_app (fun h => specOp_app hA (fun st r h => evalSpec_app hK l h) h) (fun h => skipK_app (fun st r h => evalSpec_app hK l h) h) h
      · exact skipK_app (fun st r h => evalSpec_app hK l h) h
      · cases h

theorem stepD_app {ρ : Type} {nt : Nat} {RN : List Nat} {st : St} {i : Nat} {o : Oper} {K : St → Log → Option ρ} {L : ι → St → Log → Option ρ} {r : ρ} (hK : ∀ st x r, K st x = some r → X.Ev fun j => L j st x = some r) (h : stepD c I nt RN st i o K = some r) : X.Ev fun j => stepD c (J j) nt RN st i o (L j) = some r := by
  unfold stepD at h ⊢
  split at h
  · exact specOp_app hA (fun st r h => hK st _ r h) h
  · exact cond_app (fun h => stepOp_app hA (fun st x r h => hK st _ r h) h) no_app h
theorem evalDraw_app {ρ : Type} {nt : Nat} {RN : List Nat} {ops : Array Oper} {K : St → Option ρ} {L : ι → St → Option ρ} (hK : ∀ st r, K st = some r → X.Ev fun j => L j st = some r) : ∀ (l : List (Oper × Nat)) {st : St} {log : List Log} {r : ρ}, evalDraw c I nt RN ops l st log K = some r → X.Ev fun j => evalDraw c (J j) nt RN ops l st log (L j) = some r
  | [], st, log, r, h => cond_app (fun h => hK _ _ h) no_app h
  | (o, i) :: l, st, log, r, h => by
    simp only [evalDraw] at h ⊢
    split at h
    · exact stepD_app hA (fun st x r h => cond_app (fun h => evalDraw_app hK l h) no_app h) h
    · rename_i j want hg
      split at h
      · rename_i dj g hq
        cases g with
        | true =>
          simp only [ifB, cond_true] at h ⊢
          exact cond_app (fun h => stepD_app hA (fun st x r h => cond_app (fun h => evalDraw_app hK l h) no_app h) h) (fun h => skipK_app (fun st r h => evalDraw_app hK l h) h) h
        | false =>
          simp only [ifB, cond_false] at h ⊢
          exact cond_app (fun h => stepD_app hA (fun st x r h => cond_app (fun h => evalDraw_app hK l h) no_app h) h) (fun h => skipK_app (fun st r h => evalDraw_app hK l h) h) h
      · exact skipK_app (fun st r h => evalDraw_app hK l h) h
      · cases h

theorem evalPlain_app {ρ : Type} {nt : Nat} {ops : Array Oper} {draw : Bool} {st : St} {K : Ex → St → Option ρ} {L : ι → Ex → St → Option ρ} (hK : AppK X K L) {r : ρ} (h : evalPlain c I nt ops draw st K = some r) : X.Ev fun j => evalPlain c (J j) nt ops draw st (L j) = some r := by
  unfold evalPlain at h ⊢
  split at h
  · exact nextMap_app (X := X) (fun st r h => evalOps_app hA (L := fun j st' => L j .normal st') (fun st r h => hK .normal st r h) h) h
  · exact cond_app (fun h => cond_app (fun h => evalDraw_app hA (L := fun j st' => L j .normal st') (fun st r h => hK .normal st r h) _ h) (fun h => evalSpec_app hA (L := fun j st' => L j .normal st') (fun st r h => hK .normal st r h) _ h) h) (fun h => evalOps_app hA (L := fun j st' => L j .normal st') (fun st r h => hK .normal st r h) h) h

theorem evalRegion_app {ρ : Type} {nt : Nat} {ops : Array Oper} {draw : Bool} {st : St} {K : Ex → St → Option ρ} {L : ι → Ex → St → Option ρ} (hK : AppK X K L) {r : ρ} (h : evalRegion c I nt ops draw st K = some r) : X.Ev fun j => evalRegion c (J j) nt ops draw st (L j) = some r := by
  unfold evalRegion at h ⊢
  split at h
  · split at h
    · exact hK .normal _ _ h
    · exact no_app h
  · exact evalPlain_app hA hK h

theorem toLoop_app {ρ : Type} {f : Nat} {body : Code} {st : St} {K : Ex → St → Option ρ} {L : ι → Ex → St → Option ρ} (hK : AppK X K L) {r : ρ} (h : toLoop c I f body K st = some r) : X.Ev fun j => toLoop c (J j) f body (L j) st = some r := by
  unfold toLoop at h ⊢
  split at h
  · split at h
    · exact hA.loop _ _ _ _ _ _ hK h
    · cases h
  · cases h

theorem loopK_app {ρ : Type} {f : Nat} {body : Code} {K : Ex → St → Option ρ} {L : ι → Ex → St → Option ρ} (hK : AppK X K L) : AppK X (loopK c I f body K) (fun j => loopK c (J j) f body (L j)) := by
  intro ex st r h
  cases ex with
  | normal => exact toLoop_app hA hK h
  | exit id => exact hK _ _ _ h
  | ret => exact hK _ _ _ h

theorem evalC_app {ρ : Type} {f nt : Nat} : ∀ (code : Code) {st : St} {K : Ex → St → Option ρ} {L : ι → Ex → St → Option ρ}, AppK X K L → ∀ {r : ρ}, evalC c I f nt code st K = some r → X.Ev fun j => evalC c (J j) f nt code st (L j) = some r
  | .skip, st, K, L, hK, r, h => hK _ _ _ h
  | .label _, st, K, L, hK, r, h => hK _ _ _ h
  | .exit id, st, K, L, hK, r, h => hK _ _ _ h
  | .ret, st, K, L, hK, r, h => hK _ _ _ h
  | .goto _, st, K, L, hK, r, h => by cases h
  | .scope _, st, K, L, hK, r, h => by cases h
  | .rangeFunc _ _ _ _, st, K, L, hK, r, h => by cases h
  | .refuse _, st, K, L, hK, r, h => by cases h
  | .region id ops draw, st, K, L, hK, r, h => by
    simp only [evalC] at h ⊢
    split at h
    · split at h
      · exact hA.join _ _ _ _ _ _ hK h
      · cases h
    · exact evalRegion_app hA hK h
  | .seq x y, st, K, L, hK, r, h => by
    refine evalC_app x (L := fun j => seqK (fun st' => evalC c (J j) f nt y st' (L j)) (L j)) ?_ h
    intro ex st r h
    cases ex with
    | normal => exact evalC_app y hK h
    | exit id => exact hK _ _ _ h
    | ret => exact hK _ _ _ h
  | .cond x t e, st, K, L, hK, r, h => by
    simp only [evalC] at h ⊢
    split at h
    · rename_i g hg
      cases g with
      | true => simp only [ifB, cond_true] at h ⊢; exact evalC_app t hK h
      | false => simp only [ifB, cond_false] at h ⊢; exact evalC_app e hK h
    · cases h
  | .block id b, st, K, L, hK, r, h => by
    refine evalC_app b (L := fun j => blockK id (L j)) ?_ h
    intro ex st r h
    cases ex with
    | normal => exact hK _ _ _ h
    | exit i =>
      simp only [blockK] at h ⊢
      cases hb : Nat.beq i id with
      | true => rw [hb] at h; exact hK _ _ _ h
      | false => rw [hb] at h; exact hK _ _ _ h
    | ret => exact hK _ _ _ h
  | .loop b, st, K, L, hK, r, h => toLoop_app (body := b) hA hK h

theorem App.step : App X (stepI c I) (fun j => stepI c (J j)) := by
  refine ⟨?_, ?_, ?_⟩
  · intro f args r h
    have h : stepCall c I f args = some r := h
    show X.Ev fun j => stepCall c (J j) f args = some r
    unfold stepCall at h ⊢
    split at h
    · exact X.all fun _ => h
    split at h
    · split at h
      · rename_i body _
        split at h
        · rename_i sh hsh
          refine cond_app (fun h => ?_) no_app h
          exact bind_app (fun O h => cond_app (fun h => evalC_app hA body (fun _ _ _ h => X.all fun _ => h) h) no_app h) h
        · refine cond_app (fun h => ?_) no_app h
          exact evalC_app hA body (fun _ _ _ h => X.all fun _ => h) h
      · cases h
    · cases h
  · intro ρ f body st K L r hK h
    have h : stepLoop c I f body st K = some r := h
    show X.Ev fun j => stepLoop c (J j) f body st (L j) = some r
    unfold stepLoop at h ⊢
    split at h
    · exact evalC_app hA body (loopK_app hA hK) h
    · cases h
  · intro ρ f code st K L r hK h
    have h : stepJoin c I f code st K = some r := h
    show X.Ev fun j => stepJoin c (J j) f code st (L j) = some r
    unfold stepJoin at h ⊢
    split at h
    · cases code with
      | region id ops draw => exact evalRegion_app hA hK h
      | _ => cases h
    · cases h
end

theorem App.none {ι : Type} {X : Fil ι} {J : ι → Interp c} : App X (noI c) J :=
  ⟨fun _ _ _ h => (by cases h), fun _ _ _ _ _ _ _ h => (by cases h), fun _ _ _ _ _ _ _ h => (by cases h)⟩

theorem nat_back {p : Nat → Prop} (h : Fil.nat.Ev fun i => p (i + 1)) : Fil.nat.Ev p := by
  obtain ⟨m, hm⟩ := h
  refine ⟨m + 1, fun i hi => ?_⟩
  have : p (i - 1 + 1) := hm (i - 1) (by omega)
  rwa [show i - 1 + 1 = i from by omega] at this
theorem nat_on {p : Nat → Prop} (h : Fil.nat.Ev p) : Fil.nat.Ev fun i => p (i + 1) := by
  obtain ⟨m, hm⟩ := h
  exact ⟨m, fun i hi => hm (i + 1) (by omega)⟩

theorem App.back {I : Interp c} {J : Nat → Interp c} (h : App Fil.nat I (fun i => J (i + 1))) : App Fil.nat I J := by
  refine ⟨fun f args r hh => nat_back (h.call f args r hh), ?_, ?_⟩
  · intro ρ f body st K L r hK hh
    exact nat_back (p := fun i => (J i).loop f body st (L i) = some r) (h.loop f body st K (fun i => L (i + 1)) r (fun ex st r hk => nat_on (hK ex st r hk)) hh)
  · intro ρ f body st K L r hK hh
    exact nat_back (p := fun i => (J i).join f body st (L i) = some r) (h.join f body st K (fun i => L (i + 1)) r (fun ex st r hk => nat_on (hK ex st r hk)) hh)

theorem E_app : ∀ n, App Fil.nat (E c n) (E c)
  | 0 => App.none c
  | n + 1 => App.back c (App.step (E_app n))

theorem ev_some {p : Nat → Prop} (h : Fil.nat.Ev p) : ∃ n, p n := by
  obtain ⟨m, hm⟩ := h
  exact ⟨m, hm m (Nat.le_refl m)⟩
theorem AppK.refl {ρ : Type} (K : Ex → St → Option ρ) {ι : Type} {X : Fil ι} : AppK X K (fun _ => K) := fun _ _ _ h => X.all fun _ => h

theorem Einf_call_iff {f : FuncId} {args : List AV} {r : _} : (Einf c).call f args = some r ↔ ∃ n, (E c n).call f args = some r := by
  constructor
  · intro h
    unfold Einf at h
    simp only at h
    split at h
    · rename_i hh; cases h; exact hh.choose_spec
    · cases h
  · rintro ⟨n, hn⟩
    have hh : ∃ r, ∃ n, (E c n).call f args = some r := ⟨r, n, hn⟩
    unfold Einf
    simp only [dif_pos hh]
    obtain ⟨m, hm⟩ := hh.choose_spec
    obtain ⟨k, h1, h2⟩ := ev_some (Fil.nat.and ((E_app c n).call f args _ hn) ((E_app c m).call f args _ hm))
    rw [h1] at h2; exact h2.symm
theorem Einf_loop_iff {ρ : Type} {f : FuncId} {body : Code} {st : St} {K : Ex → St → Option ρ} {r : ρ} : (Einf c).loop f body st K = some r ↔ ∃ n, (E c n).loop f body st K = some r := by
  constructor
  · intro h
    unfold Einf at h
    simp only at h
    split at h
    · rename_i hh; cases h; exact hh.choose_spec
    · cases h
  · rintro ⟨n, hn⟩
    have hh : ∃ r, ∃ n, (E c n).loop f body st K = some r := ⟨r, n, hn⟩
    unfold Einf
    simp only [dif_pos hh]
    obtain ⟨m, hm⟩ := hh.choose_spec
    obtain ⟨k, h1, h2⟩ := ev_some (Fil.nat.and ((E_app c n).loop f body st K (fun _ => K) _ (AppK.refl K) hn) ((E_app c m).loop f body st K (fun _ => K) _ (AppK.refl K) hm))
    rw [h1] at h2; exact h2.symm
theorem Einf_join_iff {ρ : Type} {f : FuncId} {body : Code} {st : St} {K : Ex → St → Option ρ} {r : ρ} : (Einf c).join f body st K = some r ↔ ∃ n, (E c n).join f body st K = some r := by
  constructor
  · intro h
    unfold Einf at h
    simp only at h
    split at h
    · rename_i hh; cases h; exact hh.choose_spec
    · cases h
  · rintro ⟨n, hn⟩
    have hh : ∃ r, ∃ n, (E c n).join f body st K = some r := ⟨r, n, hn⟩
    unfold Einf
    simp only [dif_pos hh]
    obtain ⟨m, hm⟩ := hh.choose_spec
    obtain ⟨k, h1, h2⟩ := ev_some (Fil.nat.and ((E_app c n).join f body st K (fun _ => K) _ (AppK.refl K) hn) ((E_app c m).join f body st K (fun _ => K) _ (AppK.refl K) hm))
    rw [h1] at h2; exact h2.symm

theorem Einf_app : App Fil.nat (Einf c) (E c) := by
  refine ⟨fun f args r h => ?_, fun f body st K L r hK h => ?_, fun f body st K L r hK h => ?_⟩
  · obtain ⟨n, hn⟩ := (Einf_call_iff c).1 h
    exact (E_app c n).call f args r hn
  · obtain ⟨n, hn⟩ := (Einf_loop_iff c).1 h
    exact (E_app c n).loop f body st K L r hK hn
  · obtain ⟨n, hn⟩ := (Einf_join_iff c).1 h
    exact (E_app c n).join f body st K L r hK hn
theorem app_Einf (n : Nat) : App Fil.one (E c n) (fun _ => Einf c) := by
  refine ⟨fun f args r h => (Einf_call_iff c).2 ⟨n, h⟩, fun f body st K L r hK h => ?_, fun f body st K L r hK h => ?_⟩
  · exact (Einf_loop_iff c).2 (ev_some ((E_app c n).loop f body st K (fun _ => L ()) r (fun ex st r hk => Fil.nat.all fun _ => hK ex st r hk) h))
  · exact (Einf_join_iff c).2 (ev_some ((E_app c n).join f body st K (fun _ => L ()) r (fun ex st r hk => Fil.nat.all fun _ => hK ex st r hk) h))

theorem opt_ext {α : Type} {a b : Option α} (h : ∀ r, a = some r ↔ b = some r) : a = b := by
  cases a with
  | none =>
    cases b with
    | none => rfl
    | some y => have := (h y).2 rfl; cases this
  | some x => exact ((h x).1 rfl).symm

theorem Einf_call (f : FuncId) (args : List AV) : (Einf c).call f args = stepCall c (Einf c) f args := by
  refine opt_ext fun r => ⟨fun h => ?_, fun h => ?_⟩
  · obtain ⟨n, hn⟩ := (Einf_call_iff c).1 h
    cases n with
    | zero => cases hn
    | succ n => exact (App.step (app_Einf c n)).call f args r hn
  · obtain ⟨n, hn⟩ := ev_some ((App.step (Einf_app c)).call f args r h)
    exact (Einf_call_iff c).2 ⟨n + 1, hn⟩
theorem Einf_loop {ρ : Type} (f : FuncId) (body : Code) (st : St) (K : Ex → St → Option ρ) : (Einf c).loop f body st K = stepLoop c (Einf c) f body st K := by
  refine opt_ext fun r => ⟨fun h => ?_, fun h => ?_⟩
  · obtain ⟨n, hn⟩ := (Einf_loop_iff c).1 h
    cases n with
    | zero => cases hn
    | succ n => exact (App.step (app_Einf c n)).loop f body st K (fun _ => K) r (AppK.refl K) hn
  · obtain ⟨n, hn⟩ := ev_some ((App.step (Einf_app c)).loop f body st K (fun _ => K) r (AppK.refl K) h)
    exact (Einf_loop_iff c).2 ⟨n + 1, hn⟩
theorem loopAt_step (f r : Nat) (st : St) : loopAt c (Einf c) f r st = loopAtS c (Einf c) f r st := by
  unfold loopAt loopAtS
  split
  · split
    · split
      · exact Einf_loop c _ _ _ _
      · rfl
    · rfl
  · rfl
end Go.Proofs.R

/- How memory holds told values: read-only cells, and the objects of a call's own. -/
namespace Go.Proofs.R
open Go

abbrev CellSet := Nat → Nat → Prop

def cellAt (w : World) (b i : Nat) : Option Value := w.cell? ⟨b, i, none⟩

/-- these values lie one behind the other from cell o of block b on, all of them in S -/
def At (S : CellSet) (w : World) (b : Nat) : Nat → List Value → Prop
  | _, [] => True
  | o, v :: vs => cellAt w b o = some v ∧ S b o ∧ At S w b (o + 1) vs

def RdsOf {α : Type} (R : List Value → α → Prop) : List Value → List α → Prop
  | cs, [] => cs = []
  | cs, x :: xs => ∃ c d, cs = c ++ d ∧ R c x ∧ RdsOf R d xs

/-- Cells that read as a told value; what slices lead to lies in S. -/
def Rd (S : CellSet) (w : World) : (t : Ty) → List Value → t.V → Prop
  | .unit, cs, _ => cs = []
  | .int k, cs, x => cs = [.int k x]
  | .bool, cs, x => cs = [.bool x]
  | .str, cs, x => cs = [.string x]
  | .pair a b, cs, x => ∃ c d, cs = c ++ d ∧ Rd S w a c x.1 ∧ Rd S w b d x.2
  | .sl t, cs, x => ∃ A c, cs = [.slice A x.length c] ∧ x.length ≤ c ∧ (x = [] ∨ ∃ b o ds, A = some ⟨b, o, none⟩ ∧ RdsOf (Rd S w t) ds x ∧ At S w b o ds)
  | .arr n t, cs, x => x.length = n ∧ RdsOf (Rd S w t) cs x

def AObj.live : AObj → Bool
  | .dead => false
  | _ => true

/-- where the objects lie: a block and a first cell, and how many elements fit -/
abbrev Place := Option (Nat × Nat) × Nat
def addrOf : Option (Nat × Nat) → Option Addr
  | some p => some ⟨p.1, p.2, none⟩
  | none => none

structure RP where
  S : CellSet
  w : World
  N : CellSet          -- cells that nothing writes during the call: those that were there
  β : Nat → Place
  O : Nat → Option AObj
  root : Nat → Value       -- the caller's variables that a call was handed

/-- one plain cell -/
def One (cs : List Value) : Prop := ∃ v : Value, cs = [v] ∧ v.oneCell' = true

mutual
def RelL (p : RP) : Lf → List Value → Prop
  | .v t x, cs => Rd p.S p.w t cs x
  | .nil _ _, cs => cs = [.slice none 0 0]
  | .row n, cs => match p.O n with
    | some (.row _ _ xs _) => cs = [.slice (addrOf (p.β n).1) xs.length (p.β n).2]
    | some (.lrow _ hs) => cs = [.slice (addrOf (p.β n).1) hs.length (p.β n).2]
    | some .dead => One cs
    | _ => False
  | .ref n off, cs => match p.O n with
    | some (.box _ _) => ∃ b, (p.β n).1 = some (b, 0) ∧ cs = [.pointer (some ⟨b, off, none⟩)]
    | some (.iter _ _) => ∃ b, (p.β n).1 = some (b, 0) ∧ cs = [.pointer (some ⟨b, off, none⟩)]
    | some (.miter _ _ _) => ∃ b, (p.β n).1 = some (b, 0) ∧ cs = [.pointer (some ⟨b, off, none⟩)]
    | some .dead => One cs
    | _ => False
  | .eref n i off, cs => match p.O n with
    | some (.row _ t xs _) => ∃ b o, (p.β n).1 = some (b, o) ∧ 0 ≤ i ∧ i < xs.length ∧ cs = [.pointer (some ⟨b, o + i.toNat * t.size + off, none⟩)]
    | some (.lrow _ hs) => ∃ b o, (p.β n).1 = some (b, o) ∧ 0 ≤ i ∧ i < hs.length ∧ cs = [.pointer (some ⟨b, o + i.toNat * 1 + off, none⟩)]
    | some (.box _ _) => ∃ b, (p.β n).1 = some (b, 0) ∧ cs = [bif decide (i < 0) then .slice (some ⟨b, off, none⟩) (-i).toNat (-i).toNat else .pointer (some ⟨b, off + i.toNat, none⟩)]
    | some .dead => One cs
    | _ => False
  | .view n lo hi, cs => match p.O n with
    | some (.row _ t xs _) => 0 ≤ lo ∧ lo ≤ hi ∧ hi ≤ xs.length ∧ cs = [.slice (if (p.β n).2 = lo.toNat then addrOf (p.β n).1 else (addrOf (p.β n).1).map (·.add (lo.toNat * t.size))) (hi.toNat - lo.toNat) ((p.β n).2 - lo.toNat)]
    | some .dead => One cs
    | _ => False
  | .pref ls off, cs => ∃ b o ds, cs = [.pointer (some ⟨b, o + off, none⟩)] ∧ RelLs p ls ds ∧ At (fun b i => p.N b i ∨ p.S b i) p.w b o ds
  | .clo f caps, cs => ∃ vs : Array Value, cs = [.func (.func f) #[] vs] ∧ RelLs p caps vs.toList
  | .undef, cs => One cs
  | .nilp, cs => cs = [.pointer none]
  | .mp n, cs => match p.O n with
    | some (.mp _ _ _ _ _) => ∃ b, (p.β n).1 = some (b, 0) ∧ cs = [.map (some b)]
    | some .dead => One cs
    | _ => False
def RelLs (p : RP) : List Lf → List Value → Prop
  | [], cs => cs = []
  | l :: ls, cs => ∃ c d, cs = c ++ d ∧ RelL p l c ∧ RelLs p ls d
end

def RelVl (p : RP) : Bool × List Lf → Value → Prop
  | (true, ls), v => ∃ cs, v = .agg cs ∧ RelLs p ls cs.toList
  | (false, ls), v => ∃ l, ls = [l] ∧ (l = .undef ∨ RelL p l [v])
def RelVls (p : RP) : List (Bool × List Lf) → List Value → Prop
  | [], vs => vs = []
  | a :: as, vs => ∃ v r, vs = v :: r ∧ RelVl p a v ∧ RelVls p as r
def RelAV (p : RP) : AV → Value → Prop
  | .one l, v => l = .undef ∨ RelL p l [v]
  | .agg ls, v => ∃ cs, v = .agg cs ∧ RelLs p ls cs.toList
  | .tup vs, v => ∃ ws, v = .tuple ws ∧ RelVls p vs ws.toList

/-- what an object is in memory -/
def ObjR (p : RP) (n : Nat) : AObj → Prop
  | .box T ls => ∃ b arr, (p.β n).1 = some (b, 0) ∧ p.w.heap[b]? = some (.cells arr T (0, 0)) ∧ RelLs p ls arr.toList
  | .row e t xs _ => (p.β n = (none, 0) ∧ xs = []) ∨
      ∃ b o arr cs rest, (p.β n).1 = some (b, o) ∧ p.w.heap[b]? = some (.cells arr e (0, 0)) ∧ xs.length ≤ (p.β n).2 ∧
        arr.toList.drop o = cs ++ rest ∧ RdsOf (Rd p.S p.w t) cs xs ∧ o + (p.β n).2 * t.size ≤ arr.size ∧ o ≤ arr.size ∧ ∀ v ∈ arr.toList, v.oneCell' = true
  | .iter s pos => ∃ b, (p.β n).1 = some (b, 0) ∧ p.w.heap[b]? = some (.stringIter s pos)
  | .mp _ _ t u m => ∃ b es clock, (p.β n).1 = some (b, 0) ∧ p.w.heap[b]? = some (.map es clock) ∧ es.toList.map (fun x => (some x.key, some x.val)) = (m.map fun x => (plainV t x.1, plainV u x.2)) ∧ clock = es.size ∧ (∀ (j : Nat) (e : MapEntry), es[j]? = some e → e.born = j)
  | .rows _ _ _ _ _ => False
  | .lrow e hs => (p.β n = (none, 0) ∧ hs = []) ∨
      ∃ b o arr cs rest, (p.β n).1 = some (b, o) ∧ p.w.heap[b]? = some (.cells arr e (0, 0)) ∧ hs.length ≤ (p.β n).2 ∧
        arr.toList.drop o = cs ++ rest ∧ RelLs p (hs.map .row) cs ∧ o + (p.β n).2 ≤ arr.size ∧ o ≤ arr.size ∧ ∀ v ∈ arr.toList, v.oneCell' = true
  | .miter l k seen => ∃ b bm, (p.β n).1 = some (b, 0) ∧ p.w.heap[b]? = some (.mapIter (some bm) k seen.toArray k) ∧ RelL p l [.map (some bm)]
  | .dead => True

/-! ### lists of cells -/
theorem cellAt_block {w w' : World} {b i : Nat} (h : w'.heap[b]? = w.heap[b]?) : cellAt w' b i = cellAt w b i := by
  simp [cellAt, World.cell?, h]

theorem At_append {S : CellSet} {w : World} {b : Nat} : ∀ {o : Nat} {c d : List Value}, At S w b o (c ++ d) ↔ At S w b o c ∧ At S w b (o + c.length) d
  | o, [], d => by simp [At]
  | o, v :: c, d => by
    simp only [List.cons_append, At, List.length_cons, At_append (c := c)]
    rw [show o + 1 + c.length = o + (c.length + 1) from by omega]
    constructor
    · rintro ⟨h1, h2, h3, h4⟩; exact ⟨⟨h1, h2, h3⟩, h4⟩
    · rintro ⟨⟨h1, h2, h3⟩, h4⟩; exact ⟨h1, h2, h3, h4⟩

theorem At_get {S : CellSet} {w : World} {b : Nat} : ∀ {o : Nat} {c : List Value} {j : Nat} {v : Value}, At S w b o c → c[j]? = some v → cellAt w b (o + j) = some v ∧ S b (o + j)
  | o, [], j, v, _, h => by simp at h
  | o, u :: c, 0, v, h, hv => by simp at hv; subst hv; exact ⟨h.1, h.2.1⟩
  | o, u :: c, j + 1, v, h, hv => by
    have := At_get (o := o + 1) (j := j) (v := v) h.2.2 (by simpa using hv)
    rw [show o + (j + 1) = o + 1 + j from by omega]; exact this

theorem At_mono {S S' : CellSet} {w w' : World} {b : Nat} (hS : ∀ b i, S b i → S' b i) (hc : ∀ b i v, S b i → cellAt w b i = some v → cellAt w' b i = some v) :
    ∀ {o : Nat} {c : List Value}, At S w b o c → At S' w' b o c
  | _, [], _ => trivial
  | _, _ :: _, h => ⟨hc _ _ _ h.2.1 h.1, hS _ _ h.2.1, At_mono hS hc h.2.2⟩

theorem RdsOf_mono {α : Type} {R R' : List Value → α → Prop} (h : ∀ c x, R c x → R' c x) : ∀ {cs : List Value} {xs : List α}, RdsOf R cs xs → RdsOf R' cs xs
  | _, [], hh => hh
  | _, _ :: _, ⟨c, d, e, h1, h2⟩ => ⟨c, d, e, h _ _ h1, RdsOf_mono h h2⟩

theorem Rd_mono {S S' : CellSet} {w w' : World} (hS : ∀ b i, S b i → S' b i) (hc : ∀ b i v, S b i → cellAt w b i = some v → cellAt w' b i = some v) :
    ∀ (t : Ty) {cs : List Value} {x : t.V}, Rd S w t cs x → Rd S' w' t cs x
  | .unit, _, _, h => h
  | .int _, _, _, h => h
  | .bool, _, _, h => h
  | .str, _, _, h => h
  | .pair a b, _, _, ⟨c, d, e, h1, h2⟩ => ⟨c, d, e, Rd_mono hS hc a h1, Rd_mono hS hc b h2⟩
  | .sl t, _, _, ⟨A, c, e, hl, h⟩ => ⟨A, c, e, hl, h.imp id fun ⟨b, o, ds, hA, h1, h2⟩ => ⟨b, o, ds, hA, RdsOf_mono (fun _ _ => Rd_mono hS hc t) h1, At_mono hS hc h2⟩⟩
  | .arr n t, _, _, ⟨hl, h⟩ => ⟨hl, RdsOf_mono (fun _ _ => Rd_mono hS hc t) h⟩

theorem RdsOf_len {α : Type} {R : List Value → α → Prop} {k : Nat} (h : ∀ c x, R c x → c.length = k) : ∀ {cs : List Value} {xs : List α}, RdsOf R cs xs → cs.length = xs.length * k
  | _, [], hh => by simp [RdsOf] at hh; simp [hh]
  | _, x :: xs, ⟨c, d, e, h1, h2⟩ => by
    subst e
    rw [List.length_append, h _ _ h1, RdsOf_len h h2, List.length_cons, Nat.add_mul]; omega

theorem Rd_len {S : CellSet} {w : World} : ∀ (t : Ty) {cs : List Value} {x : t.V}, Rd S w t cs x → cs.length = t.size
  | .unit, _, _, h => by simp [Rd] at h; simp [h, Ty.size]
  | .int _, _, _, h => by simp [Rd] at h; simp [h, Ty.size]
  | .bool, _, _, h => by simp [Rd] at h; simp [h, Ty.size]
  | .str, _, _, h => by simp [Rd] at h; simp [h, Ty.size]
  | .pair a b, _, _, ⟨c, d, e, h1, h2⟩ => by subst e; rw [List.length_append, Rd_len a h1, Rd_len b h2]; rfl
  | .sl t, _, _, ⟨A, c, e, _, _⟩ => by subst e; rfl
  | .arr n t, _, _, ⟨hl, h⟩ => by rw [RdsOf_len (fun _ _ => Rd_len t) h, hl]; rfl

theorem RdsOf_one {α : Type} {R : List Value → α → Prop} (h : ∀ c x, R c x → ∀ v ∈ c, v.oneCell' = true) : ∀ {cs : List Value} {xs : List α}, RdsOf R cs xs → ∀ v ∈ cs, v.oneCell' = true
  | _, [], hh => by simp [RdsOf] at hh; simp [hh]
  | _, x :: xs, ⟨c, d, e, h1, h2⟩ => by
    subst e
    intro v hv
    rcases List.mem_append.1 hv with hv | hv
    · exact h _ _ h1 v hv
    · exact RdsOf_one h h2 v hv

theorem Rd_one {S : CellSet} {w : World} : ∀ (t : Ty) {cs : List Value} {x : t.V}, Rd S w t cs x → ∀ v ∈ cs, v.oneCell' = true
  | .unit, _, _, h => by simp [Rd] at h; simp [h]
  | .int _, _, _, h => by simp [Rd] at h; simp [h, Value.oneCell']
  | .bool, _, _, h => by simp [Rd] at h; simp [h, Value.oneCell']
  | .str, _, _, h => by simp [Rd] at h; simp [h, Value.oneCell']
  | .pair a b, _, _, ⟨c, d, e, h1, h2⟩ => by
    subst e
    intro v hv
    rcases List.mem_append.1 hv with hv | hv
    · exact Rd_one a h1 v hv
    · exact Rd_one b h2 v hv
  | .sl t, _, _, ⟨A, c, e, _, _⟩ => by subst e; simp [Value.oneCell']
  | .arr n t, _, _, ⟨hl, h⟩ => RdsOf_one (fun _ _ => Rd_one t) h

theorem RdsOf_append {α : Type} {R : List Value → α → Prop} : ∀ {cs ds : List Value} {xs ys : List α}, RdsOf R cs xs → RdsOf R ds ys → RdsOf R (cs ++ ds) (xs ++ ys)
  | _, _, [], _, h, h' => by simp [RdsOf] at h; subst h; simpa using h'
  | _, _, x :: xs, ys, ⟨c, d, e, h1, h2⟩, h' => by
    subst e
    exact ⟨c, d ++ _, by simp, h1, RdsOf_append h2 h'⟩

theorem RdsOf_split {α : Type} {R : List Value → α → Prop} : ∀ (xs ys : List α) {cs : List Value}, RdsOf R cs (xs ++ ys) → ∃ c d, cs = c ++ d ∧ RdsOf R c xs ∧ RdsOf R d ys
  | [], ys, cs, h => ⟨[], cs, rfl, rfl, h⟩
  | x :: xs, ys, _, ⟨c, d, e, h1, h2⟩ => by
    obtain ⟨c', d', e', h3, h4⟩ := RdsOf_split xs ys h2
    subst e; subst e'
    exact ⟨c ++ c', d', by simp, ⟨c, c', rfl, h1, h3⟩, h4⟩

/-! ### the relation, as memory goes on -/
/-- an object may become another one that its handles fit -/
def AObj.to : AObj → AObj → Prop
  | .dead, o => o = .dead
  | .iter _ _, o => o = .dead ∨ ∃ s pos, o = .iter s pos
  | .miter _ _ _, o => o = .dead ∨ ∃ l k s, o = .miter l k s
  | .rows _ _ _ _ _, _ => True
  | .lrow _ hs, o => o = .dead ∨ (∃ e' hs', o = .lrow e' hs' ∧ hs'.length = hs.length) ∨ (∃ e' t' xs' fz', o = .row e' t' xs' fz' ∧ xs'.length = hs.length ∧ t'.size = 1)
  | .mp _ _ _ _ _, o => o = .dead ∨ ∃ k e t u m, o = .mp k e t u m
  | .box _ _, o => o = .dead ∨ ∃ T ls, o = .box T ls
  | .row _ t xs _, o => o = .dead ∨ ∃ e' xs' fz', o = .row e' t xs' fz' ∧ xs'.length = xs.length

theorem AObj.to_refl (o : AObj) : o.to o := by
  cases o with
  | box T ls => exact .inr ⟨_, _, rfl⟩
  | row e t xs fz => exact .inr ⟨_, _, _, rfl, rfl⟩
  | iter s pos => exact .inr ⟨_, _, rfl⟩
  | miter l k s => exact .inr ⟨_, _, _, rfl⟩
  | rows e e' t xss s => trivial
  | lrow e hs => exact .inr (.inl ⟨_, _, rfl, rfl⟩)
  | mp k e t u m => exact .inr ⟨_, _, _, _, _, rfl⟩
  | dead => rfl

structure RP.le (p q : RP) : Prop where
  S : ∀ b i, p.S b i → q.S b i
  cells : ∀ b i v, (p.S b i ∨ p.N b i) → cellAt p.w b i = some v → cellAt q.w b i = some v
  N : ∀ b i, p.N b i → q.N b i
  root : q.root = p.root
  obj : ∀ n o, p.O n = some o → ∃ o', q.O n = some o' ∧ o.to o' ∧ (o'.live = true → q.β n = p.β n)

mutual
theorem RelL_le {p q : RP} (h : p.le q) : ∀ (l : Lf) {cs : List Value}, RelL p l cs → RelL q l cs
  | .v t x, _, hh => Rd_mono h.S (fun b i v hs => h.cells b i v (.inl hs)) t hh
  | .nil _ _, _, hh => hh
  | .row n, cs, hh => by
    unfold RelL at hh ⊢
    cases hO : p.O n with
    | none => simp [hO] at hh
    | some o =>
      obtain ⟨o', hO', hto, hβ⟩ := h.obj n o hO
      rw [hO] at hh; rw [hO']
      cases o with
      | box T ls => exact hh.elim
      | iter s pos => exact hh.elim
      | miter l k s => exact hh.elim
      | rows e e' t xss s => exact hh.elim
      | lrow e hs =>
        rcases hto with rfl | ⟨e', hs', rfl, hl⟩ | ⟨e', t', xs', fz', rfl, hl, _⟩
        · simp only at hh; exact ⟨_, hh, rfl⟩
        · simp only at hh ⊢; rw [hβ rfl, hl]; exact hh
        · simp only at hh ⊢; rw [hβ rfl, hl]; exact hh
      | mp k e t u m => exact hh.elim
      | dead => simp only [AObj.to] at hto; subst hto; exact hh
      | row e t xs fz =>
        rcases hto with rfl | ⟨e', xs', fz', rfl, hl⟩
        · simp only at hh; exact ⟨_, hh, rfl⟩
        · simp only at hh ⊢; rw [hβ rfl, hl]; exact hh
  | .ref n off, cs, hh => by
    unfold RelL at hh ⊢
    cases hO : p.O n with
    | none => simp [hO] at hh
    | some o =>
      obtain ⟨o', hO', hto, hβ⟩ := h.obj n o hO
      rw [hO] at hh; rw [hO']
      cases o with
      | row e t xs fz => exact hh.elim
      | mp k e t u m => exact hh.elim
      | dead => simp only [AObj.to] at hto; subst hto; exact hh
      | box T ls =>
        rcases hto with rfl | ⟨T', ls', rfl⟩
        · obtain ⟨b, _, rfl⟩ := hh; exact ⟨_, rfl, rfl⟩
        · simp only at hh ⊢; rw [hβ rfl]; exact hh
      | iter s pos =>
        rcases hto with rfl | ⟨s', pos', rfl⟩
        · obtain ⟨b, _, rfl⟩ := hh; exact ⟨_, rfl, rfl⟩
        · simp only at hh ⊢; rw [hβ rfl]; exact hh
      | rows e e' t xss s => exact hh.elim
      | lrow e hs => exact hh.elim
      | miter l k s =>
        rcases hto with rfl | ⟨l', k', s', rfl⟩
        · obtain ⟨b, _, rfl⟩ := hh; exact ⟨_, rfl, rfl⟩
        · simp only at hh ⊢; rw [hβ rfl]; exact hh
  | .eref n i off, cs, hh => by
    unfold RelL at hh ⊢
    cases hO : p.O n with
    | none => simp [hO] at hh
    | some o =>
      obtain ⟨o', hO', hto, hβ⟩ := h.obj n o hO
      rw [hO] at hh; rw [hO']
      cases o with
      | box T ls =>
        rcases hto with rfl | ⟨T', ls', rfl⟩
        · obtain ⟨b, _, rfl⟩ := hh; exact ⟨_, rfl, by cases decide (i < 0) <;> rfl⟩
        · simp only at hh ⊢; rw [hβ rfl]; exact hh
      | iter s pos => exact hh.elim
      | miter l k s => exact hh.elim
      | rows e e' t xss s => exact hh.elim
      | lrow e hs =>
        rcases hto with rfl | ⟨e', hs', rfl, hl⟩ | ⟨e', t', xs', fz', rfl, hl, h1⟩
        · obtain ⟨b, o, _, _, _, rfl⟩ := hh; exact ⟨_, rfl, rfl⟩
        · simp only at hh ⊢; rw [hβ rfl, hl]; exact hh
        · simp only at hh ⊢; rw [hβ rfl, hl, h1]; exact hh
      | mp k e t u m => exact hh.elim
      | dead => simp only [AObj.to] at hto; subst hto; exact hh
      | row e t xs fz =>
        rcases hto with rfl | ⟨e', xs', fz', rfl, hl⟩
        · obtain ⟨b, o, _, _, _, rfl⟩ := hh; exact ⟨_, rfl, rfl⟩
        · simp only at hh ⊢; rw [hβ rfl, hl]; exact hh
  | .view n lo hi, cs, hh => by
    unfold RelL at hh ⊢
    cases hO : p.O n with
    | none => simp [hO] at hh
    | some o =>
      obtain ⟨o', hO', hto, hβ⟩ := h.obj n o hO
      rw [hO] at hh; rw [hO']
      cases o with
      | row e t xs fz =>
        rcases hto with rfl | ⟨e', xs', fz', rfl, hl⟩
        · obtain ⟨_, _, _, rfl⟩ := hh; exact ⟨_, rfl, rfl⟩
        · simp only at hh ⊢; rw [hβ rfl, hl]; exact hh
      | dead => simp only [AObj.to] at hto; subst hto; exact hh
      | _ => exact hh.elim
  | .pref ls off, _, ⟨b, o, ds, e, h1, h2⟩ => ⟨b, o, ds, e, RelLs_le h ls h1,
      At_mono (fun b i hs => hs.imp (h.N b i) (h.S b i)) (fun b i v hs => h.cells b i v hs.symm) h2⟩
  | .clo f caps, _, ⟨vs, e, h1⟩ => ⟨vs, e, RelLs_le h caps h1⟩
  | .undef, _, hh => hh
  | .nilp, _, hh => hh
  | .mp n, cs, hh => by
    unfold RelL at hh ⊢
    cases hO : p.O n with
    | none => simp [hO] at hh
    | some o =>
      obtain ⟨o', hO', hto, hβ⟩ := h.obj n o hO
      rw [hO] at hh; rw [hO']
      cases o with
      | row e t xs fz => exact hh.elim
      | box T ls => exact hh.elim
      | iter s pos => exact hh.elim
      | miter l k s => exact hh.elim
      | rows e e' t xss s => exact hh.elim
      | lrow e hs => exact hh.elim
      | dead => simp only [AObj.to] at hto; subst hto; exact hh
      | mp k e t u m =>
        rcases hto with rfl | ⟨k', e', t', u', m', rfl⟩
        · obtain ⟨b, _, rfl⟩ := hh; exact ⟨_, rfl, rfl⟩
        · simp only at hh ⊢; rw [hβ rfl]; exact hh
theorem RelLs_le {p q : RP} (h : p.le q) : ∀ (ls : List Lf) {cs : List Value}, RelLs p ls cs → RelLs q ls cs
  | [], _, hh => hh
  | l :: ls, _, ⟨c, d, e, h1, h2⟩ => ⟨c, d, e, RelL_le h l h1, RelLs_le h ls h2⟩
end

theorem RelVl_le {p q : RP} (h : p.le q) : ∀ (a : Bool × List Lf) {v : Value}, RelVl p a v → RelVl q a v
  | (true, ls), _, ⟨cs, e, h1⟩ => ⟨cs, e, RelLs_le h ls h1⟩
  | (false, _), _, ⟨l, e, h1⟩ => ⟨l, e, h1.imp id (RelL_le h l)⟩
theorem RelVls_le {p q : RP} (h : p.le q) : ∀ (as : List (Bool × List Lf)) {vs : List Value}, RelVls p as vs → RelVls q as vs
  | [], _, hh => hh
  | a :: as, _, ⟨v, r, e, h1, h2⟩ => ⟨v, r, e, RelVl_le h a h1, RelVls_le h as h2⟩
theorem RelAV_le {p q : RP} (h : p.le q) : ∀ (a : AV) {v : Value}, RelAV p a v → RelAV q a v
  | .one l, _, hh => hh.imp id (RelL_le h l)
  | .agg ls, _, ⟨cs, e, h1⟩ => ⟨cs, e, RelLs_le h ls h1⟩
  | .tup vs, _, ⟨ws, e, h1⟩ => ⟨ws, e, RelVls_le h vs h1⟩

end Go.Proofs.R

/- Leafs and cells: cutting, typing, and what a leaf is to a callee. -/
namespace Go.Proofs.R
open Go

theorem castV_eq {t u : Ty} {x : t.V} {y : u.V} (h : castV t u x = some y) : ∃ e : t = u, e ▸ x = y := by
  unfold castV at h
  split at h
  · rename_i e; exact ⟨e, Option.some.inj h⟩
  · cases h

theorem RelL_len {p : RP} : ∀ (l : Lf) {cs : List Value}, RelL p l cs → cs.length = l.size
  | .v t x, _, h => Rd_len t h
  | .nil _ _, _, h => by simp only [RelL] at h; subst h; rfl
  | .row n, _, h => by
    unfold RelL at h; split at h
    · subst h; rfl
    · subst h; rfl
    · obtain ⟨v, rfl, _⟩ := h; rfl
    · exact h.elim
  | .ref n off, _, h => by
    unfold RelL at h; split at h
    · obtain ⟨b, _, rfl⟩ := h; rfl
    · obtain ⟨b, _, rfl⟩ := h; rfl
    · obtain ⟨b, _, rfl⟩ := h; rfl
    · obtain ⟨v, rfl, _⟩ := h; rfl
    · exact h.elim
  | .eref n i off, _, h => by
    unfold RelL at h; split at h
    · obtain ⟨b, o, _, _, _, rfl⟩ := h; rfl
    · obtain ⟨b, o, _, _, _, rfl⟩ := h; rfl
    · obtain ⟨b, _, rfl⟩ := h; rfl
    · obtain ⟨v, rfl, _⟩ := h; rfl
    · exact h.elim
  | .view n lo hi, _, h => by
    unfold RelL at h; split at h
    · obtain ⟨_, _, _, rfl⟩ := h; rfl
    · obtain ⟨v, rfl, _⟩ := h; rfl
    · exact h.elim
  | .pref ls off, _, ⟨_, _, _, e, _, _⟩ => by subst e; rfl
  | .clo f caps, _, ⟨_, e, _⟩ => by subst e; rfl
  | .undef, _, ⟨v, e, _⟩ => by subst e; rfl
  | .nilp, _, h => by simp only [RelL] at h; subst h; rfl
  | .mp n, _, h => by
    unfold RelL at h; split at h
    · obtain ⟨b, _, rfl⟩ := h; rfl
    · obtain ⟨v, rfl, _⟩ := h; rfl
    · exact h.elim

theorem RelLs_append {p : RP} : ∀ {a b : List Lf} {c d : List Value}, RelLs p a c → RelLs p b d → RelLs p (a ++ b) (c ++ d)
  | [], b, c, d, h, h' => by simp only [RelLs] at h; subst h; simpa using h'
  | l :: a, b, _, d, ⟨c1, c2, e, h1, h2⟩, h' => by
    subst e
    exact ⟨c1, c2 ++ d, by simp, h1, RelLs_append h2 h'⟩

theorem RelLs_split {p : RP} : ∀ (a b : List Lf) {cs : List Value}, RelLs p (a ++ b) cs → ∃ c d, cs = c ++ d ∧ RelLs p a c ∧ RelLs p b d
  | [], b, cs, h => ⟨[], cs, rfl, rfl, h⟩
  | l :: a, b, _, ⟨c1, c2, e, h1, h2⟩ => by
    obtain ⟨c, d, e', h3, h4⟩ := RelLs_split a b h2
    subst e; subst e'
    exact ⟨c1 ++ c, d, by simp, ⟨c1, c, rfl, h1, h3⟩, h4⟩

def sizes (ls : List Lf) : Nat := (ls.map Lf.size).sum

theorem RelLs_len {p : RP} : ∀ (ls : List Lf) {cs : List Value}, RelLs p ls cs → cs.length = sizes ls
  | [], _, h => by simp only [RelLs] at h; subst h; rfl
  | l :: ls, _, ⟨c, d, e, h1, h2⟩ => by
    subst e
    rw [List.length_append, RelL_len l h1, RelLs_len ls h2]; rfl

theorem RelLs_leaves {p : RP} : ∀ (t : Ty) {x : t.V} {cs : List Value}, Rd p.S p.w t cs x → RelLs p (leaves t x) cs
  | .unit, _, _, h => h
  | .int k, _, cs, h => ⟨cs, [], by simp, h, rfl⟩
  | .bool, _, cs, h => ⟨cs, [], by simp, h, rfl⟩
  | .str, _, cs, h => ⟨cs, [], by simp, h, rfl⟩
  | .sl t, _, cs, h => ⟨cs, [], by simp, h, rfl⟩
  | .arr n t, _, cs, h => ⟨cs, [], by simp, h, rfl⟩
  | .pair a b, _, _, ⟨c, d, e, h1, h2⟩ => by
    subst e
    exact RelLs_append (RelLs_leaves a h1) (RelLs_leaves b h2)

theorem toLeaf_rel {p : RP} {u : Ty} {ls : List Lf} {cs : List Value} {x : u.V} {r : List Lf} (h : toLeaf u ls = some (x, r)) (hr : RelLs p ls cs) :
    ∃ c d, cs = c ++ d ∧ Rd p.S p.w u c x ∧ RelLs p r d := by
  unfold toLeaf at h
  split at h
  · rename_i t y ls
    simp only [Option.bind_eq_some_iff, Option.some.injEq, Prod.mk.injEq] at h
    obtain ⟨y', h1, rfl, rfl⟩ := h
    obtain ⟨e, h2⟩ := castV_eq h1
    obtain ⟨c, d, rfl, h3, h4⟩ := hr
    subst e; subst h2
    exact ⟨c, d, rfl, h3, h4⟩
  · rename_i e0 t ls
    simp only [Option.bind_eq_some_iff, Option.some.injEq, Prod.mk.injEq] at h
    obtain ⟨y', h1, rfl, rfl⟩ := h
    obtain ⟨e, h2⟩ := castV_eq h1
    obtain ⟨c, d, rfl, h3, h4⟩ := hr
    subst e; subst h2
    exact ⟨c, d, rfl, ⟨none, 0, h3, Nat.le_refl _, .inl rfl⟩, h4⟩
  · cases h

theorem toTy_rel {p : RP} : ∀ (t : Ty) {ls : List Lf} {cs : List Value} {x : t.V} {r : List Lf}, toTy t ls = some (x, r) → RelLs p ls cs →
    ∃ c d, cs = c ++ d ∧ Rd p.S p.w t c x ∧ RelLs p r d
  | .unit, ls, cs, x, r, h, hr => by
    simp only [toTy, Option.some.injEq, Prod.mk.injEq] at h
    obtain ⟨_, rfl⟩ := h
    exact ⟨[], cs, rfl, rfl, hr⟩
  | .pair a b, ls, cs, x, r, h, hr => by
    simp only [toTy, Option.bind_eq_some_iff, Option.some.injEq, Prod.mk.injEq] at h
    obtain ⟨⟨y, r1⟩, h1, ⟨z, r2⟩, h2, rfl, rfl⟩ := h
    obtain ⟨c, d, rfl, h3, h4⟩ := toTy_rel a h1 hr
    obtain ⟨c', d', rfl, h5, h6⟩ := toTy_rel b h2 h4
    exact ⟨c ++ c', d', by simp, ⟨c, c', rfl, h3, h5⟩, h6⟩
  | .int _, _, _, _, _, h, hr => toLeaf_rel h hr
  | .bool, _, _, _, _, h, hr => toLeaf_rel h hr
  | .str, _, _, _, _, h, hr => toLeaf_rel h hr
  | .arr _ _, _, _, _, _, h, hr => toLeaf_rel h hr
  | .sl _, _, _, _, _, h, hr => toLeaf_rel h hr

theorem takeCells_eq : ∀ {ls : List Lf} {n : Nat} {a b : List Lf}, takeCells ls n = some (a, b) → ls = a ++ b ∧ sizes a = n
  | ls, 0, a, b, h => by
    have : takeCells ls 0 = some ([], ls) := by cases ls <;> rfl
    rw [this] at h
    simp only [Option.some.injEq, Prod.mk.injEq] at h
    obtain ⟨rfl, rfl⟩ := h
    exact ⟨rfl, rfl⟩
  | [], n + 1, a, b, h => by simp [takeCells] at h
  | l :: ls, n + 1, a, b, h => by
    simp only [takeCells] at h
    cases hb : Nat.ble l.size (n + 1) with
    | false => simp [hb] at h
    | true =>
      rw [hb] at h
      simp only [cond_true, Option.bind_eq_some_iff, Option.some.injEq, Prod.mk.injEq] at h
      obtain ⟨⟨x, y⟩, h1, rfl, rfl⟩ := h
      obtain ⟨rfl, h3⟩ := takeCells_eq h1
      have := Nat.le_of_ble_eq_true hb
      refine ⟨rfl, ?_⟩
      simp only [sizes, List.map_cons, List.sum_cons] at h3 ⊢
      omega

/-- a part of leafs, with the cells that it stands for -/
theorem subCells_rel {p : RP} {ls q : List Lf} {off n : Nat} {cs : List Value} (h : subCells ls off n = some q) (hr : RelLs p ls cs) :
    ∃ a b c, cs = a ++ (b ++ c) ∧ a.length = off ∧ b.length = n ∧ RelLs p q b := by
  simp only [subCells, Option.bind_eq_some_iff, Option.some.injEq] at h
  obtain ⟨⟨x, y⟩, h1, ⟨z, u⟩, h2, rfl⟩ := h
  obtain ⟨rfl, e1⟩ := takeCells_eq h1
  obtain ⟨e3, e2⟩ := takeCells_eq h2
  simp only at e3 e2; subst e3
  obtain ⟨a, d, rfl, h3, h4⟩ := RelLs_split _ _ hr
  obtain ⟨b, c, rfl, h5, h6⟩ := RelLs_split _ _ h4
  exact ⟨a, b, c, rfl, by rw [RelLs_len _ h3, e1], by rw [RelLs_len _ h5, e2], h5⟩

theorem setCells_rel {p : RP} {ls new ls' : List Lf} {off n : Nat} {cs ds : List Value} (h : setCells ls off n new = some ls') (hr : RelLs p ls cs) (hn : RelLs p new ds) :
    ∃ a b c, cs = a ++ (b ++ c) ∧ a.length = off ∧ b.length = n ∧ RelLs p ls' (a ++ (ds ++ c)) := by
  simp only [setCells, Option.bind_eq_some_iff, Option.some.injEq] at h
  obtain ⟨⟨x, y⟩, h1, ⟨z, u⟩, h2, rfl⟩ := h
  obtain ⟨rfl, e1⟩ := takeCells_eq h1
  obtain ⟨e3, e2⟩ := takeCells_eq h2
  simp only at e3 e2; subst e3
  obtain ⟨a, d, rfl, h3, h4⟩ := RelLs_split _ _ hr
  obtain ⟨b, c, rfl, h5, h6⟩ := RelLs_split _ _ h4
  exact ⟨a, b, c, rfl, by rw [RelLs_len _ h3, e1], by rw [RelLs_len _ h5, e2], RelLs_append h3 (RelLs_append hn h6)⟩

/-! ### what a leaf is to a callee -/
/-- what lets a place's content be read: by slices in S, by pointers in N too -/
structure Opens (p q : RP) (lk : Nat → Option AObj) : Prop where
  S : ∀ b i, p.S b i → q.S b i
  cells : ∀ b i v, (p.S b i ∨ p.N b i) → cellAt p.w b i = some v → cellAt q.w b i = some v
  N : ∀ b i, p.N b i → q.N b i ∨ q.S b i
  row : ∀ n e t xs fz, lk n = some (.row e t xs fz) → p.O n = some (.row e t xs fz) ∧ xs.length ≤ (p.β n).2 ∧
    (xs = [] ∨ ∃ b o cs, (p.β n).1 = some (b, o) ∧ RdsOf (Rd q.S q.w t) cs xs ∧ At q.S q.w b o cs)
  box : ∀ n T ls, lk n = some (.box T ls) → p.O n = some (.box T ls) ∧ ∃ b ds, (p.β n).1 = some (b, 0) ∧ RelLs p ls ds ∧ At (fun b i => q.N b i ∨ q.S b i) q.w b 0 ds

mutual
theorem resolve_rel {p q : RP} {lk : Nat → Option AObj} (h : Opens p q lk) : ∀ (k : Nat) {l m : Lf} {cs : List Value}, resolve lk k l = some m → RelL p l cs → RelL q m cs
  | 0, l, m, cs, e, _ => by simp [resolve] at e
  | k + 1, l, m, cs, e, hr => by
    cases l with
    | v t x =>
      simp only [resolve, Option.some.injEq] at e; subst e
      exact Rd_mono h.S (fun b i v hs => h.cells b i v (.inl hs)) t hr
    | nil e0 t =>
      simp only [resolve, Option.some.injEq] at e; subst e
      exact ⟨none, 0, hr, Nat.le_refl _, .inl rfl⟩
    | row n =>
      simp only [resolve] at e
      split at e
      · rename_i e0 t xs fz hlk
        simp only [Option.some.injEq] at e; subst e
        obtain ⟨hO, hc, hx⟩ := h.row n _ _ _ _ hlk
        unfold RelL at hr; rw [hO] at hr; simp only at hr
        refine ⟨_, _, hr, hc, hx.imp id ?_⟩
        rintro ⟨b, o, ds, hb, h1, h2⟩
        exact ⟨b, o, ds, by rw [hb]; rfl, h1, h2⟩
      · cases e
    | ref n off =>
      simp only [resolve] at e
      split at e
      · rename_i T ls hlk
        simp only [Option.bind_eq_some_iff, Option.some.injEq] at e
        obtain ⟨ms, h1, rfl⟩ := e
        obtain ⟨hO, b, ds, hb, h2, h3⟩ := h.box n _ _ hlk
        unfold RelL at hr; rw [hO] at hr; simp only at hr
        obtain ⟨b', hb', rfl⟩ := hr
        rw [hb] at hb'; simp only [Option.some.injEq, Prod.mk.injEq, and_true] at hb'; subst hb'
        exact ⟨b, 0, ds, by simp, resolveL_rel h k h1 h2, h3⟩
      · cases e
    | eref n i off => simp [resolve] at e
    | view n i off => simp [resolve] at e
    | pref ls off =>
      simp only [resolve, Option.bind_eq_some_iff, Option.some.injEq] at e
      obtain ⟨ms, h1, rfl⟩ := e
      obtain ⟨b, o, ds, e2, h2, h3⟩ := hr
      exact ⟨b, o, ds, e2, resolveL_rel h k h1 h2,
        At_mono (fun b i hs => hs.elim (h.N b i) (fun hs => .inr (h.S b i hs))) (fun b i v hs => h.cells b i v hs.symm) h3⟩
    | clo g caps =>
      simp only [resolve, Option.bind_eq_some_iff, Option.some.injEq] at e
      obtain ⟨ms, h1, rfl⟩ := e
      obtain ⟨vs, e2, h2⟩ := hr
      exact ⟨vs, e2, resolveL_rel h k h1 h2⟩
    | undef =>
      simp only [resolve, Option.some.injEq] at e; subst e
      exact hr
    | nilp =>
      simp only [resolve, Option.some.injEq] at e; subst e
      exact hr
    | mp n => simp [resolve] at e
theorem resolveL_rel {p q : RP} {lk : Nat → Option AObj} (h : Opens p q lk) : ∀ (k : Nat) {ls ms : List Lf} {cs : List Value}, resolveL lk k ls = some ms → RelLs p ls cs → RelLs q ms cs
  | 0, ls, ms, cs, e, _ => by simp [resolveL] at e
  | k + 1, [], ms, cs, e, hr => by
    simp only [resolveL, Option.some.injEq] at e; subst e; exact hr
  | k + 1, l :: ls, ms, cs, e, hr => by
    simp only [resolveL, Option.bind_eq_some_iff, Option.some.injEq] at e
    obtain ⟨m, h1, ms', h2, rfl⟩ := e
    obtain ⟨c, d, rfl, h3, h4⟩ := hr
    exact ⟨c, d, rfl, resolve_rel h k h1 h3, resolveL_rel h k h2 h4⟩
end

theorem resolveAV_rel {p q : RP} {lk : Nat → Option AObj} (h : Opens p q lk) {a b : AV} {v : Value} (e : resolveAV lk a = some b) (hr : RelAV p a v) : RelAV q b v := by
  cases a with
  | one l =>
    simp only [resolveAV, Option.bind_eq_some_iff, Option.some.injEq] at e
    obtain ⟨m, h1, rfl⟩ := e
    rcases hr with rfl | hr
    · simp only [resolve, Option.some.injEq] at h1; exact .inl h1.symm
    · exact .inr (resolve_rel h _ h1 hr)
  | agg ls =>
    simp only [resolveAV, Option.bind_eq_some_iff, Option.some.injEq] at e
    obtain ⟨m, h1, rfl⟩ := e
    obtain ⟨cs, rfl, h2⟩ := hr
    exact ⟨cs, rfl, resolveL_rel h _ h1 h2⟩
  | tup vs => simp [resolveAV] at e

end Go.Proofs.R

/- A call's own memory, and how it may go on. -/
namespace Go.Proofs.R
open Go

/-- What a call stands in: the world at its begin, the old blocks that it may write, the old cells that slices may read. -/
structure Fr where
  w0 : World
  X : Nat → Prop
  Sf : CellSet
  root : Nat → Value
def noRoot : Nat → Value := fun _ => undef
def Fr.N (F : Fr) : CellSet := fun b _ => b < F.w0.heap.size ∧ ¬ F.X b
def Fr.rp (F : Fr) (S : CellSet) (β : Nat → Place) (O : Nat → Option AObj) (w : World) : RP := ⟨S, w, F.N, β, O, F.root⟩

structure Core (F : Fr) (S : CellSet) (β : Nat → Place) (O : Nat → Option AObj) (w : World) : Prop where
  os : w.os = F.w0.os
  tape : w.tape = F.w0.tape
  output : w.output = F.w0.output
  drawn : F.w0.drawn ≤ w.drawn
  size : F.w0.heap.size ≤ w.heap.size
  keep : ∀ k, k < F.w0.heap.size → ¬ F.X k → w.heap[k]? = F.w0.heap[k]?
  obj : ∀ n o, O n = some o → ObjR (F.rp S β O w) n o
  far : ∀ n o b off, O n = some o → o.live = true → (β n).1 = some (b, off) → F.w0.heap.size ≤ b ∨ F.X b
  apart : ∀ n m o o' b x y, O n = some o → O m = some o' → o.live = true → o'.live = true → (β n).1 = some (b, x) → (β m).1 = some (b, y) → n = m
  sf : ∀ b i, F.Sf b i → S b i
  fresh : ∀ b i, S b i → F.Sf b i ∨ F.w0.heap.size ≤ b ∨ F.X b
  dom : ∀ b i, S b i → b < w.heap.size
  still : ∀ b i n o off, S b i → O n = some o → o.live = true → (β n).1 = some (b, off) → ∃ e t xs, o = .row e t xs true ∧ i < off + xs.length * t.size
  froz : ∀ n e t xs b off i, O n = some (.row e t xs true) → (β n).1 = some (b, off) → off ≤ i → i < off + xs.length * t.size → S b i

/-- what lies in a slot; behind a number: the caller's variables -/
def slotV (p : RP) (tmps : Array Value) (d : Nat) : Value := if d < tmps.size then tmps.getD d undef else if d < rootBase then undef else p.root (d - rootBase)
theorem slotV_lt {p : RP} {tmps : Array Value} {d : Nat} (h : d < rootBase) : slotV p tmps d = tmps.getD d undef := by
  unfold slotV
  by_cases hd : d < tmps.size
  · rw [if_pos hd]
  · rw [if_neg hd, if_pos h]
    have : tmps[d]? = none := Array.getElem?_eq_none (by omega)
    simp [this]
def Slots (p : RP) (σ : Nat → Option AV) (tmps : Array Value) : Prop := ∀ d v, σ d = some v → RelAV p v (slotV p tmps d)

theorem blt_lkp {α : Type} {d : Nat} {x : Option α} {a : α} (h : (bif Nat.blt d rootBase then x else none) = some a) : d < rootBase ∧ x = some a := by
  cases hb : Nat.blt d rootBase with
  | false => rw [hb] at h; cases h
  | true => rw [hb] at h; exact ⟨Nat.le_of_ble_eq_true hb, h⟩
theorem Slots.tmp {p : RP} {σ : Nat → Option AV} {tmps : Array Value} (hs : Slots p σ tmps) {d : Nat} {v : AV} (h : (bif Nat.blt d rootBase then σ d else none) = some v) : RelAV p v (tmps.getD d undef) := by
  cases hb : Nat.blt d rootBase with
  | false => rw [hb] at h; cases h
  | true =>
    rw [hb] at h
    have h1 := hs d v h
    rwa [slotV_lt (Nat.le_of_ble_eq_true hb)] at h1
theorem Slots.at {p : RP} {σ : Nat → Option AV} {tmps : Array Value} (hs : Slots p σ tmps) {d : Nat} {v : AV} (hd : d < rootBase) (h : σ d = some v) : RelAV p v (tmps.getD d undef) := by
  have h1 := hs d v h
  rwa [slotV_lt hd] at h1

theorem Slots.le {p q : RP} (h : p.le q) {σ : Nat → Option AV} {tmps : Array Value} (hs : Slots p σ tmps) : Slots q σ tmps :=
  fun d v hd => by
    have : slotV q tmps d = slotV p tmps d := by unfold slotV; rw [h.root]
    rw [this]; exact RelAV_le h v (hs d v hd)

theorem ObjR_le {p q : RP} (h : p.le q) {n : Nat} {o : AObj} (hb : q.β n = p.β n) (hh : ∀ b off, o.live = true → (p.β n).1 = some (b, off) → q.w.heap[b]? = p.w.heap[b]?)
    (hr : ObjR p n o) : ObjR q n o := by
  cases o with
  | dead => trivial
  | iter s pos =>
    obtain ⟨b, h1, h2⟩ := hr
    exact ⟨b, by rw [hb]; exact h1, by rw [hh b 0 rfl h1]; exact h2⟩
  | mp k e t u m =>
    obtain ⟨b, es, cl, h1, h2, h3⟩ := hr
    exact ⟨b, es, cl, by rw [hb]; exact h1, by rw [hh b 0 rfl h1]; exact h2, h3⟩
  | miter l k s =>
    obtain ⟨b, bm, h1, h2, h3⟩ := hr
    exact ⟨b, bm, by rw [hb]; exact h1, by rw [hh b 0 rfl h1]; exact h2, RelL_le h l h3⟩
  | rows e e' t xss s => exact hr.elim
  | lrow e hs =>
    rcases hr with ⟨h1, h2⟩ | ⟨b, o, arr, cs, rest, h1, h2, h3, h4, h5, h6, h7, h8⟩
    · exact .inl ⟨by rw [hb]; exact h1, h2⟩
    · exact .inr ⟨b, o, arr, cs, rest, by rw [hb]; exact h1, by rw [hh b o rfl h1]; exact h2, by rw [hb]; exact h3, h4, RelLs_le h _ h5, by rw [hb]; exact h6, h7, h8⟩
  | box T ls =>
    obtain ⟨b, arr, h1, h2, h3⟩ := hr
    exact ⟨b, arr, by rw [hb]; exact h1, by rw [hh b 0 rfl h1]; exact h2, RelLs_le h ls h3⟩
  | row e t xs fz =>
    rcases hr with ⟨h1, h2⟩ | ⟨b, o, arr, cs, rest, h1, h2, h3, h4, h5, h6, h7, h8⟩
    · exact .inl ⟨by rw [hb]; exact h1, h2⟩
    · exact .inr ⟨b, o, arr, cs, rest, by rw [hb]; exact h1, by rw [hh b o rfl h1]; exact h2, by rw [hb]; exact h3, h4,
        RdsOf_mono (fun _ _ => Rd_mono h.S (fun b i v hs => h.cells b i v (.inl hs)) t) h5, by rw [hb]; exact h6, h7, h8⟩

/-- One step of a call: the objects named in D change (or are new); all the others stay as they are. -/
theorem Core.change {F : Fr} {S S' : CellSet} {β β' : Nat → Place} {O O' : Nat → Option AObj} {w w' : World} (h : Core F S β O w) (D : Nat → Prop)
    (os : w'.os = w.os) (tape : w'.tape = w.tape) (output : w'.output = w.output) (drawn : w.drawn ≤ w'.drawn) (size : w.heap.size ≤ w'.heap.size)
    (blocks : ∀ k, k < w.heap.size → (∀ n o off, O n = some o → o.live = true → D n → (β n).1 ≠ some (k, off)) → w'.heap[k]? = w.heap[k]?)
    (hS : ∀ b i, S b i → S' b i)
    (cells : ∀ b i v, S b i → cellAt w b i = some v → cellAt w' b i = some v)
    (same : ∀ n, ¬ D n → O' n = O n ∧ β' n = β n)
    (chg : ∀ n o, O n = some o → D n → ∃ o', O' n = some o' ∧ o.to o' ∧ (o'.live = true → β' n = β n))
    (new : (F.rp S β O w).le (F.rp S' β' O' w') → ∀ n o, O' n = some o → D n → ObjR (F.rp S' β' O' w') n o)
    (far : ∀ n o b off, D n → O' n = some o → o.live = true → (β' n).1 = some (b, off) → F.w0.heap.size ≤ b ∨ F.X b)
    (apart : ∀ n m o o' b x y, D n → O' n = some o → O' m = some o' → o.live = true → o'.live = true → (β' n).1 = some (b, x) → (β' m).1 = some (b, y) → n = m)
    (fresh : ∀ b i, S' b i → S b i ∨ F.Sf b i ∨ F.w0.heap.size ≤ b ∨ F.X b)
    (dom : ∀ b i, S' b i → b < w'.heap.size)
    (still : ∀ b i n o off, S' b i → O' n = some o → o.live = true → (β' n).1 = some (b, off) → ∃ e t xs, o = .row e t xs true ∧ i < off + xs.length * t.size)
    (froz : ∀ n e t xs b off i, D n → O' n = some (.row e t xs true) → (β' n).1 = some (b, off) → off ≤ i → i < off + xs.length * t.size → S' b i) :
    Core F S' β' O' w' ∧ (F.rp S β O w).le (F.rp S' β' O' w') := by
  have keep' : ∀ k, k < F.w0.heap.size → ¬ F.X k → w'.heap[k]? = w.heap[k]? := by
    intro k hk hX
    refine blocks k (Nat.lt_of_lt_of_le hk h.size) ?_
    intro n o off hO hl _ hb
    rcases h.far n o k off hO hl hb with h1 | h1
    · omega
    · exact hX h1
  have le : (F.rp S β O w).le (F.rp S' β' O' w') := by
    refine ⟨hS, ?_, fun _ _ hn => hn, rfl, ?_⟩
    · intro b i v hs hc
      rcases hs with hs | hn
      · exact cells b i v hs hc
      · rw [← hc]; exact cellAt_block (keep' b hn.1 hn.2)
    · intro n o hO
      by_cases hD : D n
      · exact chg n o hO hD
      · obtain ⟨h1, h2⟩ := same n hD
        exact ⟨o, by rw [← hO]; exact h1, AObj.to_refl o, fun _ => h2⟩
  refine ⟨?_, le⟩
  constructor
  · exact os.trans h.os
  · exact tape.trans h.tape
  · exact output.trans h.output
  · exact Nat.le_trans h.drawn drawn
  · exact Nat.le_trans h.size size
  · exact fun k hk hX => (keep' k hk hX).trans (h.keep k hk hX)
  · intro n o hO
    by_cases hD : D n
    · exact new le n o hO hD
    · obtain ⟨h1, h2⟩ := same n hD
      have hO' : O n = some o := h1 ▸ hO
      refine ObjR_le le h2 ?_ (h.obj n o hO')
      intro b off hl hb
      have hlt : b < w.heap.size := by
        have hobj := h.obj n o hO'
        cases o with
        | dead => cases hl
        | iter s pos =>
          obtain ⟨b', h3, h4⟩ := hobj
          simp only [Fr.rp] at h3 h4 hb
          rw [h3] at hb; simp only [Option.some.injEq, Prod.mk.injEq] at hb; obtain ⟨rfl, _⟩ := hb
          exact (Array.getElem?_eq_some_iff.1 h4).1
        | miter l k s =>
          obtain ⟨b', bm, h3, h4, _⟩ := hobj
          simp only [Fr.rp] at h3 h4 hb
          rw [h3] at hb; simp only [Option.some.injEq, Prod.mk.injEq] at hb; obtain ⟨rfl, _⟩ := hb
          exact (Array.getElem?_eq_some_iff.1 h4).1
        | mp k e t u m =>
          obtain ⟨b', es, cl, h3, h4, _⟩ := hobj
          simp only [Fr.rp] at h3 h4 hb
          rw [h3] at hb; simp only [Option.some.injEq, Prod.mk.injEq] at hb; obtain ⟨rfl, _⟩ := hb
          exact (Array.getElem?_eq_some_iff.1 h4).1
        | box T ls =>
          obtain ⟨b', arr, h3, h4, _⟩ := hobj
          simp only [Fr.rp] at h3 h4 hb
          rw [h3] at hb; simp only [Option.some.injEq, Prod.mk.injEq] at hb; obtain ⟨rfl, _⟩ := hb
          exact (Array.getElem?_eq_some_iff.1 h4).1
        | rows e e' t xss s => exact hobj.elim
        | lrow e hs =>
          rcases hobj with ⟨h3, _⟩ | ⟨b', o', arr, cs, rest, h3, h4, _⟩
          · simp only [Fr.rp] at h3 hb; rw [h3] at hb; cases hb
          · simp only [Fr.rp] at h3 h4 hb
            rw [h3] at hb; simp only [Option.some.injEq, Prod.mk.injEq] at hb; obtain ⟨rfl, _⟩ := hb
            exact (Array.getElem?_eq_some_iff.1 h4).1
        | row e t xs fz =>
          rcases hobj with ⟨h3, _⟩ | ⟨b', o', arr, cs, rest, h3, h4, _⟩
          · simp only [Fr.rp] at h3 hb; rw [h3] at hb; cases hb
          · simp only [Fr.rp] at h3 h4 hb
            rw [h3] at hb; simp only [Option.some.injEq, Prod.mk.injEq] at hb; obtain ⟨rfl, _⟩ := hb
            exact (Array.getElem?_eq_some_iff.1 h4).1
      refine blocks b hlt ?_
      intro m o' off' hOm hlm hDm hbm
      exact hD (h.apart n m o o' b off off' hO' hOm hl hlm hb hbm ▸ hDm)
  · intro n o b off hO hl hb
    by_cases hD : D n
    · exact far n o b off hD hO hl hb
    · obtain ⟨h1, h2⟩ := same n hD
      exact h.far n o b off (h1 ▸ hO) hl (h2 ▸ hb)
  · intro n m o o' b x y hn hm hl hl' hb hb'
    by_cases hD : D n
    · exact apart n m o o' b x y hD hn hm hl hl' hb hb'
    · by_cases hD' : D m
      · exact (apart m n o' o b y x hD' hm hn hl' hl hb' hb).symm
      · obtain ⟨h1, h2⟩ := same n hD
        obtain ⟨h3, h4⟩ := same m hD'
        exact h.apart n m o o' b x y (h1 ▸ hn) (h3 ▸ hm) hl hl' (h2 ▸ hb) (h4 ▸ hb')
  · exact fun b i hs => hS b i (h.sf b i hs)
  · intro b i hs
    rcases fresh b i hs with h1 | h1
    · exact h.fresh b i h1
    · exact h1
  · exact dom
  · exact still
  · intro n e t xs b off i hO hb h1 h2
    by_cases hD : D n
    · exact froz n e t xs b off i hD hO hb h1 h2
    · obtain ⟨h3, h4⟩ := same n hD
      exact hS b i (h.froz n e t xs b off i (h3 ▸ hO) (h4 ▸ hb) h1 h2)

/-- a draw -/
theorem Core.redrawn {F : Fr} {S : CellSet} {β : Nat → Place} {O : Nat → Option AObj} {w : World} (h : Core F S β O w) (n : Nat) (hn : w.drawn ≤ n) :
    Core F S β O { w with drawn := n } ∧ (F.rp S β O w).le (F.rp S β O { w with drawn := n }) := by
  refine h.change (fun _ => False) rfl rfl rfl hn (Nat.le_refl _) (fun _ _ _ => rfl) (fun _ _ h => h) (fun _ _ _ _ h => h) (fun _ _ => ⟨rfl, rfl⟩) (fun _ _ _ h => h.elim)
    (fun _ _ _ _ h => h.elim) (fun _ _ _ _ h => h.elim) (fun _ _ _ _ _ _ _ h => h.elim) (fun _ _ h => .inl h) h.dom h.still (fun _ _ _ _ _ _ _ h => h.elim)

def upd {α : Type} (f : Nat → α) (n : Nat) (a : α) : Nat → α := fun m => if m = n then a else f m
theorem upd_same {α : Type} (f : Nat → α) (n : Nat) (a : α) : upd f n a n = a := by simp [upd]
theorem upd_ne {α : Type} (f : Nat → α) (n m : Nat) (a : α) (h : m ≠ n) : upd f n a m = f m := by simp [upd, h]

theorem getElem?_push_lt {α : Type} (a : Array α) (x : α) (k : Nat) (h : k < a.size) : (a.push x)[k]? = a[k]? := by
  rw [Array.getElem?_push, if_neg (by omega)]

/-- a new block holds a new object -/
theorem Core.new {F : Fr} {S : CellSet} {β : Nat → Place} {O : Nat → Option AObj} {w : World} (h : Core F S β O w) {n : Nat} (hn : O n = none) (o : AObj) (hfz : ∀ e t xs, o ≠ .row e t xs true) (blk : Obj) (cap : Nat)
    (hobj : ∀ q : RP, (F.rp S β O w).le q → q.β n = (some (w.heap.size, 0), cap) → q.w.heap[w.heap.size]? = some blk → ObjR q n o) :
    Core F S (upd β n (some (w.heap.size, 0), cap)) (upd O n (some o)) { w with heap := w.heap.push blk } ∧
      (F.rp S β O w).le (F.rp S (upd β n (some (w.heap.size, 0), cap)) (upd O n (some o)) { w with heap := w.heap.push blk }) := by
  refine h.change (fun m => m = n) rfl rfl rfl (Nat.le_refl _) (by simp) (fun k hk _ => getElem?_push_lt _ _ _ hk) (fun _ _ h => h) ?_ ?_ ?_ ?_ ?_ ?_ (fun _ _ h => .inl h) ?_ ?_ ?_
  · intro b i v hs hc
    rw [← hc]
    exact cellAt_block (getElem?_push_lt _ _ _ (h.dom b i hs))
  · intro m hm; exact ⟨upd_ne _ _ _ _ hm, upd_ne _ _ _ _ hm⟩
  · rintro m o' hO rfl; rw [hn] at hO; cases hO
  · rintro le m o' hO rfl
    rw [upd_same] at hO; cases hO
    exact hobj _ le (by simp [Fr.rp, upd_same]) (by show (w.heap.push blk)[w.heap.size]? = some blk; rw [Array.getElem?_push]; simp)
  · rintro m o' b off rfl hO _ hb
    rw [upd_same] at hb; simp only [Option.some.injEq, Prod.mk.injEq] at hb
    exact .inl (by have := h.size; omega)
  · rintro m m' o1 o2 b x y rfl h1 h2 hl1 hl2 hb1 hb2
    rw [upd_same] at hb1; simp only [Option.some.injEq, Prod.mk.injEq] at hb1
    by_cases e : m' = m
    · exact e.symm
    · rw [upd_ne _ _ _ _ e] at h2 hb2
      exfalso
      have hobj := h.obj m' o2 h2
      have hlt : b < w.heap.size := by
        cases o2 with
        | dead => cases hl2
        | iter s pos =>
          obtain ⟨b', h3, h4⟩ := hobj
          simp only [Fr.rp] at h3 h4
          rw [h3] at hb2; simp only [Option.some.injEq, Prod.mk.injEq] at hb2; obtain ⟨rfl, _⟩ := hb2
          exact (Array.getElem?_eq_some_iff.1 h4).1
        | miter l k s =>
          obtain ⟨b', bm, h3, h4, _⟩ := hobj
          simp only [Fr.rp] at h3 h4
          rw [h3] at hb2; simp only [Option.some.injEq, Prod.mk.injEq] at hb2; obtain ⟨rfl, _⟩ := hb2
          exact (Array.getElem?_eq_some_iff.1 h4).1
        | mp k e t u m =>
          obtain ⟨b', es, cl, h3, h4, _⟩ := hobj
          simp only [Fr.rp] at h3 h4
          rw [h3] at hb2; simp only [Option.some.injEq, Prod.mk.injEq] at hb2; obtain ⟨rfl, _⟩ := hb2
          exact (Array.getElem?_eq_some_iff.1 h4).1
        | box T ls =>
          obtain ⟨b', arr, h3, h4, _⟩ := hobj
          simp only [Fr.rp] at h3 h4
          rw [h3] at hb2; simp only [Option.some.injEq, Prod.mk.injEq] at hb2; obtain ⟨rfl, _⟩ := hb2
          exact (Array.getElem?_eq_some_iff.1 h4).1
        | rows e e' t xss s => exact hobj.elim
        | lrow e hs =>
          rcases hobj with ⟨h3, _⟩ | ⟨b', o', arr, cs, rest, h3, h4, _⟩
          · simp only [Fr.rp] at h3; rw [h3] at hb2; cases hb2
          · simp only [Fr.rp] at h3 h4
            rw [h3] at hb2; simp only [Option.some.injEq, Prod.mk.injEq] at hb2; obtain ⟨rfl, _⟩ := hb2
            exact (Array.getElem?_eq_some_iff.1 h4).1
        | row e t xs fz =>
          rcases hobj with ⟨h3, _⟩ | ⟨b', o', arr, cs, rest, h3, h4, _⟩
          · simp only [Fr.rp] at h3; rw [h3] at hb2; cases hb2
          · simp only [Fr.rp] at h3 h4
            rw [h3] at hb2; simp only [Option.some.injEq, Prod.mk.injEq] at hb2; obtain ⟨rfl, _⟩ := hb2
            exact (Array.getElem?_eq_some_iff.1 h4).1
      omega
  · intro b i hs; have := h.dom b i hs; simp; omega
  · intro b i m o' off hs hO hl hb
    by_cases e : m = n
    · subst e
      rw [upd_same] at hb; simp only [Option.some.injEq, Prod.mk.injEq] at hb
      have := h.dom b i hs; omega
    · rw [upd_ne _ _ _ _ e] at hO hb
      exact h.still b i m o' off hs hO hl hb
  · rintro m e t xs b off i rfl hO
    rw [upd_same] at hO; cases hO
    exact (hfz _ _ _ rfl).elim

/-- the object at a name changes, its block is written -/
theorem Core.write {F : Fr} {S : CellSet} {β : Nat → Place} {O : Nat → Option AObj} {w : World} (h : Core F S β O w) {n : Nat} {o o' : AObj} (hn : O n = some o) (hl : o.live = true) (hto : o.to o') (hl' : o'.live = true)
    {b off : Nat} (hb : (β n).1 = some (b, off)) (hfz : ∀ e t xs, o ≠ .row e t xs true) (hfz' : ∀ e t xs, o' ≠ .row e t xs true) (cs : Array Value)
    (hobj : ∀ q : RP, (F.rp S β O w).le q → q.β n = β n → q.w = w.setRow b cs → ObjR q n o') :
    Core F S β (upd O n (some o')) (w.setRow b cs) ∧ (F.rp S β O w).le (F.rp S β (upd O n (some o')) (w.setRow b cs)) := by
  have hno : ∀ i, ¬ S b i := by
    intro i hs
    obtain ⟨e, t, xs, rfl, _⟩ := h.still b i n o off hs hn hl hb
    exact hfz _ _ _ rfl
  refine h.change (fun m => m = n) rfl rfl rfl (Nat.le_refl _) (by simp) ?_ (fun _ _ h => h) ?_ ?_ ?_ ?_ ?_ ?_ (fun _ _ h => .inl h) ?_ ?_ ?_
  · intro k _ hk
    refine setRow_other w b k cs ?_
    rintro rfl
    exact hk n o off hn hl rfl hb
  · intro b' i v hs hc
    rw [← hc]
    refine cellAt_block (setRow_other w b b' cs ?_)
    rintro rfl; exact hno i hs
  · intro m hm; exact ⟨upd_ne _ _ _ _ hm, rfl⟩
  · rintro m o1 hO rfl
    rw [hn] at hO; cases hO
    exact ⟨o', upd_same _ _ _, hto, fun _ => rfl⟩
  · rintro le m o1 hO rfl
    rw [upd_same] at hO; cases hO
    exact hobj _ le rfl rfl
  · rintro m o1 b' off' rfl hO _ hb'
    exact h.far m o b' off' hn hl hb'
  · rintro m m' o1 o2 b1 x y rfl h1 h2 hl1 hl2 hb1 hb2
    by_cases e : m' = m
    · exact e.symm
    · rw [upd_ne _ _ _ _ e] at h2
      exact h.apart m m' o o2 b1 x y hn h2 hl hl2 hb1 hb2
  · intro b' i hs; rw [setRow_size]; exact h.dom b' i hs
  · intro b' i m o1 off' hs hO hl1 hb1
    by_cases e : m = n
    · subst e
      rw [hb] at hb1; simp only [Option.some.injEq, Prod.mk.injEq] at hb1; obtain ⟨rfl, rfl⟩ := hb1
      exact (hno i hs).elim
    · rw [upd_ne _ _ _ _ e] at hO
      exact h.still b' i m o1 off' hs hO hl1 hb1
  · rintro m e t xs b1 off1 i rfl hO
    rw [upd_same] at hO; cases hO
    exact (hfz' _ _ _ rfl).elim

theorem At_of_block {S : CellSet} {w : World} {b : Nat} {arr : Array Value} {e : TypeId} {fz : Nat × Nat} (hb : w.heap[b]? = some (.cells arr e fz)) :
    ∀ {o : Nat} {cs rest : List Value}, arr.toList.drop o = cs ++ rest → (∀ j, j < cs.length → S b (o + j)) → At S w b o cs
  | _, [], _, _, _ => trivial
  | o, v :: cs, rest, h, hS => by
    have h0 : arr[o]? = some v := by
      have : (arr.toList.drop o)[0]? = some v := by rw [h]; rfl
      rw [List.getElem?_drop] at this
      simpa using this
    refine ⟨by simp [cellAt, World.cell?, hb, h0], by simpa using hS 0 (by simp), ?_⟩
    refine At_of_block hb (o := o + 1) (cs := cs) (rest := rest) ?_ ?_
    · have : arr.toList.drop (o + 1) = (arr.toList.drop o).drop 1 := by rw [List.drop_drop]
      rw [this, h]; rfl
    · intro j hj
      have := hS (j + 1) (by simp; omega)
      rw [show o + 1 + j = o + (j + 1) from by omega]; exact this

theorem lrow_trans {e : TypeId} {hs : List Nat} {o1 o2 : AObj} (t1 : (AObj.lrow e hs).to o1) (t2 : o1.to o2) : (AObj.lrow e hs).to o2 := by
  rcases t1 with rfl | ⟨e', hs', rfl, hl⟩ | ⟨e', t', xs', fz', rfl, hl, h1⟩
  · simp only [AObj.to] at t2; exact .inl t2
  · rcases t2 with rfl | ⟨e2, hs2, rfl, hl2⟩ | ⟨e2, t2, xs2, fz2, rfl, hl2, h2⟩
    · exact .inl rfl
    · exact .inr (.inl ⟨_, _, rfl, hl2.trans hl⟩)
    · exact .inr (.inr ⟨_, _, _, _, rfl, hl2.trans hl, h2⟩)
  · rcases t2 with rfl | ⟨e2, xs2, fz2, rfl, hl2⟩
    · exact .inl rfl
    · exact .inr (.inr ⟨_, _, _, _, rfl, hl2.trans hl, h1⟩)
/-- the cells of an object's content -/
def rowCells (β : Nat → Place) (n : Nat) (k : Nat) : CellSet := fun b i => ∃ off, (β n).1 = some (b, off) ∧ off ≤ i ∧ i < off + k

theorem ObjR_block {p : RP} {n : Nat} {o : AObj} (h : ObjR p n o) (hl : o.live = true) {b off : Nat} (hb : (p.β n).1 = some (b, off)) : b < p.w.heap.size := by
  cases o with
  | dead => cases hl
  | iter s pos =>
    obtain ⟨b', h3, h4⟩ := h
    rw [h3] at hb; simp only [Option.some.injEq, Prod.mk.injEq] at hb; obtain ⟨rfl, _⟩ := hb
    exact (Array.getElem?_eq_some_iff.1 h4).1
  | miter l k s =>
    obtain ⟨b', bm, h3, h4, _⟩ := h
    rw [h3] at hb; simp only [Option.some.injEq, Prod.mk.injEq] at hb; obtain ⟨rfl, _⟩ := hb
    exact (Array.getElem?_eq_some_iff.1 h4).1
  | mp k e t u m =>
    obtain ⟨b', es, cl, h3, h4, _⟩ := h
    rw [h3] at hb; simp only [Option.some.injEq, Prod.mk.injEq] at hb; obtain ⟨rfl, _⟩ := hb
    exact (Array.getElem?_eq_some_iff.1 h4).1
  | box T ls =>
    obtain ⟨b', arr, h3, h4, _⟩ := h
    rw [h3] at hb; simp only [Option.some.injEq, Prod.mk.injEq] at hb; obtain ⟨rfl, _⟩ := hb
    exact (Array.getElem?_eq_some_iff.1 h4).1
  | rows e e' t xss s => exact h.elim
  | lrow e hs =>
    rcases h with ⟨h3, _⟩ | ⟨b', o', arr, cs, rest, h3, h4, _⟩
    · rw [h3] at hb; cases hb
    · rw [h3] at hb; simp only [Option.some.injEq, Prod.mk.injEq] at hb; obtain ⟨rfl, _⟩ := hb
      exact (Array.getElem?_eq_some_iff.1 h4).1
  | row e t xs fz =>
    rcases h with ⟨h3, _⟩ | ⟨b', o', arr, cs, rest, h3, h4, _⟩
    · rw [h3] at hb; cases hb
    · rw [h3] at hb; simp only [Option.some.injEq, Prod.mk.injEq] at hb; obtain ⟨rfl, _⟩ := hb
      exact (Array.getElem?_eq_some_iff.1 h4).1

/-- a row is read only from now on -/
theorem Core.freeze {F : Fr} {S : CellSet} {β : Nat → Place} {O : Nat → Option AObj} {w : World} (h : Core F S β O w) {n : Nat} {e : TypeId} {t : Ty} {xs : List t.V} {fz : Bool} (hn : O n = some (.row e t xs fz)) :
    ∃ S', Core F S' β (upd O n (some (.row e t xs true))) w ∧ (F.rp S β O w).le (F.rp S' β (upd O n (some (.row e t xs true))) w) := by
  refine ⟨fun b i => S b i ∨ rowCells β n (xs.length * t.size) b i, ?_⟩
  have hobj := h.obj n _ hn
  refine h.change (fun m => m = n) rfl rfl rfl (Nat.le_refl _) (Nat.le_refl _) (fun _ _ _ => rfl) (fun _ _ h => .inl h) (fun _ _ _ _ h => h) ?_ ?_ ?_ ?_ ?_ ?_ ?_ ?_ ?_
  · intro m hm; exact ⟨upd_ne _ _ _ _ hm, rfl⟩
  · rintro m o1 hO rfl
    rw [hn] at hO; cases hO
    exact ⟨_, upd_same _ _ _, .inr ⟨_, _, _, rfl, rfl⟩, fun _ => rfl⟩
  · rintro le m o1 hO rfl
    rw [upd_same] at hO; cases hO
    exact ObjR_le (o := .row e t xs true) le rfl (fun _ _ _ _ => rfl) hobj
  · rintro m o1 b' off' rfl hO _ hb'
    exact h.far m _ b' off' hn rfl hb'
  · rintro m m' o1 o2 b1 x y rfl h1 h2 hl1 hl2 hb1 hb2
    by_cases e : m' = m
    · exact e.symm
    · rw [upd_ne _ _ _ _ e] at h2
      exact h.apart m m' _ o2 b1 x y hn h2 rfl hl2 hb1 hb2
  · rintro b i (hs | ⟨off, hb, _, _⟩)
    · exact .inl hs
    · exact .inr (.inr (h.far n _ b off hn rfl hb))
  · rintro b i (hs | ⟨off, hb, _, _⟩)
    · exact h.dom b i hs
    · exact ObjR_block hobj rfl hb
  · rintro b i m o1 off1 hs hO hl1 hb1
    by_cases e : m = n
    · subst e
      rw [upd_same] at hO; cases hO
      refine ⟨_, _, _, rfl, ?_⟩
      rcases hs with hs | ⟨off, hb, _, h2⟩
      · obtain ⟨e', t', xs', h1, h2⟩ := h.still b i m _ off1 hs hn rfl hb1
        cases h1; exact h2
      · rw [hb] at hb1; simp only [Option.some.injEq, Prod.mk.injEq, true_and] at hb1
        omega
    · rw [upd_ne _ _ _ _ e] at hO
      rcases hs with hs | ⟨off, hb, _, h2⟩
      · exact h.still b i m o1 off1 hs hO hl1 hb1
      · exact (e (h.apart m n o1 _ b off1 off hO hn hl1 rfl hb1 hb)).elim
  · rintro m e' t' xs' b off i rfl hO hb h1 h2
    rw [upd_same] at hO; cases hO
    exact .inr ⟨off, hb, h1, h2⟩

/-- what a frozen row is to a slice -/
theorem Core.froz_reads {F : Fr} {S : CellSet} {β : Nat → Place} {O : Nat → Option AObj} {w : World} (h : Core F S β O w) {n : Nat} {e : TypeId} {t : Ty} {xs : List t.V} (hn : O n = some (.row e t xs true)) :
    xs.length ≤ (β n).2 ∧ (xs = [] ∨ ∃ b o cs, (β n).1 = some (b, o) ∧ RdsOf (Rd S w t) cs xs ∧ At S w b o cs) := by
  rcases h.obj n _ hn with ⟨h1, rfl⟩ | ⟨b, o, arr, cs, rest, h1, h2, h3, h4, h5, h6, h7, h8⟩
  · exact ⟨Nat.zero_le _, .inl rfl⟩
  · refine ⟨h3, .inr ⟨b, o, cs, h1, h5, At_of_block h2 h4 ?_⟩⟩
    intro j hj
    rw [RdsOf_len (fun _ _ => Rd_len t) h5] at hj
    exact h.froz n e t xs b o (o + j) hn h1 (by omega) (by omega)

def over (u : Upd) (O : Nat → Option AObj) (n : Nat) : Option AObj :=
  match lkp u n with
  | some o => some o
  | none => O n
theorem over_nil (O : Nat → Option AObj) : over [] O = O := rfl
theorem lkp_cons {α : Type} (n m : Nat) (a : α) (u : List (Nat × α)) : lkp ((n, a) :: u) m = if m = n then some a else lkp u m := by
  show (bif Nat.beq n m then some a else lkp u m) = _
  cases hb : Nat.beq n m with
  | true => have := Nat.eq_of_beq_eq_true hb; simp [this]
  | false =>
    have : ¬ m = n := by rintro rfl; simp at hb
    simp [this]
theorem over_cons (n : Nat) (o : AObj) (u : Upd) (O : Nat → Option AObj) : over ((n, o) :: u) O = upd (over u O) n (some o) := by
  funext m
  unfold over upd
  rw [lkp_cons]
  by_cases e : m = n <;> simp [e]
theorem lkp_append {α : Type} (u v : List (Nat × α)) (n : Nat) : lkp (u ++ v) n = match lkp u n with | some o => some o | none => lkp v n := by
  induction u with
  | nil => rfl
  | cons a u ih =>
    obtain ⟨m, o⟩ := a
    rw [List.cons_append, lkp_cons, lkp_cons, ih]
    by_cases e : n = m <;> simp [e]
theorem over_lkp (u v : Upd) : over u (lkp v) = lkp (u ++ v) := by
  funext n; rw [lkp_append]; unfold over; cases lkp u n <;> rfl
theorem over_append (u v : Upd) (O : Nat → Option AObj) : over (u ++ v) O = over u (over v O) := by
  funext n; unfold over; simp only [lkp_append]; cases lkp u n <;> rfl

/-- rows among names, frozen one by one -/
theorem Core.freezes {F : Fr} {β : Nat → Place} {O : Nat → Option AObj} {w : World} {lk : Nat → Option AObj} (hlk : ∀ n o, lk n = some o → O n = some o) :
    ∀ (ns : List Nat) {S : CellSet}, Core F S β O w → ∃ S', Core F S' β (over (freezes lk ns) O) w ∧ (F.rp S β O w).le (F.rp S' β (over (freezes lk ns) O) w) ∧
      (∀ n e t xs fz, O n = some (.row e t xs fz) → ∃ fz', over (R.freezes lk ns) O n = some (.row e t xs fz') ∧ (fz = true → fz' = true) ∧ (n ∈ ns → lk n ≠ none → fz' = true)) ∧
      (∀ n T ls, O n = some (.box T ls) → over (R.freezes lk ns) O n = some (.box T ls))
  | [], S, h => ⟨S, h, ⟨fun _ _ h => h, fun _ _ _ _ h => h, fun _ _ h => h, rfl, fun n o ho => ⟨o, ho, AObj.to_refl o, fun _ => rfl⟩⟩,
      fun n e t xs fz hO => ⟨fz, hO, id, fun hm => by cases hm⟩, fun _ _ _ h => h⟩
  | n :: ns, S, h => by
    obtain ⟨S1, h1, le1, hr1, hb1⟩ := Core.freezes hlk ns h
    unfold R.freezes
    split
    · rename_i e t xs hn
      have hO := hlk n _ hn
      obtain ⟨fz', hO1, _, _⟩ := hr1 n _ _ _ _ hO
      obtain ⟨S2, h2, le2⟩ := h1.freeze hO1
      rw [over_cons]
      refine ⟨S2, h2, ?_, ?_, ?_⟩
      · refine ⟨fun b i hs => le2.S b i (le1.S b i hs), fun b i v hs hc => le2.cells b i v (hs.imp (le1.S b i) (le1.N b i)) (le1.cells b i v hs hc), fun b i hs => hs, rfl, ?_⟩
        intro m o ho
        obtain ⟨o1, ho1, t1, b1⟩ := le1.obj m o ho
        obtain ⟨o2, ho2, t2, b2⟩ := le2.obj m o1 ho1
        refine ⟨o2, ho2, ?_, fun _ => rfl⟩
        cases o with
        | dead => simp only [AObj.to] at t1; subst t1; exact t2
        | box T ls =>
          rcases t1 with rfl | ⟨T1, ls1, rfl⟩
          · simp only [AObj.to] at t2; exact .inl t2
          · exact t2
        | iter s pos =>
          rcases t1 with rfl | ⟨s1, pos1, rfl⟩
          · simp only [AObj.to] at t2; exact .inl t2
          · exact t2
        | miter l k s =>
          rcases t1 with rfl | ⟨l1, k1, s1, rfl⟩
          · simp only [AObj.to] at t2; exact .inl t2
          · exact t2
        | rows e e' t xss s => trivial
        | lrow e hs => exact lrow_trans t1 t2
        | mp k e t u m =>
          rcases t1 with rfl | ⟨k1, e1, t3, u1, m1, rfl⟩
          · simp only [AObj.to] at t2; exact .inl t2
          · exact t2
        | row e t xs fz =>
          rcases t1 with rfl | ⟨e1, xs1, fz1, rfl, hl⟩
          · simp only [AObj.to] at t2; exact .inl t2
          · rcases t2 with rfl | ⟨e2, xs2, fz2, rfl, hl2⟩
            · exact .inl rfl
            · exact .inr ⟨e2, xs2, fz2, rfl, hl2.trans hl⟩
      · intro m e1 t1 xs1 fz1 hm
        by_cases e0 : m = n
        · subst e0
          rw [hO] at hm; cases hm
          exact ⟨true, upd_same _ _ _, fun _ => rfl, fun _ _ => rfl⟩
        · obtain ⟨fz2, h3, h4, h5⟩ := hr1 m _ _ _ _ hm
          exact ⟨fz2, (upd_ne _ _ _ _ e0).trans h3, h4, fun hm' hk => h5 ((List.mem_cons.1 hm').resolve_left e0) hk⟩
      · intro m T ls hm
        have e0 : m ≠ n := by rintro rfl; rw [hO] at hm; cases hm
        exact (upd_ne _ _ _ _ e0).trans (hb1 m T ls hm)
    · rename_i hno
      refine ⟨S1, h1, le1, ?_, hb1⟩
      intro m e1 t1 xs1 fz1 hm
      obtain ⟨fz2, h3, h4, h5⟩ := hr1 m _ _ _ _ hm
      refine ⟨fz2, h3, h4, ?_⟩
      intro hm' hk
      rcases List.mem_cons.1 hm' with rfl | hm'
      · cases hfz : fz1 with
        | true => exact h4 hfz
        | false =>
          cases hl : lk m with
          | none => exact (hk hl).elim
          | some o =>
            have := hlk m o hl
            rw [hm, hfz] at this; cases this
            exact (hno _ _ _ hl).elim
      · exact h5 hm' hk

end Go.Proofs.R

/- What is told of memory as a whole; a region that is told by hand. -/
namespace Go.Proofs.R
open Go

/-- the rows of a row of rows, in memory -/
def HsOk (P : Nat → Option AObj) (hs : List Nat) (e' : TypeId) (t : Ty) (xss : List (List t.V)) (s : RSt) : Prop :=
  hs.length = xss.length ∧ hs.Nodup ∧ ∀ (i q : Nat) (xs : List t.V), hs[i]? = some q → xss[i]? = some xs → bigName ≤ q ∧ (s ≠ .hole (i : Int) → P q = some (.row e' t xs s.fz))

/-- what is told of the objects, and what is in memory -/
structure View (O P : Nat → Option AObj) : Prop where
  small : ∀ n o, O n = some o → n < bigName
  plain : ∀ n, n < bigName → plainO (O n) = true → P n = O n
  rows : ∀ n e e' t xss s, O n = some (.rows e e' t xss s) → ∃ hs, P n = some (.lrow e hs) ∧ HsOk P hs e' t xss s
  lrow : ∀ n e hs, O n ≠ some (.lrow e hs)
  apart : ∀ n m e hs e2 hs2, P n = some (.lrow e hs) → P m = some (.lrow e2 hs2) → n ≠ m → ∀ q ∈ hs, q ∉ hs2
  bound : ∃ B, (∀ k, B ≤ k → P k = none) ∧ ∀ n e hs, P n = some (.lrow e hs) → ∀ q ∈ hs, q < B
  hid : ∀ n e hs, P n = some (.lrow e hs) → n < bigName ∧ ∀ q ∈ hs, bigName ≤ q

def AllFull (O : Nat → Option AObj) : Prop := ∀ n e e' t xss s, O n = some (.rows e e' t xss s) → s = .full ∨ s = .own

/-- memory is as the state tells -/
def Good (F : Fr) (nt : Nat) (st : St) (a : Act) (w : World) : Prop :=
  ∃ S β P, Core F S β P w ∧ Slots (F.rp S β P w) (lkp st.σ) a.tmps ∧ View (lkp st.O) P ∧ AllFull (lkp st.O) ∧ a.tmps.size = nt ∧ a.defers = []

/-- a region's operations, in each order in which they may come -/
def RegW (P : Program) (ops : Array Oper) (draw : Bool) (Q : Exit → Act → World → Prop) (a : Act) (w : World) : Prop :=
  if draw = true then ∀ t, wpOps P ops Q (Region.schedule (P.follows .mixedOrders) ops t) a { w with drawn := w.drawn + 1 } else wpOps P ops Q (List.range ops.size) a w
/-- a region that a chapter tells by hand: so it is in memory -/
def MacOk (P : Program) (c : Ctx) : Prop :=
  ∀ ops m, c.mac ops = some m → ∀ (draw : Bool) (nt : Nat) (F : Fr) (s s' : St) (a : Act) (w : World) (Q : Exit → Act → World → Prop),
    m nt s = some s' → Good F nt s a w → (∀ a w, Good F nt s' a w → Q .normal a w) → RegW P ops draw Q a w
theorem MacOk.none {P : Program} {c : Ctx} (h : c.mac = fun _ => Option.none) : MacOk P c := by
  intro ops m hm; rw [h] at hm; cases hm
end Go.Proofs.R

