/- An interpreter for the model's code over pure values: definitions. -/
import Derived.Calls
import Derived.Orders
import Derived.Laws.Sem
namespace Go.Proofs.Sx
open Go

/-! ### Values -/

/-- A pure value: it leads to memory that nobody writes any more. -/
inductive PV where
  | int (k : IntKind) (n : Int)
  | bool (b : Bool)
  | str (s : ByteArray)
  | list (e : TypeId) (xs : List PV)
  | agg (cs : List PV)
  | func (f : FuncId) (caps : List PV)
  deriving Inhabited

/-- A value in a frame. -/
inductive AV where
  | pv (p : PV)
  | ref (id off : Nat)
  | row (id gen : Nat)
  | elem (id gen i off : Nat)
  | pelem (e : TypeId) (p : PV) (off : Nat)
  | agg (cs : List AV)
  | tup (vs : List AV)
  | nilS (e : TypeId)
  | nilP
  | undef
  | gone
  deriving Inhabited

/-- What a frame's references lead to. -/
inductive Ob where
  | box (cs : List AV)
  | row (gen : Nat) (e : TypeId) (xs : List PV) (fr : Bool)
  | dead (gen : Nat)
  deriving Inhabited

structure St where
  n : Nat
  np : Nat
  sl : Nat → AV
  ob : Nat → Option Ob

/-- What is told at a call's border of a cell. -/
inductive CV where
  | v (p : PV)
  | own (e : TypeId) (xs : List PV)
  deriving Inhabited

inductive PA where
  | v (p : PV)
  | own (e : TypeId) (xs : List PV)
  | lent (cs : List CV)
  deriving Inhabited

structure Ret where
  res : List CV
  lent : List (List CV)
  deriving Inhabited

/-- What an operation does: its value, rows and boxes that are new, others that turn. -/
structure Delta where
  v : AV
  new : List (Nat × Ob)
  set : List (Nat × Ob)

def upd {α : Type} (f : Nat → α) (i : Nat) (v : α) : Nat → α := fun j => cond (Nat.beq j i) v (f j)

/-! ### Looking at values, with what follows behind -/
section
variable {α : Type}

/-- A value, seen first: so that what follows finds it worked out. -/
def force1 (a : AV) (K : AV → Option α) : Option α :=
  match a with
  | .pv p => K (.pv p)
  | .ref i o => K (.ref i o)
  | .row i g => K (.row i g)
  | .elem i g j o => K (.elem i g j o)
  | .pelem e p o => K (.pelem e p o)
  | .agg cs => K (.agg cs)
  | .tup vs => K (.tup vs)
  | .nilS e => K (.nilS e)
  | .nilP => K .nilP
  | .undef => K .undef
  | .gone => K .gone
def forceL : List AV → (List AV → Option α) → Option α
  | [], K => K []
  | a :: as, K => force1 a fun a' => forceL as fun as' => K (a' :: as')
def forceAV (a : AV) (K : AV → Option α) : Option α :=
  match a with
  | .agg cs => forceL cs fun cs' => K (.agg cs')
  | .tup cs => forceL cs fun cs' => K (.tup cs')
  | a => force1 a K
@[simp] theorem force1_eq (a : AV) (K : AV → Option α) : force1 a K = K a := by cases a <;> rfl
@[simp] theorem forceL_eq : ∀ (as : List AV) (K : List AV → Option α), forceL as K = K as
  | [], K => rfl
  | a :: as, K => by simp only [forceL, force1_eq, forceL_eq as]
@[simp] theorem forceAV_eq (a : AV) (K : AV → Option α) : forceAV a K = K a := by cases a <;> simp only [forceAV, forceL_eq, force1_eq]

def asInt (k : IntKind) (p : PV) (K : Int → Option α) : Option α :=
  match p with
  | .int k' n => cond (decide (k' = k)) (K n) none
  | _ => none
def asBool (p : PV) (K : Bool → Option α) : Option α :=
  match p with
  | .bool b => K b
  | _ => none
def asStr (p : PV) (K : ByteArray → Option α) : Option α :=
  match p with
  | .str s => K s
  | _ => none
def asList (e : TypeId) (p : PV) (K : List PV → Option α) : Option α :=
  match p with
  | .list e' xs => cond (Nat.beq e' e) (K xs) none
  | _ => none
def asFunc (p : PV) (K : FuncId → List PV → Option α) : Option α :=
  match p with
  | .func f cs => K f cs
  | _ => none
def isAggN (n : Nat) : PV → Bool
  | .agg cs => Nat.beq cs.length n
  | _ => false
def cellP (j : Nat) : PV → PV
  | .agg cs => cs.getD j default
  | _ => default
def cellsP (n : Nat) (p : PV) : List PV := (List.range n).map fun j => cellP j p

/-- A slice, as it reads now. -/
def asRow (ob : Nat → Option Ob) (e : TypeId) (a : AV) (K : List PV → Option α) : Option α :=
  match a with
  | .pv p => asList e p K
  | .nilS _ => K []
  | .row id g =>
    match ob id with
    | some (.row g' e' xs _) => cond (Nat.beq g g' && Nat.beq e' e) (K xs) none
    | _ => none
  | _ => none

/-- A value that goes where it is not written any more: its pure value, and the rows that are not written any more from now on. -/
def toPV (ob : Nat → Option Ob) (a : AV) (K : PV → List (Nat × Ob) → Option α) : Option α :=
  match a with
  | .pv p => K p []
  | .nilS e => K (.list e []) []
  | .row id g =>
    match ob id with
    | some (.row g' e xs fr) => cond (Nat.beq g g') (K (.list e xs) (cond fr [] [(id, .row g' e xs true)])) none
    | _ => none
  | _ => none

/-- Cells one behind the other. -/
def toPVs (ob : Nat → Option Ob) : List AV → (List PV → List (Nat × Ob) → Option α) → Option α
  | [], K => K [] []
  | a :: as, K => toPV ob a fun p f => toPVs ob as fun ps fs => K (p :: ps) (f ++ fs)

/-- A value, a struct's too. -/
def toPVA (ob : Nat → Option Ob) (a : AV) (K : PV → List (Nat × Ob) → Option α) : Option α :=
  match a with
  | .agg cs => toPVs ob cs fun ps fs => K (.agg ps) fs
  | a => toPV ob a K
def toPVAs (ob : Nat → Option Ob) : List AV → (List PV → List (Nat × Ob) → Option α) → Option α
  | [], K => K [] []
  | a :: as, K => toPVA ob a fun p f => toPVAs ob as fun ps fs => K (p :: ps) (f ++ fs)

def avInt (k : IntKind) (a : AV) (K : Int → Option α) : Option α :=
  match a with
  | .pv p => asInt k p K
  | _ => none
/-- A number, of whatever kind. -/
def avIdx (a : AV) (K : Int → Option α) : Option α :=
  match a with
  | .pv (.int _ n) => K n
  | _ => none
def avBool (a : AV) (K : Bool → Option α) : Option α :=
  match a with
  | .pv p => asBool p K
  | _ => none
end

/-! ### The program's tables -/
def sizeT (P : Program) (t : TypeId) : Nat := P.cellsOf t
def aggT (P : Program) (t : TypeId) : Bool :=
  match P.underlying t with
  | some (.struct _) => true
  | some (.array _ _) => true
  | _ => false
/-- Is it a type? -/
def okT (P : Program) (t : TypeId) : Bool := (P.underlying t).isSome
def sliceT (P : Program) (t : TypeId) : Option TypeId :=
  match P.underlying t with
  | some (.slice e) => some e
  | _ => none
def intT (P : Program) (t : TypeId) : Option IntKind :=
  match P.underlying t with
  | some (.int k) => some k
  | _ => none
def strT (P : Program) (t : TypeId) : Bool :=
  match P.underlying t with
  | some .string => true
  | _ => false
def boolT (P : Program) (t : TypeId) : Bool :=
  match P.underlying t with
  | some .bool => true
  | _ => false
/-- The types of a type's cells. -/
def flatT (P : Program) : Nat → TypeId → List TypeId
  | 0, t => [t]
  | d + 1, t =>
    match P.underlying t with
    | some (.struct fs) => fs.toList.flatMap fun f => flatT P d f.type
    | some (.array n e) => (List.replicate n (flatT P d e)).flatten
    | _ => [t]
def zeroOf (P : Program) (t : TypeId) (v : Value) : AV :=
  match v with
  | .int k n => .pv (.int k n)
  | .bool b => .pv (.bool b)
  | .string s => .pv (.str s)
  | .slice none 0 0 => .nilS ((sliceT P t).getD 0)
  | .pointer none => .nilP
  | _ => .gone
def zeroAV (P : Program) (t : TypeId) : Option (List AV) :=
  match (P.info? t).bind (·.zero) with
  | some z =>
    let ts := flatT P 8 t
    let vs := z.cells.toList
    cond (Nat.beq vs.length (sizeT P t) && vs.all Value.oneCell' && okT P t) (some (vs.zipIdx.map fun (v, i) => zeroOf P (ts.getD i 0) v)) none
  | none => none
/-- The zero value of a type that leads nowhere. -/
def zeroCellP : AV → Option PV
  | .pv p => some p
  | .nilS e => some (.list e [])
  | _ => none
def isAggV : Value → Bool
  | .agg _ => true
  | _ => false
def zeroPV (P : Program) (t : TypeId) : Option PV :=
  match (P.info? t).bind (·.zero), zeroAV P t with
  | some z, some cs =>
    match cs.mapM zeroCellP with
    | some ps => cond (aggT P t) (cond (isAggV z) (some (.agg ps)) none) (cond (isAggV z) none ps.head?)
    | none => none
  | _, _ => none

def constAV (P : Program) (t : TypeId) (v : Value) : AV :=
  match v with
  | .int k n => .pv (.int k n)
  | .bool b => .pv (.bool b)
  | .string s => .pv (.str s)
  | .slice none 0 0 => .nilS ((sliceT P t).getD 0)
  | .pointer none => .nilP
  | _ => .gone

def opd (P : Program) (sl : Nat → AV) (t : TypeId) (x : Operand) : AV :=
  match x with
  | .tmp i => sl i
  | .const v => constAV P t v
  | .func f => .pv (.func f [])
  | .global _ => .gone

/-! ### Operations -/
section
variable {α : Type} (P : Program)

/-- A pure value of a type of one cell, in its own form. -/
def normPV (t : TypeId) (p : PV) (K : PV → Option α) : Option α :=
  match P.underlying t with
  | some (.int k) => asInt k p fun n => K (.int k n)
  | some .bool => asBool p fun b => K (.bool b)
  | some .string => asStr p fun s => K (.str s)
  | some (.slice e) => asList e p fun xs => K (.list e xs)
  | some (.func _ _ _) => asFunc p fun f cs => K (.func f cs)
  | _ => none

/-- The cells of a value that is stored whole. -/
def cellsAV (t : TypeId) (a : AV) (K : List AV → Option α) : Option α :=
  cond (okT P t) (cond (aggT P t)
    (match a with
     | .agg cs => cond (Nat.beq cs.length (sizeT P t)) (K cs) none
     | .pv p => cond (isAggN (sizeT P t) p) (K ((cellsP (sizeT P t) p).map .pv)) none
     | _ => none)
    (cond (Nat.beq (sizeT P t) 1)
      (match a with
       | .pv p => normPV P t p fun q => K [.pv q]
       | .ref id off => K [.ref id off]
       | .row id g => K [.row id g]
       | .elem id g i off => K [.elem id g i off]
       | .pelem e p off => K [.pelem e p off]
       | .nilS e => K [.nilS e]
       | .nilP => K [.nilP]
       | _ => none) none)) none

def strEq (x y : ByteArray) : Bool := x.toList == y.toList
def strLt (x y : ByteArray) : Bool := Op.bytesLess x.toList y.toList

def binStr (op : BinOp) (x y : ByteArray) (K : PV → Option α) : Option α :=
  match op with
  | .add => cond (Nat.ble (x.size + y.size) 9223372036854775807) (K (.str (x ++ y))) none
  | .eql => K (.bool (strEq x y))
  | .neq => K (.bool !(strEq x y))
  | .lss => K (.bool (strLt x y))
  | .leq => K (.bool (strLt x y || strEq x y))
  | .gtr => K (.bool !(strLt x y || strEq x y))
  | .geq => K (.bool !(strLt x y))
  | _ => none

def binInt (op : BinOp) (k : IntKind) (x y : Int) (K : PV → Option α) : Option α :=
  match op with
  | .add => K (.int k (k.wrap (x + y)))
  | .sub => K (.int k (k.wrap (x - y)))
  | .mul => K (.int k (k.wrap (x * y)))
  | .quo => cond (decide (y = 0)) none (K (.int k (k.wrap (x.tdiv y))))
  | .rem => cond (decide (y = 0)) none (K (.int k (x.tmod y)))
  | .and => K (.int k (k.wrap (BitVec.ofInt k.bits x &&& BitVec.ofInt k.bits y).toNat))
  | .or => K (.int k (k.wrap (BitVec.ofInt k.bits x ||| BitVec.ofInt k.bits y).toNat))
  | .xor => K (.int k (k.wrap (BitVec.ofInt k.bits x ^^^ BitVec.ofInt k.bits y).toNat))
  | .eql => K (.bool (x == y))
  | .neq => K (.bool (x != y))
  | .lss => K (.bool (decide (x < y)))
  | .leq => K (.bool (decide (x ≤ y)))
  | .gtr => K (.bool (decide (x > y)))
  | .geq => K (.bool (decide (x ≥ y)))
  | _ => none

def binShift (op : BinOp) (k : IntKind) (x y : Int) (K : PV → Option α) : Option α :=
  cond (decide (y < 0)) none
    (match op with
     | .shl => K (.int k (k.wrap (x * 2 ^ (min y.toNat k.bits))))
     | .shr => K (.int k (x.fdiv (2 ^ (min y.toNat k.bits))))
     | _ => none)

def binBool (op : BinOp) (x y : Bool) (K : PV → Option α) : Option α :=
  match op with
  | .eql => K (.bool (x == y))
  | .neq => K (.bool !(x == y))
  | _ => none

def isShift : BinOp → Bool
  | .shl => true
  | .shr => true
  | _ => false

def binAV (op : BinOp) (t yt : TypeId) (a b : AV) (K : PV → Option α) : Option α :=
  match a, b with
  | .pv p, .pv q =>
    match intT P t, strT P t, boolT P t with
    | some k, _, _ =>
      cond (isShift op)
        (match intT P yt with
         | some k' => asInt k p fun x => asInt k' q fun y => binShift op k x y K
         | none => none)
        (asInt k p fun x => asInt k q fun y => binInt op k x y K)
    | _, true, _ => asStr p fun x => asStr q fun y => binStr op x y K
    | _, _, true => asBool p fun x => asBool q fun y => binBool op x y K
    | _, _, _ => none
  | _, _ => none

def inB (i : Int) (n : Nat) : Bool := decide (0 ≤ i) && decide (i < (n : Int))

/-- Fields put in at their places. -/
def putCells (cs : List AV) (off : Nat) (ws : List AV) : List AV := cs.take off ++ ws ++ cs.drop (off + ws.length)

def fillAV (fs : Array Field) (sl : Nat → AV) : List (Nat × Operand) → List AV → (List AV → Option α) → Option α
  | [], cs, K => K cs
  | (i, x) :: rest, cs, K =>
    match fs[i]? with
    | some f => cellsAV P f.type (opd P sl f.type x) fun ws =>
        cond (Nat.ble (f.offset + ws.length) cs.length) (fillAV fs sl rest (putCells cs f.offset ws) K) none
    | none => none

def fillPV (e : TypeId) (ob : Nat → Option Ob) (sl : Nat → AV) : List (Nat × Operand) → List PV → (List PV → List (Nat × Ob) → Option α) → Option α
  | [], xs, K => K xs []
  | (i, x) :: rest, xs, K =>
    cond (Nat.blt i xs.length)
      (cellsAV P e (opd P sl e x) fun _ => toPVA ob (opd P sl e x) fun p f => fillPV e ob sl rest (xs.set i p) fun ys fs => K ys (f ++ fs)) none

/-- A part of a struct's cells. -/
def partAV (t : TypeId) (cs : List AV) (off : Nat) (K : AV → Option α) : Option α :=
  cond (okT P t) (cond (aggT P t)
    (cond (Nat.ble (off + sizeT P t) cs.length) (K (.agg ((cs.drop off).take (sizeT P t)))) none)
    (match cs[off]? with
     | some c => K c
     | none => none)) none

/-- A part of an element that is read: all of it, or what stands at a place. -/
def partPV (e t : TypeId) (p : PV) (off : Nat) (K : PV → Option α) : Option α :=
  cond (okT P t) (cond (Nat.beq t e && Nat.beq off 0) (K p)
    (cond (aggT P e && isAggN (sizeT P e) p)
      (cond (aggT P t)
        (cond (Nat.ble (off + sizeT P t) (sizeT P e)) (K (.agg (((cellsP (sizeT P e) p).drop off).take (sizeT P t)))) none)
        (cond (Nat.blt off (sizeT P e)) (K (cellP off p)) none))
      none)) none

/-- An element with a part of it turned. -/
def turnPV (e t : TypeId) (p : PV) (off : Nat) (q : PV) (K : PV → Option α) : Option α :=
  cond (Nat.beq t e && Nat.beq off 0) (K q)
    (cond (aggT P e && isAggN (sizeT P e) p)
      (cond (aggT P t)
        (cond (isAggN (sizeT P t) q && Nat.ble (off + sizeT P t) (sizeT P e))
          (K (.agg ((cellsP (sizeT P e) p).take off ++ cellsP (sizeT P t) q ++ (cellsP (sizeT P e) p).drop (off + sizeT P t)))) none)
        (cond (Nat.blt off (sizeT P e)) (K (.agg ((cellsP (sizeT P e) p).set off q))) none))
      none)

def fieldT (t : TypeId) (f : Nat) : Option Field :=
  match P.underlying t with
  | some (.struct fs) => fs[f]?
  | _ => none

def bytesT (t : TypeId) : Nat := P.bytesOf t
end
end Go.Proofs.Sx
