/- An interpreter for the model's code over pure values: operations, regions, code, calls. -/
import Derived.Test.YtoeplmfcjonkgaaGreatSxDef
namespace Go.Proofs.Sx
open Go

/-- What is kept of a frame at a place: slots, variables; the slots (the variables' cells) whose rows get numbers of their own. -/
structure LoopAn where
  keepS : List Nat
  keepO : List Nat
  canon : List (Nat × Nat)
  canonC : List (Nat × Nat × Nat)
  deriving Inhabited

/-- What is told ahead of a program's functions: none of it has to be right. -/
structure An where
  loop : FuncId → Nat → LoopAn
  join : FuncId → Nat → Option LoopAn
  own : FuncId → List Nat
  rown : FuncId → List Nat
  flat : FuncId → Bool
  lown : TypeId → List Nat
  trunc : FuncId → List Nat
  sum : FuncId → Option (List PA → Option Ret)

def memN (x : Nat) : List Nat → Bool
  | [] => false
  | y :: ys => cond (Nat.beq x y) true (memN x ys)

section
variable {α : Type}

def bR (r : Option Ret) (K : Ret → Option α) : Option α :=
  match r with
  | some x => K x
  | none => none

def lkN (l : List (Nat × Nat)) (t : Nat) : Option Nat :=
  match l with
  | [] => none
  | (i, a) :: r => cond (Nat.beq t i) (some a) (lkN r t)
/-- Are the results (the cells) as told: own at these places, of these types, else plain? -/
def okCV (own : List (Nat × TypeId)) : Nat → Nat → List CV → Bool
  | _, 0, [] => true
  | i, n + 1, .v _ :: cs =>
    match lkN own i with
    | some _ => false
    | none => okCV own (i + 1) n cs
  | i, n + 1, .own e _ :: cs =>
    match lkN own i with
    | some e' => cond (Nat.beq e e') (okCV own (i + 1) n cs) false
    | none => false
  | _, _, _ => false
def okLents : List (List (Nat × TypeId) × Nat) → List (List CV) → Bool
  | [], [] => true
  | (own, n) :: ms, cs :: ls => okCV own 0 n cs && okLents ms ls
  | _, _ => false
def isFlatP : PV → Bool
  | .int _ _ => true
  | .bool _ => true
  | .str _ => true
  | _ => false
def isFlatCV : CV → Bool
  | .v p => isFlatP p
  | .own _ _ => false
def cvP (c : CV) : PV :=
  match c with
  | .v p => p
  | _ => default
def cvL (c : CV) : List PV :=
  match c with
  | .own _ xs => xs
  | _ => []
def resC (j : Nat) (r : Ret) : CV := r.res.getD j default
def lentC (i j : Nat) (r : Ret) : CV := (r.lent.getD i []).getD j default

def cellId (id j : Nat) : Nat := 1000000 * (j + 1) + id
def rid (d j : Nat) : Nat := 1000 * (j + 1) + d

variable (P : Program) (an : An) (me : FuncId) (cf : FuncId → List PA → Option Ret)

/-- A value that is told at a call's border: it is plain from now on, or it leaves the frame. -/
def tell1 (own : Bool) (ob : Nat → Option Ob) (a : AV) (K : CV → List (Nat × Ob) → Option α) : Option α :=
  cond own
    (match a with
     | .nilS e => K (.own e []) []
     | .row r g =>
       match ob r with
       | some (.row g' e xs false) => cond (Nat.beq g g') (K (.own e xs) [(r, .dead g')]) none
       | _ => none
     | _ => none)
    (toPVA ob a fun p f => K (.v p) f)

/-- Cells one behind the other, and what becomes of the rows that they lead to. -/
def tellCells (own : List Nat) (ob : Nat → Option Ob) : Nat → List AV → (List CV → List (Nat × Ob) → Option α) → Option α
  | _, [], K => K [] []
  | j, a :: as, K => tell1 (memN j own) ob a fun c f => tellCells own ob (j + 1) as fun cs fs => K (c :: cs) (f ++ fs)

/-- What comes back into a variable that was lent: its cells, and the rows that they lead to. -/
def backCells (own : List (Nat × TypeId)) (id : Nat) (r : Ret) (i : Nat) : Nat → List AV → List AV × List (Nat × Ob)
  | _, [] => ([], [])
  | j, a :: as =>
    let (cs, rows) := backCells own id r i (j + 1) as
    match lkN own j with
    | some e =>
      match a with
      | .row q g => (.row q (g + 1) :: cs, (q, .row (g + 1) e (cvL (lentC i j r)) false) :: rows)
      | _ => (.row (cellId id j) 0 :: cs, (cellId id j, .row 0 e (cvL (lentC i j r)) false) :: rows)
    | none => (.pv (cvP (lentC i j r)) :: cs, rows)

def paOf : CV → PA
  | .v p => .v p
  | .own e xs => .own e xs

/-- A variable with nothing in it. -/
def hollow (cs : List AV) : Ob := .box (cs.map fun _ => .gone)

/-- A row's elements' type. -/
def elemAV (ob : Nat → Option Ob) (a : AV) : TypeId :=
  match a with
  | .nilS e => e
  | .row q _ =>
    match ob q with
    | some (.row _ e _ _) => e
    | _ => 0
  | _ => 0
def ownT (own : List Nat) (ob : Nat → Option Ob) : Nat → List AV → List (Nat × TypeId)
  | _, [] => []
  | j, a :: as => cond (memN j own) ((j, elemAV ob a) :: ownT own ob (j + 1) as) (ownT own ob (j + 1) as)

/-- The arguments of a call: what is handed over, what becomes of rows and variables; the variables that are lent: their numbers, own cells, cells. -/
def argsK (own : List Nat) (ob : Nat → Option Ob) :
    Nat → List (AV × TypeId) → (List PA → List (Nat × Ob) → List (Nat × List (Nat × TypeId) × List AV) → Option α) → Option α
  | _, [], K => K [] [] []
  | i, (x, t) :: rest, K =>
    match x with
    | .ref id 0 =>
      match ob id with
      | some (.box cs) =>
        match P.underlying t with
        | some (.pointer e) =>
          tellCells (an.lown e) ob 0 cs fun cvs f => argsK own ob (i + 1) rest fun ps fs ls => K (.lent cvs :: ps) ((id, hollow cs) :: (f ++ fs)) ((id, ownT (an.lown e) ob 0 cs, cs) :: ls)
        | _ => none
      | _ => none
    | a => tell1 (memN i own) ob a fun c f => argsK own ob (i + 1) rest fun ps fs ls => K (paOf c :: ps) (f ++ fs) ls

/-- No number twice. -/
def nodupN : List Nat → Bool
  | [] => true
  | x :: xs => !memN x xs && nodupN xs

/-- Is a thing told as plain from now on? -/
def isFrz : Ob → Bool
  | .row _ _ _ _ => true
  | _ => false
/-- What leaves the frame. -/
def exIds : List (Nat × Ob) → List Nat
  | [] => []
  | (i, o) :: l => cond (isFrz o) (exIds l) (i :: exIds l)
def frzIds : List (Nat × Ob) → List Nat
  | [] => []
  | (i, o) :: l => cond (isFrz o) (i :: frzIds l) (frzIds l)
def noFrz : List (Nat × Ob) → List (Nat × Ob)
  | [] => []
  | (i, o) :: l => cond (isFrz o) (noFrz l) ((i, o) :: noFrz l)
def okEx (fs : List (Nat × Ob)) : Bool := nodupN (exIds fs) && (frzIds fs).all fun i => !memN i (exIds fs)

/-- The results' values in the frame. -/
def resAVs (own : List (Nat × TypeId)) (d : Nat) (r : Ret) : Nat → Nat → List AV
  | _, 0 => []
  | j, n + 1 =>
    match lkN own j with
    | some _ => .row (rid d j) 0 :: resAVs own d r (j + 1) n
    | none => .pv (cvP (resC j r)) :: resAVs own d r (j + 1) n
def resNew (own : List (Nat × TypeId)) (d : Nat) (r : Ret) : Nat → Nat → List (Nat × Ob)
  | _, 0 => []
  | j, n + 1 =>
    match lkN own j with
    | some e => (rid d j, .row 0 e (cvL (resC j r)) false) :: resNew own d r (j + 1) n
    | none => resNew own d r (j + 1) n
def resT (ts : Array TypeId) : List Nat → List (Nat × TypeId)
  | [] => []
  | j :: js => (j, (sliceT P (ts.getD j 0)).getD 0) :: resT ts js

/-- What comes back into the variables that were lent: rows, variables. -/
def backRows (r : Ret) : Nat → List (Nat × List (Nat × TypeId) × List AV) → List (Nat × Ob)
  | _, [] => []
  | i, (id, own, cs) :: ls => (backCells own id r i 0 cs).2 ++ backRows r (i + 1) ls
def backBoxes (r : Ret) : Nat → List (Nat × List (Nat × TypeId) × List AV) → List (Nat × Ob)
  | _, [] => []
  | i, (id, own, cs) :: ls => (id, .box (backCells own id r i 0 cs).1) :: backBoxes r (i + 1) ls
/-- A row that the frame has had, and one that is new. -/
def isOld : Ob → Bool
  | .row g _ _ _ => Nat.blt 0 g
  | _ => false
def oldIn : List (Nat × Ob) → List (Nat × Ob)
  | [] => []
  | (i, o) :: l => cond (isOld o) ((i, o) :: oldIn l) (oldIn l)
def newIn : List (Nat × Ob) → List (Nat × Ob)
  | [] => []
  | (i, o) :: l => cond (isOld o) (newIn l) ((i, o) :: newIn l)
def oneOrTup : List AV → AV
  | [a] => a
  | as => .tup as

def callK (f : FuncId) (caps : List PV) (ob : Nat → Option Ob) (args : List (AV × TypeId)) (d : Nat) (K : Delta → Option α) : Option α :=
  match P.funcs[f]? with
  | some fn =>
    argsK P an (an.own f) ob 0 args fun ps fs ls =>
      cond (okEx fs)
        (bR (cf f (ps ++ caps.map .v)) fun r =>
          cond (okCV (resT P fn.resultTypes (an.rown f)) 0 fn.resultTypes.size r.res && okLents (ls.map fun l => (l.2.1, l.2.2.length)) r.lent && (!an.flat f || (ls.isEmpty && r.res.all isFlatCV)))
            (let rows := backRows r 0 ls
             let old := oldIn rows
             let new := resNew (resT P fn.resultTypes (an.rown f)) d r 0 fn.resultTypes.size ++ newIn rows
             let boxes := backBoxes r 0 ls
             cond (nodupN ((old ++ boxes ++ new).map (·.1)))
               (forceAV (oneOrTup (resAVs (resT P fn.resultTypes (an.rown f)) d r 0 fn.resultTypes.size)) fun v => K ⟨v, new, cond (an.flat f) (noFrz fs) fs ++ old ++ boxes⟩) none)
            none)
        none
  | none => none

def argAVs (sl : Nat → AV) (ts : Array TypeId) : Nat → List Operand → List (AV × TypeId)
  | _, [] => []
  | i, x :: xs => (opd P sl (ts.getD i 0) x, ts.getD i 0) :: argAVs sl ts (i + 1) xs

def bytesOfPV : List PV → Option (List UInt8)
  | [] => some []
  | .int .u8 n :: xs =>
    match bytesOfPV xs with
    | some bs => some (UInt8.ofNat n.toNat :: bs)
    | none => none
  | _ => none

def byteP (s : ByteArray) (n : Nat) : Int := ((s.data.getD n 0).toNat : Int)

/-- The bound of a slice expression; if there is none, a number. -/
def boundK (sl : Nat → AV) (x : Option Operand) (n : Nat) (K : Int → Option α) : Option α :=
  match x with
  | none => K (n : Int)
  | some x => avInt .i64 (opd P sl 0 x) K

def act (o : Oper) (sl : Nat → AV) (ob : Nat → Option Ob) (K : Delta → Option α) : Option α :=
  let d := o.dst.getD 0
  match o.op with
  | .move x => forceAV (opd P sl o.type x) fun a => K ⟨a, [], []⟩
  | .assign x => forceAV (opd P sl o.type x) fun a => K ⟨a, [], []⟩
  | .pick c a b => avBool (opd P sl 0 c) fun bb => cond bb (K ⟨opd P sl o.type a, [], []⟩) (K ⟨opd P sl o.type b, [], []⟩)
  | .alloc t =>
    match zeroAV P t with
    | some cs => K ⟨.ref d 0, [(d, .box cs)], []⟩
    | none => none
  | .box t x => cellsAV P t (opd P sl t x) fun cs => forceL cs fun cs => K ⟨.ref d 0, [(d, .box cs)], []⟩
  | .build t ps =>
    match P.underlying t, zeroAV P t with
    | some (.struct fs), some cs => cond (fs.toList.all fun f => okT P f.type) (fillAV P fs sl ps.toList cs fun cs' => forceL cs' fun cs' => K ⟨.agg cs', [], []⟩) none
    | _, _ => none
  | .buildSlice t len ps =>
    match sliceT P t with
    | some e =>
      match zeroPV P e with
      | some z => cond (Nat.ble (len * sizeT P e) 16777216 && Nat.blt 0 (sizeT P e)) (fillPV P e ob sl ps.toList (List.replicate len z) fun xs fs => K ⟨.row d 0, [(d, .row 0 e xs false)], fs⟩) none
      | none => none
    | none => none
  | .load t x =>
    match opd P sl 0 x with
    | .ref id off =>
      match ob id with
      | some (.box cs) => partAV P t cs off fun a => forceAV a fun a => K ⟨a, [], []⟩
      | _ => none
    | .pelem e p off => partPV P e t p off fun q => K ⟨.pv q, [], []⟩
    | .elem id g i off =>
      match ob id with
      | some (.row g' e xs _) => cond (Nat.beq g g') (partPV P e t (xs.getD i default) off fun q => K ⟨.pv q, [], []⟩) none
      | _ => none
    | _ => none
  | .store t x y =>
    match opd P sl 0 x with
    | .ref id off =>
      match ob id with
      | some (.box cs) => cellsAV P t (opd P sl t y) fun ws => cond (Nat.ble (off + ws.length) cs.length) (forceL (putCells cs off ws) fun cs' => K ⟨.undef, [], [(id, .box cs')]⟩) none
      | _ => none
    | .elem id g i off =>
      match ob id with
      | some (.row g' e xs false) =>
        cond (Nat.beq g g')
          (cellsAV P t (opd P sl t y) fun _ => toPVA ob (opd P sl t y) fun q f =>
            turnPV P e t (xs.getD i default) off q fun p => cond (memN id (f.map (·.1))) none (K ⟨.undef, [], f ++ [(id, .row g e (xs.set i p) false)]⟩)) none
      | _ => none
    | _ => none
  | .nilCheck x =>
    match opd P sl 0 x with
    | .ref id off =>
      match ob id with
      | some (.box _) => K ⟨.ref id off, [], []⟩
      | _ => none
    | .pelem e p off => K ⟨.pelem e p off, [], []⟩
    | .elem id g i off =>
      match ob id with
      | some (.row g' _ _ _) => cond (Nat.beq g g') (K ⟨.elem id g i off, [], []⟩) none
      | _ => none
    | .pv p => asFunc p fun f cs => K ⟨.pv (.func f cs), [], []⟩
    | _ => none
  | .binOp op t x y yt => binAV P op t yt (opd P sl t x) (opd P sl (cond (isShift op) yt t) y) fun p => K ⟨.pv p, [], []⟩
  | .unOp op t x =>
    match op, opd P sl t x with
    | .not, .pv p => asBool p fun b => K ⟨.pv (.bool !b), [], []⟩
    | .neg, .pv p =>
      match intT P t with
      | some k => asInt k p fun n => K ⟨.pv (.int k (k.wrap (0 - n))), [], []⟩
      | none => none
    | _, _ => none
  | .convert s t x =>
    match intT P s, intT P t with
    | some k, some k' => avInt k (opd P sl s x) fun n => K ⟨.pv (.int k' (k'.wrap n)), [], []⟩
    | _, _ =>
      cond (strT P s && strT P t)
        (match opd P sl s x with
         | .pv p => asStr p fun b => K ⟨.pv (.str b), [], []⟩
         | _ => none)
        none
  | .makeFunc (.func f) first caps => cond (Nat.beq first.size 0) (toPVs ob (caps.toList.map (opd P sl 0)) fun ps fs => K ⟨.pv (.func f ps), [], fs⟩) none
  | .makeSlice t l c =>
    match sliceT P t with
    | some e =>
      match zeroPV P e with
      | some z =>
        avInt .i64 (opd P sl 0 l) fun n => avInt .i64 (opd P sl 0 c) fun m =>
          cond (decide (0 ≤ n) && decide (n ≤ m) && decide (m * (P.bytesOf e : Int) ≤ 140737488355328) && decide (m ≤ 9223372036854775807) && Nat.blt 0 (sizeT P e))
            (K ⟨.row d 0, [(d, .row 0 e (List.replicate n.toNat z) false)], []⟩) none
      | none => none
    | none => none
  | .slice t x lo hi mx =>
    cond mx.isSome none
      (cond (strT P t)
        (match opd P sl t x with
         | .pv p => asStr p fun s => boundK P sl hi s.size fun h => boundK P sl lo 0 fun l =>
             cond (decide (0 ≤ l) && decide (l ≤ h) && decide (h ≤ (s.size : Int))) (K ⟨.pv (.str (s.extract l.toNat h.toNat)), [], []⟩) none
         | _ => none)
        (match sliceT P t with
         | some e =>
           cond (okT P e) (cond (memN d (an.trunc me))
             (match opd P sl t x with
              | .row id g =>
                match ob id with
                | some (.row g' e' xs false) =>
                  cond (Nat.beq g g' && Nat.beq e e' && lo.isNone)
                    (boundK P sl hi xs.length fun h => cond (decide (0 ≤ h) && decide (h ≤ (xs.length : Int))) (K ⟨.row id (g + 1), [], [(id, .row (g + 1) e (xs.take h.toNat) false)]⟩) none)
                    none
                | _ => none
              | _ => none)
             (asRow ob e (opd P sl t x) fun xs => toPV ob (opd P sl t x) fun _ fs => boundK P sl hi xs.length fun h => boundK P sl lo 0 fun l =>
               cond (decide (0 ≤ l) && decide (l ≤ h) && decide (h ≤ (xs.length : Int))) (K ⟨.pv (.list e ((xs.take h.toNat).drop l.toNat)), [], fs⟩) none)) none
         | none => none))
  | .fieldAddr t x f =>
    match fieldT P t f with
    | some fd =>
      cond (okT P fd.type) (cond (Nat.beq (sizeT P fd.type) 0) none
        (match opd P sl 0 x with
         | .ref id off =>
           match ob id with
           | some (.box _) => K ⟨.ref id (off + fd.offset), [], []⟩
           | _ => none
         | .pelem e p off => K ⟨.pelem e p (off + fd.offset), [], []⟩
         | .elem id g i off =>
           match ob id with
           | some (.row g' _ _ _) => cond (Nat.beq g g') (K ⟨.elem id g i (off + fd.offset), [], []⟩) none
           | _ => none
         | _ => none)) none
    | none => none
  | .field t x f =>
    match fieldT P t f with
    | some fd => cellsAV P t (opd P sl t x) fun cs => partAV P fd.type cs fd.offset fun a => forceAV a fun a => K ⟨a, [], []⟩
    | none => none
  | .indexAddr t x i =>
    match sliceT P t with
    | some e =>
      cond (okT P e) (avInt .i64 (opd P sl 0 i) fun n =>
        match opd P sl t x with
        | .pv p => asList e p fun xs => cond (inB n xs.length) (K ⟨.pelem e (xs.getD n.toNat default) 0, [], []⟩) none
        | .row id g =>
          match ob id with
          | some (.row g' e' xs _) => cond (Nat.beq g g' && Nat.beq e e') (cond (inB n xs.length) (K ⟨.elem id g n.toNat 0, [], []⟩) none) none
          | _ => none
        | _ => none) none
    | none => none
  | .index t x i =>
    cond (strT P t)
      (match opd P sl t x with
       | .pv p => asStr p fun s => avIdx (opd P sl 0 i) fun n => cond (inB n s.size) (K ⟨.pv (.int .u8 (byteP s n.toNat)), [], []⟩) none
       | _ => none) none
  | .extract x i =>
    match opd P sl 0 x with
    | .tup vs =>
      match vs[i]? with
      | some a => forceAV a fun a => K ⟨a, [], []⟩
      | none => none
    | _ => none
  | .call c =>
    match c.callee with
    | .builtin .len =>
      match c.args[0]?, c.argTypes[0]? with
      | some x, some t =>
        cond (strT P t)
          (match opd P sl t x with
           | .pv p => asStr p fun s => K ⟨.pv (.int .i64 s.size), [], []⟩
           | _ => none)
          (match sliceT P t with
           | some e => asRow ob e (opd P sl t x) fun xs => K ⟨.pv (.int .i64 xs.length), [], []⟩
           | none => none)
      | _, _ => none
    | .builtin .append =>
      match c.args.toList, c.argTypes.toList with
      | [x, y], [t, t'] =>
        match sliceT P t with
        | some e =>
          cond (Nat.beq t t' && Nat.blt 0 (sizeT P e) && (zeroAV P e).isSome) (asRow ob e (opd P sl t y) fun ys =>
            match opd P sl t x with
            | .nilS _ => cond (Nat.ble (ys.length * P.bytesOf e) 140737488355328 && Nat.ble ys.length 9223372036854775807) (K ⟨.row d 0, [(d, .row 0 e ys false)], []⟩) none
            | .row id g =>
              match ob id with
              | some (.row g' e' xs false) =>
                cond (Nat.beq g g' && Nat.beq e e' && (Nat.ble ((xs.length + ys.length) * P.bytesOf e) 140737488355328 && Nat.ble (xs.length + ys.length) 9223372036854775807))
                  (K ⟨.row id (g + 1), [], [(id, .row (g + 1) e (xs ++ ys) false)]⟩) none
              | _ => none
            | _ => none) none
        | none => none
      | _, _ => none
    | .builtin .min =>
      match c.args.toList, intT P o.type with
      | [x, y], some k => avInt k (opd P sl o.type x) fun a => avInt k (opd P sl o.type y) fun b => K ⟨.pv (.int k (cond (decide (b < a)) b a)), [], []⟩
      | _, _ => none
    | .builtin .max =>
      match c.args.toList, intT P o.type with
      | [x, y], some k => avInt k (opd P sl o.type x) fun a => avInt k (opd P sl o.type y) fun b => K ⟨.pv (.int k (cond (decide (b > a)) b a)), [], []⟩
      | _, _ => none
    | .value f =>
      match opd P sl 0 f with
      | .pv p => asFunc p fun fid caps => callK P an cf fid caps ob (argAVs P sl c.argTypes 0 c.args.toList) d K
      | _ => none
    | _ => none
  | _ => none

/-! ### A step: an operation upon a frame -/
def putS (s : St) (dst : Option Nat) (v : AV) : St :=
  match dst with
  | some d => { s with sl := upd s.sl d v }
  | none => s
def okDst (s : St) (dst : Option Nat) : Bool :=
  match dst with
  | some d => Nat.blt d s.n
  | none => true
def setObs (ob : Nat → Option Ob) : List (Nat × Ob) → (Nat → Option Ob)
  | [] => ob
  | (i, o) :: l => setObs (upd ob i (some o)) l
def freeIds (s : St) : List (Nat × Ob) → Bool
  | [] => true
  | (i, _) :: l => (match s.ob i with | none => true | some _ => false) && Nat.ble s.np i && freeIds s l

def applyD (s : St) (dst : Option Nat) (δ : Delta) (K : St → Option α) : Option α :=
  cond (okDst s dst && freeIds s δ.new && nodupN (δ.new.map (·.1)))
    (K (putS { s with ob := setObs s.ob (δ.set ++ δ.new) } dst δ.v)) none

def refine (s : St) (x : Operand) (b : Bool) : St :=
  match x with
  | .tmp t => { s with sl := upd s.sl t (.pv (.bool b)) }
  | _ => s

/-- The guard of an operation: with what is known then. -/
def guardK (ops : Array Oper) (o : Oper) (s : St) (yes no : St → Option α) : Option α :=
  match o.guard with
  | none => yes s
  | some (j, want) =>
    match (ops[j]?).bind (·.dst) with
    | some t =>
      match s.sl t with
      | .undef => no s
      | .pv p => asBool p fun b => cond b (cond want (yes (refine s (.tmp t) true)) (no (refine s (.tmp t) true))) (cond want (no (refine s (.tmp t) false)) (yes (refine s (.tmp t) false)))
      | _ => none
    | none => none

def stepK (ops : Array Oper) (o : Oper) (s : St) (K : St → Option α) : Option α :=
  guardK ops o s (fun s => act P an me cf o s.sl s.ob fun δ => applyD s o.dst δ K) (fun s => cond (okDst s o.dst) (K (putS s o.dst .undef)) none)

def runL (ops : Array Oper) : List Oper → St → (St → Option α) → Option α
  | [], s, K => K s
  | o :: rest, s, K => stepK P an me cf ops o s fun s' => runL ops rest s' K

/-! ### A region whose order is open: each operation sees what it looks at alone, and no two that could change places meet -/
def avId1 : AV → List Nat
  | .ref id _ => [id]
  | .row id _ => [id]
  | .elem id _ _ _ => [id]
  | _ => []
def avIds : AV → List Nat
  | .agg cs => cs.flatMap avId1
  | .tup cs => cs.flatMap avId1
  | a => avId1 a
def obIds : Option Ob → List Nat
  | some (.box cs) => cs.flatMap avIds
  | _ => []
def needIds (sl : Nat → AV) (ob : Nat → Option Ob) (ts : List Nat) : List Nat :=
  let l := ts.flatMap fun t => avIds (sl t)
  l ++ l.flatMap fun i => obIds (ob i)
def maskS (ts : List Nat) (sl : Nat → AV) : Nat → AV := fun t => cond (memN t ts) (sl t) .gone
def maskO (is : List Nat) (ob : Nat → Option Ob) : Nat → Option Ob := fun i => cond (memN i is) (ob i) none

structure Fp where
  rd : List Nat
  wr : List Nat

def disjN (xs ys : List Nat) : Bool := xs.all fun x => !memN x ys
def indep (a b : Fp) : Bool := disjN a.wr b.wr && disjN a.wr b.rd && disjN b.wr a.rd

def stepM (ops : Array Oper) (o : Oper) (s : St) (K : Fp → St → Option α) : Option α :=
  guardK ops o s
    (fun s => let ts := o.looksAt ops
      let is := needIds s.sl s.ob ts
      act P an me cf o (maskS ts s.sl) (maskO is s.ob) fun δ => applyD s o.dst δ fun s' => K ⟨is, (δ.new ++ δ.set).map (·.1)⟩ s')
    (fun s => cond (okDst s o.dst) (K ⟨[], []⟩ (putS s o.dst .undef)) none)

/-- Does operation i stand behind operation j, through others too? -/
def reach (ops : Array Oper) : Nat → Nat → Nat → Bool
  | 0, _, _ => false
  | n + 1, j, i =>
    match ops[i]? with
    | some o => o.after.toList.any fun e => Region.binds .any e && (Nat.beq e.on j || reach ops n j e.on)
    | none => false
/-- May operation j (behind i in the text) not go ahead of i, or does it not matter? -/
def pairOk (ops : Array Oper) (i j : Nat) (fi fj : Fp) : Bool :=
  match ops[i]?, ops[j]? with
  | some oi, some oj => (indep fi fj && oi.apart ops oj) || reach ops ops.size i j
  | _, _ => false
/-- Do operations stand behind those alone that are ahead of them in the text? -/
def afterOk (ops : Array Oper) : Bool := ops.toList.zipIdx.all fun (o, i) => o.after.toList.all fun e => !Region.binds .any e || Nat.blt e.on i
def pairsOk (ops : Array Oper) : List (Nat × Fp) → Bool
  | [] => true
  | (j, fj) :: l => (l.all fun (i, fi) => pairOk ops i j fi fj) && pairsOk ops l

def runD (ops : Array Oper) : List Nat → List (Nat × Fp) → St → (List (Nat × Fp) → St → Option α) → Option α
  | [], acc, s, K => K acc s
  | i :: rest, acc, s, K =>
    match ops[i]? with
    | some o => stepM P an me cf ops o s fun f s' => runD ops rest ((i, f) :: acc) s' K
    | none => none

/-! ### Code -/
inductive Ex where
  | normal
  | exit (id : Nat)
  | ret

def firstReg : Code → Nat
  | .region id _ _ => id
  | .seq a _ => firstReg a
  | .cond _ a _ => firstReg a
  | .block _ b => firstReg b
  | .loop b => firstReg b
  | .scope b => firstReg b
  | _ => 0

def lkA (l : List (Nat × AV)) (t : Nat) : AV :=
  match l with
  | [] => .gone
  | (i, a) :: r => cond (Nat.beq t i) a (lkA r t)
def lkO (l : List (Nat × Ob)) (t : Nat) : Option Ob :=
  match l with
  | [] => none
  | (i, a) :: r => cond (Nat.beq t i) (some a) (lkO r t)

/-- Is a reference to a row as it is now? -/
def curRow (ob : Nat → Option Ob) (id g : Nat) : Bool :=
  match ob id with
  | some (.row g' _ _ _) => Nat.beq g g'
  | _ => false

/-- A value's number, if its row has got one: what leads there too. -/
def aliasOf (es : List (AV × Nat)) (id g : Nat) : Option Nat :=
  match es with
  | [] => none
  | (a, i) :: r =>
    match a with
    | .row id' g' => cond (Nat.beq id id' && Nat.beq g g') (some i) (aliasOf r id g)
    | _ => aliasOf r id g
def scrubAV (keep src : List Nat) (es : List (AV × Nat)) (ob : Nat → Option Ob) : AV → AV
  | .ref id off => cond (memN id keep) (.ref id off) .gone
  | .pv p => .pv p
  | .pelem e p off => .pelem e p off
  | .nilS e => .pv (.list e [])
  | .row id g => cond (memN id src) (match aliasOf es id g with | some i => cond (curRow ob id g) (.row i 0) .gone | none => .gone)
      (match ob id with
       | some (.row g' e xs _) => cond (Nat.beq g g') (.pv (.list e xs)) .gone
       | _ => .gone)
  | .nilP => .nilP
  | .undef => .undef
  | _ => .gone

/-- A value whose row gets the number i. -/
def canonAV (ob : Nat → Option Ob) (i : Nat) : AV → AV
  | .nilS _ => .row i 0
  | .row id g => cond (curRow ob id g) (.row i 0) .gone
  | _ => .gone
def canonOb (ob : Nat → Option Ob) : AV → Ob
  | .nilS e => .row 0 e [] false
  | .row id g =>
    match ob id with
    | some (.row g' e xs fr) => cond (Nat.beq g g') (.row 0 e xs fr) (.dead 0)
    | _ => .dead 0
  | _ => .dead 0
def rowSrc : AV → List Nat
  | .row id _ => [id]
  | _ => []

def lkC (l : List (Nat × Nat × Nat)) (b c : Nat) : Option Nat :=
  match l with
  | [] => none
  | (b', c', i) :: r => cond (Nat.beq b b' && Nat.beq c c') (some i) (lkC r b c)

def cellAt (ob : Nat → Option Ob) (b c : Nat) : AV :=
  match ob b with
  | some (.box cs) => cs.getD c .gone
  | _ => .gone

/-- The values whose rows get numbers of their own, and these. -/
def ents (l : LoopAn) (s : St) : List (AV × Nat) := l.canon.map (fun p => (s.sl p.1, p.2)) ++ l.canonC.map (fun p => (cellAt s.ob p.1 p.2.1, p.2.2))
def srcs (l : LoopAn) (s : St) : List Nat := (ents l s).flatMap fun p => rowSrc p.1

def newSl (l : LoopAn) (s : St) (t : Nat) : AV :=
  match lkN l.canon t with
  | some i => canonAV s.ob i (s.sl t)
  | none => scrubAV l.keepO (srcs l s) (ents l s) s.ob (s.sl t)
def newCell (l : LoopAn) (s : St) (b c : Nat) (a : AV) : AV :=
  match lkC l.canonC b c with
  | some i => canonAV s.ob i a
  | none => scrubAV l.keepO (srcs l s) (ents l s) s.ob a
def newBox (l : LoopAn) (s : St) (b : Nat) : Ob :=
  match s.ob b with
  | some (.box cs) => .box (cs.zipIdx.map fun (a, c) => newCell l s b c a)
  | _ => .dead 0

def restrict (l : LoopAn) (s : St) : St :=
  { n := s.n, np := s.np
    sl := lkA (l.keepS.map fun t => (t, newSl l s t))
    ob := lkO (l.keepO.map (fun b => (b, newBox l s b)) ++ (ents l s).map fun p => (p.2, canonOb s.ob p.1)) }

def okRestrict (l : LoopAn) (s : St) : Bool :=
  nodupN (l.keepO ++ (ents l s).map (·.2)) && nodupN (srcs l s) && (ents l s).all fun p => Nat.ble s.np p.2

def restrictK (l : LoopAn) (s : St) (K : St → Option α) : Option α := cond (okRestrict l s) (K (restrict l s)) none

def seqK (f : St → Option α) (K : Ex → St → Option α) (e : Ex) (s : St) : Option α :=
  match e with
  | .normal => f s
  | .exit i => K (.exit i) s
  | .ret => K .ret s
def blockK (id : Nat) (K : Ex → St → Option α) (e : Ex) (s : St) : Option α :=
  match e with
  | .normal => K .normal s
  | .exit i => cond (Nat.beq i id) (K .normal s) (K (.exit i) s)
  | .ret => K .ret s

/-- A loop, from its head on. -/
def iter (body : St → (Ex → St → Option α) → Option α) (l : LoopAn) : Nat → St → (Ex → St → Option α) → Option α
  | 0, _, _ => none
  | m + 1, s, K => body s (seqK (fun s' => restrictK l s' fun s'' => iter body l m s'' K) K)

def joinK (l : Option LoopAn) (s : St) (K : St → Option α) : Option α :=
  match l with
  | none => K s
  | some l => restrictK l s K

def exec (n : Nat) : Code → St → (Ex → St → Option α) → Option α
  | .skip, s, K => K .normal s
  | .region _ ops draw, s, K =>
    cond draw
      (runD P an me cf ops (List.range ops.size) [] s fun acc s' => cond (pairsOk ops acc && afterOk ops && P.follows .mixedOrders) (K .normal s') none)
      (runL P an me cf ops ops.toList s fun s' => K .normal s')
  | .seq a b, s, K => exec n a s (seqK (fun s' => joinK (an.join me (firstReg b)) s' fun s'' => exec n b s'' K) K)
  | .cond c x y, s, K => avBool (opd P s.sl 0 c) fun b => cond b (exec n x (refine s c true) K) (exec n y (refine s c false) K)
  | .block id b, s, K => exec n b s (blockK id K)
  | .loop b, s, K => restrictK (an.loop me (firstReg b)) s fun s => iter (fun s K => exec n b s K) (an.loop me (firstReg b)) n s K
  | .exit id, s, K => K (.exit id) s
  | .ret, s, K => K .ret s
  | _, _, _ => none
end

/-! ### A call -/
section
variable {α : Type} (P : Program) (an : An)

def entCells (i : Nat) : Nat → List CV → List AV
  | _, [] => []
  | j, .v p :: cs => .pv p :: entCells i (j + 1) cs
  | j, .own _ _ :: cs => .row (cellId i j) 0 :: entCells i (j + 1) cs
def entRows (i : Nat) : Nat → List CV → List (Nat × Ob)
  | _, [] => []
  | j, .v _ :: cs => entRows i (j + 1) cs
  | j, .own e xs :: cs => (cellId i j, .row 0 e xs false) :: entRows i (j + 1) cs

/-- A frame's slots at its start, and its things. -/
def entS : Nat → List PA → List (Nat × AV)
  | _, [] => []
  | i, .v p :: as => (i, .pv p) :: entS (i + 1) as
  | i, .own _ _ :: as => (i, .row i 0) :: entS (i + 1) as
  | i, .lent _ :: as => (i, .ref i 0) :: entS (i + 1) as
def entO : Nat → List PA → List (Nat × Ob)
  | _, [] => []
  | i, .v _ :: as => entO (i + 1) as
  | i, .own e xs :: as => (i, .row 0 e xs false) :: entO (i + 1) as
  | i, .lent cs :: as => entRows i 0 cs ++ (i, .box (entCells i 0 cs)) :: entO (i + 1) as
def lkU (l : List (Nat × AV)) (t : Nat) : AV :=
  match l with
  | [] => .undef
  | (i, a) :: r => cond (Nat.beq t i) a (lkU r t)

/-- The variables that are lent: those that come back. -/
def lentParams (ps : Array TypeId) : Nat → List PA → List (AV × TypeId)
  | _, [] => []
  | i, .lent _ :: as => (.ref i 0, ps.getD i 0) :: lentParams ps (i + 1) as
  | i, _ :: as => lentParams ps (i + 1) as

/-- The results' values at the end. -/
def resVals (sl : Nat → AV) (ob : Nat → Option Ob) : List ResultVar → (List (AV × TypeId) → Option α) → Option α
  | [], K => K []
  | .tmp t :: rs, K => resVals sl ob rs fun as => K ((sl t, 0) :: as)
  | .cell t ty :: rs, K =>
    match sl t with
    | .ref id off =>
      match ob id with
      | some (.box cs) => partAV P ty cs off fun a => resVals sl ob rs fun as => K ((a, 0) :: as)
      | _ => none
    | _ => none

def cvsOf : List PA → Option (List CV)
  | [] => some []
  | .v p :: l =>
    match cvsOf l with
    | some cs => some (.v p :: cs)
    | none => none
  | .own e xs :: l =>
    match cvsOf l with
    | some cs => some (.own e xs :: cs)
    | none => none
  | .lent _ :: _ => none
def lentsOf : List PA → Option (List (List CV))
  | [] => some []
  | .lent cs :: l =>
    match lentsOf l with
    | some ls => some (cs :: ls)
    | none => none
  | _ :: _ => none

def mkRet (f : FuncId) (rs : List ResultVar) (lp : List (AV × TypeId)) (s : St) : Option Ret :=
  resVals P s.sl s.ob rs fun as =>
    argsK P an (an.rown f) s.ob 0 (as ++ lp) fun ps fs _ =>
      cond (okEx fs)
        (match cvsOf (ps.take as.length), lentsOf (ps.drop as.length) with
         | some cs, some ls => some ⟨cs, ls⟩
         | _, _ => none)
        none

def ent0 (fn : Func) (args : List PA) : St :=
  { n := max args.length fn.ntmps, np := args.length, sl := lkU (entS 0 args), ob := lkO (entO 0 args) }

/-- What surrounds code: what follows behind it in a frame. -/
inductive Fr where
  | seq (b : Code)
  | block (id : Nat)
  | loop (b : Code) (m : Nat)

def contK (me : FuncId) (cf : FuncId → List PA → Option Ret) (n : Nat) (rs : List ResultVar) (lp : List (AV × TypeId)) : List Fr → Ex → St → Option Ret
  | [], e, s =>
    match e with
    | .exit _ => none
    | _ => mkRet P an me rs lp s
  | .seq b :: fr, e, s => seqK (fun s' => joinK (an.join me (firstReg b)) s' fun s'' => exec P an me cf n b s'' (contK me cf n rs lp fr)) (contK me cf n rs lp fr) e s
  | .block id :: fr, e, s => blockK id (contK me cf n rs lp fr) e s
  | .loop b m :: fr, e, s =>
    seqK (fun s' => restrictK (an.loop me (firstReg b)) s' fun s'' => iter (fun s K => exec P an me cf n b s K) (an.loop me (firstReg b)) m s'' (contK me cf n rs lp fr)) (contK me cf n rs lp fr) e s

/-- A part of code. -/
def subc : Code → List Nat → Code
  | c, [] => c
  | .seq a _, 0 :: p => subc a p
  | .seq _ b, 1 :: p => subc b p
  | .cond _ a _, 0 :: p => subc a p
  | .cond _ _ b, 1 :: p => subc b p
  | .block _ b, 0 :: p => subc b p
  | .loop b, 0 :: p => subc b p
  | c, _ => c
def bodyOf (f : FuncId) : Code :=
  match P.funcs[f]? with
  | some fn =>
    match fn.body with
    | some c => c
    | none => .skip
  | none => .skip
def resOf (f : FuncId) : List ResultVar :=
  match P.funcs[f]? with
  | some fn => fn.results.toList
  | none => []

def sem : Nat → FuncId → List PA → Option Ret
  | 0, _, _ => none
  | n + 1, f, args =>
    match an.sum f with
    | some h => h args
    | none =>
      match P.funcs[f]? with
      | some fn =>
        match fn.body with
        | some c =>
          cond (nodupN ((entO 0 args).map (·.1)))
            (exec P an f (sem n) n c (ent0 fn args) (contK P an f (sem n) n fn.results.toList (lentParams fn.params 0 args) [])) none
        | none => none
      | none => none
end
end Go.Proofs.Sx
