/- The plain evaluator: a Go function, run on plain data (no memory's numbers, no order of evaluation, no capacities), as a Lean function that answers 'some' just where nothing leaves what it covers. By this session. -/
import Derived.Orders
import Derived.Laws.AppendOwn
import Derived.Laws.StructEq
import Derived.Laws.Strings2
import Derived.Laws.BytesString
import Derived.Laws.Cells
import Derived.Laws.Rows
import Derived.Lib.ConvBytes
import Derived.Below
set_option linter.unusedVariables false
namespace Go.Fw

/-- Plain data. -/
inductive D where
  | b (x : Bool)
  | i (k : IntKind) (n : Int)
  | s (x : ByteArray)
  | ag (cs : List D)
  | tp (vs : List D)
  | sl (w : Nat) (xs : List D)
  | nsl | nP | nI | nF | nM
  | fn (f : FuncId) (cs : List D)
  | ifc (t : TypeId) (v : D)
  | fr (w : Nat) (xs : List D)
  deriving Inhabited

/-- What a slot holds. -/
inductive V where
  | d (x : D)
  | ag (cs : List V)
  | tp (vs : List V)
  | fn (f : FuncId) (cs : List V)
  | pt (id off : Nat)
  | ms (id w off len : Nat)
  | ep (id w k c : Nat)
  | rp (cs : List D) (c : Nat)
  | fl (w : Nat) (xs : List D)
  | junk
  deriving Inhabited

inductive Blk where
  | box (cs : List V)
  | arr (w : Nat) (xs : List D)
  | fz (w : Nat) (xs : List D)
  | dead

abbrev Heap := List (Nat × Blk)
abbrev Slots := List (Nat × V)

def D.cells : D → List D
  | .ag cs => cs
  | d => [d]
def D.num : D → Bool
  | .i _ _ | .s _ | .ag _ => true
  | _ => false
def D.leaf : D → Bool
  | .ag _ => false
  | _ => true
def D.width (d : D) : Nat := d.cells.length

def get : Slots → Nat → V
  | [], _ => .junk
  | (j, v) :: r, i => bif j == i then v else get r i

def lk : Heap → Nat → Blk
  | [], _ => .dead
  | (j, b) :: r, i => bif j == i then b else lk r i

structure St where
  f : Slots
  n : Nat
  h : Heap

inductive X where
  | n | ret
  | exit (id : Nat)

abbrev Res := Option (X × St)

structure Hs where
  G : Nat → Option (List D)
  ext : FuncId → Option (List D → Option D)
  pcall : FuncId → List D → Option D
  call : FuncId → List V → Nat → Heap → Option (V × Nat × Heap)
  loop : Code → St → Res

def St.put (st : St) (dst : Option Nat) (v : V) : St :=
  match dst with
  | some t => { st with f := (t, v) :: st.f }
  | none => st

/-! constants and zeros -/
def ofLeaf : Value → Option D
  | .bool b => some (.b b)
  | .int k n => some (.i k n)
  | .string s => some (.s s)
  | .pointer none => some .nP
  | .slice none 0 0 => some .nsl
  | .map none => some .nM
  | .nilFunc => some .nF
  | .nilIface => some .nI
  | _ => none
def allLeaf : List Value → Option (List D)
  | [] => some []
  | v :: vs => match ofLeaf v, allLeaf vs with
    | some d, some ds => some (d :: ds)
    | _, _ => none
def ofValueD : Value → Option D
  | .agg cs => (allLeaf cs.toList).map D.ag
  | v => ofLeaf v
def ofValue (v : Value) : V := match ofValueD v with
  | some d => .d d
  | none => .junk

def allD : List V → Option (List D)
  | [] => some []
  | .d x :: vs => match allD vs with
    | some ds => some (x :: ds)
    | none => none
  | _ :: _ => none
def mkAg (vs : List V) : V := match allD vs with
  | some ds => .d (.ag ds)
  | none => .ag vs
def mkTp (vs : List V) : V := match allD vs with
  | some ds => .d (.tp ds)
  | none => .tp vs
def V.cells : V → List V
  | .d (.ag cs) => cs.map .d
  | .ag cs => cs
  | v => [v]

/-- may what it holds stand in cells? -/
def okC : V → Bool
  | .junk | .tp _ | .d (.tp _) => false
  | _ => true

/-! types -/
section
variable (P : Program)
def sz (t : TypeId) : Nat := P.cellsOf t
def aggT (t : TypeId) : Option Bool := match P.underlying t with
  | some (.struct _) | some (.array _ _) => some true
  | some _ => some false
  | none => none
def fld (t : TypeId) (i : Nat) : Option (Nat × TypeId) := match P.underlying t with
  | some (.struct fs) => (fs[i]?).map fun f => (f.offset, f.type)
  | _ => none
def elemT (t : TypeId) : Option TypeId := match P.underlying t with
  | some (.slice e) => some e
  | _ => none
def arrT (t : TypeId) : Option (Nat × TypeId) := match P.underlying t with
  | some (.array n e) => some (n, e)
  | _ => none
def intT (t : TypeId) : Option IntKind := match P.underlying t with
  | some (.int k) => some k
  | _ => none
def strT (t : TypeId) : Bool := match P.underlying t with
  | some .string => true
  | _ => false
def zeroD (t : TypeId) : Option D := ((P.info? t).bind (·.zero)).bind ofValueD

def partD (t : TypeId) (cs : List D) (off : Nat) : Option D :=
  match aggT P t with
  | some true => bif Nat.ble (off + sz P t) cs.length then some (.ag ((cs.drop off).take (sz P t))) else none
  | some false => cs[off]?
  | none => none
def partV (t : TypeId) (cs : List V) (off : Nat) : Option V :=
  match aggT P t with
  | some true => bif Nat.ble (off + sz P t) cs.length then some (mkAg ((cs.drop off).take (sz P t))) else none
  | some false => cs[off]?
  | none => none

def loadV (t : TypeId) (hp : Heap) : V → Option V
  | .pt id off => match lk hp id with
    | .box cs => partV P t cs off
    | _ => none
  | .ep id w k c => match lk hp id with
    | .arr w' xs => bif w == w' then (match xs[k]? with
      | some x => (partD P t x.cells c).map .d
      | none => none) else none
    | .fz w' xs => bif w == w' then (match xs[k]? with
      | some x => (partD P t x.cells c).map .d
      | none => none) else none
    | _ => none
  | .rp cs c => (partD P t cs c).map .d
  | _ => none

/-- cells laid over cells, from one on -/
def lay {α : Type} (cs : List α) (off : Nat) (new : List α) : List α := cs.take off ++ new ++ cs.drop (off + new.length)

def reD (x : D) (c : Nat) (ds : List D) : Option D := match x with
  | .ag cs => bif Nat.ble (c + ds.length) cs.length then some (.ag (lay cs c ds)) else none
  | _ => match c, ds with
    | 0, [d] => bif d.leaf then some d else none
    | _, _ => none

def storeV (t : TypeId) (hp : Heap) (a : V) (v : V) : Option Heap :=
  bif okC v && v.cells.length == sz P t && Nat.blt 0 (sz P t) then
    match a with
    | .pt id off => match lk hp id with
      | .box cs => bif Nat.ble (off + v.cells.length) cs.length then some ((id, .box (lay cs off v.cells)) :: hp) else none
      | _ => none
    | .ep id w k c => match lk hp id with
      | .arr w' xs => bif w == w' then (match xs[k]?, allD v.cells with
        | some x, some ds => match reD x c ds with
          | some x' => some ((id, .arr w' (xs.set k x')) :: hp)
          | none => none
        | _, _ => none) else none
      | _ => none
    | _ => none
  else none
end

/-! freezing: what goes into plain data is written no more -/
mutual
def frz (hp : Heap) : V → Option (D × Heap)
  | .d x => some (x, hp)
  | .ag cs => match frzs hp cs with
    | some (ds, hp') => some (.ag ds, hp')
    | none => none
  | .fn f cs => match frzs hp cs with
    | some (ds, hp') => some (.fn f ds, hp')
    | none => none
  | .ms id w off len => match lk hp id with
    | .arr w' xs => bif Nat.ble (off + len) xs.length && w == w' then some (.sl w ((xs.drop off).take len), (id, .fz w' xs) :: hp) else none
    | .fz w' xs => bif Nat.ble (off + len) xs.length && w == w' then some (.sl w ((xs.drop off).take len), hp) else none
    | _ => none
  | .fl w xs => some (.sl w xs, hp)
  | _ => none
def frzs (hp : Heap) : List V → Option (List D × Heap)
  | [] => some ([], hp)
  | v :: vs => match frz hp v with
    | some (d, hp') => match frzs hp' vs with
      | some (ds, hp'') => some (d :: ds, hp'')
      | none => none
    | none => none
end

/-- what a slice holds -/
def sliceOf (hp : Heap) : V → Option (Nat × List D)
  | .d (.sl w xs) => some (w, xs)
  | .d .nsl => some (0, [])
  | .fl w xs => some (w, xs)
  | .ms id w off len => match lk hp id with
    | .arr w' xs => bif Nat.ble (off + len) xs.length && w == w' then some (w, (xs.drop off).take len) else none
    | .fz w' xs => bif Nat.ble (off + len) xs.length && w == w' then some (w, (xs.drop off).take len) else none
    | _ => none
  | _ => none

def bytesD (x : ByteArray) : List D := x.data.toList.map fun c => .i .u8 (c.toNat : Int)
def strOf : List D → Option (List UInt8)
  | [] => some []
  | .i .u8 n :: ds => (strOf ds).map (UInt8.ofNat n.toNat :: ·)
  | _ :: _ => none

/-! at a function's end: a slice of its own goes out as a fresh one -/
def expTop (hp : Heap) (v : V) : Option (D × Heap) := match v with
  | .ms id w off len => match lk hp id with
    | .arr w' xs => bif off == 0 && len == xs.length && w == w' then some (.fr w xs, (id, .dead) :: hp) else frz hp v
    | _ => frz hp v
  | _ => frz hp v
def expTops (hp : Heap) : List V → Option (List D × Heap)
  | [] => some ([], hp)
  | v :: vs => match expTop hp v with
    | some (d, hp') => match expTops hp' vs with
      | some (ds, hp'') => some (d :: ds, hp'')
      | none => none
    | none => none
def expD (hp : Heap) : V → Option D
  | .tp vs => (expTops hp vs).map fun r => D.tp r.1
  | v => (expTop hp v).map (·.1)
/-! and comes in as one of the caller's own -/
def impTop (n : Nat) (hp : Heap) : D → V × Nat × Heap
  | .fr w xs => (.ms n w 0 xs.length, n + 1, (n, .arr w xs) :: hp)
  | x => (.d x, n, hp)
def impTops (n : Nat) (hp : Heap) : List D → List V × Nat × Heap
  | [] => ([], n, hp)
  | x :: xs =>
    let (v, n', hp') := impTop n hp x
    let (vs, n'', hp'') := impTops n' hp' xs
    (v :: vs, n'', hp'')
def impD (n : Nat) (hp : Heap) : D → V × Nat × Heap
  | .tp xs => let (vs, n', hp') := impTops n hp xs; (mkTp vs, n', hp')
  | x => impTop n hp x

/-! operations on plain values -/
def wr (k : IntKind) (n : Int) : Int := k.wrap n
def bitsOp (op : BinOp) (k : IntKind) (x y : Int) : Int :=
  let a := BitVec.ofInt k.bits x
  let b := BitVec.ofInt k.bits y
  match op with
  | .and => k.wrap (a &&& b).toNat
  | .or => k.wrap (a ||| b).toNat
  | .xor => k.wrap (a ^^^ b).toNat
  | _ => k.wrap (a &&& ~~~b).toNat

def binI (op : BinOp) (k : IntKind) (x y : Int) : Option D := match op with
  | .add => some (.i k (k.wrap (x + y)))
  | .sub => some (.i k (k.wrap (x - y)))
  | .mul => some (.i k (k.wrap (x * y)))
  | .quo => bif decide (y = 0) then none else some (.i k (k.wrap (x.tdiv y)))
  | .rem => bif decide (y = 0) then none else some (.i k (x.tmod y))
  | .and | .or | .xor | .andNot => some (.i k (bitsOp op k x y))
  | .eql => some (.b (x == y))
  | .neq => some (.b (x != y))
  | .lss => some (.b (decide (x < y)))
  | .leq => some (.b (decide (x ≤ y)))
  | .gtr => some (.b (decide (x > y)))
  | .geq => some (.b (decide (x ≥ y)))
  | _ => none
def shiftI (op : BinOp) (k : IntKind) (x y : Int) : Option D :=
  bif decide (y < 0) then none else match op with
  | .shl => some (.i k (k.wrap (x * 2 ^ (min y.toNat k.bits))))
  | .shr => some (.i k (x.fdiv (2 ^ (min y.toNat k.bits))))
  | _ => none
def binS (op : BinOp) (x y : ByteArray) : Option D := match op with
  | .add => bif Nat.ble (x.size + y.size) 9223372036854775807 then some (.s (x ++ y)) else none
  | .eql => some (.b (x.toList == y.toList))
  | .neq => some (.b !(x.toList == y.toList))
  | .lss => some (.b (Op.bytesLess x.toList y.toList))
  | .leq => some (.b (Op.bytesLess x.toList y.toList || x.toList == y.toList))
  | .gtr => some (.b !(Op.bytesLess x.toList y.toList || x.toList == y.toList))
  | .geq => some (.b !(Op.bytesLess x.toList y.toList))
  | _ => none

section
variable (P : Program)
/-- leaves alike, by their type -/
def eqLeaf (t : TypeId) (x y : D) : Option Bool := match P.underlying t, x, y with
  | some .bool, .b a, .b c => some (a == c)
  | some (.int _), .i k a, .i k' c => bif decide (k = k') then some (a == c) else none
  | some .string, .s a, .s c => some (a.toList == c.toList)
  | some (.slice _), .nsl, .nsl => some true
  | some (.slice _), .nsl, .sl _ _ => some false
  | some (.slice _), .sl _ _, .nsl => some false
  | some (.pointer _), .nP, .nP => some true
  | some (.func _ _ _), .nF, .nF => some true
  | some (.func _ _ _), .nF, .fn _ _ => some false
  | some (.func _ _ _), .fn _ _, .nF => some false
  | some (.interface _), .nI, .nI => some true
  | some (.interface _), .nI, .ifc _ _ => some false
  | some (.interface _), .ifc _ _, .nI => some false
  | some (.map _ _), .nM, .nM => some true
  | _, _, _ => none
def eqFlds (eq : TypeId → D → D → Option Bool) (xs ys : List D) : List Field → Option Bool
  | [] => some true
  | f :: fs => bif f.name != "_" then
      match partD P f.type xs f.offset, partD P f.type ys f.offset with
      | some x, some y => match eq f.type x y with
        | some t => bif t then eqFlds eq xs ys fs else some false
        | none => none
      | _, _ => none
    else eqFlds eq xs ys fs
def eqT : Nat → TypeId → D → D → Option Bool
  | 0, _, _, _ => none
  | n + 1, t, x, y => match x, y with
    | .ag xs, .ag ys => match P.underlying t with
      | some (.struct fs) => bif P.stoodInHeld t then none else eqFlds P (eqT n) xs ys fs.toList
      | _ => none
    | x, y => eqLeaf P t x y
def eqV (t : TypeId) : V → V → Option Bool
  | .d (.ag xs), .d (.ag ys) => bif P.eqGuardType P.depth t then none else eqT P 50 t (.ag xs) (.ag ys)
  | .d x, .d y => bif x.num then none else eqLeaf P t x y
  | .ms _ _ _ _, .d .nsl => bif (elemT P t).isSome then some false else none
  | .d .nsl, .ms _ _ _ _ => bif (elemT P t).isSome then some false else none
  | .fl _ _, .d .nsl => bif (elemT P t).isSome then some false else none
  | .fn _ _, .d .nF => match P.underlying t with
    | some (.func _ _ _) => some false
    | _ => none
  | .pt _ _, .d .nP => match P.underlying t with
    | some (.pointer _) => some false
    | _ => none
  | .d .nP, .pt _ _ => match P.underlying t with
    | some (.pointer _) => some false
    | _ => none
  | _, _ => none
/-- may two values, of which one is a constant nil, be compared? -/
def nilConst : Operand → Bool
  | .const .nilIface => true
  | _ => false
def binV (op : BinOp) (t : TypeId) (x y : V) : Option V := match x, y with
  | .d (.i k a), .d (.i k' c) => match op with
    | .shl | .shr => (shiftI op k a c).map .d
    | _ => bif decide (k = k') then (binI op k a c).map .d else none
  | .d (.s a), .d (.s c) => (binS op a c).map .d
  | x, y => match op with
    | .eql => (eqV P t x y).map fun r => .d (.b r)
    | .neq => (eqV P t x y).map fun r => .d (.b !r)
    | _ => none
def unV (op : UnOp) (x : V) : Option V := match op, x with
  | .neg, .d (.i k n) => some (.d (.i k (k.wrap (0 - n))))
  | .xor, .d (.i k n) => some (.d (.i k (bitsOp .xor k (if k.signed then -1 else k.max) n)))
  | .not, .d (.b t) => some (.d (.b !t))
  | _, _ => none

/-- parts laid over noughts -/
def fillD (places : List (Nat × Nat)) (cells : List V) : List (Nat × V) → Option (List V)
  | [] => some cells
  | (i, v) :: rest => match places[i]? with
    | none => none
    | some (off, size) =>
      bif okC v && v.cells.length == size && Nat.ble (off + size) cells.length then fillD places (lay cells off v.cells) rest else none
def placesT (t : TypeId) : Option (List (Nat × Nat)) := match P.underlying t with
  | some (.struct fs) => bif fs.toList.all fun f => (P.info? f.type).isSome then some (fs.toList.map fun f => (f.offset, sz P f.type)) else none
  | some (.array n e) => bif (P.info? e).isSome then some ((List.range n).map fun i => (i * sz P e, sz P e)) else none
  | _ => none
def buildV (t : TypeId) (parts : List (Nat × V)) : Option V :=
  match zeroD P t with
  | some (.ag z) => match placesT P t with
    | some pl => (fillD pl (z.map .d) parts).map mkAg
    | none => none
  | _ => none
end

def opV (G : Nat → Option (List D)) (f : Slots) : Operand → V
  | .tmp t => get f t
  | .const v => ofValue v
  | .global g => match G g with
    | some cs => .rp cs 0
    | none => .junk
  | .func g => .d (.fn g [])

def asNat (n : Int) (below : Nat) : Option Nat := bif decide (0 ≤ n) && decide (n < (below : Int)) then some n.toNat else none
/-- a bound of a slice expression -/
def bnd (G : Nat → Option (List D)) (f : Slots) (o : Option Operand) (dflt most : Nat) : Option Nat := match o with
  | none => some dflt
  | some x => match opV G f x with
    | .d (.i _ n) => bif decide (0 ≤ n) && decide (n ≤ (most : Int)) then some n.toNat else none
    | _ => none

/-! operations that look at nothing but their operands -/
section
variable (P : Program)
def fieldV (t : TypeId) (x : V) (i : Nat) : Option V := match fld P t i with
  | some (off, u) => match x with
    | .d (.ag cs) => (partD P u cs off).map .d
    | .ag cs => partV P u cs off
    | _ => none
  | none => none
def fieldAddrV (t : TypeId) (x : V) (i : Nat) : Option V := match fld P t i with
  | some (off, u) => bif sz P u == 0 then none else match x with
    | .pt id o => some (.pt id (o + off))
    | .ep id w k c => some (.ep id w k (c + off))
    | .rp cs c => some (.rp cs (c + off))
    | _ => none
  | none => none
def indexV (t : TypeId) (x i : V) : Option V := match i with
  | .d (.i _ n) => match x with
    | .d (.s s) => bif strT P t then (match asNat n s.size with
      | some j => some (.d (.i .u8 ((s.data.toList.getD j 0).toNat : Int)))
      | none => none) else none
    | .d (.ag cs) => match arrT P t with
      | some (len, e) => match asNat n len with
        | some j => (partD P e cs (j * sz P e)).map .d
        | none => none
      | none => none
    | .ag cs => match arrT P t with
      | some (len, e) => match asNat n len with
        | some j => partV P e cs (j * sz P e)
        | none => none
      | none => none
    | _ => none
  | _ => none
def indexAddrV (t : TypeId) (x i : V) : Option V := match i with
  | .d (.i _ n) => match elemT P t with
    | some e => match x with
      | .d (.sl w xs) => bif w == sz P e && Nat.blt 0 w then (match asNat n xs.length with
        | some j => match xs[j]? with
          | some y => some (.rp y.cells 0)
          | none => none
        | none => none) else none
      | .fl w xs => bif w == sz P e && Nat.blt 0 w then (match asNat n xs.length with
        | some j => match xs[j]? with
          | some y => some (.rp y.cells 0)
          | none => none
        | none => none) else none
      | .ms id w off len => bif w == sz P e && Nat.blt 0 w then (match asNat n len with
        | some j => some (.ep id w (off + j) 0)
        | none => none) else none
      | _ => none
    | none => match arrT P t with
      | some (len, e) => match x with
        | .pt id o => bif Nat.blt 0 (sz P e) then (match asNat n len with
          | some j => some (.pt id (o + j * sz P e))
          | none => none) else none
        | .rp cs o => bif Nat.blt 0 (sz P e) then (match asNat n len with
          | some j => some (.rp cs (o + j * sz P e))
          | none => none) else none
        | _ => none
      | none => none
  | _ => none
def convV (src dst : TypeId) (x : V) : Option V := match x with
  | .d (.i _ n) => bif (intT P src).isSome then (intT P dst).map fun k => .d (.i k (k.wrap n)) else none
  | .d (.s s) => bif strT P dst && strT P src then some (.d (.s s)) else none
  | _ => none
def extractV (x : V) (i : Nat) : Option V := match x with
  | .d (.tp vs) => (vs[i]?).map .d
  | .tp vs => vs[i]?
  | _ => none
def lenV (t : TypeId) (x : V) : Option V := match x with
  | .d (.s s) => bif strT P t then some (.d (.i .i64 s.size)) else none
  | .d .nsl => bif (elemT P t).isSome then some (.d (.i .i64 0)) else none
  | .d (.sl _ xs) => bif (elemT P t).isSome then some (.d (.i .i64 xs.length)) else none
  | .fl _ xs => bif (elemT P t).isSome then some (.d (.i .i64 xs.length)) else none
  | .ms _ _ _ len => bif (elemT P t).isSome then some (.d (.i .i64 len)) else none
  | _ => none
def sliceV (G : Nat → Option (List D)) (t : TypeId) (f : Slots) (x : V) (lo hi mx : Option Operand) : Option V := match x with
  | .d (.s s) => bif strT P t then (match mx with
    | some _ => none
    | none => match bnd G f hi s.size s.size with
      | some h => match bnd G f lo 0 h with
        | some l => some (.d (.s (s.extract l h)))
        | none => none
      | none => none) else none
  | .d .nsl => bif elemT P t |>.any (fun e => Nat.blt 0 (sz P e)) then (match mx, bnd G f hi 0 0 with
    | none, some _ => match bnd G f lo 0 0 with
      | some _ => some (.d .nsl)
      | none => none
    | _, _ => none) else none
  | .d (.sl w xs) => bif elemT P t |>.any (fun e => sz P e == w && Nat.blt 0 w) then (match bnd G f hi xs.length xs.length with
    | some h => match bnd G f lo 0 h with
      | some l => match mx, hi with
        | none, _ => some (.d (.sl w ((xs.drop l).take (h - l))))
        | some y, some _ => match bnd G f (some y) xs.length xs.length with
          | some m => bif m == h then some (.fl w ((xs.drop l).take (h - l))) else none
          | none => none
        | _, _ => none
      | none => none
    | none => none) else none
  | .fl w xs => bif elemT P t |>.any (fun e => sz P e == w && Nat.blt 0 w) then (match bnd G f hi xs.length xs.length, mx with
    | some h, none => match bnd G f lo 0 h with
      | some l => bif h == xs.length then some (.fl w ((xs.drop l).take (h - l))) else some (.d (.sl w ((xs.drop l).take (h - l))))
      | none => none
    | _, _ => none) else none
  | .ms id w off len => bif elemT P t |>.any (fun e => sz P e == w && Nat.blt 0 w) then (match bnd G f hi len len, mx with
    | some h, none => match bnd G f lo 0 h with
      | some l => some (.ms id w (off + l) (h - l))
      | none => none
    | _, _ => none) else none
  | _ => none
end

/-- where an operation leads: a value, how many numbers are given out, and memory -/
abbrev Out := Option (V × Nat × Heap)

/-- parts laid over noughts, element by element -/
def fillE (w : Nat) (xs : List D) : List (Nat × D) → Option (List D)
  | [] => some xs
  | (i, d) :: rest => bif okC (.d d) && d.width == w && Nat.blt i xs.length then fillE w (xs.set i d) rest else none
def frzParts (hp : Heap) : List (Nat × V) → Option (List (Nat × D) × Heap)
  | [] => some ([], hp)
  | (i, v) :: vs => match frz hp v with
    | some (d, hp') => match frzParts hp' vs with
      | some (ds, hp'') => some ((i, d) :: ds, hp'')
      | none => none
    | none => none

section
variable (P : Program)
def buildSliceV (t : TypeId) (len : Nat) (n : Nat) (hp : Heap) (parts : List (Nat × V)) : Out := match elemT P t with
  | some e => match zeroD P e with
    | some z => match frzParts hp parts with
      | some (ds, hp') =>
        bif z.width == sz P e && Nat.blt 0 (sz P e) && Nat.ble (len * sz P e) 16777216 then
          match fillE (sz P e) (List.replicate len z) ds with
          | some xs => some (.ms n (sz P e) 0 len, n + 1, (n, .arr (sz P e) xs) :: hp')
          | none => none
        else none
      | none => none
    | none => none
  | none => none
def makeSliceV (t : TypeId) (len cap : V) (n : Nat) (hp : Heap) : Out := match elemT P t with
  | some e => match zeroD P e, len, cap with
    | some z, .d (.i _ l), .d (.i _ c) =>
      bif decide (0 ≤ l) && decide (l ≤ c) && decide ((P.bytesOf e : Int) * c ≤ 140737488355328) && decide (c ≤ 140737488355328) && z.width == sz P e && Nat.blt 0 (sz P e) then
        some (.ms n (sz P e) 0 l.toNat, n + 1, (n, .arr (sz P e) (List.replicate l.toNat z)) :: hp)
      else none
    | _, _, _ => none
  | none => none
/-- what is appended -/
def elsV (e u : TypeId) (hp : Heap) (x : V) : Option (Nat × List D) := match x with
  | .d (.s b) => bif strT P u && sz P e == 1 then some (1, bytesD b) else none
  | x => bif (elemT P u).isSome then sliceOf hp x else none
def appendV (t u : TypeId) (s x : V) (n : Nat) (hp : Heap) : Out := match elemT P t with
  | some e => match zeroD P e with
    | some z => bif z.width == sz P e && Nat.blt 0 (sz P e) then
      (match elsV P e u hp x with
      | some (w, ys) => match ys with
        | [] => match s with
          | .d .nsl => some (s, n, hp)
          | .d (.sl _ _) => some (s, n, hp)
          | .fl _ _ => some (s, n, hp)
          | .ms _ _ _ _ => some (s, n, hp)
          | _ => none
        | _ :: _ => bif w == sz P e then (match s with
          | .d .nsl => bif Nat.ble (ys.length * P.bytesOf e) 140737488355328 && Nat.ble ys.length 140737488355328 then
              some (.ms n w 0 ys.length, n + 1, (n, .arr w ys) :: hp) else none
          | .fl w' xs => bif w' == w && Nat.ble ((xs.length + ys.length) * P.bytesOf e) 140737488355328 && Nat.ble (xs.length + ys.length) 140737488355328 then
              some (.ms n w 0 (xs.length + ys.length), n + 1, (n, .arr w (xs ++ ys)) :: hp) else none
          | .ms id w' off len => match lk hp id with
            | .arr w'' xs => bif w' == w && w'' == w && off == 0 && len == xs.length && Nat.ble ((xs.length + ys.length) * P.bytesOf e) 140737488355328 && Nat.ble (xs.length + ys.length) 140737488355328 then
                some (.ms n w 0 (xs.length + ys.length), n + 1, (n, .arr w (xs ++ ys)) :: (id, .dead) :: hp) else none
            | _ => none
          | _ => none) else none
      | none => none) else none
    | none => none
  | none => none
end

def zipArgs : Nat → List V → Slots
  | _, [] => []
  | j, v :: vs => (j, v) :: zipArgs (j + 1) vs

section
variable (P : Program) (h : Hs)

def callV (g : FuncId) (args : List V) (n : Nat) (hp : Heap) : Out := match frzs hp args with
  | some (ds, hp') => match h.ext g with
    | some f => match f ds with
      | some r => some (.d r, n, hp')
      | none => none
    | none => match h.pcall g ds with
      | some r => some (impD n hp' r)
      | none => none
  | none => match h.ext g with
    | some _ => none
    | none => h.call g args n hp

def calleeV (f : Slots) (o : Operand) (args : List V) (n : Nat) (hp : Heap) : Out := match opV h.G f o with
  | .d (.fn g cs) => callV h g (args ++ cs.map .d) n hp
  | .fn g cs => callV h g (args ++ cs) n hp
  | _ => none

def pure1 (n : Nat) (hp : Heap) (v : Option V) : Out := match v with
  | some v => some (v, n, hp)
  | none => none

def evOp (o : Oper) (f : Slots) (n : Nat) (hp : Heap) : Out :=
  match o.op with
  | .move x | .assign x => some (opV h.G f x, n, hp)
  | .pick c a b => match opV h.G f c with
    | .d (.b t) => some (bif t then opV h.G f a else opV h.G f b, n, hp)
    | _ => none
  | .binOp op t x y _ => pure1 n hp (bif nilConst x || nilConst y then binV P op t (opV h.G f x) (opV h.G f y) else
      (match opV h.G f x, opV h.G f y with
       | .d .nI, .d .nI => none
       | a, b => binV P op t a b))
  | .unOp op _ x => pure1 n hp (unV op (opV h.G f x))
  | .convert src dst x => match opV h.G f x with
    | .d (.s s) => bif strT P dst then pure1 n hp (convV P src dst (.d (.s s))) else
        (match elemT P dst with
         | some e => bif strT P src && decide (intT P e = some .u8) && sz P e == 1 && Nat.ble s.size 140737488355328 then some (.ms n 1 0 s.size, n + 1, (n, .arr 1 (bytesD s)) :: hp) else none
         | none => none)
    | .d (.i k a) => pure1 n hp (convV P src dst (.d (.i k a)))
    | x => match elemT P src with
      | some e => bif strT P dst && decide (intT P e = some .u8) then (match sliceOf hp x with
        | some (w, xs) => bif w == 1 || xs.isEmpty then pure1 n hp ((strOf xs).map fun l => .d (.s ⟨l.toArray⟩)) else none
        | none => none) else none
      | none => none
  | .extract x i => pure1 n hp (extractV (opV h.G f x) i)
  | .field t x i => pure1 n hp (fieldV P t (opV h.G f x) i)
  | .fieldAddr t x i => pure1 n hp (fieldAddrV P t (opV h.G f x) i)
  | .index t x i => pure1 n hp (indexV P t (opV h.G f x) (opV h.G f i))
  | .indexAddr t x i => pure1 n hp (indexAddrV P t (opV h.G f x) (opV h.G f i))
  | .nilCheck x => match opV h.G f x with
    | .pt id o => some (.pt id o, n, hp)
    | .ep id w k c => some (.ep id w k c, n, hp)
    | .rp cs c => some (.rp cs c, n, hp)
    | .fn g cs => some (.fn g cs, n, hp)
    | .d (.fn g cs) => some (.d (.fn g cs), n, hp)
    | _ => none
  | .build t parts => pure1 n hp (buildV P t (parts.toList.map fun (i, x) => (i, opV h.G f x)))
  | .makeFunc (.func g) first captured => bif first.isEmpty then some (match allD (captured.toList.map (opV h.G f)) with
      | some ds => .d (.fn g ds)
      | none => .fn g (captured.toList.map (opV h.G f)), n, hp) else none
  | .alloc e => match zeroD P e with
    | some z => some (.pt n 0, n + 1, (n, .box (z.cells.map .d)) :: hp)
    | none => none
  | .box e x => bif okC (opV h.G f x) then some (.pt n 0, n + 1, (n, .box (opV h.G f x).cells) :: hp) else none
  | .load t a => pure1 n hp (loadV P t hp (opV h.G f a))
  | .store t a x => match storeV P t hp (opV h.G f a) (opV h.G f x) with
    | some hp' => some (.junk, n, hp')
    | none => none
  | .slice t x lo hi mx => pure1 n hp (sliceV P h.G t f (opV h.G f x) lo hi mx)
  | .buildSlice t len parts => buildSliceV P t len n hp (parts.toList.map fun (i, x) => (i, opV h.G f x))
  | .makeSlice t l c => makeSliceV P t (opV h.G f l) (opV h.G f c) n hp
  | .call c => match c.callee with
    | .builtin .len => match c.args.toList, c.argTypes.toList with
      | [x], [t] => pure1 n hp (lenV P t (opV h.G f x))
      | _, _ => none
    | .builtin .append => match c.args.toList, c.argTypes.toList with
      | [s, x], [t, u] => appendV P t u (opV h.G f s) (opV h.G f x) n hp
      | _, _ => none
    | .value g => calleeV h f g (c.args.toList.map (opV h.G f)) n hp
    | _ => none
  | _ => none

def step1 (o : Oper) (st : St) : Option St := match evOp P h o st.f st.n st.h with
  | some (v, n, hp) => some (St.put { st with n := n, h := hp } o.dst v)
  | none => none

/-- the guard's slot: of the operation it names -/
def guardAt (all : List Oper) (j : Nat) : Option Nat := (all[j]?).bind (·.dst)
def evOper (all : List Oper) (o : Oper) (st : St) : Option St := match o.guard with
  | none => step1 P h o st
  | some (j, want) => match guardAt all j with
    | some t => match get st.f t with
      | .d (.b x) => bif x == want then step1 P h o st else some (st.put o.dst (.d (.tp [])))
      | .d (.tp []) => some (st.put o.dst (.d (.tp [])))
      | _ => none
    | none => none
def evOps (all : List Oper) : List Oper → St → Option St
  | [], st => some st
  | o :: os, st => match evOper P h all o st with
    | some st' => evOps all os st'
    | none => none

/-! regions whose order is drawn: each operation sees only what surely came before it -/
def pureOp : Op → Bool
  | .move _ | .assign _ | .pick .. | .binOp .. | .unOp .. | .extract .. | .field .. | .fieldAddr .. | .index .. | .indexAddr .. | .build .. | .nilCheck _ | .makeFunc .. => true
  | _ => false

mutual
def inB (p : Nat → Bool) : V → Bool
  | .ag cs => inBs p cs
  | .tp cs => inBs p cs
  | .fn _ cs => inBs p cs
  | .pt id _ => p id
  | .ms id _ _ _ => p id
  | .ep id _ _ _ => p id
  | _ => true
def inBs (p : Nat → Bool) : List V → Bool
  | [] => true
  | v :: vs => inB p v && inBs p vs
end
def inBk (p : Nat → Bool) : Blk → Bool
  | .box cs => inBs p cs
  | _ => true

structure Rc where
  A : Nat
  s : Slots
  p : Heap
  lo : Nat
  hi : Nat
  see : Option (List Nat)

def selS (S : Nat → Bool) : Nat → List Rc → Slots
  | _, [] => []
  | k, r :: rs => selS S (k + 1) rs ++ (bif S k then r.s else [])
def selH (S : Nat → Bool) : Nat → List Rc → Heap
  | _, [] => []
  | k, r :: rs => selH S (k + 1) rs ++ (bif S k then r.p else [])
def offH (S : Nat → Bool) : Nat → List Rc → Heap
  | _, [] => []
  | k, r :: rs => (bif S k then [] else r.p.map fun x => (x.1, Blk.dead)) ++ offH S (k + 1) rs
def okA (S : Nat → Bool) (id : Nat) : Nat → List Rc → Bool
  | _, [] => false
  | k, r :: rs => S k && Nat.ble r.lo id && Nat.blt id r.hi || okA S id (k + 1) rs
def hasN : List Nat → Nat → Bool
  | [], _ => false
  | a :: l, id => a == id || hasN l id
/-- does what is written lie apart from what one saw and wrote? -/
def apart1 (r : Rc) (p : Heap) : Bool := match r.see with
  | none => p.all fun x => Nat.ble r.hi x.1 && r.p.all fun y => !(y.1 == x.1)
  | some l => p.all fun x => !hasN l x.1
def apartA (S : Nat → Bool) (p : Heap) : Nat → List Rc → Bool
  | _, [] => true
  | k, r :: rs => (S k || apart1 r p) && apartA S p (k + 1) rs
def ancB (rs : List Rc) : List Edge → Option Nat
  | [] => some 0
  | e :: es => match ancB rs es with
    | some a => bif Region.binds .any e then (match rs[e.on]? with
      | some r => some (a ||| (r.A ||| 2 ^ e.on))
      | none => none) else some a
    | none => none
def putOf (dst : Option Nat) (f : Slots) : Slots := match dst with
  | some d => [(d, get f d)]
  | none => []
def rcOf (A : Nat) (o : Oper) (n : Nat) (see : Option (List Nat)) (hv : Heap) (st : St) : Rc := ⟨A, putOf o.dst st.f, st.h.take (st.h.length - hv.length), n, st.n, see⟩
/-- the numbers that an operation sees of memory; none: all -/
def seeOf (G : Nat → Option (List D)) (f : Slots) (o : Oper) : Option (List Nat) := match o.op with
  | .load _ a => match opV G f a with
    | .pt id _ => some [id]
    | .ep id _ _ _ => some [id]
    | _ => some []
  | op => bif pureOp op then some [] else none
def viewH (S : Nat → Bool) (rs : List Rc) (h0 : Heap) (see : Option (List Nat)) : Heap := match see with
  | none => offH S 0 rs ++ (selH S 0 rs ++ h0)
  | some l => l.map fun id => (id, lk (offH S 0 rs ++ (selH S 0 rs ++ h0)) id)
def okRc (S : Nat → Bool) (n0 : Nat) (rs : List Rc) (r : Rc) : Bool :=
  Nat.ble n0 r.lo && Nat.ble r.lo r.hi && (rs.all fun q => Nat.ble q.hi r.lo && q.s.all fun x => r.s.all fun y => !(x.1 == y.1)) &&
  (r.see.isNone || r.p.isEmpty && Nat.ble r.hi r.lo) && apartA S r.p 0 rs &&
  r.s.all (fun x => inB (fun id => Nat.blt id n0 || Nat.ble r.lo id && Nat.blt id r.hi || okA S id 0 rs) x.2) &&
  r.p.all (fun x => (Nat.blt x.1 n0 || Nat.ble r.lo x.1 && Nat.blt x.1 r.hi || okA S x.1 0 rs) && inBk (fun id => Nat.blt id n0 || Nat.ble r.lo id && Nat.blt id r.hi || okA S id 0 rs) x.2)
def drawStep (all : List Oper) (f0 : Slots) (n0 : Nat) (h0 : Heap) (rs : List Rc) (n : Nat) (o : Oper) : Option Rc := match ancB rs o.after.toList with
  | some A =>
    let f := selS (A.testBit ·) 0 rs ++ f0
    let hv := viewH (A.testBit ·) rs h0 (seeOf h.G f o)
    match evOper P { h with call := fun _ _ _ _ => none } all o ⟨f, n, hv⟩ with
    | some st' => bif okRc (A.testBit ·) n0 rs (rcOf A o n (seeOf h.G f o) hv st') then some (rcOf A o n (seeOf h.G f o) hv st') else none
    | none => none
  | none => none
def drawGo (all : List Oper) (f0 : Slots) (n0 : Nat) (h0 : Heap) : List Oper → List Rc → Nat → Option (List Rc × Nat)
  | [], rs, n => some (rs, n)
  | o :: os, rs, n => match drawStep P h all f0 n0 h0 rs n o with
    | some r => drawGo all f0 n0 h0 os (rs ++ [r]) r.hi
    | none => none
def junked (all : List Oper) : Slots := all.flatMap fun o => match o.dst with
  | some d => [(d, .junk)]
  | none => []
def evDraw (all : List Oper) (st : St) : Option St := match drawGo P h all (junked all ++ st.f) st.n st.h all [] st.n with
  | some (rs, n) => some ⟨selS (fun _ => true) 0 rs ++ (junked all ++ st.f), n, selH (fun _ => true) 0 rs ++ st.h⟩
  | none => none

def norm (r : Option St) : Res := match r with
  | some st => some (.n, st)
  | none => none

def leave (id : Nat) (r : Res) : Res := match r with
  | some (.exit j, st) => bif j == id then some (.n, st) else some (.exit j, st)
  | r => r

/-- may each operation's place be written? -/
def okCode (nt : Nat) : Code → Bool
  | .region _ ops _ => ops.toList.all fun o => match o.dst with
    | some d => Nat.blt d nt
    | none => true
  | .seq a b => okCode nt a && okCode nt b
  | .cond _ a b => okCode nt a && okCode nt b
  | .block _ c => okCode nt c
  | .loop c => okCode nt c
  | _ => true

def ev : Code → St → Res
  | .skip, st => some (.n, st)
  | .region _ ops false, st => norm (evOps P h ops.toList ops.toList st)
  | .region _ ops true, st => bif P.follows .mixedOrders then norm (evDraw P h ops.toList st) else none
  | .seq a b, st => match ev a st with
    | some (.n, st') => ev b st'
    | r => r
  | .cond c a b, st => match opV h.G st.f c with
    | .d (.b t) => bif t then ev a st else ev b st
    | _ => none
  | .block id c, st => leave id (ev c st)
  | .loop c, st => h.loop c st
  | .exit id, st => some (.exit id, st)
  | .ret, st => some (.ret, st)
  | _, _ => none

def resV (st : St) : ResultVar → Option V
  | .tmp t => some (get st.f t)
  | .cell a t => loadV P t st.h (get st.f a)
def ress (st : St) : List ResultVar → Option (List V)
  | [] => some []
  | r :: rs => match resV P st r, ress st rs with
    | some v, some vs => some (v :: vs)
    | _, _ => none
def oneV : List V → V
  | [v] => v
  | vs => mkTp vs

/-- a function as it is entered: its code, its slots, its results -/
structure Fd where
  code : Code
  nt : Nat
  res : List ResultVar
def fnOf (g : FuncId) : Option Fd := match P.funcs[g]? with
  | some fn => match fn.body with
    | some c => bif fn.name != "runtime.NumGoroutine" && okCode fn.ntmps c then some ⟨c, fn.ntmps, fn.results.toList⟩ else none
    | none => none
  | none => none

def fin (d : Fd) (r : Res) : Out := match r with
  | some (.n, st) => match ress P st d.res with
    | some vs => some (oneV vs, st.n, st.h)
    | none => none
  | some (.ret, st) => match ress P st d.res with
    | some vs => some (oneV vs, st.n, st.h)
    | none => none
  | _ => none
def callBody (g : FuncId) (args : List V) (n : Nat) (hp : Heap) : Out := match fnOf P g with
  | some d => bif Nat.ble args.length d.nt then fin P d (ev P h d.code ⟨zipArgs 0 args, n, hp⟩) else none
  | none => none
def expO (r : Out) : Option D := match r with
  | some (v, _, hp) => expD hp v
  | none => none
def pcallBody (g : FuncId) (ds : List D) : Option D := expO (callBody P h g (ds.map .d) 0 [])
def loopStep (c : Code) (r : Res) : Res := match r with
  | some (.n, st) => h.loop c st
  | r => r
end

def hsN (P : Program) (G : Nat → Option (List D)) (E : FuncId → Option (List D → Option D)) : Nat → Hs
  | 0 => ⟨G, E, fun _ _ => none, fun _ _ _ _ => none, fun _ _ => none⟩
  | k + 1 => ⟨G, E, pcallBody P (hsN P G E k), callBody P (hsN P G E k), fun c st => loopStep (hsN P G E k) c (ev P (hsN P G E k) c st)⟩
end Go.Fw
