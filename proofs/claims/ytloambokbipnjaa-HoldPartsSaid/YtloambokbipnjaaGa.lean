/- The plain evaluator, for values that are not told: it answers with a tree, whose conditions stand at its forks. By this session. -/
import Derived.Test.YtloambokbipnjaaFp
set_option linter.unusedVariables false
namespace Go.Fw

/-! what a thing that is not told would be, and whether it is -/
def isB : D → Bool
  | .b _ => true
  | _ => false
def bOf : D → Bool
  | .b x => x
  | _ => false
def isI (k : IntKind) : D → Bool
  | .i k' _ => decide (k = k')
  | _ => false
def iOf : D → Int
  | .i _ n => n
  | _ => 0
def isS : D → Bool
  | .s _ => true
  | _ => false
def sOf : D → ByteArray
  | .s x => x
  | _ => ByteArray.empty
def isNsl : D → Bool
  | .nsl => true
  | _ => false
def isSlD : D → Bool
  | .sl _ _ => true
  | _ => false
def wOf : D → Nat
  | .sl w _ => w
  | _ => 0
def xsOf : D → List D
  | .sl _ xs => xs
  | _ => []
def isAg (n : Nat) : D → Bool
  | .ag cs => cs.length == n
  | _ => false
def isBytes : List D → Bool
  | [] => true
  | .i .u8 _ :: ds => isBytes ds
  | _ :: _ => false
def bytesOf : List D → List UInt8
  | [] => []
  | d :: ds => UInt8.ofNat (iOf d).toNat :: bytesOf ds

section
variable {α : Type}
def leafK (z x : D) (K : D → Option α) : Option α := match z with
  | .b _ => bif isB x then K (.b (bOf x)) else none
  | .i k _ => bif isI k x then K (.i k (iOf x)) else none
  | .s _ => bif isS x then K (.s (sOf x)) else none
  | .nsl => bif isNsl x then K .nsl else bif isSlD x then K (.sl (wOf x) (xsOf x)) else none
  | _ => K x
def cellsK (cs : List D) : List D → Nat → (List D → Option α) → Option α
  | [], _, K => K []
  | z :: zs, c, K => leafK z (cs.getD c .nsl) fun d => cellsK cs zs (c + 1) fun ds => K (d :: ds)
def someK (r : Option V) (K : V → Option α) : Option α := match r with
  | some v => K v
  | none => none
end

section
variable {α : Type} (P : Program)
def partK (t : TypeId) (cs : List D) (off : Nat) (K : D → Option α) : Option α := match aggT P t, zeroD P t with
  | some true, some (.ag zs) => bif zs.length == sz P t && Nat.ble (off + sz P t) cs.length then cellsK cs zs off fun ds => K (.ag ds) else none
  | some false, some z => bif Nat.blt off cs.length then leafK z (cs.getD off .nsl) K else none
  | _, _ => none
def loadK (t : TypeId) (hp : Heap) (a : V) (K : V → Option α) : Option α := match a with
  | .pt id off => someK (loadV P t hp (.pt id off)) K
  | .ep id w k c => match lk hp id with
    | .arr w' xs => bif w == w' && Nat.blt k xs.length then partK P t (xs.getD k .nsl).cells c fun d => K (.d d) else none
    | .fz w' xs => bif w == w' && Nat.blt k xs.length then partK P t (xs.getD k .nsl).cells c fun d => K (.d d) else none
    | _ => none
  | .rp cs c => partK P t cs c fun d => K (.d d)
  | _ => none
def storeK (t : TypeId) (hp : Heap) (a v : V) (K : Heap → Option α) : Option α := match a with
  | .ep id w k 0 => bif okC v && v.cells.length == sz P t && Nat.blt 0 (sz P t) then
      match lk hp id with
      | .arr w' xs => bif w == w' && Nat.blt k xs.length then
          match allD v.cells with
          | some ds => match aggT P t with
            | some true => bif isAg ds.length (xs.getD k .nsl) then K ((id, .arr w' (xs.set k (.ag ds))) :: hp) else none
            | some false => match ds with
              | [d] => bif (xs.getD k .nsl).leaf && d.leaf then K ((id, .arr w' (xs.set k d)) :: hp) else none
              | _ => none
            | none => none
          | none => none
        else none
      | _ => none
    else none
  | a => match storeV P t hp a v with
    | some hp' => K hp'
    | none => none

def eqFldsB (eq : TypeId → D → D → Option Bool) (xs ys : List D) : List Field → Option Bool
  | [] => some true
  | f :: fs => bif f.name != "_" then
      match partD P f.type xs f.offset, partD P f.type ys f.offset with
      | some x, some y => match eq f.type x y, eqFldsB eq xs ys fs with
        | some t, some u => some (t && u)
        | _, _ => none
      | _, _ => none
    else eqFldsB eq xs ys fs
def eqTB : Nat → TypeId → D → D → Option Bool
  | 0, _, _, _ => none
  | n + 1, t, x, y => match x, y with
    | .ag xs, .ag ys => match P.underlying t with
      | some (.struct fs) => bif P.stoodInHeld t then none else eqFldsB P (eqTB n) xs ys fs.toList
      | _ => none
    | x, y => eqLeaf P t x y
def binK (op : BinOp) (t : TypeId) (x y : V) (K : V → Option α) : Option α := match x, y with
  | .d (.i k a), .d (.i k' c) => match op with
    | .shl => bif decide (c < 0) then none else K (.d (.i k (k.wrap (a * 2 ^ (min c.toNat k.bits)))))
    | .shr => bif decide (c < 0) then none else K (.d (.i k (a.fdiv (2 ^ (min c.toNat k.bits)))))
    | .quo => bif decide (k = k') then (bif decide (c = 0) then none else K (.d (.i k (k.wrap (a.tdiv c))))) else none
    | .rem => bif decide (k = k') then (bif decide (c = 0) then none else K (.d (.i k (a.tmod c)))) else none
    | _ => someK (binV P op t x y) K
  | .d (.s a), .d (.s c) => match op with
    | .add => bif Nat.ble (a.size + c.size) 9223372036854775807 then K (.d (.s (a ++ c))) else none
    | _ => someK (binV P op t x y) K
  | .d (.ag xs), .d (.ag ys) => bif P.eqGuardType P.depth t then none else match op with
    | .eql => match eqTB P 50 t (.ag xs) (.ag ys) with
      | some r => K (.d (.b r))
      | none => none
    | .neq => match eqTB P 50 t (.ag xs) (.ag ys) with
      | some r => K (.d (.b !r))
      | none => none
    | _ => none
  | _, _ => someK (binV P op t x y) K
def asNatK (n : Int) (below : Nat) (K : Nat → Option α) : Option α := bif decide (0 ≤ n) && decide (n < (below : Int)) then K n.toNat else none
def bndK (G : Nat → Option (List D)) (f : Slots) (o : Option Operand) (dflt most : Nat) (K : Nat → Option α) : Option α := match o with
  | none => K dflt
  | some x => match opV G f x with
    | .d (.i _ n) => bif decide (0 ≤ n) && decide (n ≤ (most : Int)) then K n.toNat else none
    | _ => none
def indexK (t : TypeId) (x i : V) (K : V → Option α) : Option α := match i with
  | .d (.i _ n) => match x with
    | .d (.s s) => bif strT P t then asNatK n s.size fun j => K (.d (.i .u8 ((s.data.toList.getD j 0).toNat : Int))) else none
    | .d (.ag cs) => match arrT P t with
      | some (len, e) => asNatK n len fun j => partK P e cs (j * sz P e) fun d => K (.d d)
      | none => none
    | _ => someK (indexV P t x i) K
  | _ => none
def indexAddrK (t : TypeId) (x i : V) (K : V → Option α) : Option α := match i with
  | .d (.i _ n) => match elemT P t with
    | some e => match x with
      | .d (.sl w xs) => bif w == sz P e && Nat.blt 0 w then asNatK n xs.length fun j => K (.rp (xs.getD j .nsl).cells 0) else none
      | .fl w xs => bif w == sz P e && Nat.blt 0 w then asNatK n xs.length fun j => K (.rp (xs.getD j .nsl).cells 0) else none
      | .ms id w off len => bif w == sz P e && Nat.blt 0 w then asNatK n len fun j => K (.ep id w (off + j) 0) else none
      | _ => none
    | none => match arrT P t with
      | some (len, e) => match x with
        | .pt id o => bif Nat.blt 0 (sz P e) then asNatK n len fun j => K (.pt id (o + j * sz P e)) else none
        | .rp cs o => bif Nat.blt 0 (sz P e) then asNatK n len fun j => K (.rp cs (o + j * sz P e)) else none
        | _ => none
      | none => none
  | _ => none
def sliceK (G : Nat → Option (List D)) (t : TypeId) (f : Slots) (x : V) (lo hi mx : Option Operand) (K : V → Option α) : Option α := match x with
  | .d (.s s) => bif strT P t then (match mx with
    | some _ => none
    | none => bndK G f hi s.size s.size fun h => bndK G f lo 0 h fun l => K (.d (.s (s.extract l h)))) else none
  | .d .nsl => someK (sliceV P G t f (.d .nsl) lo hi mx) K
  | .d (.sl w xs) => bif elemT P t |>.any (fun e => sz P e == w && Nat.blt 0 w) then bndK G f hi xs.length xs.length fun h => bndK G f lo 0 h fun l => (match mx, hi with
        | none, _ => K (.d (.sl w ((xs.drop l).take (h - l))))
        | some y, some _ => bndK G f (some y) xs.length xs.length fun m => bif m == h then K (.fl w ((xs.drop l).take (h - l))) else none
        | _, _ => none) else none
  | .fl w xs => bif elemT P t |>.any (fun e => sz P e == w && Nat.blt 0 w) then (match mx with
    | none => bndK G f hi xs.length xs.length fun h => bndK G f lo 0 h fun l => bif h == xs.length then K (.fl w ((xs.drop l).take (h - l))) else K (.d (.sl w ((xs.drop l).take (h - l))))
    | some _ => none) else none
  | .ms id w off len => bif elemT P t |>.any (fun e => sz P e == w && Nat.blt 0 w) then (match mx with
    | none => bndK G f hi len len fun h => bndK G f lo 0 h fun l => K (.ms id w (off + l) (h - l))
    | some _ => none) else none
  | _ => none

/-- freezing -/
def frzB (hp : Heap) : V → Bool
  | .d _ => true
  | .ag cs => frzsB hp cs
  | .fn _ cs => frzsB hp cs
  | .ms id _ _ _ => match lk hp id with
    | .arr _ _ => true
    | .fz _ _ => true
    | _ => false
  | .fl _ _ => true
  | _ => false
where frzsB (hp : Heap) : List V → Bool
  | [] => true
  | v :: vs => frzB hp v && frzsB hp vs
def frzK {α : Type} (hp : Heap) (v : V) (K : D → Heap → Option α) : Option α := match v with
  | .d x => K x hp
  | .ms id w off len => match lk hp id with
    | .arr w' xs => bif Nat.ble (off + len) xs.length && w == w' then K (.sl w ((xs.drop off).take len)) ((id, .fz w' xs) :: hp) else none
    | .fz w' xs => bif Nat.ble (off + len) xs.length && w == w' then K (.sl w ((xs.drop off).take len)) hp else none
    | _ => none
  | .fl w xs => K (.sl w xs) hp
  | v => match frz hp v with
    | some (d, hp') => K d hp'
    | none => none
def frzsK {α : Type} : List V → Heap → (List D → Heap → Option α) → Option α
  | [], hp, K => K [] hp
  | v :: vs, hp, K => frzK hp v fun d hp' => frzsK vs hp' fun ds hp'' => K (d :: ds) hp''

/-- what holds of the slice that is appended -/
def elsK {α : Type} (e : TypeId) (u : TypeId) (hp : Heap) (x : V) (K : Nat → List D → Option α) : Option α := match x with
  | .d (.s b) => bif strT P u && sz P e == 1 then K 1 (bytesD b) else none
  | .d (.sl w xs) => bif (elemT P u).isSome then K w xs else none
  | .d .nsl => bif (elemT P u).isSome then K 0 [] else none
  | .fl w xs => bif (elemT P u).isSome then K w xs else none
  | .ms id w off len => bif (elemT P u).isSome then (match lk hp id with
    | .arr w' xs => bif Nat.ble (off + len) xs.length && w == w' then K w ((xs.drop off).take len) else none
    | .fz w' xs => bif Nat.ble (off + len) xs.length && w == w' then K w ((xs.drop off).take len) else none
    | _ => none) else none
  | _ => none
/-- the lengths of what is told one by one -/
def lenK {α : Type} (xs : List D) (x0 : Option α) (x1 : Option α) : Option α := match xs with
  | [] => x0
  | _ :: _ => x1
def appendK {α : Type} (t u : TypeId) (s x : V) (n : Nat) (hp : Heap) (K : V → Nat → Heap → Option α) : Option α := match elemT P t with
  | some e => match zeroD P e with
    | some z => bif z.width == sz P e && Nat.blt 0 (sz P e) then elsK P e u hp x fun w ys =>
        bif ys.isEmpty then (match s with
          | .d .nsl => K s n hp
          | .d (.sl _ _) => K s n hp
          | .fl _ _ => K s n hp
          | .ms _ _ _ _ => K s n hp
          | _ => none)
        else bif w == sz P e then (match s with
          | .d .nsl => bif Nat.ble (ys.length * P.bytesOf e) 140737488355328 && Nat.ble ys.length 140737488355328 then
              K (.ms n w 0 ys.length) (n + 1) ((n, .arr w ys) :: hp) else none
          | .fl w' xs => bif w' == w && Nat.ble ((xs.length + ys.length) * P.bytesOf e) 140737488355328 && Nat.ble (xs.length + ys.length) 140737488355328 then
              K (.ms n w 0 (xs.length + ys.length)) (n + 1) ((n, .arr w (xs ++ ys)) :: hp) else none
          | .ms id w' off len => match lk hp id with
            | .arr w'' xs => bif w' == w && w'' == w && off == 0 && len == xs.length && Nat.ble ((xs.length + ys.length) * P.bytesOf e) 140737488355328 && Nat.ble (xs.length + ys.length) 140737488355328 then
                K (.ms n w 0 (xs.length + ys.length)) (n + 1) ((n, .arr w (xs ++ ys)) :: (id, .dead) :: hp) else none
            | _ => none
          | _ => none) else none
      else none
    | none => none
  | none => none
def makeSliceK {α : Type} (t : TypeId) (len cap : V) (n : Nat) (hp : Heap) (K : V → Nat → Heap → Option α) : Option α := match elemT P t with
  | some e => match zeroD P e, len, cap with
    | some z, .d (.i _ l), .d (.i _ c) =>
      bif decide (0 ≤ l) && decide (l ≤ c) && decide ((P.bytesOf e : Int) * c ≤ 140737488355328) && decide (c ≤ 140737488355328) && z.width == sz P e && Nat.blt 0 (sz P e) then
        K (.ms n (sz P e) 0 l.toNat) (n + 1) ((n, .arr (sz P e) (List.replicate l.toNat z)) :: hp)
      else none
    | _, _, _ => none
  | none => none
def convK {α : Type} (src dst : TypeId) (x : V) (n : Nat) (hp : Heap) (K : V → Nat → Heap → Option α) : Option α := match x with
  | .d (.s s) => bif strT P dst then someK (convV P src dst (.d (.s s))) (fun v => K v n hp) else
      (match elemT P dst with
       | some e => bif strT P src && decide (intT P e = some .u8) && sz P e == 1 && Nat.ble s.size 140737488355328 then K (.ms n 1 0 s.size) (n + 1) ((n, .arr 1 (bytesD s)) :: hp) else none
       | none => none)
  | .d (.i k a) => someK (convV P src dst (.d (.i k a))) (fun v => K v n hp)
  | x => match elemT P src with
    | some e => bif strT P dst && decide (intT P e = some .u8) then elsK P e src hp x fun w xs => bif (w == 1 || xs.isEmpty) && isBytes xs then K (.d (.s ⟨(bytesOf xs).toArray⟩)) n hp else none else none
    | none => none
end

/-- what is told of the functions that are called, of rounds, and how a call in common memory is gone into -/
structure HK where
  G : Nat → Option (List D)
  ext : FuncId → Option (List D → Option (Bool × D))
  pc : FuncId → List D → Option (Bool × D)
  call : FuncId → List V → Nat → Heap → {α : Type} → (V → Nat → Heap → Option α) → Option α
def bare (f : List D → Option (Bool × D)) (ds : List D) : Option D := match f ds with
  | some (b, r) => bif b then some r else none
  | none => none
def HK.hs (H : HK) : Hs := ⟨H.G, fun g => (H.ext g).map bare, fun g ds => match H.pc g ds with
  | some (b, r) => bif b then some r else none
  | none => none, fun _ _ _ _ => none, fun _ _ => none⟩

section
variable {α : Type} (P : Program) (H : HK)
def callK (g : FuncId) (args : List V) (n : Nat) (hp : Heap) (K : V → Nat → Heap → Option α) : Option α := bif frzB.frzsB hp args then
    frzsK args hp fun ds hp' => match H.ext g with
      | some f => match f ds with
        | some (b, r) => bif b then K (.d r) n hp' else none
        | none => none
      | none => match H.pc g ds with
        | some (b, r) => bif b then K (impD n hp' r).1 (impD n hp' r).2.1 (impD n hp' r).2.2 else none
        | none => none
  else match H.ext g with
    | some _ => none
    | none => H.call g args n hp K
def opK (o : Oper) (f : Slots) (n : Nat) (hp : Heap) (K : V → Nat → Heap → Option α) : Option α := match o.op with
  | .pick c a b => match opV H.G f c with
    | .d (.b t) => bif t then K (opV H.G f a) n hp else K (opV H.G f b) n hp
    | _ => none
  | .binOp op t x y _ => bif nilConst x || nilConst y then binK P op t (opV H.G f x) (opV H.G f y) (fun v => K v n hp) else
      (match opV H.G f x, opV H.G f y with
       | .d .nI, .d .nI => none
       | a, b => binK P op t a b fun v => K v n hp)
  | .convert src dst x => convK P src dst (opV H.G f x) n hp K
  | .index t x i => indexK P t (opV H.G f x) (opV H.G f i) fun v => K v n hp
  | .indexAddr t x i => indexAddrK P t (opV H.G f x) (opV H.G f i) fun v => K v n hp
  | .load t a => loadK P t hp (opV H.G f a) fun v => K v n hp
  | .store t a x => storeK P t hp (opV H.G f a) (opV H.G f x) fun hp' => K .junk n hp'
  | .slice t x lo hi mx => sliceK P H.G t f (opV H.G f x) lo hi mx fun v => K v n hp
  | .makeSlice t l c => makeSliceK P t (opV H.G f l) (opV H.G f c) n hp K
  | .call c => match c.callee with
    | .builtin .len => match c.args.toList, c.argTypes.toList with
      | [x], [t] => someK (lenV P t (opV H.G f x)) fun v => K v n hp
      | _, _ => none
    | .builtin .append => match c.args.toList, c.argTypes.toList with
      | [s, x], [t, u] => appendK P t u (opV H.G f s) (opV H.G f x) n hp K
      | _, _ => none
    | .value g => match opV H.G f g with
      | .d (.fn g cs) => callK H g (c.args.toList.map (opV H.G f) ++ cs.map .d) n hp K
      | .fn g cs => callK H g (c.args.toList.map (opV H.G f) ++ cs) n hp K
      | _ => none
    | _ => none
  | _ => match evOp P H.hs o f n hp with
    | some (v, n, hp) => K v n hp
    | none => none

def stepK (o : Oper) (st : St) (K : St → Option α) : Option α := opK P H o st.f st.n st.h fun v n hp => K (St.put ⟨st.f, n, hp⟩ o.dst v)
def operK (all : List Oper) (o : Oper) (st : St) (K : St → Option α) : Option α := match o.guard with
  | none => stepK P H o st K
  | some (j, want) => match guardAt all j with
    | some t => match get st.f t with
      | .d (.b x) => bif x then (bif want then stepK P H o ⟨(t, .d (.b true)) :: st.f, st.n, st.h⟩ K else K (St.put ⟨(t, .d (.b true)) :: st.f, st.n, st.h⟩ o.dst (.d (.tp []))))
          else (bif want then K (St.put ⟨(t, .d (.b false)) :: st.f, st.n, st.h⟩ o.dst (.d (.tp []))) else stepK P H o ⟨(t, .d (.b false)) :: st.f, st.n, st.h⟩ K)
      | .d (.tp []) => K (st.put o.dst (.d (.tp [])))
      | _ => none
    | none => none
def opersK (all : List Oper) : List Oper → St → (St → Option α) → Option α
  | [], st, K => K st
  | o :: os, st, K => operK P H all o st fun st' => opersK all os st' K

/-- a slot of the records, told -/
def tellRc (t : Nat) (b : Bool) (rs : List Rc) : List Rc := rs.map fun r => { r with s := r.s.map fun x => bif x.1 == t then (x.1, .d (.b b)) else x }
def drawStepK (all : List Oper) (f0 : Slots) (n0 : Nat) (h0 : Heap) (rs : List Rc) (n : Nat) (o : Oper) (K : List Rc → Rc → Option α) : Option α := match ancB rs o.after.toList with
  | some A =>
    let vw (rs : List Rc) : Heap := viewH (A.testBit ·) rs h0 (seeOf H.G (selS (A.testBit ·) 0 rs ++ f0) o)
    let rc (rs : List Rc) (st' : St) : Rc := rcOf A o n (seeOf H.G (selS (A.testBit ·) 0 rs ++ f0) o) (vw rs) st'
    let fin (rs : List Rc) (st' : St) : Option α := bif okRc (A.testBit ·) n0 rs (rc rs st') then K rs (rc rs st') else none
    let step (rs : List Rc) : Option α := stepK P { H with call := fun _ _ _ _ _ _ => none } o ⟨selS (A.testBit ·) 0 rs ++ f0, n, vw rs⟩ (fin rs)
    let skip (rs : List Rc) : Option α := fin rs (St.put ⟨selS (A.testBit ·) 0 rs ++ f0, n, vw rs⟩ o.dst (.d (.tp [])))
    match o.guard with
    | none => step rs
    | some (j, want) => match guardAt all j with
      | some t => match get (selS (A.testBit ·) 0 rs ++ f0) t with
        | .d (.b x) => bif x then (bif want then step (tellRc t true rs) else skip (tellRc t true rs)) else (bif want then skip (tellRc t false rs) else step (tellRc t false rs))
        | .d (.tp []) => skip rs
        | _ => none
      | none => none
  | none => none
def drawGoK (all : List Oper) (f0 : Slots) (n0 : Nat) (h0 : Heap) : List Oper → List Rc → Nat → (List Rc → Nat → Option α) → Option α
  | [], rs, n, K => K rs n
  | o :: os, rs, n, K => drawStepK P H all f0 n0 h0 rs n o fun rs r => drawGoK all f0 n0 h0 os (rs ++ [r]) r.hi K
def drawK (all : List Oper) (st : St) (K : St → Option α) : Option α := drawGoK P H all (junked all ++ st.f) st.n st.h all [] st.n fun rs n =>
  K ⟨selS (fun _ => true) 0 rs ++ (junked all ++ st.f), n, selH (fun _ => true) 0 rs ++ st.h⟩

/-- how many loops -/
def loops : Code → Nat
  | .seq a b => loops a + loops b
  | .cond _ a b => loops a + loops b
  | .block _ c => loops c
  | .loop _ => 1
  | _ => 0
/-- a loop of a piece of code, by its number -/
def loopAt : Code → Nat → Option Code
  | .seq a b, k => bif Nat.blt k (loops a) then loopAt a k else loopAt b (k - loops a)
  | .cond _ a b, k => bif Nat.blt k (loops a) then loopAt a k else loopAt b (k - loops a)
  | .block _ c, k => loopAt c k
  | .loop c, k => bif k == 0 then some c else none
  | _, _ => none

abbrev Loops := Nat → St → {α : Type} → (X → St → Option α) → Option α
def evK (L : Loops) : Code → Nat → St → (X → St → Option α) → Option α
  | .skip, _, st, K => K .n st
  | .region _ ops false, _, st, K => opersK P H ops.toList ops.toList st fun st' => K .n st'
  | .region _ ops true, _, st, K => bif P.follows .mixedOrders then drawK P H ops.toList st fun st' => K .n st' else none
  | .seq a b, k, st, K => evK L a k st fun x st' => match x with
    | .n => evK L b (k + loops a) st' K
    | x => K x st'
  | .cond c a b, k, st, K => match opV H.G st.f c with
    | .d (.b t) => bif t then evK L a k st K else evK L b (k + loops a) st K
    | _ => none
  | .block id c, k, st, K => evK L c k st fun x st' => match x with
    | .exit j => bif j == id then K .n st' else K (.exit j) st'
    | x => K x st'
  | .loop c, k, st, K => L k st K
  | .exit id, _, st, K => K (.exit id) st
  | .ret, _, st, K => K .ret st
  | _, _, _, _ => none

def resK (st : St) : List ResultVar → (List V → Option α) → Option α
  | [], K => K []
  | .tmp t :: rs, K => resK st rs fun vs => K (get st.f t :: vs)
  | .cell a t :: rs, K => loadK P t st.h (get st.f a) fun v => resK st rs fun vs => K (v :: vs)
def finK (d : Fd) (x : X) (st : St) (K : V → Nat → Heap → Option α) : Option α := match x with
  | .n => resK P st d.res fun vs => K (oneV vs) st.n st.h
  | .ret => resK P st d.res fun vs => K (oneV vs) st.n st.h
  | _ => none
def bodyK (L : Loops) (g : FuncId) (args : List V) (n : Nat) (hp : Heap) (K : V → Nat → Heap → Option α) : Option α := match fnOf P g with
  | some d => bif Nat.ble args.length d.nt then evK P H L d.code 0 ⟨zipArgs 0 args, n, hp⟩ fun x st => finK P d x st K else none
  | none => none
end

/-- going out -/
def outK {α : Type} (hp : Heap) (v : V) (K : D → Heap → Option α) : Option α := match v with
  | .ms id w off len => match lk hp id with
    | .arr w' xs => bif off == 0 && len == xs.length && w == w' then K (.fr w xs) ((id, .dead) :: hp) else frzK hp v K
    | _ => frzK hp v K
  | _ => frzK hp v K
def outsK {α : Type} : List V → Heap → (List D → Heap → Option α) → Option α
  | [], hp, K => K [] hp
  | v :: vs, hp, K => outK hp v fun d hp' => outsK vs hp' fun ds hp'' => K (d :: ds) hp''
def expK {α : Type} (hp : Heap) (v : V) (K : D → Option α) : Option α := match v with
  | .tp vs => outsK vs hp fun ds _ => K (.tp ds)
  | v => outK hp v fun d _ => K d
def pcallK {α : Type} (P : Program) (H : HK) (L : Loops) (g : FuncId) (ds : List D) (K : D → Option α) : Option α :=
  bodyK P H L g (ds.map .d) 0 [] fun v _ hp => expK hp v K

/-- how deep calls in common memory are gone into -/
def hk (P : Program) (G : Nat → Option (List D)) (E : FuncId → Option (List D → Option (Bool × D))) (T : FuncId → List D → Option (Bool × D)) (L : FuncId → Loops) : Nat → HK
  | 0 => ⟨G, E, T, fun _ _ _ _ _ _ => none⟩
  | k + 1 => ⟨G, E, T, fun g args n hp _ K => bodyK P (hk P G E T L k) (L g) g args n hp K⟩
end Go.Fw
