/-
  The abstract machine: definitions. Conditions: none beyond those that each statement names.
-/
import GoSem.Step
namespace Go.Vm

/-- a trie over natural numbers -/
inductive Tr (α : Type) where
  | lf
  | nd (l : Tr α) (v : Option α) (r : Tr α)

def Tr.get {α : Type} : Tr α → Nat → Option α
  | .lf, _ => none
  | .nd l v r, n => cond (Nat.beq n 0) v (cond (Nat.beq (n % 2) 1) (l.get (n / 2)) (r.get (n / 2 - 1)))

def Tr.setF {α : Type} : Nat → Tr α → Nat → Option α → Tr α
  | 0, t, _, _ => t
  | f + 1, .lf, n, v => cond (Nat.beq n 0) (.nd .lf v .lf) (cond (Nat.beq (n % 2) 1) (.nd (Tr.setF f .lf (n / 2) v) none .lf) (.nd .lf none (Tr.setF f .lf (n / 2 - 1) v)))
  | f + 1, .nd l u r, n, v => cond (Nat.beq n 0) (.nd l v r) (cond (Nat.beq (n % 2) 1) (.nd (Tr.setF f l (n / 2) v) u r) (.nd l u (Tr.setF f r (n / 2 - 1) v)))

def Tr.set {α : Type} (t : Tr α) (n : Nat) (v : Option α) : Tr α := Tr.setF (n + 1) t n v

/-- what is known of a slice's capacity: exactly n elements | up to the end of its block (elements of es cells) -/
inductive Cap where
  | ex (n : Nat)
  | up (es : Nat)
  deriving DecidableEq

inductive V where
  | int (k : IntKind) (n : Int)
  | bool (b : Bool)
  | str (s : ByteArray)
  | nilp
  | ptr (id off : Nat)
  | xptr (b off : Nat)
  | nils
  | slc (id off len : Nat) (c : Cap)
  | xslc (b off len cap : Nat)
  | nilm
  | map (id : Nat)
  | nilf
  | fn (f : Nat) (cs : List V)
  | yld (id : Nat)
  | agg (l : List V)
  | tup (l : List V)

inductive Opd where
  | t (n : Nat)
  | c (v : V)

inductive AOp where
  | mv (x : Opd)
  | pick (c a b : Opd)
  | alloc (z : List V)
  | box (x : Opd)
  | build (z : List V) (ps : List (Nat × Nat × Opd))
  | bslice (len : Nat) (z : List V) (ps : List (Nat × Nat × Opd))
  | ld1 (a : Opd)
  | ldN (n : Nat) (a : Opd)
  | st (n : Nat) (a v : Opd)
  | nilck (x : Opd)
  | bin (op : BinOp) (x y : Opd)
  | eqb (neg : Bool) (x y : Opd)
  | eqf (neg : Bool) (n : Nat) (x y : Opd)
  | isnil (neg : Bool) (x : Opd)
  | un (op : UnOp) (x : Opd)
  | conv (k : IntKind) (x : Opd)
  | mkfn (f : Nat) (cs : List Opd)
  | mkmap
  | mkslice (bytes : Nat) (z : List V) (len cap : Opd)
  | slcS (es : Nat) (x : Opd) (lo hi mx : Option Opd)
  | slcA (n es : Nat) (x : Opd) (lo hi mx : Option Opd)
  | fa (x : Opd) (off : Nat)
  | ixS (es : Nat) (x i : Opd)
  | ixA (n es : Nat) (x i : Opd)
  | idx (n es : Nat) (isA : Bool) (x i : Opd)
  | idxStr (x i : Opd)
  | look (n : Nat) (zero : V) (m k : Opd)
  | mput (n : Nat) (m k v : Opd)
  | mlen (m : Opd)
  | lenS (x : Opd)
  | minmax (isMax : Bool) (x y : Opd)
  | app (es bytes : Nat) (x y : Opd)
  | copy (es : Nat) (x y : Opd)
  | clr (z : List V) (x : Opd)
  | call (f : Opd) (args : List Opd)
  | ext (x : Opd) (i : Nat)
  | bad

/-- an operation: where its value goes, what it is, its guard (a slot and the wanted bool), and which reads of its region are made again behind it (their places in the list) -/
structure AOper where
  dst : Option Nat
  op : AOp
  guard : Option (Nat × Bool) := none
  re : List Nat := []

inductive AC where
  | skip
  | seq (a b : AC)
  | cond (c : Opd) (a b : AC)
  | block (id : Nat) (b : AC)
  | loop (keep : List Nat) (b : AC)
  | exit (id : Nat)
  | ret
  | rangeF (f : Opd) (params : List Nat) (assign body : AC)
  | reg (ops : List AOper) (live : Option (List Nat))
  | dreg (perm : List Nat) (ops : List AOper) (live : Option (List Nat))

abbrev Regs := List (Nat × V)

inductive Jump where
  | exit (id : Nat)
  | ret

structure LoopOb where
  st : LoopState
  pend : Option Jump
  regs : Regs
  params : List Nat
  assign : AC
  body : AC

inductive Ob where
  | cells (l : List V)
  | map (es : List (V × V))
  | loop (l : LoopOb)

structure Hp where
  next : Nat
  tr : Tr Ob

def Hp.get (H : Hp) (id : Nat) : Option Ob := H.tr.get id
def Hp.put (H : Hp) (id : Nat) (o : Ob) : Hp := { next := H.next, tr := H.tr.set id (some o) }
def Hp.kill (H : Hp) (id : Nat) : Hp := { next := H.next, tr := H.tr.set id none }
def Hp.new (H : Hp) (o : Ob) : Hp := { next := H.next + 1, tr := H.tr.set H.next (some o) }

inductive RV where
  | tmp (t : Nat)
  | cell1 (a : Nat)
  | cellN (a n : Nat)

structure AFunc where
  np : Nat
  nt : Nat
  res : List RV
  body : AC

inductive Out where
  | normal
  | exit (id : Nat)
  | ret

def look : Regs → Nat → Option V
  | [], _ => none
  | (k, v) :: r, t => cond (Nat.beq k t) (some v) (look r t)

def restrict (r : Regs) : List Nat → Regs
  | [] => []
  | k :: ks => match look r k with
    | some v => (k, v) :: restrict r ks
    | none => restrict r ks

def restrictO (r : Regs) : Option (List Nat) → Regs
  | none => r
  | some l => restrict r l

def ev (r : Regs) : Opd → Option V
  | .t n => look r n
  | .c v => some v

def evs (r : Regs) : List Opd → Option (List V)
  | [] => some []
  | x :: xs => (ev r x).bind fun v => (evs r xs).bind fun vs => some (v :: vs)

def V.cells : V → List V
  | .agg l => l
  | v => [v]

def V.one : V → Bool
  | .agg _ | .tup _ => false
  | _ => true

/-- cells n.. of a list are put anew; none if they don't fit -/
def setAt : List V → Nat → List V → Option (List V)
  | l, _, [] => some l
  | [], _, _ :: _ => none
  | _ :: l, 0, v :: vs => (setAt l 0 vs).bind fun l' => some (v :: l')
  | x :: l, n + 1, v :: vs => (setAt l n (v :: vs)).bind fun l' => some (x :: l')

/-- n cells from off on; none if there are fewer -/
def getAt : List V → Nat → Nat → Option (List V)
  | _, _, 0 => some []
  | [], _, _ + 1 => none
  | x :: l, 0, n + 1 => (getAt l 0 n).bind fun r => some (x :: r)
  | _ :: l, o + 1, n + 1 => getAt l o (n + 1)

def nth : List V → Nat → Option V
  | [], _ => none
  | x :: _, 0 => some x
  | _ :: l, n + 1 => nth l n

/-- all that a run leans on: the functions; the cells of memory that came in; what is known otherwise -/
structure Env where
  funcs : Nat → Option AFunc
  ext : Nat → Nat → Option V
  /-- functions that are known by what they do -/
  prim : Nat → Option (List V → Hp → Option (V × Hp)) := fun _ => none

def extN (E : Env) (b : Nat) : Nat → Nat → Option (List V)
  | _, 0 => some []
  | o, n + 1 => (E.ext b o).bind fun v => (extN E b (o + 1) n).bind fun r => some (v :: r)

def ldN (E : Env) (H : Hp) (n : Nat) : V → Option (List V)
  | .ptr id off => match H.get id with
    | some (.cells l) => getAt l off n
    | _ => none
  | .xptr b off => extN E b off n
  | _ => none

def ld1 (E : Env) (H : Hp) : V → Option V
  | .ptr id off => match H.get id with
    | some (.cells l) => nth l off
    | _ => none
  | .xptr b off => E.ext b off
  | _ => none

def allOne (l : List V) : Bool := l.all V.one

def stN (H : Hp) (n : Nat) (a v : V) : Option Hp :=
  match a with
  | .ptr id off => match H.get id with
    | some (.cells l) =>
      cond (Nat.beq v.cells.length n && allOne v.cells) ((setAt l off v.cells).bind fun l' => some (H.put id (.cells l'))) none
    | _ => none
  | _ => none

def fill (l : List V) (r : Regs) : List (Nat × Nat × Opd) → Option (List V)
  | [] => some l
  | (off, n, x) :: ps => (ev r x).bind fun v => cond (Nat.beq v.cells.length n && Nat.blt 0 n) ((setAt l off v.cells).bind fun l' => fill l' r ps) none

def bitsOf (op : BinOp) (k : IntKind) (x y : Int) : Option V :=
  let a := BitVec.ofInt k.bits x
  let b := BitVec.ofInt k.bits y
  match op with
  | .and => some (.int k (k.wrap (a &&& b).toNat))
  | .or => some (.int k (k.wrap (a ||| b).toNat))
  | .xor => some (.int k (k.wrap (a ^^^ b).toNat))
  | .andNot => some (.int k (k.wrap (a &&& ~~~b).toNat))
  | _ => none

/-- an operation on two whole numbers of one kind (shifts: of two kinds) -/
def binInt (op : BinOp) (k : IntKind) (x : Int) (k' : IntKind) (y : Int) : Option V :=
  match op with
  | .shl => if y < 0 then none else some (.int k (k.wrap (x * 2 ^ (min y.toNat k.bits))))
  | .shr => if y < 0 then none else some (.int k (x.fdiv (2 ^ (min y.toNat k.bits))))
  | .add => if k = k' then some (.int k (k.wrap (x + y))) else none
  | .sub => if k = k' then some (.int k (k.wrap (x - y))) else none
  | .mul => if k = k' then some (.int k (k.wrap (x * y))) else none
  | .quo => if k = k' then (if y = 0 then none else some (.int k (k.wrap (x.tdiv y)))) else none
  | .rem => if k = k' then (if y = 0 then none else some (.int k (x.tmod y))) else none
  | .eql => if k = k' then some (.bool (x == y)) else none
  | .neq => if k = k' then some (.bool (x != y)) else none
  | .lss => if k = k' then some (.bool (decide (x < y))) else none
  | .leq => if k = k' then some (.bool (decide (x ≤ y))) else none
  | .gtr => if k = k' then some (.bool (decide (x > y))) else none
  | .geq => if k = k' then some (.bool (decide (x ≥ y))) else none
  | op => if k = k' then bitsOf op k x y else none

/-- two lists of n numbers: equal? none if they are other than that -/
def eqInts : Nat → List V → List V → Option Bool
  | 0, [], [] => some true
  | n + 1, .int k a :: xs, .int k' b :: ys => if k = k' then (eqInts n xs ys).bind fun r => some (a == b && r) else none
  | _, _, _ => none

/-- two keys: numbers (n = 0), or flat aggregates of n numbers: equal? -/
def eqKey (n : Nat) : V → V → Option Bool
  | .int k a, .int k' b => if n = 0 then (if k = k' then some (a == b) else none) else none
  | .agg xs, .agg ys => if n = 0 then none else eqInts n xs ys
  | _, _ => none

def allInt (l : List V) : Bool := l.all fun v => match v with | .int .. => true | _ => false

/-- a key of n numbers (n = 0: one bare number) -/
def keyOk (n : Nat) : V → Bool
  | .int .. => Nat.beq n 0
  | .agg l => Nat.blt 0 n && (Nat.beq l.length n && allInt l)
  | _ => false

def mfind (n : Nat) (k : V) : List (V × V) → Option (Option V)
  | [] => some none
  | (k', v) :: es => (eqKey n k k').bind fun b => cond b (some (some v)) (mfind n k es)

def mset (n : Nat) (k v : V) : List (V × V) → Option (List (V × V))
  | [] => some [(k, v)]
  | (k', v') :: es => (eqKey n k k').bind fun b => cond b (some ((k, v) :: es)) ((mset n k v es).bind fun es' => some ((k', v') :: es'))

def natOf : V → Option Nat
  | .int _ n => if 0 ≤ n then some n.toNat else none
  | _ => none

def natO (r : Regs) : Option Opd → Option (Option Nat)
  | none => some none
  | some x => (ev r x).bind fun v => (natOf v).bind fun n => some (some n)

/-- the elements of a slice, as cells -/
def cellsOf (E : Env) (H : Hp) (es : Nat) : V → Option (List V)
  | .nils => some []
  | .slc id off len _ => match H.get id with
    | some (.cells l) => getAt l off (len * es)
    | _ => none
  | .xslc b off len _ => extN E b off (len * es)
  | _ => none

def lenOf : V → Option Nat
  | .nils => some 0
  | .slc _ _ len _ => some len
  | .xslc _ _ len _ => some len
  | _ => none

def room (need bytes : Nat) : Bool := Nat.ble ((2 * need + 1024) * bytes) (2 ^ 47) && Nat.ble need (2 ^ 40)

/-- append: n new elements, their cells -/
def app (E : Env) (H : Hp) (es bytes : Nat) (x : V) (n : Nat) (new : List V) : Option (V × Hp) :=
  cond (Nat.beq n 0) (cond (match x with | .nils => true | .slc _ _ len (.ex c) => Nat.ble len c | .slc _ _ _ (.up _) => true | .xslc _ _ len c => Nat.ble len c | _ => false) (some (x, H)) none) <|
  cond (allOne new) (
  match x with
  | .nils => cond (room n bytes) (some (.slc H.next 0 n (.up es), H.new (.cells new))) none
  | .xslc b off len cap =>
    cond (Nat.ble (len + n) cap) none
      (cond (room (len + n) bytes) ((extN E b off (len * es)).bind fun old => some (.slc H.next 0 (len + n) (.up es), H.new (.cells (old ++ new)))) none)
  | .slc id off len c =>
    match H.get id with
    | some (.cells l) =>
      match c with
      | .ex cap =>
        cond (Nat.ble (len + n) cap) ((setAt l (off + len * es) new).bind fun l' => some (.slc id off (len + n) (.ex cap), H.put id (.cells l')))
          (cond (room (len + n) bytes) ((getAt l off (len * es)).bind fun old => some (.slc H.next 0 (len + n) (.up es), H.new (.cells (old ++ new)))) none)
      | .up es' =>
        cond (Nat.beq es es' && Nat.blt 0 es) (
          cond (Nat.ble (off + (len + n) * es) l.length) ((setAt l (off + len * es) new).bind fun l' => some (.slc id off (len + n) (.up es), H.put id (.cells l')))
            (cond (Nat.beq (off + len * es) l.length && room (len + n) bytes)
              ((getAt l off (len * es)).bind fun old => some (.slc H.next 0 (len + n) (.up es), (H.kill id).new (.cells (old ++ new)))) none)) none
    | _ => none
  | _ => none) none

def copyTo (E : Env) (H : Hp) (es : Nat) (x y : V) : Option (V × Hp) :=
  (lenOf x).bind fun lx => (lenOf y).bind fun ly => (cellsOf E H es y).bind fun cs =>
    let n := min ly lx
    let cs := cs.take (n * es)
    cond (Nat.beq n 0) (some (.int .i64 0, H)) <|
    cond (allOne cs) (
    match x with
    | .slc id off _ _ => match H.get id with
      | some (.cells l) => (setAt l off cs).bind fun l' => some (.int .i64 n, H.put id (.cells l'))
      | _ => none
    | _ => none) none

def clrTo (H : Hp) (z : List V) : V → Option (V × Hp)
  | .nils => some (.tup [], H)
  | .slc id off len _ =>
    cond (Nat.beq len 0) (some (.tup [], H)) <|
    match H.get id with
    | some (.cells l) => cond (allOne (List.replicate len z).flatten) ((setAt l off (List.replicate len z).flatten).bind fun l' => some (.tup [], H.put id (.cells l'))) none
    | _ => none
  | _ => none

/-- the bounds of a slice expression (low, high, max) -/
def bounds (len cap : Nat) (lo hi mx : Option Nat) : Option (Nat × Nat × Nat) :=
  let m := mx.getD cap
  let h := hi.getD len
  let l := lo.getD 0
  cond (Nat.ble l h && Nat.ble h m && Nat.ble m cap) (some (l, h, m)) none

def slcS (es : Nat) (lo hi mx : Option Nat) : V → Option V
  | .nils => (bounds 0 0 lo hi mx).bind fun _ => some .nils
  | .xslc b off len cap => (bounds len cap lo hi mx).bind fun (l, h, m) =>
      some (.xslc b (cond (Nat.beq m l) off (off + l * es)) (h - l) (m - l))
  | .slc id off len (.ex cap) => (bounds len cap lo hi mx).bind fun (l, h, m) =>
      some (.slc id (cond (Nat.beq m l) off (off + l * es)) (h - l) (.ex (m - l)))
  | .slc id off len (.up es') =>
      cond (Nat.beq es es' && Nat.blt 0 es) (
      match mx with
      | none => (bounds len len lo hi none).bind fun (l, h, _) => some (.slc id (off + l * es) (h - l) (.up es))
      | some _ => cond (Nat.blt 0 len) ((bounds len len lo hi mx).bind fun (l, h, m) => some (.slc id (cond (Nat.beq m l) off (off + l * es)) (h - l) (.ex (m - l)))) none) none
  | _ => none

def slcA (n es : Nat) (lo hi mx : Option Nat) : V → Option V
  | .ptr id off => (bounds n n lo hi mx).bind fun (l, h, m) =>
      some (.slc id (cond (Nat.beq m l) off (off + l * es)) (h - l) (.ex (m - l)))
  | .xptr b off => (bounds n n lo hi mx).bind fun (l, h, m) =>
      some (.xslc b (cond (Nat.beq m l) off (off + l * es)) (h - l) (m - l))
  | _ => none

def nilQ : V → Option Bool
  | .nils => some true
  | .slc .. => some false
  | .xslc .. => some false
  | _ => none

/-- operations that leave the heap alone and don't look into it -/
def pureOp (r : Regs) : AOp → Option V
  | .mv x => ev r x
  | .pick c a b => (ev r c).bind fun
    | .bool true => ev r a
    | .bool false => ev r b
    | _ => none
  | .build z ps => (fill z r ps).bind fun l => some (.agg l)
  | .nilck x => (ev r x).bind fun v => match v with
    | .ptr .. | .xptr .. | .fn .. | .yld _ => some v
    | _ => none
  | .bin op x y => (ev r x).bind fun a => (ev r y).bind fun b => match a, b with
    | .int k m, .int k' n => binInt op k m k' n
    | _, _ => none
  | .eqb neg x y => (ev r x).bind fun a => (ev r y).bind fun b => match a, b with
    | .bool m, .bool n => some (.bool (neg ^^ (m == n)))
    | _, _ => none
  | .eqf neg n x y => (ev r x).bind fun a => (ev r y).bind fun b => match a, b with
    | .agg xs, .agg ys => (eqInts n xs ys).bind fun e => some (.bool (neg ^^ e))
    | _, _ => none
  | .isnil neg x => (ev r x).bind fun v => (nilQ v).bind fun b => some (.bool (neg ^^ b))
  | .un op x => (ev r x).bind fun v => match op, v with
    | .not, .bool b => some (.bool !b)
    | .neg, .int k n => some (.int k (k.wrap (0 - n)))
    | _, _ => none
  | .conv k x => (ev r x).bind fun v => match v with
    | .int _ n => some (.int k (k.wrap n))
    | _ => none
  | .mkfn f cs => (evs r cs).bind fun vs => some (.fn f vs)
  | .slcS es x lo hi mx => (ev r x).bind fun v => (natO r lo).bind fun l => (natO r hi).bind fun h => (natO r mx).bind fun m => slcS es l h m v
  | .slcA n es x lo hi mx => (ev r x).bind fun v => (natO r lo).bind fun l => (natO r hi).bind fun h => (natO r mx).bind fun m => slcA n es l h m v
  | .fa x off => (ev r x).bind fun v => match v with
    | .ptr id o => some (.ptr id (o + off))
    | .xptr b o => some (.xptr b (o + off))
    | _ => none
  | .ixS es x i => (ev r x).bind fun v => (ev r i).bind fun iv => (natOf iv).bind fun n => match v with
    | .slc id off len _ => cond (Nat.blt n len) (some (.ptr id (off + n * es))) none
    | .xslc b off len _ => cond (Nat.blt n len) (some (.xptr b (off + n * es))) none
    | _ => none
  | .ixA len es x i => (ev r x).bind fun v => (ev r i).bind fun iv => (natOf iv).bind fun n => match v with
    | .ptr id off => cond (Nat.blt n len) (some (.ptr id (off + n * es))) none
    | .xptr b off => cond (Nat.blt n len) (some (.xptr b (off + n * es))) none
    | _ => none
  | .idx len es isA x i => (ev r x).bind fun v => (ev r i).bind fun iv => (natOf iv).bind fun n => match v with
    | .agg l => cond (Nat.blt n len) (cond isA ((getAt l (n * es) es).bind fun c => some (.agg c)) (nth l (n * es))) none
    | _ => none
  | .idxStr x i => (ev r x).bind fun v => (ev r i).bind fun iv => (natOf iv).bind fun n => match v with
    | .str s => match s[n]? with
      | some b => some (.int .u8 b.toNat)
      | none => none
    | _ => none
  | .lenS x => (ev r x).bind fun v => (lenOf v).bind fun n => some (.int .i64 n)
  | .minmax isMax x y => (ev r x).bind fun a => (ev r y).bind fun b => match a, b with
    | .int k m, .int k' n => if k = k' then some (.int k (cond isMax (if n > m then n else m) (if n < m then n else m))) else none
    | _, _ => none
  | .ext x i => (ev r x).bind fun v => match v with
    | .tup l => nth l i
    | _ => none
  | _ => none

/-- operations that look into the heap and leave it alone -/
def readOp (E : Env) (r : Regs) (H : Hp) : AOp → Option V
  | .ld1 a => (ev r a).bind fun v => ld1 E H v
  | .ldN n a => (ev r a).bind fun v => (ldN E H n v).bind fun l => some (.agg l)
  | .look n z m k => (ev r m).bind fun mv => (ev r k).bind fun kv => match mv with
    | .map id => match H.get id with
      | some (.map es) => cond (keyOk n kv) ((mfind n kv es).bind fun
        | some v => some (.tup [v, .bool true])
        | none => some (.tup [z, .bool false])) none
      | _ => none
    | _ => none
  | .mlen m => (ev r m).bind fun mv => match mv with
    | .map id => match H.get id with
      | some (.map es) => some (.int .i64 es.length)
      | _ => none
    | _ => none
  | _ => none

/-- operations that make one new object out of their operands -/
def newOp (r : Regs) : AOp → Option ((Nat → V) × Ob)
  | .alloc z => some (fun id => .ptr id 0, .cells z)
  | .box x => (ev r x).bind fun v => some (fun id => .ptr id 0, .cells v.cells)
  | .bslice len z ps => (fill z r ps).bind fun l => some (fun id => .slc id 0 len (.ex len), .cells l)
  | .mkmap => some (fun id => .map id, .map [])
  | .mkslice bytes z len cap => (ev r len).bind fun lv => (natOf lv).bind fun l => (ev r cap).bind fun cv => (natOf cv).bind fun c =>
      cond (Nat.ble l c && Nat.ble (c * bytes) (2 ^ 47) && Nat.ble c (2 ^ 40)) (some (fun id => .slc id 0 l (.ex c), .cells (List.replicate c z).flatten)) none
  | _ => none

abbrev CallF := V → List V → Hp → Option (V × Hp)

/-- all other operations -/
def actOp (E : Env) (call : CallF) (r : Regs) (H : Hp) : AOp → Option (V × Hp)
  | .st n a v => (ev r a).bind fun p => (ev r v).bind fun x => (stN H n p x).bind fun H' => some (.tup [], H')
  | .mput n m k v => (ev r m).bind fun mv => (ev r k).bind fun kv => (ev r v).bind fun vv => match mv with
    | .map id => match H.get id with
      | some (.map es) => cond (keyOk n kv) ((mset n kv vv es).bind fun es' => some (.tup [], H.put id (.map es'))) none
      | _ => none
    | _ => none
  | .app es bytes x y => (ev r x).bind fun a => (ev r y).bind fun b => (lenOf b).bind fun n => (cellsOf E H es b).bind fun new => app E H es bytes a n new
  | .copy es x y => (ev r x).bind fun a => (ev r y).bind fun b => copyTo E H es a b
  | .clr z x => (ev r x).bind fun a => clrTo H z a
  | .call f args => (ev r f).bind fun fv => (evs r args).bind fun vs => call fv vs H
  | _ => none

inductive Kind where
  | pure | read | new | act
  deriving DecidableEq

def AOp.kind : AOp → Kind
  | .ld1 _ | .ldN .. | .look .. | .mlen _ => .read
  | .alloc _ | .box _ | .bslice .. | .mkmap | .mkslice .. => .new
  | .st .. | .mput .. | .app .. | .copy .. | .clr .. | .call .. | .bad => .act
  | _ => .pure

def stepOp (E : Env) (call : CallF) (r : Regs) (H : Hp) (o : AOp) : Option (V × Hp) :=
  match o.kind with
  | .pure => (pureOp r o).bind fun v => some (v, H)
  | .read => (readOp E r H o).bind fun v => some (v, H)
  | .new => (newOp r o).bind fun (f, ob) => some (f H.next, H.new ob)
  | .act => actOp E call r H o

def put (r : Regs) (dst : Option Nat) (v : V) : Regs :=
  match dst with
  | some d => (d, v) :: r
  | none => r

/-- is the operation wanted? none if that isn't known -/
def wanted (r : Regs) : Option (Nat × Bool) → Option Bool
  | none => some true
  | some (t, b) => (look r t).bind fun
    | .bool c => some (c == b)
    | .tup [] => some false
    | _ => none

def runOps (E : Env) (call : CallF) : List AOper → Regs → Hp → Option (Regs × Hp)
  | [], r, H => some (r, H)
  | o :: os, r, H => (wanted r o.guard).bind fun w =>
    cond w ((stepOp E call r H o.op).bind fun (v, H') => runOps E call os (put r o.dst v) H')
      (runOps E call os (put r o.dst (.tup [])) H)

mutual
def V.beq : V → V → Bool
  | .int k a, .int k' b => k == k' && a == b
  | .bool a, .bool b => a == b
  | .nilp, .nilp | .nils, .nils | .nilm, .nilm | .nilf, .nilf => true
  | .ptr a b, .ptr c d => a == c && b == d
  | .xptr a b, .xptr c d => a == c && b == d
  | .slc a b c d, .slc a' b' c' d' => a == a' && b == b' && c == c' && d == d'
  | .xslc a b c d, .xslc a' b' c' d' => a == a' && b == b' && c == c' && d == d'
  | .map a, .map b => a == b
  | .fn f cs, .fn g ds => f == g && V.beqs cs ds
  | .agg a, .agg b => V.beqs a b
  | .tup a, .tup b => V.beqs a b
  | _, _ => false
def V.beqs : List V → List V → Bool
  | [], [] => true
  | x :: xs, y :: ys => V.beq x y && V.beqs xs ys
  | _, _ => false
end

/-- the reads at these places of the list give what they gave -/
def again (E : Env) (all : List AOper) (r : Regs) (H : Hp) : List Nat → Bool
  | [] => true
  | i :: is =>
    (match all[i]? with
     | some o => match wanted r o.guard with
       | some true => match readOp E r H o.op, o.dst with
         | some v, some d => match look r d with
           | some v' => V.beq v v'
           | none => false
         | _, _ => false
       | some false => true
       | none => false
     | none => false) && again E all r H is

def runDraw (E : Env) (call : CallF) (all : List AOper) : List AOper → Regs → Hp → Option (Regs × Hp)
  | [], r, H => some (r, H)
  | o :: os, r, H => (wanted r o.guard).bind fun w =>
    cond w ((stepOp E call r H o.op).bind fun (v, H') =>
        cond (Nat.ble H.next H'.next && again E all r H' o.re) (runDraw E call all os (put r o.dst v) H') none)
      (runDraw E call all os (put r o.dst (.tup [])) H)

abbrev Ex := Option Nat → AC → Regs → Hp → Option (Out × Regs × Hp)

def zipRegs : Nat → List V → Regs
  | _, [] => []
  | i, v :: vs => (i, v) :: zipRegs (i + 1) vs

def result (E : Env) (r : Regs) (H : Hp) : RV → Option V
  | .tmp t => look r t
  | .cell1 a => (look r a).bind fun v => ld1 E H v
  | .cellN a n => (look r a).bind fun v => (ldN E H n v).bind fun l => some (.agg l)

def results (E : Env) (r : Regs) (H : Hp) : List RV → Option (List V)
  | [] => some []
  | x :: xs => (result E r H x).bind fun v => (results E r H xs).bind fun vs => some (v :: vs)

def retOf : List V → V
  | [v] => v
  | l => .tup l

def callF (E : Env) (ex : Ex) (f : Nat) (args : List V) (H : Hp) : Option (V × Hp) :=
  match E.prim f with
  | some g => g args H
  | none => (E.funcs f).bind fun A =>
    cond (Nat.beq args.length A.np) ((ex none A.body (zipRegs 0 args) H).bind fun (out, r, H') =>
      match out with
      | .exit _ => none
      | _ => (results E r H' A.res).bind fun vs => some (retOf vs, H')) none

def setParams (r : Regs) : List Nat → List V → Option Regs
  | [], [] => some r
  | p :: ps, v :: vs => setParams ((p, v) :: r) ps vs
  | _, _ => none

def callV (E : Env) (ex : Ex) : CallF
  | .fn f cs, args, H => callF E ex f (args ++ cs) H
  | .yld id, args, H =>
    match H.get id with
    | some (.loop L) =>
      match L.st with
      | .ready =>
        (setParams L.regs L.params args).bind fun r => (ex (some id) L.assign r H).bind fun (out, r1, H1) =>
          match out with
          | .normal =>
            match H1.get id with
            | some (.loop L1) =>
              match L1.st with
              | .ready =>
                (ex (some id) L.body r1 (H1.put id (.loop { L1 with st := .busy }))).bind fun (out, _, H2) =>
                  match H2.get id with
                  | some (.loop L2) => match out with
                    | .normal => some (.bool true, H2.put id (.loop { L2 with st := .ready, pend := none }))
                    | .exit b => some (.bool false, H2.put id (.loop { L2 with st := .done, pend := some (.exit b) }))
                    | .ret => some (.bool false, H2.put id (.loop { L2 with st := .done, pend := some .ret }))
                  | _ => none
              | _ => none
            | _ => none
          | _ => none
      | _ => none
    | _ => none
  | _, _, _ => none

/-- a round's loop is at hand -/
def within (H : Hp) : Option Nat → Bool
  | none => true
  | some l => match H.get l with
    | some (.loop _) => true
    | _ => false

def execWith (E : Env) (ex : Ex) : Ex := fun rd c r H =>
  match c with
  | .skip => some (.normal, r, H)
  | .seq a b => (ex rd a r H).bind fun (out, r', H') => match out with
    | .normal => ex rd b r' H'
    | o => some (o, r', H')
  | .cond x a b => (ev r x).bind fun
    | .bool true => ex rd a r H
    | .bool false => ex rd b r H
    | _ => none
  | .block id b => (ex rd b r H).bind fun (out, r', H') => match out with
    | .exit id' => cond (Nat.beq id' id) (some (.normal, r', H')) (some (.exit id', r', H'))
    | o => some (o, r', H')
  | .loop keep b => (ex rd b (restrict r keep) H).bind fun (out, r', H') => match out with
    | .normal => ex rd (.loop keep b) r' H'
    | o => some (o, r', H')
  | .exit id => some (.exit id, r, H)
  | .ret => some (.ret, r, H)
  | .rangeF f ps assign body => (ev r f).bind fun fv => match fv with
    | .fn g cs =>
      cond (within H rd) (
      let l := H.next
      (callF E ex g (.yld l :: cs) (H.new (.loop { st := .ready, pend := none, regs := r, params := ps, assign, body }))).bind fun (_, H') =>
        match H'.get l with
        | some (.loop L) => match L.st with
          | .busy => none
          | _ =>
            let H'' := H'.put l (.loop { L with st := .exhausted })
            match L.pend with
            | none => some (.normal, r, H'')
            | some (.exit id) => some (.exit id, r, H'')
            | some .ret => some (.ret, r, H'')
        | _ => none) none
    | _ => none
  | .reg ops live => (runOps E (callV E ex) ops r H).bind fun (r', H') => some (.normal, restrictO r' live, H')
  | .dreg _ ops live => (runDraw E (callV E ex) ops ops r H).bind fun (r', H') => some (.normal, restrictO r' live, H')

def exec (E : Env) : Nat → Ex
  | 0 => fun _ _ _ _ => none
  | n + 1 => execWith E (exec E n)

/-! the equations of the definitions, made here once -/
theorem eq1 (E : Env) (ex : Ex) : execWith E ex none .skip [] ⟨0, .lf⟩ = some (.normal, [], ⟨0, .lf⟩) := by simp only [execWith]
theorem eq2 (E : Env) (call : CallF) : runOps E call [] [] ⟨0, .lf⟩ = some ([], ⟨0, .lf⟩) := by simp only [runOps]
theorem eq3 (E : Env) (call : CallF) : runDraw E call [] [] [] ⟨0, .lf⟩ = some ([], ⟨0, .lf⟩) := by simp only [runDraw]
theorem eq4 (E : Env) (ex : Ex) : callV E ex .nils [] ⟨0, .lf⟩ = none := by simp only [callV]
theorem eq5 (E : Env) (ex : Ex) : callF E ex 0 [] ⟨0, .lf⟩ = callF E ex 0 [] ⟨0, .lf⟩ := by simp only [callF]
theorem eq6 (E : Env) (call : CallF) : stepOp E call [] ⟨0, .lf⟩ .bad = none := by simp only [stepOp, AOp.kind, actOp]
theorem eq7 (E : Env) : readOp E [] ⟨0, .lf⟩ .bad = none := by simp only [readOp]
theorem eq8 : pureOp [] .bad = none := by simp only [pureOp]
theorem eq9 : newOp [] .bad = none := by simp only [newOp]
theorem eq10 : wanted [] none = some true := by simp only [wanted]
theorem eq11 (E : Env) : ld1 E ⟨0, .lf⟩ .nils = none := by simp only [ld1]
theorem eq12 (E : Env) : ldN E ⟨0, .lf⟩ 1 .nils = none := by simp only [ldN]
theorem eq13 : stN ⟨0, .lf⟩ 1 .nils .nils = none := by simp only [stN]
theorem eq14 (E : Env) : results E [] ⟨0, .lf⟩ [] = some [] := by simp only [results]
theorem eq15 (E : Env) : result E [] ⟨0, .lf⟩ (.tmp 0) = none := by simp only [result, look]
theorem eq16 : natOf .nils = none := by simp only [natOf]
theorem eq17 : lenOf .nils = some 0 := by simp only [lenOf]
theorem eq18 : restrictO [] none = [] := by simp only [restrictO]
theorem eq19 : restrict [] [] = [] := by simp only [restrict]
theorem eq20 : evs [] [] = some [] := by simp only [evs]
theorem eq21 (l : List V) : fill l [] [] = some l := by simp only [fill]
theorem eq22 : getAt [] 0 0 = some [] := by simp only [getAt]
theorem eq23 : setAt [] 0 [] = some [] := by simp only [setAt]
theorem eq24 : nth [] 0 = none := by simp only [nth]
theorem eq25 : binInt .eql .i64 0 .i64 0 = some (.bool (0 == 0)) := by simp only [binInt, if_true]; rfl
theorem eq26 (E : Env) : exec E 0 none .skip [] ⟨0, .lf⟩ = none := by simp only [exec]
theorem eq27 : (Tr.lf : Tr Nat).get 0 = none := by simp only [Tr.get]
theorem eq28 : Tr.setF 0 (Tr.lf : Tr Nat) 0 none = .lf := by simp only [Tr.setF]
theorem eq29 : V.cells .nils = [.nils] := by simp only [V.cells]
theorem eq30 : V.one .nils = true := by simp only [V.one]
theorem eq31 (E : Env) : again E [] [] ⟨0, .lf⟩ [] = true := by simp only [again]
theorem eq32 : put [] none .nils = [] := by simp only [put]
theorem eq33 : ev [] (.c .nils) = some .nils := by simp only [ev]
end Go.Vm
