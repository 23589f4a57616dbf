/-
  A quick form of the abstract machine for closed runs. Conditions: none beyond those that each statement names.
-/
import Derived.Test.YtflgecobobgpcaaGreatPVA
namespace Go.Vm.K
open Go Go.Vm

inductive RL where
  | nil
  | cons (k : Nat) (v : V) (r : RL)

abbrev R := Option (V × Hp)
noncomputable def cnd {α : Type} (b : Bool) (t e : α) : α := Bool.rec (motive := fun _ => α) e t b
noncomputable def iff (b : Bool) (t : R) : R := Bool.rec (motive := fun _ => R) none t b

noncomputable def look (r : RL) (t : Nat) (k : V → R) : R := RL.rec (motive := fun _ => R) none (fun n v _ ih => Bool.rec (motive := fun _ => R) ih (k v) (Nat.beq n t)) r
noncomputable def has (r : RL) (t : Nat) (ih : RL) : RL := RL.rec (motive := fun _ => RL) ih (fun n v _ i => Bool.rec (motive := fun _ => RL) i (.cons n v ih) (Nat.beq n t)) r
noncomputable def restrict (r : RL) (ks : List Nat) : RL := List.rec (motive := fun _ => RL) .nil (fun t _ ih => has r t ih) ks
noncomputable def ev (r : RL) (o : Opd) (k : V → R) : R := Opd.rec (motive := fun _ => R) (fun t => look r t k) k o
noncomputable def evs (r : RL) (l : List Opd) : (List V → R) → R := List.rec (motive := fun _ => (List V → R) → R) (fun k => k []) (fun x _ ih k => ev r x fun v => ih fun vs => k (v :: vs)) l

noncomputable def getAt (l : List V) : Nat → Nat → (List V → R) → R :=
  List.rec (motive := fun _ => Nat → Nat → (List V → R) → R) (fun _ n k => Nat.rec (motive := fun _ => R) (k []) (fun _ _ => none) n)
    (fun x _ ih o n k => Nat.rec (motive := fun _ => R) (k []) (fun n' _ => Nat.rec (motive := fun _ => R) (ih 0 n' fun r => k (x :: r)) (fun o' _ => ih o' n k) o) n) l
noncomputable def nth (l : List V) : Nat → (V → R) → R :=
  List.rec (motive := fun _ => Nat → (V → R) → R) (fun _ _ => none) (fun x _ ih n k => Nat.rec (motive := fun _ => R) (k x) (fun n' _ => ih n' k) n) l
noncomputable def setAt (l : List V) : Nat → List V → (List V → R) → R :=
  List.rec (motive := fun _ => Nat → List V → (List V → R) → R) (fun _ vs k => List.rec (motive := fun _ => R) (k []) (fun _ _ _ => none) vs)
    (fun x xs ih o vs k => List.rec (motive := fun _ => R) (k (x :: xs)) (fun v vs' _ => Nat.rec (motive := fun _ => R) (ih 0 vs' fun l' => k (v :: l')) (fun o' _ => ih o' vs fun l' => k (x :: l')) o) vs) l

noncomputable def tget {α β : Type} (t : Tr α) : Nat → β → (α → β) → β :=
  Tr.rec (motive := fun _ => Nat → β → (α → β) → β) (fun _ d _ => d) (fun _ v _ ihl ihr n d k => Bool.rec (motive := fun _ => β) (Bool.rec (motive := fun _ => β) (ihr (Nat.pred (Nat.div n 2)) d k) (ihl (Nat.div n 2) d k) (Nat.beq (Nat.mod n 2) 1)) (Option.rec (motive := fun _ => β) d k v) (Nat.beq n 0)) t
noncomputable def tsetF {α : Type} (f : Nat) : Tr α → Nat → Option α → Tr α :=
  Nat.rec (motive := fun _ => Tr α → Nat → Option α → Tr α) (fun t _ _ => t)
    (fun _ ih t n v => Tr.rec (motive := fun _ => Tr α)
      (Bool.rec (motive := fun _ => Tr α) (Bool.rec (motive := fun _ => Tr α) (.nd .lf none (ih .lf (Nat.pred (Nat.div n 2)) v)) (.nd (ih .lf (Nat.div n 2) v) none .lf) (Nat.beq (Nat.mod n 2) 1)) (.nd .lf v .lf) (Nat.beq n 0))
      (fun l u r _ _ => Bool.rec (motive := fun _ => Tr α) (Bool.rec (motive := fun _ => Tr α) (.nd l u (ih r (Nat.pred (Nat.div n 2)) v)) (.nd (ih l (Nat.div n 2) v) u r) (Nat.beq (Nat.mod n 2) 1)) (.nd l v r) (Nat.beq n 0)) t) f
noncomputable def tset {α : Type} (t : Tr α) (n : Nat) (v : Option α) : Tr α := tsetF (Nat.succ n) t n v

noncomputable def hgo (id : Nat) (o : Ob) (nx : Nat) (t : Tr Ob) : Hp := ⟨nx, tset t id (some o)⟩
noncomputable def hput (H : Hp) (id : Nat) (o : Ob) : Hp := Hp.rec (motive := fun _ => Hp) (hgo id o) H
noncomputable def newGo (o : Ob) (k : Nat → Hp → R) (nx : Nat) (t : Tr Ob) : R := k nx ⟨Nat.succ nx, tset t nx (some o)⟩
noncomputable def hnew (H : Hp) (o : Ob) (k : Nat → Hp → R) : R := Hp.rec (motive := fun _ => R) (newGo o k) H

/-- the cells at id -/
noncomputable def obCells (k : List V → R) (o : Ob) : R := Ob.rec (motive := fun _ => R) k (fun _ => none) (fun _ => none) o
noncomputable def cellsAt (H : Hp) (id : Nat) (k : List V → R) : R := Hp.rec (motive := fun _ => R) (fun _ t => tget t id none (obCells k)) H

noncomputable def ofO {α : Type} (o : Option α) (k : α → R) : R := Option.rec (motive := fun _ => R) none k o
noncomputable def ld1 (E : Env) (H : Hp) (k : V → R) (v : V) : R := match v with
  | .ptr id off => cellsAt H id fun l => nth l off k
  | .xptr b off => ofO (E.ext b off) k
  | _ => none
noncomputable def ldN (E : Env) (H : Hp) (n : Nat) (k : List V → R) (v : V) : R := match v with
  | .ptr id off => cellsAt H id fun l => getAt l off n k
  | .xptr b off => ofO (extN E b off n) k
  | _ => none
noncomputable def cells (v : V) : List V := match v with
  | .agg l => l
  | v => [v]
noncomputable def one (v : V) : Bool := match v with
  | .agg _ => false
  | .tup _ => false
  | _ => true
noncomputable def allOne (l : List V) : Bool := List.rec (motive := fun _ => Bool) true (fun x _ ih => Bool.rec (motive := fun _ => Bool) false ih (one x)) l
noncomputable def len {α : Type} (l : List α) : Nat := List.rec (motive := fun _ => Nat) 0 (fun _ _ ih => Nat.succ ih) l
noncomputable def stGo (H : Hp) (n : Nat) (id off : Nat) (k : Hp → R) (vs l : List V) : R :=
  iff (Nat.beq (len vs) n) (iff (allOne vs) (setAt l off vs fun l' => k (hput H id (.cells l'))))
noncomputable def stN (H : Hp) (n : Nat) (a v : V) (k : Hp → R) : R := match a with
  | .ptr id off => cellsAt H id (stGo H n id off k (cells v))
  | _ => none
noncomputable def fillGo (off n : Nat) (ih : List V → R) (l : List V) (vs : List V) : R :=
  iff (Nat.beq (len vs) n) (iff (Nat.blt 0 n) (setAt l off vs ih))
noncomputable def fill (r : RL) (ps : List (Nat × Nat × Opd)) : List V → (List V → R) → R :=
  List.rec (motive := fun _ => List V → (List V → R) → R) (fun l k => k l) (fun p _ ih l k => Prod.rec (motive := fun _ => R) (fun off q => Prod.rec (motive := fun _ => R) (fun n x => ev r x fun v => fillGo off n (fun l' => ih l' k) l (cells v)) q) p) ps

noncomputable def kt (k : IntKind) : Nat := IntKind.rec (motive := fun _ => Nat) 0 1 2 3 4 5 6 7 k
noncomputable def kbeq (k k' : IntKind) : Bool := Nat.beq (kt k) (kt k')
noncomputable def sgn (k : IntKind) : Bool := IntKind.rec (motive := fun _ => Bool) true true true true false false false false k
noncomputable def wrap (k : IntKind) (n : Int) : Int := Int.rec (motive := fun _ => Int)
  (fun a => Bool.rec (motive := fun _ => Int) (k.wrap (.ofNat a)) (.ofNat a) (Nat.blt a 128))
  (fun a => Bool.rec (motive := fun _ => Int) (k.wrap (.negSucc a)) (Bool.rec (motive := fun _ => Int) (k.wrap (.negSucc a)) (.negSucc a) (sgn k)) (Nat.blt a 128)) n
noncomputable def ieq (m n : Int) : Bool := Int.rec (motive := fun _ => Bool) (fun a => Int.rec (motive := fun _ => Bool) (fun b => Nat.beq a b) (fun _ => false) n) (fun a => Int.rec (motive := fun _ => Bool) (fun _ => false) (fun b => Nat.beq a b) n) m
noncomputable def ilt (m n : Int) : Bool := Int.rec (motive := fun _ => Bool) (fun a => Int.rec (motive := fun _ => Bool) (fun b => Nat.blt a b) (fun _ => false) n) (fun a => Int.rec (motive := fun _ => Bool) (fun _ => true) (fun b => Nat.blt b a) n) m
abbrev BinT := IntKind → Int → IntKind → Int → (V → R) → R
noncomputable def bAdd : BinT := fun k m k' n K => iff (kbeq k k') (K (.int k (wrap k (Int.add m n))))
noncomputable def bSub : BinT := fun k m k' n K => iff (kbeq k k') (K (.int k (wrap k (Int.sub m n))))
noncomputable def bMul : BinT := fun k m k' n K => iff (kbeq k k') (K (.int k (wrap k (Int.mul m n))))
noncomputable def bEql : BinT := fun k m k' n K => iff (kbeq k k') (K (.bool (ieq m n)))
noncomputable def bNeq : BinT := fun k m k' n K => iff (kbeq k k') (K (.bool (Bool.not (ieq m n))))
noncomputable def bLss : BinT := fun k m k' n K => iff (kbeq k k') (K (.bool (ilt m n)))
noncomputable def bLeq : BinT := fun k m k' n K => iff (kbeq k k') (K (.bool (Bool.not (ilt n m))))
noncomputable def bGtr : BinT := fun k m k' n K => iff (kbeq k k') (K (.bool (ilt n m)))
noncomputable def bGeq : BinT := fun k m k' n K => iff (kbeq k k') (K (.bool (Bool.not (ilt m n))))
noncomputable def bOth (op : BinOp) : BinT := fun k m k' n K => ofO (binInt op k m k' n) K
noncomputable def binT (op : BinOp) : BinT := match op with
  | .add => bAdd | .sub => bSub | .mul => bMul | .eql => bEql | .neq => bNeq | .lss => bLss | .leq => bLeq | .gtr => bGtr | .geq => bGeq
  | op => bOth op

noncomputable def intK (k : IntKind → Int → R) (v : V) : R := match v with
  | .int a b => k a b
  | _ => none
noncomputable def boolK (k : Bool → R) (v : V) : R := match v with
  | .bool b => k b
  | _ => none
noncomputable def natK (k : Nat → R) (v : V) : R := match v with
  | .int _ n => Int.rec (motive := fun _ => R) k (fun _ => none) n
  | _ => none
noncomputable def lenV (k : Nat → R) (v : V) : R := match v with
  | .nils => k 0
  | .slc _ _ n _ => k n
  | .xslc _ _ n _ => k n
  | _ => none

abbrev CF := V → List V → Hp → (V → Hp → R) → R
abbrev StepT := Env → CF → RL → Hp → (V → Hp → R) → R
noncomputable def sMv (x : Opd) : StepT := fun _ _ r H k => ev r x fun v => k v H
noncomputable def sPick (c a b : Opd) : StepT := fun _ _ r H k => ev r c (boolK fun t => cnd t (ev r a fun v => k v H) (ev r b fun v => k v H))
noncomputable def sAlloc (z : List V) : StepT := fun _ _ _ H k => hnew H (.cells z) fun id H' => k (.ptr id 0) H'
noncomputable def sBox (x : Opd) : StepT := fun _ _ r H k => ev r x fun v => hnew H (.cells (cells v)) fun id H' => k (.ptr id 0) H'
noncomputable def sBuild (z : List V) (ps : List (Nat × Nat × Opd)) : StepT := fun _ _ r H k => fill r ps z fun l => k (.agg l) H
noncomputable def sBslice (n : Nat) (z : List V) (ps : List (Nat × Nat × Opd)) : StepT := fun _ _ r H k => fill r ps z fun l => hnew H (.cells l) fun id H' => k (.slc id 0 n (.ex n)) H'
noncomputable def sLd1 (a : Opd) : StepT := fun E _ r H k => ev r a (ld1 E H fun v => k v H)
noncomputable def sLdN (n : Nat) (a : Opd) : StepT := fun E _ r H k => ev r a (ldN E H n fun l => k (.agg l) H)
noncomputable def sSt (n : Nat) (a v : Opd) : StepT := fun _ _ r H k => ev r a fun p => ev r v fun x => stN H n p x (k (.tup []))
noncomputable def sBin (op : BinOp) (x y : Opd) : StepT := fun _ _ r H k => ev r x (intK fun ka m => ev r y (intK fun kb n => binT op ka m kb n fun v => k v H))
noncomputable def sMkfn (f : Nat) (cs : List Opd) : StepT := fun _ _ r H k => evs r cs fun vs => k (.fn f vs) H
noncomputable def faGo (off : Nat) (H : Hp) (k : V → Hp → R) (v : V) : R := match v with
  | .ptr id o => k (.ptr id (Nat.add o off)) H
  | .xptr b o => k (.xptr b (Nat.add o off)) H
  | _ => none
noncomputable def sFa (x : Opd) (off : Nat) : StepT := fun _ _ r H k => ev r x (faGo off H k)
noncomputable def ixSGo (es : Nat) (H : Hp) (k : V → Hp → R) (v : V) (n : Nat) : R := match v with
  | .slc id off len _ => iff (Nat.blt n len) (k (.ptr id (Nat.add off (Nat.mul n es))) H)
  | .xslc b off len _ => iff (Nat.blt n len) (k (.xptr b (Nat.add off (Nat.mul n es))) H)
  | _ => none
noncomputable def sIxS (es : Nat) (x i : Opd) : StepT := fun _ _ r H k => ev r x fun v => ev r i (natK (ixSGo es H k v))
noncomputable def ixAGo (len es : Nat) (H : Hp) (k : V → Hp → R) (v : V) (n : Nat) : R := match v with
  | .ptr id off => iff (Nat.blt n len) (k (.ptr id (Nat.add off (Nat.mul n es))) H)
  | .xptr b off => iff (Nat.blt n len) (k (.xptr b (Nat.add off (Nat.mul n es))) H)
  | _ => none
noncomputable def sIxA (len es : Nat) (x i : Opd) : StepT := fun _ _ r H k => ev r x fun v => ev r i (natK (ixAGo len es H k v))
noncomputable def sLenS (x : Opd) : StepT := fun _ _ r H k => ev r x (lenV fun n => k (.int .i64 (.ofNat n)) H)
noncomputable def tupNth (i : Nat) (H : Hp) (k : V → Hp → R) (v : V) : R := match v with
  | .tup l => nth l i fun v => k v H
  | _ => none
noncomputable def sExt (x : Opd) (i : Nat) : StepT := fun _ _ r H k => ev r x (tupNth i H k)
noncomputable def sCall (f : Opd) (args : List Opd) : StepT := fun _ call r H k => ev r f fun fv => evs r args fun vs => call fv vs H k
noncomputable def toRegs (r : RL) : Regs := RL.rec (motive := fun _ => Regs) [] (fun n v _ ih => (n, v) :: ih) r
noncomputable def ofP (o : Option (V × Hp)) (k : V → Hp → R) : R := Option.rec (motive := fun _ => R) none (fun p => Prod.rec (motive := fun _ => R) k p) o
noncomputable def sOth (o : AOp) : StepT := fun E _ r H k => ofP (stepOp E (fun _ _ _ => none) (toRegs r) H o) k

noncomputable def step (o : AOp) : StepT := AOp.rec (motive := fun _ => StepT)
  sMv sPick sAlloc sBox sBuild sBslice sLd1 sLdN sSt (fun x => sOth (.nilck x)) sBin (fun n x y => sOth (.eqb n x y)) (fun g n x y => sOth (.eqf g n x y)) (fun n x => sOth (.isnil n x)) (fun op x => sOth (.un op x)) (fun k x => sOth (.conv k x))
  sMkfn (sOth .mkmap) (fun b z l c => sOth (.mkslice b z l c)) (fun es x lo hi mx => sOth (.slcS es x lo hi mx)) (fun n es x lo hi mx => sOth (.slcA n es x lo hi mx))
  sFa sIxS sIxA (fun n es a x i => sOth (.idx n es a x i)) (fun x i => sOth (.idxStr x i)) (fun n z m k => sOth (.look n z m k)) (fun n m k v => sOth (.mput n m k v)) (fun m => sOth (.mlen m)) sLenS (fun b x y => sOth (.minmax b x y))
  (fun es b x y => sOth (.app es b x y)) (fun es x y => sOth (.copy es x y)) (fun z x => sOth (.clr z x)) sCall sExt (sOth .bad) o

noncomputable def put (r : RL) (d : Option Nat) (v : V) : RL := Option.rec (motive := fun _ => RL) r (fun n => .cons n v r) d
noncomputable def wantV (b : Bool) (k : Bool → R) (v : V) : R := match v with
  | .bool c => k (Bool.rec (motive := fun _ => Bool) (Bool.not b) b c)
  | .tup [] => k false
  | _ => none
noncomputable def want (r : RL) (g : Nat × Bool) (k : Bool → R) : R := Prod.rec (motive := fun _ => R) (fun t b => look r t (wantV b k)) g
abbrev RunT := RL → Hp → (RL → Hp → R) → R
noncomputable def doOp (E : Env) (call : CF) (ih : RunT) (r : RL) (H : Hp) (k : RL → Hp → R) (dst : Option Nat) (o : AOp) : R := step o E call r H fun v H' => ih (put r dst v) H' k
noncomputable def gOp (E : Env) (call : CF) (ih : RunT) (r : RL) (H : Hp) (k : RL → Hp → R) (dst : Option Nat) (o : AOp) (g : Nat × Bool) : R :=
  want r g fun w => cnd w (doOp E call ih r H k dst o) (ih (put r dst (.tup [])) H k)
noncomputable def anyOp (E : Env) (call : CF) (ih : RunT) (r : RL) (H : Hp) (k : RL → Hp → R) (dst : Option Nat) (o : AOp) (g : Option (Nat × Bool)) (_ : List Nat) : R :=
  Option.rec (motive := fun _ => R) (doOp E call ih r H k dst o) (gOp E call ih r H k dst o) g
noncomputable def runOps (E : Env) (call : CF) (ops : List AOper) : RunT :=
  List.rec (motive := fun _ => RunT) (fun r H k => k r H) (fun o _ ih r H k => AOper.rec (motive := fun _ => R) (anyOp E call ih r H k) o) ops

noncomputable def agGo (E : Env) (all : List AOper) (re : List Nat) (r : RL) (H : Hp) (k : R) : R := iff (again E all (toRegs r) H re) k
noncomputable def ag (E : Env) (all : List AOper) (re : List Nat) (r : RL) (H : Hp) (k : R) : R := List.rec (motive := fun _ => R) k (fun _ _ _ => agGo E all re r H k) re
noncomputable def doDr (E : Env) (call : CF) (all : List AOper) (ih : RunT) (r : RL) (H : Hp) (k : RL → Hp → R) (dst : Option Nat) (o : AOp) (re : List Nat) : R := step o E call r H fun v H' => iff (Nat.ble H.next H'.next) (ag E all re r H' (ih (put r dst v) H' k))
noncomputable def gDr (E : Env) (call : CF) (all : List AOper) (ih : RunT) (r : RL) (H : Hp) (k : RL → Hp → R) (dst : Option Nat) (o : AOp) (re : List Nat) (g : Nat × Bool) : R :=
  want r g fun w => cnd w (doDr E call all ih r H k dst o re) (ih (put r dst (.tup [])) H k)
noncomputable def anyDr (E : Env) (call : CF) (all : List AOper) (ih : RunT) (r : RL) (H : Hp) (k : RL → Hp → R) (dst : Option Nat) (o : AOp) (g : Option (Nat × Bool)) (re : List Nat) : R :=
  Option.rec (motive := fun _ => R) (doDr E call all ih r H k dst o re) (gDr E call all ih r H k dst o re) g
noncomputable def runDraw (E : Env) (call : CF) (all ops : List AOper) : RunT :=
  List.rec (motive := fun _ => RunT) (fun r H k => k r H) (fun o _ ih r H k => AOper.rec (motive := fun _ => R) (anyDr E call all ih r H k) o) ops

noncomputable def zipRegs (vs : List V) : Nat → RL := List.rec (motive := fun _ => Nat → RL) (fun _ => .nil) (fun v _ ih i => .cons i v (ih (Nat.succ i))) vs

abbrev XT0 := RL → Hp → (Out → RL → Hp → R) → R
abbrev Ex3 := Option Nat → AC → XT0
noncomputable def rvs (E : Env) (r : RL) (H : Hp) (l : List RV) : (List V → R) → R := List.rec (motive := fun _ => (List V → R) → R) (fun k => k []) (fun x _ ih k => RV.rec (motive := fun _ => R) (fun t => look r t fun v => ih fun vs => k (v :: vs)) (fun a => look r a (ld1 E H fun v => ih fun vs => k (v :: vs))) (fun a n => look r a (ldN E H n fun l => ih fun vs => k (.agg l :: vs))) x) l
noncomputable def retOf (l : List V) : V := List.rec (motive := fun _ => V) (.tup []) (fun v vs _ => List.rec (motive := fun _ => V) v (fun _ _ _ => .tup l) vs) l
noncomputable def callEnd (E : Env) (res : List RV) (k : V → Hp → R) (o : Out) (r : RL) (H : Hp) : R := Out.rec (motive := fun _ => R) (rvs E r H res fun vs => k (retOf vs) H) (fun _ => none) (rvs E r H res fun vs => k (retOf vs) H) o
noncomputable def callGo (E : Env) (ex : Ex3) (args : List V) (H : Hp) (k : V → Hp → R) (np _nt : Nat) (res : List RV) (body : AC) : R :=
  iff (Nat.beq (len args) np) (ex none body (zipRegs args 0) H (callEnd E res k))
noncomputable def callA (E : Env) (ex : Ex3) (f : Nat) (args : List V) (H : Hp) (k : V → Hp → R) : R :=
  ofO (E.funcs f) fun A => AFunc.rec (motive := fun _ => R) (callGo E ex args H k) A
noncomputable def callF (E : Env) (ex : Ex3) (f : Nat) (args : List V) (H : Hp) (k : V → Hp → R) : R :=
  Option.rec (motive := fun _ => R) (callA E ex f args H k) (fun g => ofP (g args H) k) (E.prim f)
noncomputable def app2 {α : Type} (l : List α) (k : List α) : List α := List.rec (motive := fun _ => List α) k (fun x _ ih => x :: ih) l
noncomputable def ofRegs (r : Regs) : RL := List.rec (motive := fun _ => RL) .nil (fun p _ ih => Prod.rec (motive := fun _ => RL) (fun n v => .cons n v ih) p) r

noncomputable def obLoop (k : LoopOb → R) (o : Ob) : R := Ob.rec (motive := fun _ => R) (fun _ => none) (fun _ => none) k o
noncomputable def loopAt (H : Hp) (id : Nat) (k : LoopOb → R) : R := Hp.rec (motive := fun _ => R) (fun _ t => tget t id none (obLoop k)) H
noncomputable def yEnd (id : Nat) (k : V → Hp → R) (o : Out) (H2 : Hp) (L2 : LoopOb) : R := match o with
  | .normal => k (.bool true) (hput H2 id (.loop { L2 with st := .ready, pend := none }))
  | .exit b => k (.bool false) (hput H2 id (.loop { L2 with st := .done, pend := some (.exit b) }))
  | .ret => k (.bool false) (hput H2 id (.loop { L2 with st := .done, pend := some .ret }))
noncomputable def isReady (s : LoopState) (k : R) : R := match s with
  | .ready => k
  | _ => none
noncomputable def isNormal (s : Out) (k : R) : R := match s with
  | .normal => k
  | _ => none
noncomputable def yBody (ex : Ex3) (id : Nat) (L : LoopOb) (k : V → Hp → R) (r1 : RL) (H1 : Hp) : R :=
  loopAt H1 id fun L1 => isReady L1.st (ex (some id) L.body r1 (hput H1 id (.loop { L1 with st := .busy })) fun o _ H2 => loopAt H2 id (yEnd id k o H2))
noncomputable def yld (ex : Ex3) (id : Nat) (args : List V) (H : Hp) (k : V → Hp → R) : R :=
  loopAt H id fun L => isReady L.st (ofO (setParams L.regs L.params args) fun r => ex (some id) L.assign (ofRegs r) H fun o r1 H1 => isNormal o (yBody ex id L k r1 H1))
noncomputable def callV (E : Env) (ex : Ex3) : CF := fun v args H k => match v with
  | .fn f cs => callF E ex f (app2 args cs) H k
  | .yld id => yld ex id args H k
  | _ => none

abbrev XT := Env → Ex3 → Option Nat → XT0
noncomputable def xSkip : XT := fun _ _ _ r H k => k .normal r H
noncomputable def seqK (ex : Ex3) (rd : Option Nat) (b : AC) (k : Out → RL → Hp → R) (o : Out) (r : RL) (H : Hp) : R := Out.rec (motive := fun _ => R) (ex rd b r H k) (fun i => k (.exit i) r H) (k .ret r H) o
noncomputable def xSeq (a b : AC) : XT := fun _ ex rd r H k => ex rd a r H (seqK ex rd b k)
noncomputable def xCond (x : Opd) (a b : AC) : XT := fun _ ex rd r H k => ev r x (boolK fun t => cnd t (ex rd a r H k) (ex rd b r H k))
noncomputable def blkK (id : Nat) (k : Out → RL → Hp → R) (o : Out) (r : RL) (H : Hp) : R := Out.rec (motive := fun _ => R) (k .normal r H) (fun i => cnd (Nat.beq i id) (k .normal r H) (k (.exit i) r H)) (k .ret r H) o
noncomputable def xBlock (id : Nat) (b : AC) : XT := fun _ ex rd r H k => ex rd b r H (blkK id k)
noncomputable def xLoop (keep : List Nat) (b : AC) : XT := fun _ ex rd r H k => ex rd b (restrict r keep) H (seqK ex rd (.loop keep b) k)
noncomputable def xExit (id : Nat) : XT := fun _ _ _ r H k => k (.exit id) r H
noncomputable def xRet : XT := fun _ _ _ r H k => k .ret r H
noncomputable def rEnd (l : Nat) (r : RL) (k : Out → RL → Hp → R) (H' : Hp) (L : LoopOb) : R := match L.st with
  | .busy => none
  | _ => match L.pend with
    | none => k .normal r (hput H' l (.loop { L with st := .exhausted }))
    | some (.exit id) => k (.exit id) r (hput H' l (.loop { L with st := .exhausted }))
    | some .ret => k .ret r (hput H' l (.loop { L with st := .exhausted }))
noncomputable def rGo (E : Env) (ex : Ex3) (r : RL) (H : Hp) (ps : List Nat) (assign body : AC) (k : Out → RL → Hp → R) (fv : V) : R := match fv with
  | .fn g cs => hnew H (.loop { st := .ready, pend := none, regs := toRegs r, params := ps, assign, body }) fun l H1 => callF E ex g (.yld l :: cs) H1 fun _ H' => loopAt H' l (rEnd l r k H')
  | _ => none
noncomputable def xRange (f : Opd) (ps : List Nat) (assign body : AC) : XT := fun E ex rd r H k => ev r f fun fv => iff (within H rd) (rGo E ex r H ps assign body k fv)
noncomputable def live (l : Option (List Nat)) (k : Out → RL → Hp → R) : RL → Hp → R := Option.rec (motive := fun _ => RL → Hp → R) (k .normal) (fun l r H => k .normal (restrict r l) H) l
noncomputable def xReg (ops : List AOper) (l : Option (List Nat)) : XT := fun E ex _ r H k => runOps E (callV E ex) ops r H (live l k)
noncomputable def xDreg (ops : List AOper) (l : Option (List Nat)) : XT := fun E ex _ r H k => runDraw E (callV E ex) ops ops r H (live l k)
noncomputable def disp (c : AC) : XT := AC.rec (motive := fun _ => XT) xSkip (fun a b _ _ => xSeq a b) (fun x a b _ _ => xCond x a b) (fun id b _ => xBlock id b) (fun k b _ => xLoop k b) xExit xRet (fun f ps a b _ _ => xRange f ps a b) xReg (fun _ ops live => xDreg ops live) c
noncomputable def exec (E : Env) (n : Nat) : Ex3 := Nat.rec (motive := fun _ => Ex3) (fun _ _ _ _ _ => none) (fun _ ih rd c => disp c E ih rd) n

/-! it is the machine -/
noncomputable abbrev toR (r : RL) : Regs := toRegs r
theorem toRegs_cons (n : Nat) (v : V) (r : RL) : toRegs (.cons n v r) = (n, v) :: toRegs r := rfl
theorem to_of : ∀ r : Regs, toRegs (ofRegs r) = r
  | [] => rfl
  | (n, v) :: r => by show (n, v) :: toRegs (ofRegs r) = _; rw [to_of r]
theorem of_to (r : RL) : ofRegs (toRegs r) = r := by
  induction r with
  | nil => rfl
  | cons n v r ih => show RL.cons n v (ofRegs (toRegs r)) = _; rw [ih]

theorem look_eq (r : RL) (t : Nat) (k : V → R) : look r t k = (Vm.look (toRegs r) t).bind k := by
  induction r with
  | nil => rfl
  | cons n v r ih =>
    show Bool.rec (motive := fun _ => R) (look r t k) (k v) (Nat.beq n t) = ((cond (Nat.beq n t) (some v) (Vm.look (toRegs r) t)).bind k)
    cases Nat.beq n t
    · exact ih
    · rfl
theorem has_eq (r : RL) (t : Nat) (ih : RL) : toRegs (has r t ih) = match Vm.look (toRegs r) t with | some v => (t, v) :: toRegs ih | none => toRegs ih := by
  induction r with
  | nil => rfl
  | cons n v r ih' =>
    show toRegs (Bool.rec (motive := fun _ => RL) (has r t ih) (.cons n v ih) (Nat.beq n t)) = match cond (Nat.beq n t) (some v) (Vm.look (toRegs r) t) with | some v => (t, v) :: toRegs ih | none => toRegs ih
    cases h : Nat.beq n t
    · exact ih'
    · rw [Nat.eq_of_beq_eq_true h]; rfl
theorem restrict_eq (r : RL) : ∀ ks : List Nat, toRegs (restrict r ks) = Vm.restrict (toRegs r) ks
  | [] => rfl
  | t :: ks => by
    show toRegs (has r t (restrict r ks)) = _
    rw [has_eq, restrict_eq r ks]
    rfl
theorem ev_eq (r : RL) (o : Opd) (k : V → R) : ev r o k = (Vm.ev (toRegs r) o).bind k := by
  cases o with
  | t n => exact look_eq r n k
  | c v => rfl
theorem evs_eq (r : RL) : ∀ (l : List Opd) (k : List V → R), evs r l k = (Vm.evs (toRegs r) l).bind k
  | [], _ => rfl
  | x :: xs, k => by
    show ev r x (fun v => evs r xs fun vs => k (v :: vs)) = _
    rw [ev_eq]
    simp only [evs_eq r xs, Vm.evs, Option.bind_assoc, Option.bind_some]
theorem getAt_eq : ∀ (l : List V) (o n : Nat) (k : List V → R), getAt l o n k = (Vm.getAt l o n).bind k
  | l, o, 0, k => by cases l <;> cases o <;> rfl
  | [], o, n + 1, k => by cases o <;> rfl
  | x :: l, 0, n + 1, k => by
    show getAt l 0 n (fun r => k (x :: r)) = _
    rw [getAt_eq l 0 n]
    simp only [Vm.getAt, Option.bind_assoc, Option.bind_some]
  | x :: l, o + 1, n + 1, k => by
    show getAt l o (n + 1) k = _
    rw [getAt_eq l o (n + 1)]; rfl
theorem nth_eq : ∀ (l : List V) (n : Nat) (k : V → R), nth l n k = (Vm.nth l n).bind k
  | [], _, _ => rfl
  | _ :: _, 0, _ => rfl
  | _ :: l, n + 1, k => nth_eq l n k
theorem setAt_eq : ∀ (l : List V) (o : Nat) (vs : List V) (k : List V → R), setAt l o vs k = (Vm.setAt l o vs).bind k
  | l, o, [], k => by cases l <;> cases o <;> rfl
  | [], o, v :: vs, k => by cases o <;> rfl
  | x :: l, 0, v :: vs, k => by
    show setAt l 0 vs (fun l' => k (v :: l')) = _
    rw [setAt_eq l 0 vs]
    simp only [Vm.setAt, Option.bind_assoc, Option.bind_some]
  | x :: l, o + 1, v :: vs, k => by
    show setAt l o (v :: vs) (fun l' => k (x :: l')) = _
    rw [setAt_eq l o (v :: vs)]
    simp only [Vm.setAt, Option.bind_assoc, Option.bind_some]
theorem tget_eq {α β : Type} (t : Tr α) : ∀ (n : Nat) (d : β) (k : α → β), tget t n d k = (t.get n).elim d k := by
  induction t with
  | lf => intros; rfl
  | nd l v r ihl ihr =>
    intro n d k
    show Bool.rec (motive := fun _ => β) (Bool.rec (motive := fun _ => β) (tget r (Nat.pred (Nat.div n 2)) d k) (tget l (Nat.div n 2) d k) (Nat.beq (Nat.mod n 2) 1)) (Option.rec (motive := fun _ => β) d k v) (Nat.beq n 0) = _
    simp only [Tr.get]
    cases Nat.beq n 0
    · show Bool.rec (motive := fun _ => β) (tget r (Nat.pred (Nat.div n 2)) d k) (tget l (Nat.div n 2) d k) (Nat.beq (n % 2) 1) = _
      simp only [cond_false]
      cases Nat.beq (n % 2) 1
      · exact ihr _ d k
      · exact ihl _ d k
    · cases v <;> rfl
theorem tsetF_eq {α : Type} (v : Option α) : ∀ (f : Nat) (t : Tr α) (n : Nat), tsetF f t n v = Tr.setF f t n v
  | 0, _, _ => by simp only [Tr.setF]; rfl
  | f + 1, .lf, n => by
    show Bool.rec (motive := fun _ => Tr α) (Bool.rec (motive := fun _ => Tr α) (.nd .lf none (tsetF f .lf (Nat.pred (Nat.div n 2)) v)) (.nd (tsetF f .lf (Nat.div n 2) v) none .lf) (Nat.beq (Nat.mod n 2) 1)) (.nd .lf v .lf) (Nat.beq n 0) = _
    simp only [Tr.setF, tsetF_eq v f]
    cases Nat.beq n 0
    · show Bool.rec (motive := fun _ => Tr α) _ _ (Nat.beq (n % 2) 1) = _
      cases Nat.beq (n % 2) 1 <;> rfl
    · rfl
  | f + 1, .nd l u r, n => by
    show Bool.rec (motive := fun _ => Tr α) (Bool.rec (motive := fun _ => Tr α) (.nd l u (tsetF f r (Nat.pred (Nat.div n 2)) v)) (.nd (tsetF f l (Nat.div n 2) v) u r) (Nat.beq (Nat.mod n 2) 1)) (.nd l v r) (Nat.beq n 0) = _
    simp only [Tr.setF, tsetF_eq v f]
    cases Nat.beq n 0
    · show Bool.rec (motive := fun _ => Tr α) _ _ (Nat.beq (n % 2) 1) = _
      cases Nat.beq (n % 2) 1 <;> rfl
    · rfl
theorem tset_eq {α : Type} (t : Tr α) (n : Nat) (v : Option α) : tset t n v = t.set n v := tsetF_eq v (n + 1) t n
theorem hput_eq (H : Hp) (id : Nat) (o : Ob) : hput H id o = H.put id o := by
  cases H; show Hp.mk _ (tset _ _ _) = _; rw [tset_eq]; rfl
theorem hnew_eq (H : Hp) (o : Ob) (k : Nat → Hp → R) : hnew H o k = k H.next (H.new o) := by
  cases H; show k _ ⟨Nat.succ _, tset _ _ _⟩ = _; rw [tset_eq]; rfl
theorem cellsAt_eq (H : Hp) (id : Nat) (k : List V → R) : cellsAt H id k = match H.get id with | some (.cells l) => k l | _ => none := by
  cases H with
  | mk nx t =>
    show tget t id none (obCells k) = match t.get id with | some (.cells l) => k l | _ => none
    rw [tget_eq]
    cases t.get id with
    | none => rfl
    | some o => cases o <;> rfl
theorem loopAt_eq (H : Hp) (id : Nat) (k : LoopOb → R) : loopAt H id k = match H.get id with | some (.loop l) => k l | _ => none := by
  cases H with
  | mk nx t =>
    show tget t id none (obLoop k) = match t.get id with | some (.loop l) => k l | _ => none
    rw [tget_eq]
    cases t.get id with
    | none => rfl
    | some o => cases o <;> rfl
theorem ofO_eq {α : Type} (o : Option α) (k : α → R) : ofO o k = o.bind k := by cases o <;> rfl
theorem ofP_eq (o : Option (V × Hp)) (k : V → Hp → R) : ofP o k = o.bind fun p => k p.1 p.2 := by cases o <;> rfl
theorem ld1_eq (E : Env) (H : Hp) (k : V → R) (v : V) : ld1 E H k v = (Vm.ld1 E H v).bind k := by
  cases v <;> try rfl
  · simp only [ld1, Vm.ld1, cellsAt_eq, nth_eq]
    generalize H.get _ = x
    cases x with
    | none => rfl
    | some o => cases o <;> rfl
  · simp only [ld1, Vm.ld1, ofO_eq]
theorem ldN_eq (E : Env) (H : Hp) (n : Nat) (k : List V → R) (v : V) : ldN E H n k v = (Vm.ldN E H n v).bind k := by
  cases v <;> try rfl
  · simp only [ldN, Vm.ldN, cellsAt_eq, getAt_eq]
    generalize H.get _ = x
    cases x with
    | none => rfl
    | some o => cases o <;> rfl
  · simp only [ldN, Vm.ldN, ofO_eq]
theorem cells_eq (v : V) : cells v = v.cells := by cases v <;> rfl
theorem one_eq (v : V) : one v = v.one := by cases v <;> rfl
theorem allOne_eq : ∀ l : List V, allOne l = Vm.allOne l
  | [] => rfl
  | v :: l => by
    show Bool.rec (motive := fun _ => Bool) false (allOne l) (one v) = _
    rw [allOne_eq l, one_eq]
    simp only [Vm.allOne, List.all_cons]
    cases v.one <;> rfl
theorem len_eq {α : Type} : ∀ l : List α, len l = l.length
  | [] => rfl
  | _ :: l => congrArg Nat.succ (len_eq l)
theorem iff_eq (b : Bool) (t : R) : iff b t = cond b t none := by cases b <;> rfl
theorem stN_eq (H : Hp) (n : Nat) (a v : V) (k : Hp → R) : stN H n a v k = (Vm.stN H n a v).bind k := by
  cases a <;> try rfl
  simp only [stN, Vm.stN, cellsAt_eq, stGo, iff_eq, len_eq, allOne_eq, setAt_eq, hput_eq, cells_eq]
  generalize H.get _ = x
  cases x with
  | none => rfl
  | some o =>
    cases o <;> try rfl
    cases Nat.beq v.cells.length n <;> cases Vm.allOne v.cells <;> simp [Option.bind_assoc]
theorem fill_eq (r : RL) : ∀ (ps : List (Nat × Nat × Opd)) (l : List V) (k : List V → R), fill r ps l k = (Vm.fill l (toRegs r) ps).bind k
  | [], _, _ => rfl
  | (off, n, x) :: ps, l, k => by
    show ev r x (fun v => fillGo off n (fun l' => fill r ps l' k) l (cells v)) = _
    rw [ev_eq]
    simp only [Vm.fill, fillGo, iff_eq, len_eq, setAt_eq, cells_eq, fill_eq r ps, Option.bind_assoc]
    congr 1; funext v
    cases Nat.beq v.cells.length n <;> cases Nat.blt 0 n <;> simp [Option.bind_assoc]
theorem kbeq_eq (k k' : IntKind) : kbeq k k' = decide (k = k') := by cases k <;> cases k' <;> rfl
theorem wrap_eq (k : IntKind) (n : Int) : wrap k n = k.wrap n := by
  cases n with
  | ofNat a =>
    show Bool.rec (motive := fun _ => Int) (k.wrap (.ofNat a)) (.ofNat a) (Nat.blt a 128) = k.wrap (.ofNat a)
    cases h : Nat.blt a 128 with
    | false => rfl
    | true =>
      have h : a < 128 := by simpa using h
      show Int.ofNat a = k.wrap (Int.ofNat a)
      cases k <;> simp [IntKind.wrap, IntKind.bits, IntKind.signed] <;> omega
  | negSucc a =>
    show Bool.rec (motive := fun _ => Int) (k.wrap (.negSucc a)) (Bool.rec (motive := fun _ => Int) (k.wrap (.negSucc a)) (.negSucc a) (sgn k)) (Nat.blt a 128) = k.wrap (.negSucc a)
    cases h : Nat.blt a 128 with
    | false => rfl
    | true =>
      have h : a < 128 := by simpa using h
      have e := Int.negSucc_eq a
      generalize Int.negSucc a = z at e
      subst e
      cases hs : sgn k with
      | false => rfl
      | true =>
        show -((a : Int) + 1) = k.wrap (-((a : Int) + 1))
        have big : ∀ b h : Int, b = 2 * h → 128 ≤ h → (-((a : Int) + 1)) % b = -((a : Int) + 1) + b ∧ ¬ (-((a : Int) + 1) + b < h) := by
          intro b h hb hh
          have h0 : (0 : Int) ≤ -((a : Int) + 1) + b := by omega
          have h1 : -((a : Int) + 1) + b < b := by omega
          constructor
          · rw [← Int.add_emod_right, Int.emod_eq_of_lt h0 h1]
          · omega
        have fin : ∀ b h : Int, b = 2 * h → 128 ≤ h → (-((a : Int) + 1)) = if (true && decide ((-((a : Int) + 1)) % b ≥ h)) = true then (-((a : Int) + 1)) % b - b else (-((a : Int) + 1)) % b := by
          intro b h hb hh
          obtain ⟨h1, h2⟩ := big b h hb hh
          rw [h1, if_pos (by simp; omega)]
          omega
        have bits : 8 ≤ k.bits ∧ k.signed = true := by cases k <;> first | (cases hs; done) | decide
        simp only [IntKind.wrap, bits.2]
        refine fin _ _ ?_ ?_
        · obtain ⟨b, hb⟩ : ∃ b, k.bits = b + 1 := ⟨k.bits - 1, by omega⟩
          rw [hb, Nat.add_sub_cancel, Int.pow_succ, Int.mul_comm]
        · clear fin big hs
          cases k <;> decide +kernel
theorem ieq_eq (m n : Int) : ieq m n = (m == n) := by
  cases m with
  | ofNat a => cases n with
    | ofNat b =>
      show Nat.beq a b = _
      rw [Bool.eq_iff_iff]; simp
      omega
    | negSucc b =>
      show false = _
      rw [Bool.eq_iff_iff]; simp
  | negSucc a => cases n with
    | ofNat b =>
      show false = _
      rw [Bool.eq_iff_iff]; simp
    | negSucc b =>
      show Nat.beq a b = _
      rw [Bool.eq_iff_iff]; simp
theorem ilt_eq (m n : Int) : ilt m n = decide (m < n) := by
  cases m with
  | ofNat a => cases n with
    | ofNat b =>
      show Nat.blt a b = _
      rw [Bool.eq_iff_iff]; simp
    | negSucc b =>
      show false = _
      rw [Bool.eq_iff_iff]; simp
      omega
  | negSucc a => cases n with
    | ofNat b =>
      show true = _
      rw [Bool.eq_iff_iff]; simp
      omega
    | negSucc b =>
      show Nat.blt b a = _
      rw [Bool.eq_iff_iff]; simp
      omega

theorem binT_eq (op : BinOp) (k : IntKind) (m : Int) (k' : IntKind) (n : Int) (K : V → R) : binT op k m k' n K = (binInt op k m k' n).bind K := by
  cases op <;> simp only [binT, bOth, ofO_eq]
  all_goals simp only [bAdd, bSub, bMul, bEql, bNeq, bLss, bLeq, bGtr, bGeq, iff_eq, kbeq_eq, wrap_eq, ieq_eq, ilt_eq, binInt]
  all_goals by_cases hk : k = k' <;> simp only [hk, decide_true, decide_false, cond_true, cond_false, if_true, if_false, Option.bind_some, Option.bind_none]
  all_goals first
    | rfl
    | (congr 2; rw [← decide_not]; congr 1; apply propext; omega)
theorem bind_none' {α β : Type} (o : Option α) : (o.bind fun _ => (none : Option β)) = none := by cases o <;> rfl
theorem cnd_eq {α : Type} (b : Bool) (t e : α) : cnd b t e = cond b t e := by cases b <;> rfl

def CallEq (call : CF) (call' : CallF) : Prop := ∀ v args H k, call v args H k = (call' v args H).bind fun p => k p.1 p.2

theorem sOth_eq {E : Env} {call : CF} {call' : CallF} {r : RL} {H : Hp} {k : V → Hp → R} {o : AOp} (h : ∀ f as, o ≠ .call f as) : sOth o E call r H k = (stepOp E call' (toRegs r) H o).bind fun p => k p.1 p.2 := by
  simp only [sOth, ofP_eq]
  cases o <;> first | rfl | exact absurd rfl (h _ _)

theorem step_eq {E : Env} {call : CF} {call' : CallF} (hc : CallEq call call') (o : AOp) (r : RL) (H : Hp) (k : V → Hp → R) : step o E call r H k = (stepOp E call' (toRegs r) H o).bind fun p => k p.1 p.2 := by
  cases o with
  | mv x =>
    show sMv x E call r H k = _
    simp only [sMv, ev_eq, stepOp, AOp.kind, pureOp, Option.bind_assoc, Option.bind_some]
  | pick c a b =>
    show sPick c a b E call r H k = _
    simp only [sPick, ev_eq, stepOp, AOp.kind, pureOp, Option.bind_assoc, Option.bind_some]
    congr 1; funext v
    cases v <;> try rfl
    rename_i t
    cases t <;> rfl
  | alloc z =>
    show sAlloc z E call r H k = _
    simp only [sAlloc, hnew_eq, stepOp, AOp.kind, newOp, Option.bind_some]
  | box x =>
    show sBox x E call r H k = _
    simp only [sBox, ev_eq, hnew_eq, stepOp, AOp.kind, newOp, Option.bind_assoc, Option.bind_some, cells_eq]
  | build z ps =>
    show sBuild z ps E call r H k = _
    simp only [sBuild, fill_eq, stepOp, AOp.kind, pureOp, Option.bind_assoc, Option.bind_some]
  | bslice n z ps =>
    show sBslice n z ps E call r H k = _
    simp only [sBslice, fill_eq, hnew_eq, stepOp, AOp.kind, newOp, Option.bind_assoc, Option.bind_some]
  | ld1 a =>
    show sLd1 a E call r H k = _
    simp only [sLd1, ev_eq, stepOp, AOp.kind, readOp, Option.bind_assoc, Option.bind_some]
    congr 1; funext v; exact ld1_eq _ _ _ _
  | ldN n a =>
    show sLdN n a E call r H k = _
    simp only [sLdN, ev_eq, stepOp, AOp.kind, readOp, Option.bind_assoc, Option.bind_some]
    congr 1; funext v; exact ldN_eq _ _ _ _ _
  | st n a v =>
    show sSt n a v E call r H k = _
    simp only [sSt, ev_eq, stN_eq, stepOp, AOp.kind, actOp, Option.bind_assoc, Option.bind_some]
  | bin op x y =>
    show sBin op x y E call r H k = _
    simp only [sBin, ev_eq, stepOp, AOp.kind, pureOp, Option.bind_assoc, Option.bind_some]
    congr 1; funext v
    cases v <;> simp only [intK, Option.bind_none, bind_none']
    congr 1; funext v
    cases v <;> simp only [intK, binT_eq, Option.bind_none]
  | mkfn f cs =>
    show sMkfn f cs E call r H k = _
    simp only [sMkfn, evs_eq, stepOp, AOp.kind, pureOp, Option.bind_assoc, Option.bind_some]
  | fa x off =>
    show sFa x off E call r H k = _
    simp only [sFa, ev_eq, stepOp, AOp.kind, pureOp, Option.bind_assoc, Option.bind_some]
    congr 1; funext v
    cases v <;> rfl
  | ixS es x i =>
    show sIxS es x i E call r H k = _
    simp only [sIxS, ev_eq, stepOp, AOp.kind, pureOp, Option.bind_assoc, Option.bind_some]
    congr 1; funext v
    congr 1; funext u
    cases u <;> try rfl
    rename_i kk n
    cases n with
    | negSucc n => rfl
    | ofNat n =>
      show ixSGo es H k v n = _
      cases v <;> try rfl
      · simp only [ixSGo, iff_eq, natOf, Int.ofNat_eq_natCast, Int.natCast_nonneg, if_true, Int.toNat_natCast, Option.bind_some]
        cases Nat.blt n _ <;> rfl
      · simp only [ixSGo, iff_eq, natOf, Int.ofNat_eq_natCast, Int.natCast_nonneg, if_true, Int.toNat_natCast, Option.bind_some]
        cases Nat.blt n _ <;> rfl
  | ixA len es x i =>
    show sIxA len es x i E call r H k = _
    simp only [sIxA, ev_eq, stepOp, AOp.kind, pureOp, Option.bind_assoc, Option.bind_some]
    congr 1; funext v
    congr 1; funext u
    cases u <;> try rfl
    rename_i kk n
    cases n with
    | negSucc n => rfl
    | ofNat n =>
      show ixAGo len es H k v n = _
      cases v <;> try rfl
      · simp only [ixAGo, iff_eq, natOf, Int.ofNat_eq_natCast, Int.natCast_nonneg, if_true, Int.toNat_natCast, Option.bind_some]
        cases Nat.blt n _ <;> rfl
      · simp only [ixAGo, iff_eq, natOf, Int.ofNat_eq_natCast, Int.natCast_nonneg, if_true, Int.toNat_natCast, Option.bind_some]
        cases Nat.blt n _ <;> rfl
  | lenS x =>
    show sLenS x E call r H k = _
    simp only [sLenS, ev_eq, stepOp, AOp.kind, pureOp, Option.bind_assoc, Option.bind_some]
    congr 1; funext v
    cases v <;> rfl
  | ext x i =>
    show sExt x i E call r H k = _
    simp only [sExt, ev_eq, stepOp, AOp.kind, pureOp, Option.bind_assoc, Option.bind_some]
    congr 1; funext v
    cases v <;> try rfl
    simp only [tupNth, nth_eq]
  | call f args =>
    show sCall f args E call r H k = _
    simp only [sCall, ev_eq, evs_eq, stepOp, AOp.kind, actOp, Option.bind_assoc]
    congr 1; funext v
    congr 1; funext vs
    exact hc v vs H k
  | _ => exact sOth_eq (call := call) (by intros; simp)

theorem put_eq (r : RL) (d : Option Nat) (v : V) : toRegs (put r d v) = Vm.put (toRegs r) d v := by cases d <;> rfl
theorem want_eq (r : RL) (g : Nat × Bool) (k : Bool → R) : want r g k = (wanted (toRegs r) (some g)).bind k := by
  obtain ⟨t, b⟩ := g
  show look r t (wantV b k) = _
  rw [look_eq]
  simp only [wanted, Option.bind_assoc]
  congr 1; funext v
  cases v <;> try rfl
  · rename_i c; cases b <;> cases c <;> rfl
  · rename_i l; cases l <;> rfl

def RunEq (f : RunT) (f' : Regs → Hp → Option (Regs × Hp)) : Prop := ∀ r H k, f r H k = (f' (toRegs r) H).bind fun p => k (ofRegs p.1) p.2

theorem runOps_eq {E : Env} {call : CF} {call' : CallF} (hc : CallEq call call') : ∀ ops : List AOper, RunEq (runOps E call ops) (Vm.runOps E call' ops)
  | [], r, H, k => by show k r H = k (ofRegs (toRegs r)) H; rw [of_to]
  | o :: ops, r, H, k => by
    have ih := runOps_eq (E := E) hc ops
    obtain ⟨dst, op, g, re⟩ := o
    have h1 : doOp E call (runOps E call ops) r H k dst op = (stepOp E call' (toRegs r) H op).bind fun p => (Vm.runOps E call' ops (Vm.put (toRegs r) dst p.1) p.2).bind fun p => k (ofRegs p.1) p.2 := by
      simp only [doOp, step_eq hc]
      congr 1; funext p
      rw [ih, put_eq]
    cases g with
    | none =>
      show doOp E call (runOps E call ops) r H k dst op = _
      rw [h1]
      simp only [Vm.runOps, wanted, Option.bind_some, cond_true, Option.bind_assoc]
    | some g =>
      show gOp E call (runOps E call ops) r H k dst op g = _
      simp only [gOp, want_eq, cnd_eq, h1, Vm.runOps, Option.bind_assoc]
      congr 1; funext b
      cases b
      · simp only [cond_false]; rw [ih, put_eq]
      · simp only [cond_true, Option.bind_assoc]

theorem ag_eq (E : Env) (all : List AOper) (re : List Nat) (r : RL) (H : Hp) (k : R) : ag E all re r H k = cond (again E all (toRegs r) H re) k none := by
  cases re with
  | nil => rfl
  | cons i is =>
    show agGo E all (i :: is) r H k = _
    simp only [agGo, iff_eq]

theorem runDraw_eq {E : Env} {call : CF} {call' : CallF} (hc : CallEq call call') (all : List AOper) : ∀ ops : List AOper, RunEq (runDraw E call all ops) (Vm.runDraw E call' all ops)
  | [], r, H, k => by show k r H = k (ofRegs (toRegs r)) H; rw [of_to]
  | o :: ops, r, H, k => by
    have ih := runDraw_eq (E := E) hc all ops
    obtain ⟨dst, op, g, re⟩ := o
    have h1 : doDr E call all (runDraw E call all ops) r H k dst op re = (stepOp E call' (toRegs r) H op).bind fun p => (cond (Nat.ble H.next p.2.next && again E all (toRegs r) p.2 re) (Vm.runDraw E call' all ops (Vm.put (toRegs r) dst p.1) p.2) none).bind fun p => k (ofRegs p.1) p.2 := by
      simp only [doDr, step_eq hc, iff_eq, ag_eq]
      congr 1; funext p
      rw [ih, put_eq]
      cases Nat.ble H.next p.2.next <;> cases again E all (toRegs r) p.2 re <;> rfl
    cases g with
    | none =>
      show doDr E call all (runDraw E call all ops) r H k dst op re = _
      rw [h1]
      simp only [Vm.runDraw, wanted, Option.bind_some, cond_true, Option.bind_assoc]
    | some g =>
      show gDr E call all (runDraw E call all ops) r H k dst op re g = _
      simp only [gDr, want_eq, cnd_eq, h1, Vm.runDraw, Option.bind_assoc]
      congr 1; funext b
      cases b
      · simp only [cond_false]; rw [ih, put_eq]
      · simp only [cond_true, Option.bind_assoc]

theorem zipRegs_eq : ∀ (vs : List V) (i : Nat), toRegs (zipRegs vs i) = Vm.zipRegs i vs
  | [], _ => rfl
  | v :: vs, i => by show (i, v) :: toRegs (zipRegs vs (i + 1)) = _; rw [zipRegs_eq vs (i + 1)]; rfl
theorem rvs_eq (E : Env) (r : RL) (H : Hp) : ∀ (l : List RV) (k : List V → R), rvs E r H l k = (results E (toRegs r) H l).bind k
  | [], _ => rfl
  | x :: l, k => by
    have ih := rvs_eq E r H l
    cases x with
    | tmp t =>
      show look r t (fun v => rvs E r H l fun vs => k (v :: vs)) = _
      simp only [look_eq, ih, results, result, Option.bind_assoc, Option.bind_some]
    | cell1 a =>
      show look r a (ld1 E H fun v => rvs E r H l fun vs => k (v :: vs)) = _
      simp only [look_eq, results, result, Option.bind_assoc, Option.bind_some]
      congr 1; funext u
      simp only [ld1_eq, ih]
    | cellN a n =>
      show look r a (ldN E H n fun u => rvs E r H l fun vs => k (.agg u :: vs)) = _
      simp only [look_eq, results, result, Option.bind_assoc, Option.bind_some]
      congr 1; funext u
      simp only [ldN_eq, ih]
theorem retOf_eq (l : List V) : retOf l = Vm.retOf l := by
  cases l with
  | nil => rfl
  | cons v l => cases l <;> rfl
theorem app2_eq {α : Type} : ∀ l k : List α, app2 l k = l ++ k
  | [], _ => rfl
  | x :: l, k => by show x :: app2 l k = _; rw [app2_eq l k]; rfl

def ExEq (ex : Ex3) (ex' : Ex) : Prop := ∀ rd c r H k, ex rd c r H k = (ex' rd c (toRegs r) H).bind fun p => k p.1 (ofRegs p.2.1) p.2.2

theorem callF_eq {E : Env} {ex : Ex3} {ex' : Ex} (hx : ExEq ex ex') (f : Nat) (args : List V) (H : Hp) (k : V → Hp → R) : callF E ex f args H k = (Vm.callF E ex' f args H).bind fun p => k p.1 p.2 := by
  simp only [Vm.callF]
  cases hp : E.prim f with
  | some g =>
    have : callF E ex f args H k = ofP (g args H) k := by simp only [callF, hp]
    rw [this, ofP_eq]
  | none =>
    have : callF E ex f args H k = callA E ex f args H k := by simp only [callF, hp]
    rw [this]
    simp only [callA, ofO_eq, Option.bind_assoc]
    congr 1; funext A
    obtain ⟨np, nt, res, body⟩ := A
    show callGo E ex args H k np nt res body = _
    simp only [callGo, iff_eq, len_eq]
    cases Nat.beq args.length np
    · rfl
    · simp only [cond_true]
      rw [hx none body (zipRegs args 0) H (callEnd E res k), zipRegs_eq]
      simp only [Option.bind_assoc]
      congr 1; funext p
      obtain ⟨o, r', H'⟩ := p
      cases o with
      | exit i => rfl
      | normal =>
        show rvs E (ofRegs r') H' res (fun vs => k (retOf vs) H') = _
        simp only [rvs_eq, to_of, retOf_eq, Option.bind_assoc, Option.bind_some]
      | ret =>
        show rvs E (ofRegs r') H' res (fun vs => k (retOf vs) H') = _
        simp only [rvs_eq, to_of, retOf_eq, Option.bind_assoc, Option.bind_some]

theorem callV_eq {E : Env} {ex : Ex3} {ex' : Ex} (hx : ExEq ex ex') : CallEq (callV E ex) (Vm.callV E ex') := by
  intro v args H k
  cases v <;> try rfl
  · rename_i f cs
    show callF E ex f (app2 args cs) H k = _
    rw [callF_eq hx, app2_eq]; rfl
  · rename_i id
    show yld ex id args H k = _
    simp only [yld, loopAt_eq, Vm.callV]
    generalize H.get id = x
    cases x with
    | none => rfl
    | some o =>
      cases o <;> try rfl
      rename_i L
      simp only
      cases L.st <;> try rfl
      simp only [isReady, ofO_eq, Option.bind_assoc]
      congr 1; funext r
      rw [hx, to_of]
      try simp only [Option.bind_assoc]
      congr 1; funext p
      obtain ⟨o, r1, H1⟩ := p
      cases o <;> try rfl
      simp only [isNormal, yBody, loopAt_eq]
      generalize H1.get id = x
      cases x with
      | none => rfl
      | some o =>
        cases o <;> try rfl
        rename_i L1
        simp only
        cases L1.st <;> try rfl
        simp only [isReady, hput_eq]
        rw [hx, to_of]
        simp only [Option.bind_assoc]
        congr 1; funext p
        obtain ⟨o, r2, H2⟩ := p
        simp only
        generalize H2.get id = x
        cases x with
        | none => rfl
        | some o2 =>
          cases o2 <;> try rfl
          cases o <;> simp only [yEnd, hput_eq, Option.bind_some]

theorem seqK_eq {ex : Ex3} {ex' : Ex} (hx : ExEq ex ex') (rd : Option Nat) (b : AC) (k : Out → RL → Hp → R) (o : Out) (r : Regs) (H : Hp) :
    seqK ex rd b k o (ofRegs r) H = (match o with | .normal => ex' rd b r H | o => some (o, r, H)).bind fun p => k p.1 (ofRegs p.2.1) p.2.2 := by
  cases o with
  | normal => show ex rd b (ofRegs r) H k = _; rw [hx, to_of]
  | exit i => rfl
  | ret => rfl

theorem live_eq (l : Option (List Nat)) (k : Out → RL → Hp → R) (r : Regs) (H : Hp) : live l k (ofRegs r) H = k .normal (ofRegs (Vm.restrictO r l)) H := by
  cases l with
  | none => rfl
  | some l =>
    show k .normal (restrict (ofRegs r) l) H = _
    rw [← of_to (restrict (ofRegs r) l), restrict_eq, to_of]; rfl

theorem disp_eq {E : Env} {ex : Ex3} {ex' : Ex} (hx : ExEq ex ex') (rd : Option Nat) (c : AC) (r : RL) (H : Hp) (k : Out → RL → Hp → R) : disp c E ex rd r H k = (execWith E ex' rd c (toRegs r) H).bind fun p => k p.1 (ofRegs p.2.1) p.2.2 := by
  cases c with
  | skip => show k .normal r H = k .normal (ofRegs (toRegs r)) H; rw [of_to]
  | exit id => show k (.exit id) r H = k (.exit id) (ofRegs (toRegs r)) H; rw [of_to]
  | ret => show k .ret r H = k .ret (ofRegs (toRegs r)) H; rw [of_to]
  | seq a b =>
    show ex rd a r H (seqK ex rd b k) = _
    rw [hx]
    simp only [seqK_eq hx, execWith, Option.bind_assoc]
    congr 1
  | cond x a b =>
    show ev r x (boolK fun t => cnd t (ex rd a r H k) (ex rd b r H k)) = _
    simp only [ev_eq, execWith, Option.bind_assoc]
    congr 1; funext v
    cases v <;> try rfl
    rename_i t
    cases t
    · show ex rd b r H k = _; rw [hx]
    · show ex rd a r H k = _; rw [hx]
  | block id b =>
    show ex rd b r H (blkK id k) = _
    rw [hx]
    simp only [execWith, Option.bind_assoc]
    congr 1; funext p
    obtain ⟨o, r1, H1⟩ := p
    cases o with
    | normal => rfl
    | ret => rfl
    | exit i =>
      show cnd (Nat.beq i id) (k .normal (ofRegs r1) H1) (k (.exit i) (ofRegs r1) H1) = _
      rw [cnd_eq]
      simp only
      cases Nat.beq i id <;> rfl
  | loop keep b =>
    show ex rd b (restrict r keep) H (seqK ex rd (.loop keep b) k) = _
    rw [hx, restrict_eq]
    simp only [seqK_eq hx, execWith, Option.bind_assoc]
    congr 1
  | rangeF f ps assign body =>
    show ev r f (fun fv => iff (within H rd) (rGo E ex r H ps assign body k fv)) = _
    simp only [ev_eq, execWith, Option.bind_assoc]
    congr 1; funext v
    cases v <;> simp only [iff_eq, rGo] <;> first | (cases within H rd <;> rfl) | skip
    cases within H rd
    · rfl
    · simp only [cond_true, hnew_eq, callF_eq hx, Option.bind_assoc]
      congr 1; funext p
      obtain ⟨v0, H'⟩ := p
      simp only [loopAt_eq]
      generalize H'.get H.next = x
      cases x with
      | none => rfl
      | some o =>
        cases o <;> try rfl
        rename_i L
        simp only [rEnd, hput_eq]
        cases hst : L.st <;> cases hpe : L.pend <;> simp only [Option.bind_some, Option.bind_none, of_to] <;> (rename_i j; cases j <;> simp only [Option.bind_some, of_to])
  | reg ops l =>
    show runOps E (callV E ex) ops r H (live l k) = _
    rw [runOps_eq (callV_eq hx) ops]
    simp only [live_eq, execWith, Option.bind_assoc, Option.bind_some]
  | dreg perm ops l =>
    show runDraw E (callV E ex) ops ops r H (live l k) = _
    rw [runDraw_eq (callV_eq hx) ops ops]
    simp only [live_eq, execWith, Option.bind_assoc, Option.bind_some]

theorem exec_eq (E : Env) : ∀ n, ExEq (exec E n) (Vm.exec E n)
  | 0 => fun _ _ _ _ _ => rfl
  | n + 1 => fun rd c r H k => by
    show disp c E (exec E n) rd r H k = _
    rw [disp_eq (exec_eq E n)]; rfl

/-- the fast form's word counts -/
theorem call_of_fast {E : Env} {n f : Nat} {args : List V} {H : Hp} {p : V × Hp} (h : callF E (exec E n) f args H (fun v H' => some (v, H')) = some p) : Vm.callF E (Vm.exec E n) f args H = some p := by
  rw [callF_eq (exec_eq E n)] at h
  cases hx : Vm.callF E (Vm.exec E n) f args H with
  | none => rw [hx] at h; cases h
  | some q => rw [hx] at h; exact h
end Go.Vm.K
