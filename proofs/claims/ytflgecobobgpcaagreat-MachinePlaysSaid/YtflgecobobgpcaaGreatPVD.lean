/-
  The relation of heaps; reads and new objects are sound. Conditions: none beyond those that each statement names.
-/
import Derived.Test.YtflgecobobgpcaaGreatPVC
import Derived.MapKept
import Derived.WideKeyRuns
namespace Go.Vm

/-! which slots an operation looks at -/
def oT : Opd → List Nat
  | .t n => [n]
  | .c _ => []
def oTs : List Opd → List Nat
  | [] => []
  | x :: xs => oT x ++ oTs xs
def oTo : Option Opd → List Nat
  | none => []
  | some x => oT x
def pT : List (Nat × Nat × Opd) → List Nat
  | [] => []
  | (_, _, x) :: ps => oT x ++ pT ps

def AOp.uses : AOp → List Nat
  | .mv x | .box x | .ld1 x | .ldN _ x | .nilck x | .isnil _ x | .un _ x | .conv _ x | .fa x _ | .mlen x | .lenS x | .clr _ x | .ext x _ => oT x
  | .pick c a b => oT c ++ (oT a ++ oT b)
  | .alloc _ | .mkmap | .bad => []
  | .build _ ps | .bslice _ _ ps => pT ps
  | .st _ x y | .bin _ x y | .eqb _ x y | .eqf _ _ x y | .ixS _ x y | .ixA _ _ x y | .idx _ _ _ x y | .idxStr x y | .look _ _ x y | .minmax _ x y | .app _ _ x y | .copy _ x y | .mkslice _ _ x y => oT x ++ oT y
  | .mkfn _ cs => oTs cs
  | .slcS _ x lo hi mx | .slcA _ _ x lo hi mx => oT x ++ (oTo lo ++ (oTo hi ++ oTo mx))
  | .mput _ m k v => oT m ++ (oT k ++ oT v)
  | .call f as => oT f ++ oTs as

def AOper.uses (o : AOper) : List Nat := (match o.guard with | none => [] | some (t, _) => [t]) ++ o.op.uses

section
variable {r r' : Regs}
theorem ev_congr {x : Opd} (h : ∀ t ∈ oT x, look r t = look r' t) : ev r x = ev r' x := by
  cases x with
  | t n => exact h n (by simp [oT])
  | c v => rfl
theorem evs_congr : ∀ {xs : List Opd}, (∀ t ∈ oTs xs, look r t = look r' t) → evs r xs = evs r' xs
  | [], _ => rfl
  | x :: xs, h => by
    simp only [evs]
    rw [ev_congr (fun t ht => h t (by simp [oTs, ht])), evs_congr (fun t ht => h t (by simp [oTs, ht]))]
theorem natO_congr {x : Option Opd} (h : ∀ t ∈ oTo x, look r t = look r' t) : natO r x = natO r' x := by
  cases x with
  | none => rfl
  | some x => simp only [natO]; rw [ev_congr (fun t ht => h t ht)]
theorem fill_congr : ∀ {ps : List (Nat × Nat × Opd)} (l : List V), (∀ t ∈ pT ps, look r t = look r' t) → fill l r ps = fill l r' ps
  | [], _, _ => rfl
  | (off, n, x) :: ps, l, h => by
    simp only [fill]
    rw [ev_congr (fun t ht => h t (by simp [pT, ht]))]
    congr 1; funext v
    congr 1
    congr 1; funext l'
    exact fill_congr l' (fun t ht => h t (by simp [pT, ht]))

theorem pureOp_congr {ao : AOp} (h : ∀ t ∈ ao.uses, look r t = look r' t) : pureOp r ao = pureOp r' ao := by
  cases ao <;> simp only [AOp.uses, List.mem_append] at h <;> simp only [pureOp] <;> first
    | rfl
    | rw [ev_congr h]
    | (rw [evs_congr h])
    | (rw [fill_congr _ h])
    | (rw [ev_congr (fun t ht => h t (Or.inl ht))]; congr 1; funext u; rw [ev_congr (fun t ht => h t (Or.inr ht))])
    | (rw [ev_congr (fun t ht => h t (.inl ht)), natO_congr (fun t ht => h t (.inr (.inl ht))), natO_congr (fun t ht => h t (.inr (.inr (.inl ht)))), natO_congr (fun t ht => h t (.inr (.inr (.inr ht))))])
    | skip
  · rename_i c a b
    rw [ev_congr (x := c) (fun t ht => h t (.inl ht)), ev_congr (x := a) (fun t ht => h t (.inr (.inl ht))), ev_congr (x := b) (fun t ht => h t (.inr (.inr ht)))]

theorem readOp_congr {E : Env} {H : Hp} {ao : AOp} (h : ∀ t ∈ ao.uses, look r t = look r' t) : readOp E r H ao = readOp E r' H ao := by
  cases ao <;> simp only [AOp.uses, List.mem_append] at h <;> simp only [readOp] <;> first
    | rfl
    | rw [ev_congr h]
    | (rw [ev_congr (fun t ht => h t (Or.inl ht))]; congr 1; funext u; rw [ev_congr (fun t ht => h t (Or.inr ht))])

theorem newOp_congr {ao : AOp} (h : ∀ t ∈ ao.uses, look r t = look r' t) : newOp r ao = newOp r' ao := by
  cases ao <;> simp only [AOp.uses, List.mem_append] at h <;> simp only [newOp] <;> first
    | rfl
    | rw [ev_congr h]
    | (rw [fill_congr _ h])
    | (rw [ev_congr (fun t ht => h t (Or.inl ht))]; congr 1; funext u; congr 1; funext u2; rw [ev_congr (fun t ht => h t (Or.inr ht))])

theorem actOp_congr {E : Env} {call : CallF} {H : Hp} {ao : AOp} (h : ∀ t ∈ ao.uses, look r t = look r' t) : actOp E call r H ao = actOp E call r' H ao := by
  cases ao <;> simp only [AOp.uses, List.mem_append] at h <;> simp only [actOp] <;> first
    | rfl
    | rw [ev_congr h]
    | (rw [ev_congr (fun t ht => h t (Or.inl ht))]; congr 1; funext u; rw [ev_congr (fun t ht => h t (Or.inr (Or.inl ht)))]; congr 1; funext u2; rw [ev_congr (fun t ht => h t (Or.inr (Or.inr ht)))])
    | (rw [ev_congr (fun t ht => h t (Or.inl ht))]; congr 1; funext u; rw [evs_congr (fun t ht => h t (Or.inr ht))])
    | (rw [ev_congr (fun t ht => h t (Or.inl ht))]; congr 1; funext u; rw [ev_congr (fun t ht => h t (Or.inr ht))])

theorem wanted_congr {g : Option (Nat × Bool)} (h : ∀ t b, g = some (t, b) → look r t = look r' t) : wanted r g = wanted r' g := by
  cases g with
  | none => rfl
  | some p => obtain ⟨t, b⟩ := p; simp only [wanted]; rw [h t b rfl]

theorem stepOp_congr {E : Env} {call : CallF} {H : Hp} {ao : AOp} (h : ∀ t ∈ ao.uses, look r t = look r' t) : stepOp E call r H ao = stepOp E call r' H ao := by
  simp only [stepOp]; rw [pureOp_congr h, readOp_congr h, newOp_congr h, actOp_congr h]
end

/-! regions whose order is open -/
def maskOf (acc : List Nat) (o : Oper) : Nat :=
  o.after.toList.foldl (fun s e => cond (Region.binds .any e) (s ||| (2 ^ e.on ||| acc.getD e.on 0)) s) 0
def masks : List Nat → List Oper → List Nat
  | acc, [] => acc
  | acc, o :: os => masks (acc ++ [maskOf acc o]) os

/-- every edge that binds in mode md leads to an operation of smaller rank -/
def ranked (md : Region.Mode) (rank : Nat → Nat) : Nat → List Oper → Bool
  | _, [] => true
  | i, o :: os => (o.after.toList.all fun e => !Region.binds md e || Nat.blt (rank e.on) (rank i)) && ranked md rank (i + 1) os

def posOf (l : List Nat) (i : Nat) : Nat := l.idxOf i

/-- kinds of a pair of operations, the first ahead of the second in the canonical order: must the first be before the second in every order? -/
def mustOrd (a b : Kind) : Bool :=
  match a, b with
  | .act, .act | .act, .read | .new, .act | .new, .read => true
  | _, _ => false

def chkPairs (ms : List Nat) (perm : List Nat) (all : List AOper) : Nat → List Nat → List AOper → Bool
  | _, [], [] => true
  | q, j :: js, b :: bs =>
    -- all that stand ahead of place q
    ((perm.zip all).zipIdx.all fun ((i, a), p) =>
      !(Nat.blt p q) ||
      ((!mustOrd a.op.kind b.op.kind || (ms.getD j 0).testBit i) &&
       (!(a.op.kind == .read && b.op.kind == .act) || (ms.getD j 0).testBit i || b.re.contains p))) &&
    -- the slots that it looks at: who writes them is before or behind
    (b.uses.all fun t => (perm.zip all).zipIdx.all fun ((i, a), p) =>
      !(a.dst == some t) || ((ms.getD j 0).testBit i && Nat.blt p q) || (!(b.op.kind == .read) && (Nat.beq i j || ((ms.getD i 0).testBit j && Nat.blt q p)))) &&
    chkPairs ms perm all (q + 1) js bs
  | _, _, _ => false

def distinct : List Nat → Bool
  | [] => true
  | x :: xs => !xs.contains x && distinct xs

def chkPerm (P : Program) (nt : Nat) (ops : Array Oper) : List Nat → List AOper → Bool
  | [], [] => true
  | i :: is, a :: as => (match ops[i]? with | some o => chkOper P nt ops o a | none => false) && chkPerm P nt ops is as
  | _, _ => false

def chkDraw (P : Program) (nt : Nat) (ops : Array Oper) (perm : List Nat) (all : List AOper) : Bool :=
  Nat.beq perm.length ops.size && distinct perm && (List.range ops.size).all (fun i => perm.contains i) && chkPerm P nt ops perm all &&
  distinct (all.filterMap (·.dst)) &&
  (ops.toList.all fun o => o.after.toList.all fun e => Nat.blt e.on ops.size) && ranked .any id 0 ops.toList && ranked .text id 0 ops.toList && ranked .gc (posOf (Region.linearise .gc ops 0)) 0 ops.toList &&
  chkPairs (masks [] ops.toList) perm all 0 perm all

/-! whole functions -/
def chkC (P : Program) (nt : Nat) : Code → AC → Bool
  | .skip, .skip | .ret, .ret => true
  | .exit a, .exit b => Nat.beq a b
  | .seq a b, .seq a' b' => chkC P nt a a' && chkC P nt b b'
  | .cond x a b, .cond y a' b' => chkO x y && (chkC P nt a a' && chkC P nt b b')
  | .block i b, .block j b' => Nat.beq i j && chkC P nt b b'
  | .loop b, .loop _ b' => chkC P nt b b'
  | .rangeFunc f ps a b, .rangeF f' ps' a' b' => chkO f f' && decide (ps.toList = ps') && ps'.all (fun p => Nat.blt p nt) && (chkC P nt a a' && chkC P nt b b')
  | .region _ ops false, .reg as _ => chkRegion P nt ops ops.toList as
  | .region _ ops true, .dreg perm as _ => chkDraw P nt ops perm as
  | _, _ => false

def chkR (P : Program) : List ResultVar → List RV → Bool
  | [], [] => true
  | .tmp t :: rs, .tmp t' :: rs' => Nat.beq t t' && chkR P rs rs'
  | .cell a t :: rs, .cell1 a' :: rs' => Nat.beq a a' && undB P t && !isAggB P t && chkR P rs rs'
  | .cell a t :: rs, .cellN a' n :: rs' => Nat.beq a a' && undB P t && isAggB P t && sizeIs P t n && chkR P rs rs'
  | _, _ => false

def chkF (P : Program) (f : Nat) (A : AFunc) : Bool :=
  match P.funcs[f]? with
  | some fn => (match fn.body with | some c => chkC P A.nt c A.body | none => false) && Nat.beq fn.ntmps A.nt && Nat.ble A.np A.nt && chkR P fn.results.toList A.res && !(fn.name == "runtime.NumGoroutine")
  | none => false

/-! memory -/
def jumpR : Option Jump → Option Code → Prop
  | none, c => c = none
  | some (.exit id), c => c = some (.exit id)
  | some .ret, c => c = some .ret

def MR (M : LM) : List (V × V) → List MapEntry → Prop
  | [], es => es = []
  | (k, v) :: l, es => ∃ e es', es = e :: es' ∧ VR M k e.key ∧ VR M v e.val ∧ MR M l es'

def OR (P : Program) (M : LM) : Ob → Loc → Obj → Prop
  | .cells l, L, o => ∃ c e, o = .cells c e (0, 0) ∧ L.lim = c.size ∧ L.base + l.length ≤ c.size ∧ ∀ (i : Nat) (v : V), l[i]? = some v → ∃ x, c[L.base + i]? = some x ∧ VR M v x
  | .map es, _, o => ∃ ces clk, o = .map ces clk ∧ MR M es ces.toList
  | .loop lo, _, o => ∃ r nt, o = .loop r ∧ r.state = lo.st ∧ jumpR lo.pend r.pending ∧ r.params.toList = lo.params ∧ RR M lo.regs r.tmps ∧ r.tmps.size = nt ∧
      chkC P nt r.assign lo.assign = true ∧ chkC P nt r.body lo.body = true ∧ lo.params.all (fun p => Nat.blt p nt) = true

theorem MR.mono {M M' : LM} (h : LM.le M M') : ∀ {l : List (V × V)} {es : List MapEntry}, MR M l es → MR M' l es
  | [], _, hx => hx
  | (_, _) :: _, _, ⟨e, es', a, b, c, d⟩ => ⟨e, es', a, b.mono h, c.mono h, MR.mono h d⟩

theorem OR.mono {P : Program} {M M' : LM} (h : LM.le M M') {ob : Ob} {L : Loc} {o : Obj} (hx : OR P M ob L o) : OR P M' ob L o := by
  cases ob with
  | cells l => obtain ⟨c, e, a, b, d, f⟩ := hx; exact ⟨c, e, a, b, d, fun i v hv => let ⟨x, y, z⟩ := f i v hv; ⟨x, y, z.mono h⟩⟩
  | map es => obtain ⟨c, e, a, b⟩ := hx; exact ⟨c, e, a, b.mono h⟩
  | loop lo => obtain ⟨r, nt, a, b, c, d, e, f⟩ := hx; exact ⟨r, nt, a, b, c, d, e.mono h, f⟩

/-- how an abstract heap (what lies at each number; the next free one) lies in memory; N0: how many blocks lay there when all began -/
structure Rel (P : Program) (E : Env) (N0 : Nat) (M : LM) (g : Nat → Option Ob) (nx : Nat) (hp : Array Obj) : Prop where
  dom : ∀ id L, M id = some L → id < nx
  obj : ∀ id ob, g id = some ob → ∃ L o, M id = some L ∧ hp[L.block]? = some o ∧ OR P M ob L o ∧ N0 ≤ L.block
  inj : ∀ id id' ob ob' L L', g id = some ob → g id' = some ob' → M id = some L → M id' = some L' → L.block = L'.block → id = id'
  ext : ∀ b off v, E.ext b off = some v → b < N0 ∧ ∃ c e fr x, hp[b]? = some (.cells c e fr) ∧ c[off]? = some x ∧ ∀ M', VR M' v x
  n0 : N0 ≤ hp.size

/-- block b is one of the heap's -/
def Own (M : LM) (g : Nat → Option Ob) (b : Nat) : Prop := ∃ id ob L, g id = some ob ∧ M id = some L ∧ L.block = b

/-- nothing of block b is frozen -/
def UF (hp : Array Obj) (b : Nat) : Prop := ∀ c e fr, hp[b]? = some (.cells c e fr) → fr = (0, 0)

theorem OR.uf {P : Program} {M : LM} {ob : Ob} {L : Loc} {o : Obj} (h : OR P M ob L o) {c : Array Value} {e : TypeId} {fr : Nat × Nat} (ho : o = .cells c e fr) : fr = (0, 0) := by
  cases ob with
  | cells l => obtain ⟨c', e', h1, _⟩ := h; rw [h1] at ho; cases ho; rfl
  | map es => obtain ⟨c', e', h1, _⟩ := h; rw [h1] at ho; cases ho
  | loop lo => obtain ⟨c', e', h1, _⟩ := h; rw [h1] at ho; cases ho

structure Tr1 (M : LM) (g : Nat → Option Ob) (hp : Array Obj) (M' : LM) (g' : Nat → Option Ob) (hp' : Array Obj) : Prop where
  le : LM.le M M'
  sz : hp.size ≤ hp'.size
  keep : ∀ b, b < hp.size → ¬ Own M g b → hp'[b]? = hp[b]?
  own : ∀ b, b < hp.size → Own M' g' b → Own M g b
  nf : ∀ b, UF hp b → UF hp' b

theorem Tr1.refl (M : LM) (g : Nat → Option Ob) (hp : Array Obj) : Tr1 M g hp M g hp := ⟨LM.le.refl M, Nat.le_refl _, fun _ _ _ => rfl, fun _ _ h => h, fun _ h => h⟩
theorem Tr1.trans {M M1 M2 : LM} {g g1 g2 : Nat → Option Ob} {hp h1 h2 : Array Obj} (a : Tr1 M g hp M1 g1 h1) (b : Tr1 M1 g1 h1 M2 g2 h2) : Tr1 M g hp M2 g2 h2 :=
  ⟨a.le.trans b.le, Nat.le_trans a.sz b.sz, fun k hk hn => (b.keep k (Nat.lt_of_lt_of_le hk a.sz) (fun ho => hn (a.own k hk ho))).trans (a.keep k hk hn),
   fun k hk ho => a.own k hk (b.own k (Nat.lt_of_lt_of_le hk a.sz) ho), fun k h => b.nf k (a.nf k h)⟩

/-- the same for worlds: nothing but memory turns -/
structure TrW (M : LM) (g : Nat → Option Ob) (w : World) (M' : LM) (g' : Nat → Option Ob) (w' : World) : Prop where
  tr : Tr1 M g w.heap M' g' w'.heap
  os : w'.os = w.os
  out : w'.output = w.output

section
variable {M M1 M2 : LM} {g g1 g2 : Nat → Option Ob} {w w1 w2 : World}
theorem TrW.refl (M : LM) (g : Nat → Option Ob) (w : World) : TrW M g w M g w := ⟨Tr1.refl _ _ _, rfl, rfl⟩
theorem TrW.trans (a : TrW M g w M1 g1 w1) (b : TrW M1 g1 w1 M2 g2 w2) : TrW M g w M2 g2 w2 := ⟨a.tr.trans b.tr, b.os.trans a.os, b.out.trans a.out⟩
theorem TrW.le (a : TrW M g w M1 g1 w1) : LM.le M M1 := a.tr.le
theorem TrW.sz (a : TrW M g w M1 g1 w1) : w.heap.size ≤ w1.heap.size := a.tr.sz
theorem TrW.keep (a : TrW M g w M1 g1 w1) : ∀ b, b < w.heap.size → ¬ Own M g b → w1.heap[b]? = w.heap[b]? := a.tr.keep
theorem TrW.own (a : TrW M g w M1 g1 w1) : ∀ b, b < w.heap.size → Own M1 g1 b → Own M g b := a.tr.own
end

end Go.Vm

namespace Go.Vm

section
variable {P : Program} {E : Env} {N0 : Nat} {M : LM} {g : Nat → Option Ob} {nx : Nat} {r : Regs} {a : Act} {w : World}

theorem cell_of {w : World} {b o : Nat} {c : Array Value} {e : TypeId} {fr : Nat × Nat} {x : Value} (h : w.heap[b]? = some (.cells c e fr)) (hx : c[o]? = some x) : w.cell? ⟨b, o, none⟩ = some x := by
  simp [World.cell?, h, hx]

/-- n cells of an object, read -/
theorem read_cells {id off n : Nat} {l rr : List V} (hrel : Rel P E N0 M g nx w.heap) (hg : g id = some (.cells l)) (h : getAt l off n = some rr) :
    ∃ L xs, M id = some L ∧ VRL M rr xs ∧ xs.length = n ∧ ∀ (j : Nat) (x : Value), xs[j]? = some x → w.cell? ⟨L.block, L.base + off + j, none⟩ = some x := by
  obtain ⟨L, o, hL, ho, ⟨c, e, rfl, hlim, hle, hget⟩, _⟩ := hrel.obj _ _ hg
  have hlen := getAt_len h
  refine ⟨L, (List.range n).map fun j => (c[L.base + off + j]?).getD undef, hL, ?_, by simp, fun j x hx => ?_⟩
  · refine VRL.of_get (by simp [hlen]) fun i v hi => ?_
    have hin : i < n := by have := (List.getElem?_eq_some_iff.1 hi).1; omega
    rw [getAt_get h hin] at hi
    obtain ⟨x, hx, hv⟩ := hget _ _ hi
    refine ⟨x, ?_, hv⟩
    simp only [List.getElem?_map, List.getElem?_range hin, Option.map_some, Nat.add_assoc, hx, Option.getD_some]
  · have hin : j < n := by have := (List.getElem?_eq_some_iff.1 hx).1; simpa using this
    simp only [List.getElem?_map, List.getElem?_range hin, Option.map_some, Option.some.injEq] at hx
    have hlt : off + j < l.length := by have := getAt_le h (by omega); omega
    obtain ⟨y, hy, _⟩ := hget (off + j) _ (List.getElem?_eq_getElem hlt)
    rw [Nat.add_assoc, hy] at hx
    simp only [Option.getD_some] at hx
    subst hx
    rw [Nat.add_assoc]
    exact cell_of ho hy

theorem read_ext {b : Nat} (hrel : Rel P E N0 M g nx w.heap) : ∀ {off n : Nat} {rr : List V}, extN E b off n = some rr →
    ∃ xs, VRL M rr xs ∧ xs.length = n ∧ ∀ (j : Nat) (x : Value), xs[j]? = some x → w.cell? ⟨b, off + j, none⟩ = some x
  | off, 0, rr, h => by simp [extN] at h; subst h; exact ⟨[], rfl, rfl, fun j x hx => by simp at hx⟩
  | off, n + 1, rr, h => by
    simp only [extN, Option.bind_eq_some_iff] at h
    obtain ⟨v, hv, r', hr, e⟩ := h
    cases e
    obtain ⟨hb, c, e, fr, x, hc, hx, hvx⟩ := hrel.ext _ _ _ hv
    obtain ⟨xs, h1, h2, h3⟩ := read_ext hrel hr
    refine ⟨x :: xs, VRL.cons (hvx M) h1, by simp [h2], fun j y hy => ?_⟩
    cases j with
    | zero => simp at hy; subst hy; exact cell_of hc hx
    | succ j => simp at hy; have := h3 j y hy; rw [show off + (j + 1) = off + 1 + j from by omega]; exact this

theorem addr_add' (b o n : Nat) : (⟨b, o, none⟩ : Addr).add n = ⟨b, o + n, none⟩ := addr_add b o n

theorem run_loadCells_at {b o : Nat} {xs : List Value} (h : ∀ (j : Nat) (x : Value), xs[j]? = some x → w.cell? ⟨b, o + j, none⟩ = some x) {n : Nat} (hn : xs.length = n) :
    (loadCells ⟨b, o, none⟩ n).run P w = .ok xs.toArray w := by
  rw [← hn]
  exact run_loadCells_list w _ xs (fun j v hv => by rw [addr_add]; exact h j v hv)

theorem sizeIs_cells {t n : Nat} (h : sizeIs P t n = true) : P.cellsOf t = n ∧ ∃ i, P.info? t = some i := by
  unfold sizeIs at h
  cases hi : P.info? t with
  | none => simp [hi] at h
  | some i => simp only [hi, Nat.beq_eq] at h; exact ⟨by simp [Program.cellsOf, hi, h], i, rfl⟩

theorem run_loadVar_agg {t n b o : Nat} {xs : List Value} (hu : undB P t = true) (ha : isAggB P t = true) (hs : sizeIs P t n = true)
    (h : ∀ (j : Nat) (x : Value), xs[j]? = some x → w.cell? ⟨b, o + j, none⟩ = some x) (hn : xs.length = n) : (loadVar t ⟨b, o, none⟩).run P w = .ok (.agg xs.toArray) w := by
  obtain ⟨d, hd⟩ := Option.isSome_iff_exists.1 hu
  obtain ⟨hc, i, hi⟩ := sizeIs_cells hs
  simp [loadVar, run_isAgg hd, ha, run_sizeOf w hi, hc, run_loadCells_at h hn]

theorem run_loadVar_one {t b o : Nat} {x : Value} (hu : undB P t = true) (ha : isAggB P t = false) (h : w.cell? ⟨b, o, none⟩ = some x) : (loadVar t ⟨b, o, none⟩).run P w = .ok x w := by
  obtain ⟨d, hd⟩ := Option.isSome_iff_exists.1 hu
  simp [loadVar, run_isAgg hd, ha, h]

variable (hsub : ∀ (H : Hp) id ob, H.get id = some ob → g id = some ob)

theorem ldN_sound {H : Hp} {n : Nat} {v : V} {l : List V} {x : Value} (hrel : Rel P E N0 M g nx w.heap) (hsub : ∀ id ob, H.get id = some ob → g id = some ob)
    (h : ldN E H n v = some l) (hv : VR M v x) : ∃ b o xs, x = .pointer (some ⟨b, o, none⟩) ∧ VRL M l xs ∧ xs.length = n ∧ ∀ (j : Nat) (x : Value), xs[j]? = some x → w.cell? ⟨b, o + j, none⟩ = some x := by
  cases v <;> simp only [ldN] at h <;> try (cases h; done)
  · rename_i id off
    cases hg : H.get id with
    | none => simp [hg] at h
    | some ob =>
      cases ob <;> simp only [hg] at h <;> try (cases h; done)
      rename_i cl
      obtain ⟨L, xs, hL, h1, h2, h3⟩ := read_cells hrel (hsub _ _ hg) h
      obtain ⟨L', hL', rfl⟩ := hv
      rw [hL] at hL'; cases hL'
      exact ⟨_, _, xs, rfl, h1, h2, h3⟩
  · obtain ⟨xs, h1, h2, h3⟩ := read_ext hrel h
    exact ⟨_, _, xs, hv, h1, h2, h3⟩

theorem ld1_sound {H : Hp} {v u : V} {x : Value} (hrel : Rel P E N0 M g nx w.heap) (hsub : ∀ id ob, H.get id = some ob → g id = some ob)
    (h : ld1 E H v = some u) (hv : VR M v x) : ∃ b o y, x = .pointer (some ⟨b, o, none⟩) ∧ VR M u y ∧ w.cell? ⟨b, o, none⟩ = some y := by
  cases v <;> simp only [ld1] at h <;> try (cases h; done)
  · rename_i id off
    cases hg : H.get id with
    | none => simp [hg] at h
    | some ob =>
      cases ob <;> simp only [hg] at h <;> try (cases h; done)
      rename_i cl
      rw [nth_eq] at h
      obtain ⟨L, o, hL, ho, ⟨c, e, rfl, hlim, hle, hget⟩, _⟩ := hrel.obj _ _ (hsub _ _ hg)
      obtain ⟨L', hL', rfl⟩ := hv
      rw [hL] at hL'; cases hL'
      obtain ⟨y, hy, hvy⟩ := hget _ _ h
      exact ⟨_, _, y, rfl, hvy, cell_of ho hy⟩
  · obtain ⟨_, c, e, fr, y, hc, hy, hvy⟩ := hrel.ext _ _ _ h
    exact ⟨_, _, y, hv, hvy M, cell_of hc hy⟩

/-! keys -/
def FlatCk (P : Program) (em : Bool) (D : Nat) (t : TypeId) (n : Nat) : Prop :=
  ∀ (w : World) (ks : List (IntKind × Int × Int)) (pre suf : List Value), ks.length = n →
    ∃ x, (part t (pre ++ cellsL (·.2.1) ks ++ suf).toArray pre.length).run P w = .ok x w ∧ (Instr.checkKey em D t x).run P w = .ok () w

theorem flat_none (d : Nat) : ∀ fs : List Field, fs.foldl (fun acc f => acc.bind fun off =>
          if f.name != "_" && Nat.beq f.offset off then (flatT P d f.type).bind fun m => if (P.info? f.type).isSome && Nat.beq (P.cellsOf f.type) m then some (off + m) else none else none) (none : Option Nat) = none
  | [] => rfl
  | _ :: gs => by simpa using flat_none d gs

theorem flat_mono (d : Nat) : ∀ (fs : List Field) (off n : Nat), fs.foldl (fun acc f => acc.bind fun off =>
          if f.name != "_" && Nat.beq f.offset off then (flatT P d f.type).bind fun m => if (P.info? f.type).isSome && Nat.beq (P.cellsOf f.type) m then some (off + m) else none else none) (some off) = some n → off ≤ n
  | [], off, n, h => by simp at h; omega
  | g :: gs, off, n, h => by
    simp only [List.foldl_cons, Option.bind_some] at h
    split at h
    · cases hg : flatT P d g.type with
      | none => rw [hg, Option.bind_none, flat_none] at h; cases h
      | some m =>
        rw [hg, Option.bind_some] at h
        split at h
        · have := flat_mono d gs _ _ h; omega
        · rw [flat_none] at h; cases h
    · rw [flat_none] at h; cases h

theorem flat_step {d off n : Nat} {f : Field} {fs : List Field} (h : (f :: fs).foldl (fun acc f => acc.bind fun off =>
          if f.name != "_" && Nat.beq f.offset off then (flatT P d f.type).bind fun m => if (P.info? f.type).isSome && Nat.beq (P.cellsOf f.type) m then some (off + m) else none else none) (some off) = some n) :
    f.name ≠ "_" ∧ f.offset = off ∧ ∃ m, flatT P d f.type = some m ∧ (P.info? f.type).isSome = true ∧ P.cellsOf f.type = m ∧
      fs.foldl (fun acc f => acc.bind fun off =>
          if f.name != "_" && Nat.beq f.offset off then (flatT P d f.type).bind fun m => if (P.info? f.type).isSome && Nat.beq (P.cellsOf f.type) m then some (off + m) else none else none) (some (off + m)) = some n ∧ off + m ≤ n := by
  simp only [List.foldl_cons, Option.bind_some] at h
  split at h
  · rename_i hcond
    simp only [Bool.and_eq_true, bne_iff_ne, ne_eq, Nat.beq_eq] at hcond
    cases hg : flatT P d f.type with
    | none => rw [hg, Option.bind_none, flat_none] at h; cases h
    | some m =>
      rw [hg, Option.bind_some] at h
      split at h
      · rename_i hi
        simp only [Bool.and_eq_true, Nat.beq_eq] at hi
        exact ⟨hcond.1, hcond.2, m, rfl, hi.1, hi.2, h, flat_mono d _ _ _ h⟩
      · rw [flat_none] at h; cases h
  · rw [flat_none] at h; cases h

theorem flatCk (em : Bool) : ∀ (d : Nat) (t n : Nat), flatT P d t = some n → P.cellsOf t = n → FlatCk P em (d + 9970) t n
  | 0, t, n, h, _ => by simp [flatT] at h
  | d + 1, t, n, h, hn => by
    have hu := flat_cellsOf h
    obtain ⟨dsc, hd⟩ := Option.isSome_iff_exists.1 hu
    intro w ks pre suf hk
    cases dsc <;> simp only [flatT, hd] at h <;> try (cases h; done)
    case int k =>
      cases h
      obtain ⟨x, rfl⟩ : ∃ x, ks = [x] := by cases ks with | nil => simp at hk | cons x xs => cases xs with | nil => exact ⟨x, rfl⟩ | cons => simp at hk
      have ha : isAggB P t = false := by simp [isAggB, hd]
      exact ⟨.int x.1 x.2.1, part_cell hd ha w pre suf _, by
        rw [show d + 1 + 9970 = (d + 9970) + 1 from by omega, Instr.checkKey]
        simp only [Sem.run_bind, run_underlying hd, Result.andThen_ok]
        rfl⟩
    case array m e =>
      cases he : flatT P d e with
      | none => simp [he] at h
      | some c =>
        simp only [he, Option.bind_some] at h
        split at h
        · rename_i hi
          simp only [Bool.and_eq_true, Nat.beq_eq] at hi
          cases h
          obtain ⟨ie, hie⟩ := Option.isSome_iff_exists.1 hi.1
          have ha : isAggB P t = true := by simp [isAggB, hd]
          refine ⟨.agg (cellsL (·.2.1) ks).toArray, part_agg hd ha hn w pre _ suf (by simp [cellsL, hk]), ?_⟩
          rw [show d + 1 + 9970 = (d + 9970) + 1 from by omega, Instr.checkKey]
          simp only [Sem.run_bind, run_underlying hd, Result.andThen_ok]
          simp only [Std.Legacy.Range.forIn_eq_forIn_range', Std.Legacy.Range.size, Nat.sub_zero, Nat.add_one_sub_one, Nat.div_one]
          have key : ∀ (m j : Nat) (ks : List (IntKind × Int × Int)) (pre : List Value), ks.length = m * c → pre.length = j * c →
              Sem.run P (forIn (List.range' j m) PUnit.unit fun i r => do
                let a ← sizeOf e
                let b ← part e (pre ++ cellsL (·.2.1) ks).toArray (i * a)
                Instr.checkKey em (d + 9970) e b
                pure (ForInStep.yield PUnit.unit)) w = .ok PUnit.unit w := by
            intro m
            induction m with
            | zero => intro j ks pre _ _; simp
            | succ m ih =>
              intro j ks pre hk hp
              obtain ⟨ka, kb, rfl, hka, hkb⟩ := split_at c (m * c) ks (by rw [hk, Nat.succ_mul]; omega)
              obtain ⟨x, hx, hck⟩ := flatCk em d e c he hi.2 w ka pre (cellsL (·.2.1) kb) hka
              have e1 : pre ++ cellsL (·.2.1) (ka ++ kb) = pre ++ cellsL (·.2.1) ka ++ cellsL (·.2.1) kb := by simp [cellsL]
              rw [List.range'_succ]
              simp only [List.forIn_cons, Sem.run_bind, run_sizeOf w hie, hi.2, Result.andThen_ok]
              rw [e1, ← hp, hx, Result.andThen_ok, hck, Result.andThen_ok, Sem.run_pure, Result.andThen_ok]
              simp only
              have := ih (j + 1) kb (pre ++ cellsL (·.2.1) ka) hkb (by simp [cellsL, hka, hp, Nat.succ_mul])
              simpa [run_sizeOf w hie, hi.2] using this
          have := key m 0 ks [] hk (by simp)
          simp only [List.nil_append] at this
          rw [this]; rfl
        · cases h
    case struct fs =>
      split at h
      · cases h
      · rename_i hst
        have ha : isAggB P t = true := by simp [isAggB, hd]
        refine ⟨.agg (cellsL (·.2.1) ks).toArray, part_agg hd ha hn w pre _ suf (by simp [cellsL, hk]), ?_⟩
        rw [show d + 1 + 9970 = (d + 9970) + 1 from by omega, Instr.checkKey]
        simp only [Sem.run_bind, run_underlying hd, Result.andThen_ok]
        rw [← Array.forIn_toList]
        have key : ∀ (fs : List Field) (off n : Nat) (ks : List (IntKind × Int × Int)) (pre : List Value),
            fs.foldl (fun acc f => acc.bind fun off =>
              if f.name != "_" && Nat.beq f.offset off then (flatT P d f.type).bind fun m => if (P.info? f.type).isSome && Nat.beq (P.cellsOf f.type) m then some (off + m) else none else none) (some off) = some n →
            pre.length = off → off + ks.length = n →
            Sem.run P (forIn fs PUnit.unit fun f r => do
              if f.name ≠ "_" then
                let b ← part f.type (pre ++ cellsL (·.2.1) ks).toArray f.offset
                Instr.checkKey em (d + 9970) f.type b
                pure (ForInStep.yield PUnit.unit)
              else pure (ForInStep.yield PUnit.unit)) w = .ok PUnit.unit w := by
          intro fs
          induction fs with
          | nil => intro off n ks pre _ _ _; simp
          | cons f fs ih =>
            intro off n ks pre h hp hk
            obtain ⟨hname, hoff, m, hm, hi, hcell, hrest, hle⟩ := flat_step h
            obtain ⟨ka, kb, rfl, hka, hkb⟩ := split_at m (n - (off + m)) ks (by omega)
            obtain ⟨x, hx, hck⟩ := flatCk em d f.type m hm hcell w ka pre (cellsL (·.2.1) kb) hka
            have e1 : pre ++ cellsL (·.2.1) (ka ++ kb) = pre ++ cellsL (·.2.1) ka ++ cellsL (·.2.1) kb := by simp [cellsL]
            simp only [List.forIn_cons, hname, ne_eq, not_false_eq_true, if_true, Sem.run_bind]
            rw [e1, hoff, ← hp, hx, Result.andThen_ok, hck, Result.andThen_ok, Sem.run_pure, Result.andThen_ok]
            simp only
            have := ih (off + m) n kb (pre ++ cellsL (·.2.1) ka) hrest (by simp [cellsL, hka, hp]) (by omega)
            simpa using this
        have := key fs.toList 0 n ks [] h rfl (by omega)
        simp only [List.nil_append] at this
        rw [this]; rfl

theorem ints_of_allInt : ∀ {l : List V}, allInt l = true → ∃ ks : List (IntKind × Int × Int), l = ks.map fun k => .int k.1 k.2.1
  | [], _ => ⟨[], rfl⟩
  | v :: l, h => by
    simp only [allInt, List.all_cons, Bool.and_eq_true] at h
    obtain ⟨ks, hk⟩ := ints_of_allInt (l := l) (by simpa [allInt] using h.2)
    cases v <;> simp at h
    rename_i k n
    exact ⟨(k, n, n) :: ks, by simp [hk]⟩

theorem run_checkKey_ok {kt n : Nat} {kv : V} {k : Value} (hk : chkKey P kt n = true) (ho : keyOk n kv = true) (hv : VR M kv k) (em : Bool) (w : World) : (Instr.checkKey em 10000 kt k).run P w = .ok () w := by
  simp only [chkKey, Bool.or_eq_true, Bool.and_eq_true, Nat.beq_eq, Bool.not_eq_true'] at hk
  cases kv <;> simp only [keyOk] at ho <;> try (cases ho; done)
  · rename_i q m
    cases hv
    simp only [Nat.beq_eq] at ho
    rcases hk with ⟨_, hi⟩ | ⟨h0, _⟩
    · obtain ⟨q', hd⟩ : ∃ q', P.underlying kt = some (.int q') := by unfold intB at hi; split at hi <;> simp_all
      rw [show (10000 : Nat) = 9999 + 1 from rfl, Instr.checkKey]
      simp only [Sem.run_bind, run_underlying hd, Result.andThen_ok]
      rfl
    · subst ho; simp at h0
  · rename_i l
    simp only [Bool.and_eq_true, Nat.blt_eq, Nat.beq_eq] at ho
    obtain ⟨hpos, hlen, hall⟩ := ho
    rcases hk with ⟨h0, _⟩ | ⟨_, hf⟩
    · omega
    · obtain ⟨ks, rfl⟩ := ints_of_allInt hall
      obtain ⟨xs, hxs, rfl⟩ := hv
      have := VRL.ints (f := (·.2.1)) hxs
      subst this
      simp only [flatIs, Bool.and_eq_true, Nat.beq_eq] at hf
      obtain ⟨⟨⟨ha, hn⟩, _⟩, hf⟩ := hf
      cases hfl : flatT P 30 kt with
      | none => simp [hfl] at hf
      | some m =>
        simp only [hfl, Nat.beq_eq] at hf
        subst hf
        obtain ⟨dsc, hd⟩ := Option.isSome_iff_exists.1 (flat_cellsOf hfl)
        obtain ⟨x, hx, hck⟩ := flatCk em 30 kt m hfl hn w ks [] [] (by simpa using hlen)
        rw [part_agg hd ha hn w [] _ [] (by simpa [cellsL] using hlen)] at hx
        cases hx
        exact hck

/-- '==' of two keys -/
theorem run_eqKey {kt n : Nat} {kv kv' : V} {k k' : Value} {b : Bool} (hk : chkKey P kt n = true) (h : eqKey n kv kv' = some b) (hv : VR M kv k) (hv' : VR M kv' k') (w : World) :
    (n ≠ 0 → (Op.equal kt k k').run P w = .ok b w) ∧ (n = 0 → ∃ q, P.underlying kt = some (.int q) ∧ Instr.sameNow (.int q) k k' = some b) := by
  simp only [chkKey, Bool.or_eq_true, Bool.and_eq_true, Nat.beq_eq, Bool.not_eq_true'] at hk
  cases kv <;> cases kv' <;> simp only [eqKey] at h <;> try (cases h; done)
  · split at h
    · rename_i h0; subst h0
      split at h
      · rename_i hq; subst hq
        cases h; cases hv; cases hv'
        refine ⟨fun h => absurd rfl h, fun _ => ?_⟩
        rcases hk with ⟨_, hi⟩ | ⟨h0, _⟩
        · obtain ⟨q', hd⟩ : ∃ q', P.underlying kt = some (.int q') := by unfold intB at hi; split at hi <;> simp_all
          exact ⟨q', hd, by simp [Instr.sameNow]⟩
        · simp at h0
      · cases h
    · cases h
  · split at h
    · cases h
    · rename_i hn0
      refine ⟨fun _ => ?_, fun h => absurd h hn0⟩
      obtain ⟨hlx, hly, ks, rfl, rfl, rfl⟩ := eqInts_spec h
      obtain ⟨xs, hxs, rfl⟩ := hv
      obtain ⟨ys, hys, rfl⟩ := hv'
      have e1 := VRL.ints (f := (·.2.1)) hxs
      have e2 := VRL.ints (f := (·.2.2)) hys
      subst e1; subst e2
      rcases hk with ⟨h0, _⟩ | ⟨_, hf⟩
      · exact absurd h0 hn0
      · exact equal_flat hf w ks (by simpa using hlx)

theorem find_sound {kt n : Nat} {kv : V} {k : Value} (hk : chkKey P kt n = true) (hv : VR M kv k) (w : World) : ∀ {es : List (V × V)} {ces : List MapEntry} {res : Option V} (i : Nat), MR M es ces → mfind n kv es = some res →
    ∃ res', (n ≠ 0 → (Instr.findAsking kt k ces i).run P w = .ok res' w) ∧ (n = 0 → ∀ q, P.underlying kt = some (.int q) → Instr.findNow (.int q) k ces i = some res') ∧
      (match res, res' with | none, none => True | some v, some (_, x) => VR M v x | _, _ => False)
  | [], ces, res, i, hm, h => by
    cases hm
    simp only [mfind, Option.some.injEq] at h; subst h
    exact ⟨none, fun _ => rfl, fun _ _ _ => rfl, trivial⟩
  | (k', v') :: es, ces, res, i, hm, h => by
    obtain ⟨e, ces', rfl, hke, hve, hrest⟩ := hm
    simp only [mfind, Option.bind_eq_some_iff] at h
    obtain ⟨b, hb, h⟩ := h
    obtain ⟨h1, h2⟩ := run_eqKey hk hb hv hke w
    cases b with
    | true =>
      simp only [cond_true, Option.some.injEq] at h; subst h
      refine ⟨some (i, e.val), fun hn => by simp [Instr.findAsking, h1 hn], fun hn q hq => ?_, hve⟩
      obtain ⟨q', hq', hs⟩ := h2 hn
      rw [hq] at hq'; cases hq'
      simp [Instr.findNow, hs]
    | false =>
      simp only [cond_false] at h
      obtain ⟨res', r1, r2, r3⟩ := find_sound hk hv w (i + 1) hrest h
      refine ⟨res', fun hn => by simp [Instr.findAsking, h1 hn, r1 hn], fun hn q hq => ?_, r3⟩
      obtain ⟨q', hq', hs⟩ := h2 hn
      rw [hq] at hq'; cases hq'
      simp [Instr.findNow, hs, r2 hn q hq]

theorem run_findKey_of {kt n : Nat} {k : Value} {ces : List MapEntry} {res : Option (Nat × Value)} (hk : chkKey P kt n = true) (h1 : n ≠ 0 → (Instr.findAsking kt k ces 0).run P w = .ok res w)
    (h2 : n = 0 → ∀ q, P.underlying kt = some (.int q) → Instr.findNow (.int q) k ces 0 = some res) : (Instr.findKey kt k ces).run P w = .ok res w := by
  have hk' := hk
  simp only [chkKey, Bool.or_eq_true, Bool.and_eq_true, Nat.beq_eq, Bool.not_eq_true'] at hk
  rcases hk with ⟨h0, hi⟩ | ⟨h0, hf⟩
  · obtain ⟨q, hd⟩ : ∃ q', P.underlying kt = some (.int q') := by unfold intB at hi; split at hi <;> simp_all
    simp [Instr.findKey, run_underlying hd, h2 h0 q hd]
  · have hn : n ≠ 0 := by intro e; subst e; simp at h0
    rw [run_findKey_eq w ?_ k ces]
    · exact h1 hn
    · simp only [flatIs, Bool.and_eq_true] at hf
      have := hf.1.1.1
      unfold isAggB at this
      split at this <;> simp_all

theorem read_sound {o : Oper} {ao : AOp} {v : V} {H : Hp} (hc : chkOp P o ao = true) (hk : ao.kind = .read) (he : readOp E r H ao = some v) (hr : RR M r a.tmps)
    (hrel : Rel P E N0 M g nx w.heap) (hsub : ∀ id ob, H.get id = some ob → g id = some ob) :
    ∃ x, (execOp a.eval o).run P w = .ok (.value x) w ∧ VR M v x := by
  cases ao <;> simp only [AOp.kind] at hk <;> try (cases hk; done)
  case ld1 y =>
    simp only [chkOp] at hc
    split at hc
    · rename_i t x hop
      simp only [Bool.and_eq_true, Bool.not_eq_true'] at hc
      obtain ⟨⟨hu, ha⟩, hx⟩ := hc
      simp only [readOp, Option.bind_eq_some_iff] at he
      obtain ⟨u, hu', he⟩ := he
      obtain ⟨b, off, z, hxe, hvz, hz⟩ := ld1_sound hrel hsub he (ev_sound hx hu' hr)
      exact ⟨z, by simp [execOp, hop, hxe, Instr.loadAt, Instr.sureAddr, run_loadVar_one hu ha hz], hvz⟩
    · cases hc
  case ldN n y =>
    simp only [chkOp] at hc
    split at hc
    · rename_i t x hop
      simp only [Bool.and_eq_true] at hc
      obtain ⟨⟨⟨hu, ha⟩, hs⟩, hx⟩ := hc
      simp only [readOp, Option.bind_eq_some_iff] at he
      obtain ⟨u, hu', l, hl, he⟩ := he
      cases he
      obtain ⟨b, off, xs, hxe, hvl, hlen, hget⟩ := ldN_sound hrel hsub hl (ev_sound hx hu' hr)
      exact ⟨.agg xs.toArray, by simp [execOp, hop, hxe, Instr.loadAt, Instr.sureAddr, run_loadVar_agg hu ha hs hget hlen], ⟨xs, hvl, rfl⟩⟩
    · cases hc
  case look n z m' k' =>
    simp only [chkOp] at hc
    split at hc
    · rename_i t m k hop
      simp only [Bool.and_eq_true] at hc
      obtain ⟨⟨hm, hx⟩, hkk⟩ := hc
      cases hmo : mapOf P t with
      | none => simp [hmo] at hm
      | some p =>
        simp only [hmo, Bool.and_eq_true] at hm
        obtain ⟨hck, hz⟩ := hm
        have hd := mapOf_some hmo
        obtain ⟨i, zv, hi, hiz, hz⟩ : ∃ i zv, P.info? p.2 = some i ∧ i.zero = some zv ∧ chkV z zv = true := by
          split at hz
          · rename_i i hi
            split at hz
            · rename_i zv hiz; exact ⟨i, zv, hi, hiz, hz⟩
            · cases hz
          · cases hz
        simp only [readOp, Option.bind_eq_some_iff] at he
        obtain ⟨mv, hmv, kv, hkv, he⟩ := he
        cases mv <;> simp only at he <;> try (cases he; done)
        rename_i id
        cases hg : H.get id with
        | none => simp [hg] at he
        | some ob =>
          cases ob <;> simp only [hg] at he <;> try (cases he; done)
          rename_i es
          cases hok : keyOk n kv with
          | false => simp [hok] at he
          | true =>
            simp only [hok, cond_true, Option.bind_eq_some_iff] at he
            obtain ⟨res, hres, he⟩ := he
            obtain ⟨L, o', hL, ho, ⟨ces, clk, rfl, hmr⟩, _⟩ := hrel.obj _ _ (hsub _ _ hg)
            obtain ⟨L', hL', hxe⟩ := ev_sound hx hmv hr
            rw [hL] at hL'; cases hL'
            have hkx := ev_sound hkk hkv hr
            obtain ⟨res', h1, h2, h3⟩ := find_sound hck hkx w 0 hmr hres
            have hfind := run_findKey_of hck h1 h2
            have hget : (getObj L.block).run P w = .ok (.map ces clk) w := by simp [getObj, Sem.run, ho]
            have hzero : (zeroValue p.2).run P w = .ok zv w := by simp [zeroValue, run_typeInfo w hi, hiz]
            have hkey := run_checkKey_ok hck hok hkx ces.isEmpty w
            cases res with
            | none =>
              cases res' with
              | none =>
                cases he
                refine ⟨.tuple #[zv, .bool false], ?_, ⟨[zv, .bool false], VRL.cons (chkV_sound M hz) (VRL.cons rfl (VRL.nil M)), rfl⟩⟩
                simp [execOp, hop, hxe, Instr.lookup, run_underlying hd, hget, hkey, hfind, hzero]
              | some q => exact h3.elim
            | some v =>
              cases res' with
              | none => exact h3.elim
              | some q =>
                cases he
                obtain ⟨j, x⟩ := q
                refine ⟨.tuple #[x, .bool true], ?_, ⟨[x, .bool true], VRL.cons h3 (VRL.cons rfl (VRL.nil M)), rfl⟩⟩
                simp [execOp, hop, hxe, Instr.lookup, run_underlying hd, hget, hkey, hfind]
    · cases hc
  case mlen m' =>
    simp only [chkOp] at hc
    split at hc
    · rename_i c hop
      simp only [Bool.and_eq_true] at hc
      obtain ⟨hcal, hc⟩ := hc
      have hcal' : c.callee = .builtin .len := by split at hcal <;> simp_all
      split at hc
      · rename_i x t hargs htys
        simp only [Bool.and_eq_true] at hc
        obtain ⟨hs, hx⟩ := hc
        obtain ⟨p, hse⟩ := Option.isSome_iff_exists.1 hs
        have hd := mapOf_some hse
        simp only [readOp, Option.bind_eq_some_iff] at he
        obtain ⟨mv, hmv, he⟩ := he
        cases mv <;> simp only at he <;> try (cases he; done)
        rename_i id
        cases hg : H.get id with
        | none => simp [hg] at he
        | some ob =>
          cases ob <;> simp only [hg] at he <;> try (cases he; done)
          rename_i es
          cases he
          obtain ⟨L, o', hL, ho, ⟨ces, clk, rfl, hmr⟩, _⟩ := hrel.obj _ _ (hsub _ _ hg)
          obtain ⟨L', hL', hxe⟩ := ev_sound hx hmv hr
          rw [hL] at hL'; cases hL'
          have hget : (getObj L.block).run P w = .ok (.map ces clk) w := by simp [getObj, Sem.run, ho]
          have hlen : ces.size = es.length := by
            have : ∀ {es : List (V × V)} {l : List MapEntry}, MR M es l → l.length = es.length := by
              intro es
              induction es with
              | nil => intro l h; cases h; rfl
              | cons p es ih => intro l h; obtain ⟨e, l', rfl, _, _, h⟩ := h; simp [ih h]
            simpa using this hmr
          obtain ⟨callee, args, tys⟩ := c
          simp only at hcal' hargs htys
          have ha := toList1 hargs
          have ht := toList1 htys
          subst hcal'; subst ha; subst ht
          exact ⟨.int .i64 es.length, by simp [execOp, hop, resolve, invoke, builtin, hxe, Builtin.len_, run_underlying hd, hget, goInt, hlen], rfl⟩
      · cases hc
    · cases hc
end
end Go.Vm

namespace Go.Vm

/-! the trie -/
theorem beq_false {m n : Nat} (h : m ≠ n) : Nat.beq m n = false := by
  cases h' : Nat.beq m n
  · rfl
  · exact absurd (Nat.eq_of_beq_eq_true h') h
theorem beq_self (n : Nat) : Nat.beq n n = true := by simp

theorem Tr.get_lf {α : Type} (n : Nat) : (Tr.lf : Tr α).get n = none := rfl

theorem Tr.get_nd {α : Type} (l : Tr α) (v : Option α) (r : Tr α) (n : Nat) : (Tr.nd l v r).get n = if n = 0 then v else if n % 2 = 1 then l.get (n / 2) else r.get (n / 2 - 1) := by
  simp only [Tr.get]
  by_cases h0 : n = 0
  · subst h0; simp
  · rw [beq_false h0, if_neg h0]
    simp only [cond_false]
    by_cases h1 : n % 2 = 1
    · rw [h1]; simp
    · rw [beq_false h1, if_neg h1]; rfl

theorem Tr.get_setF {α : Type} (v : Option α) : ∀ (f : Nat) (t : Tr α) (n m : Nat), n < f → (Tr.setF f t n v).get m = if m = n then v else t.get m := by
  intro f
  induction f with
  | zero => intro t n m h; omega
  | succ f ih =>
    have key : ∀ (l : Tr α) (u : Option α) (r : Tr α) (n m : Nat), n < f + 1 →
        (cond (Nat.beq n 0) (Tr.nd l v r) (cond (Nat.beq (n % 2) 1) (Tr.nd (Tr.setF f l (n / 2) v) u r) (Tr.nd l u (Tr.setF f r (n / 2 - 1) v)))).get m = if m = n then v else (Tr.nd l u r).get m := by
      intro l u r n m h
      by_cases h0 : n = 0
      · subst h0
        simp only [beq_self, cond_true, Tr.get_nd]
        by_cases hm : m = 0
        · simp [hm]
        · simp [hm]
      · rw [beq_false h0, cond_false]
        by_cases h1 : n % 2 = 1
        · rw [h1, beq_self, cond_true, Tr.get_nd, Tr.get_nd]
          by_cases hm : m = 0
          · subst hm; rw [if_pos rfl, if_neg (by omega), if_pos rfl]
          · rw [if_neg hm, if_neg hm]
            by_cases hm1 : m % 2 = 1
            · rw [if_pos hm1, if_pos hm1, ih _ _ _ (by omega)]
              by_cases e : m = n
              · subst e; rw [if_pos rfl, if_pos rfl]
              · rw [if_neg e, if_neg (by omega)]
            · rw [if_neg hm1, if_neg hm1, if_neg (by omega)]
        · rw [beq_false h1, cond_false, Tr.get_nd, Tr.get_nd]
          by_cases hm : m = 0
          · subst hm; rw [if_pos rfl, if_neg (by omega), if_pos rfl]
          · rw [if_neg hm, if_neg hm]
            by_cases hm1 : m % 2 = 1
            · rw [if_pos hm1, if_pos hm1, if_neg (by omega)]
            · rw [if_neg hm1, if_neg hm1, ih _ _ _ (by omega)]
              by_cases e : m = n
              · subst e; rw [if_pos rfl, if_pos rfl]
              · rw [if_neg e, if_neg (by omega)]
    intro t n m h
    cases t with
    | nd l u r => exact key l u r n m h
    | lf =>
      have := key .lf none .lf n m h
      simp only [Tr.setF]
      have e : (Tr.nd (.lf : Tr α) none .lf).get m = (Tr.lf : Tr α).get m := by rw [Tr.get_nd, Tr.get_lf, Tr.get_lf, Tr.get_lf]; split <;> simp
      rw [e] at this
      exact this

theorem Tr.get_set {α : Type} (t : Tr α) (n m : Nat) (v : Option α) : (t.set n v).get m = if m = n then v else t.get m := Tr.get_setF v (n + 1) t n m (by omega)

def gset (g : Nat → Option Ob) (id : Nat) (o : Option Ob) : Nat → Option Ob := fun i => if i = id then o else g i
theorem get_put (H : Hp) (id : Nat) (o : Ob) : (H.put id o).get = gset H.get id (some o) := by funext i; simp [Hp.put, Hp.get, gset, Tr.get_set]
theorem get_kill (H : Hp) (id : Nat) : (H.kill id).get = gset H.get id none := by funext i; simp [Hp.kill, Hp.get, gset, Tr.get_set]
theorem get_new (H : Hp) (o : Ob) : (H.new o).get = gset H.get H.next (some o) := by funext i; simp [Hp.new, Hp.get, gset, Tr.get_set]

section
variable {P : Program} {E : Env} {N0 : Nat} {M : LM} {g : Nat → Option Ob} {nx : Nat}

def mset1 (M : LM) (id : Nat) (L : Loc) : LM := fun i => if i = id then some L else M i
theorem mset1_le {id : Nat} (h : M id = none) (L : Loc) : LM.le M (mset1 M id L) := fun i L' e => by
  unfold mset1
  split
  · rename_i hi; subst hi; rw [h] at e; cases e
  · exact e
theorem mset1_self (id : Nat) (L : Loc) : mset1 M id L id = some L := by simp [mset1]

theorem push_old {hp : Array Obj} {o : Obj} {b : Nat} {x : Obj} (h : hp[b]? = some x) : (hp.push o)[b]? = some x := by
  have := (Array.getElem?_eq_some_iff.1 h).1
  rw [Array.getElem?_push]
  rw [if_neg (by omega)]; exact h

/-- one object more, in a new block -/
theorem Rel.new {hp : Array Obj} (hrel : Rel P E N0 M g nx hp) {id nx' : Nat} {ob : Ob} {o : Obj} {base lim : Nat} (hid : M id = none) (hlt : id < nx') (hnx : nx ≤ nx')
    (hor : OR P (mset1 M id ⟨hp.size, base, lim⟩) ob ⟨hp.size, base, lim⟩ o) :
    Rel P E N0 (mset1 M id ⟨hp.size, base, lim⟩) (gset g id (some ob)) nx' (hp.push o) ∧ Tr1 M g hp (mset1 M id ⟨hp.size, base, lim⟩) (gset g id (some ob)) (hp.push o) := by
  have hle := mset1_le hid ⟨hp.size, base, lim⟩
  have hold : ∀ i ob', gset g id (some ob) i = some ob' → i ≠ id → g i = some ob' := fun i ob' h hi => by simpa [gset, hi] using h
  have hnew : ∀ i L, i ≠ id → mset1 M id ⟨hp.size, base, lim⟩ i = some L → M i = some L := fun i L hi h => by simpa [mset1, hi] using h
  have blk : ∀ i ob' L, g i = some ob' → M i = some L → L.block < hp.size := fun i ob' L h1 h2 => by
    obtain ⟨L', o', h3, h4, _⟩ := hrel.obj i ob' h1
    rw [h2] at h3; cases h3
    exact (Array.getElem?_eq_some_iff.1 h4).1
  constructor
  · constructor
    · intro i L h
      by_cases hi : i = id
      · subst hi; exact hlt
      · exact Nat.lt_of_lt_of_le (hrel.dom i L (hnew i L hi h)) hnx
    · intro i ob' h
      by_cases hi : i = id
      · subst hi
        simp only [gset, if_true, Option.some.injEq] at h
        subst h
        exact ⟨_, o, mset1_self _ _, by simp, hor, hrel.n0⟩
      · obtain ⟨L, o', h1, h2, h3, h4⟩ := hrel.obj i ob' (hold i ob' h hi)
        exact ⟨L, o', hle i L h1, push_old h2, h3.mono hle, h4⟩
    · intro i i' ob1 ob2 L L' h1 h2 h3 h4 hb
      by_cases hi : i = id
      · by_cases hi' : i' = id
        · rw [hi, hi']
        · subst hi
          rw [mset1_self] at h3; cases h3
          have := blk i' ob2 L' (hold i' ob2 h2 hi') (hnew i' L' hi' h4)
          simp only at hb; omega
      · by_cases hi' : i' = id
        · subst hi'
          rw [mset1_self] at h4; cases h4
          have := blk i ob1 L (hold i ob1 h1 hi) (hnew i L hi h3)
          simp only at hb; omega
        · exact hrel.inj i i' ob1 ob2 L L' (hold i ob1 h1 hi) (hold i' ob2 h2 hi') (hnew i L hi h3) (hnew i' L' hi' h4) hb
    · intro b off v h
      obtain ⟨h1, c, e, fr, x, h2, h3⟩ := hrel.ext b off v h
      exact ⟨h1, c, e, fr, x, push_old h2, h3⟩
    · simp; have := hrel.n0; omega
  · constructor
    · exact hle
    · simp
    · intro b hb _
      rw [Array.getElem?_push, if_neg (by omega)]
    · rintro b hb ⟨i, ob', L, h1, h2, h3⟩
      by_cases hi : i = id
      · subst hi; rw [mset1_self] at h2; cases h2; simp only at h3; omega
      · exact ⟨i, ob', L, hold i ob' h1 hi, hnew i L hi h2, h3⟩
    · intro b hb c e fr hc
      rw [Array.getElem?_push] at hc
      split at hc
      · cases hc; exact hor.uf rfl
      · exact hb c e fr hc

/-- an object turned in place -/
theorem Rel.upd {hp hp' : Array Obj} (hrel : Rel P E N0 M g nx hp) {id : Nat} {ob0 ob : Ob} {L : Loc} {o : Obj} (hg : g id = some ob0) (hL : M id = some L)
    (hsz : hp'.size = hp.size) (hself : hp'[L.block]? = some o) (hother : ∀ b, b ≠ L.block → hp'[b]? = hp[b]?) (hor : OR P M ob L o) :
    Rel P E N0 M (gset g id (some ob)) nx hp' ∧ Tr1 M g hp M (gset g id (some ob)) hp' := by
  have hold : ∀ i ob', gset g id (some ob) i = some ob' → i ≠ id → g i = some ob' := fun i ob' h hi => by simpa [gset, hi] using h
  have hany : ∀ i ob', gset g id (some ob) i = some ob' → ∃ ob1, g i = some ob1 := fun i ob' h => by
    by_cases hi : i = id
    · subst hi; exact ⟨ob0, hg⟩
    · exact ⟨ob', hold i ob' h hi⟩
  have hn0 : N0 ≤ L.block := by
    obtain ⟨L', o', h1, _, _, h4⟩ := hrel.obj id ob0 hg
    rw [hL] at h1; cases h1; exact h4
  constructor
  · constructor
    · exact hrel.dom
    · intro i ob' h
      by_cases hi : i = id
      · subst hi
        simp only [gset, if_true, Option.some.injEq] at h
        subst h
        exact ⟨L, o, hL, hself, hor, hn0⟩
      · obtain ⟨L', o', h1, h2, h3, h4⟩ := hrel.obj i ob' (hold i ob' h hi)
        refine ⟨L', o', h1, ?_, h3, h4⟩
        rw [hother _ (fun e => hi (hrel.inj i id ob' ob0 L' L (hold i ob' h hi) hg h1 hL e))]
        exact h2
    · intro i i' ob1 ob2 L1 L2 h1 h2 h3 h4 hb
      obtain ⟨o1, h1'⟩ := hany i ob1 h1
      obtain ⟨o2, h2'⟩ := hany i' ob2 h2
      exact hrel.inj i i' o1 o2 L1 L2 h1' h2' h3 h4 hb
    · intro b off v h
      obtain ⟨h1, c, e, fr, x, h2, h3⟩ := hrel.ext b off v h
      exact ⟨h1, c, e, fr, x, by rw [hother b (by omega)]; exact h2, h3⟩
    · rw [hsz]; exact hrel.n0
  · constructor
    · exact LM.le.refl M
    · omega
    · intro b _ hn
      exact hother b (fun e => hn ⟨id, ob0, L, hg, hL, e.symm⟩)
    · rintro b _ ⟨i, ob', L', h1, h2, h3⟩
      obtain ⟨o1, h1'⟩ := hany i ob' h1
      exact ⟨i, o1, L', h1', h2, h3⟩
    · intro b hu c e fr hc
      by_cases hbl : b = L.block
      · rw [hbl, hself] at hc; cases hc; exact hor.uf rfl
      · rw [hother b hbl] at hc; exact hu c e fr hc

/-- an object that nobody looks at any more, its block taken over by a new one -/
theorem Rel.take {hp hp' : Array Obj} (hrel : Rel P E N0 M g nx hp) {id id' nx' : Nat} {ob0 ob : Ob} {L L' : Loc} {o : Obj} (hg : g id = some ob0) (hL : M id = some L) (hid : M id' = none) (hlt : id' < nx') (hnx : nx ≤ nx')
    (hb : L'.block = L.block) (hsz : hp'.size = hp.size) (hself : hp'[L.block]? = some o) (hother : ∀ b, b ≠ L.block → hp'[b]? = hp[b]?) (hor : OR P (mset1 M id' L') ob L' o) :
    Rel P E N0 (mset1 M id' L') (gset (gset g id none) id' (some ob)) nx' hp' ∧ Tr1 M g hp (mset1 M id' L') (gset (gset g id none) id' (some ob)) hp' := by
  have hne : id ≠ id' := by intro e; subst e; rw [hL] at hid; cases hid
  have hle := mset1_le hid L'
  have hold : ∀ i ob', gset (gset g id none) id' (some ob) i = some ob' → i ≠ id' → i ≠ id ∧ g i = some ob' := fun i ob' h hi => by
    simp only [gset, hi, if_false] at h
    by_cases e : i = id
    · simp [e] at h
    · exact ⟨e, by simpa [e] using h⟩
  have hnew : ∀ i L, i ≠ id' → mset1 M id' L' i = some L → M i = some L := fun i L hi h => by simpa [mset1, hi] using h
  have hn0 : N0 ≤ L.block := by
    obtain ⟨L', o', h1, _, _, h4⟩ := hrel.obj id ob0 hg
    rw [hL] at h1; cases h1; exact h4
  constructor
  · constructor
    · intro i L h
      by_cases hi : i = id'
      · subst hi; exact hlt
      · exact Nat.lt_of_lt_of_le (hrel.dom i L (hnew i L hi h)) hnx
    · intro i ob' h
      by_cases hi : i = id'
      · subst hi
        simp only [gset, if_true, Option.some.injEq] at h
        subst h
        exact ⟨L', o, mset1_self _ _, by rw [hb]; exact hself, hor, by rw [hb]; exact hn0⟩
      · obtain ⟨hi2, hgi⟩ := hold i ob' h hi
        obtain ⟨L1, o', h1, h2, h3, h4⟩ := hrel.obj i ob' hgi
        refine ⟨L1, o', hle i L1 h1, ?_, h3.mono hle, h4⟩
        rw [hother _ (fun e => hi2 (hrel.inj i id ob' ob0 L1 L hgi hg h1 hL e))]
        exact h2
    · intro i i' ob1 ob2 L1 L2 h1 h2 h3 h4 he
      by_cases hi : i = id'
      · by_cases hi' : i' = id'
        · rw [hi, hi']
        · subst hi
          rw [mset1_self] at h3; cases h3
          obtain ⟨a1, a2⟩ := hold i' ob2 h2 hi'
          exact absurd (hrel.inj i' id ob2 ob0 L2 L a2 hg (hnew i' L2 hi' h4) hL (by rw [← he, hb])) a1
      · by_cases hi' : i' = id'
        · subst hi'
          rw [mset1_self] at h4; cases h4
          obtain ⟨a1, a2⟩ := hold i ob1 h1 hi
          exact absurd (hrel.inj i id ob1 ob0 L1 L a2 hg (hnew i L1 hi h3) hL (by rw [he, hb])) a1
        · exact hrel.inj i i' ob1 ob2 L1 L2 (hold i ob1 h1 hi).2 (hold i' ob2 h2 hi').2 (hnew i L1 hi h3) (hnew i' L2 hi' h4) he
    · intro b off v h
      obtain ⟨h1, c, e, fr, x, h2, h3⟩ := hrel.ext b off v h
      exact ⟨h1, c, e, fr, x, by rw [hother b (by omega)]; exact h2, h3⟩
    · rw [hsz]; exact hrel.n0
  · constructor
    · exact hle
    · omega
    · intro b _ hn
      exact hother b (fun e => hn ⟨id, ob0, L, hg, hL, e.symm⟩)
    · rintro b _ ⟨i, ob', L1, h1, h2, h3⟩
      by_cases hi : i = id'
      · subst hi; rw [mset1_self] at h2; cases h2
        exact ⟨id, ob0, L, hg, hL, by rw [← h3, hb]⟩
      · exact ⟨i, ob', L1, (hold i ob' h1 hi).2, hnew i L1 hi h2, h3⟩
    · intro b hu c e fr hc
      by_cases hbl : b = L.block
      · rw [hbl, hself] at hc; cases hc; exact hor.uf rfl
      · rw [hother b hbl] at hc; exact hu c e fr hc

/-- an object that nobody looks at any more -/
theorem Rel.sub {hp : Array Obj} (hrel : Rel P E N0 M g nx hp) {g' : Nat → Option Ob} (h : ∀ id ob, g' id = some ob → g id = some ob) : Rel P E N0 M g' nx hp :=
  ⟨hrel.dom, fun id ob e => hrel.obj id ob (h id ob e), fun id id' ob ob' L L' a b => hrel.inj id id' ob ob' L L' (h _ _ a) (h _ _ b), hrel.ext, hrel.n0⟩

/-! zero cells -/
theorem VRL.flatten {z : List V} {zs : List Value} (h : VRL M z zs) : ∀ n : Nat, VRL M (List.replicate n z).flatten (List.replicate n zs).flatten
  | 0 => rfl
  | n + 1 => by
    simp only [List.replicate_succ, List.flatten_cons]
    exact h.append (VRL.flatten h n)

theorem flatten_get (zs : List Value) (hz : zs ≠ []) : ∀ (n i : Nat), i < n * zs.length → (List.replicate n zs).flatten[i]? = zs[i % zs.length]?
  | 0, i, h => by simp at h
  | n + 1, i, h => by
    have hpos : 0 < zs.length := List.length_pos_iff.2 hz
    simp only [List.replicate_succ, List.flatten_cons, List.getElem?_append]
    split
    · rename_i hi; rw [Nat.mod_eq_of_lt hi]
    · rename_i hi
      rw [flatten_get zs hz n (i - zs.length) (by rw [Nat.succ_mul] at h; omega), ← Nat.mod_eq_sub_mod (by omega)]

theorem zeros_eq (zs : Array Value) (n : Nat) : ((Array.range (n * zs.size)).map (fun i => zs[i % zs.size]!)) = (List.replicate n zs.toList).flatten.toArray := by
  apply Array.ext'
  simp only [Array.toList_map, Array.toList_range]
  by_cases hz : zs.toList = []
  · have : zs = #[] := Array.ext' (by simpa using hz)
    subst this; simp
  · apply List.ext_getElem?
    intro i
    have hlen : (List.replicate n zs.toList).flatten.length = n * zs.size := by simp
    by_cases hi : i < n * zs.size
    · rw [flatten_get zs.toList hz n i (by simpa using hi)]
      have hpos : 0 < zs.size := by have := List.length_pos_iff.2 hz; simpa using this
      have hm : i % zs.size < zs.size := Nat.mod_lt _ hpos
      simp [List.getElem?_map, List.getElem?_range hi, hm]
    · rw [List.getElem?_eq_none (by simpa using (by omega : n * zs.size ≤ i)), List.getElem?_eq_none (by rw [hlen]; omega)]

theorem zeroCells_eq (zs : Array Value) (n : Nat) : Builtin.zeroCells zs n = (List.replicate n zs.toList).flatten.toArray := zeros_eq zs n

theorem wrap_nat {n : Nat} (h : n < 2 ^ 63) : IntKind.i64.wrap (n : Int) = n := by
  have e : (n : Int) % (2 ^ 64 : Int) = n := Int.emod_eq_of_lt (by omega) (by omega)
  have hlt : ¬ ((n : Int) ≥ 2 ^ 63) := by omega
  simp only [IntKind.wrap, IntKind.bits, IntKind.signed, e]
  rw [if_neg (by simpa using hlt)]

theorem zeroIs_spec {t : Nat} {z : List V} (h : zeroIs P t z = true) : ∃ i zv, P.info? t = some i ∧ i.zero = some zv ∧ chkVs z zv.cells.toList = true := by
  unfold zeroIs at h
  split at h
  · rename_i i hi
    split at h
    · rename_i zv hz; exact ⟨i, zv, hi, hz, h⟩
    · cases h
  · cases h

theorem or_cells {c : Array Value} {e : TypeId} {l : List V} {b : Nat} (h : VRL M l c.toList) : OR P M (.cells l) ⟨b, 0, c.size⟩ (.cells c e (0, 0)) := by
  have hlen := h.length
  simp at hlen
  refine ⟨c, e, rfl, rfl, by simp; omega, fun i v hi => ?_⟩
  obtain ⟨x, hx, hv⟩ := h.get i v hi
  exact ⟨x, by simpa using hx, hv⟩

theorem new_sound {r : Regs} {a : Act} {w : World} {o : Oper} {ao : AOp} {f : Nat → V} {ob : Ob} (hc : chkOp P o ao = true) (hk : ao.kind = .new) (he : newOp r ao = some (f, ob)) (hr : RR M r a.tmps) :
    ∃ obj x lim, (execOp a.eval o).run P w = .ok (.value x) (w.alloc obj) ∧
      ∀ M' id, LM.le M M' → M' id = some ⟨w.heap.size, 0, lim⟩ → VR M' (f id) x ∧ OR P M' ob ⟨w.heap.size, 0, lim⟩ obj := by
  cases ao <;> simp only [AOp.kind] at hk <;> try (cases hk; done)
  case alloc z =>
    simp only [chkOp] at hc
    split at hc
    · rename_i t hop
      simp only [newOp, Option.some.injEq, Prod.mk.injEq] at he
      obtain ⟨rfl, rfl⟩ := he
      obtain ⟨i, zv, hi, hz, hck⟩ := zeroIs_spec hc
      refine ⟨.cells zv.cells t, .pointer (some ⟨w.heap.size, 0, none⟩), zv.cells.size, ?_, fun M' id hle hM => ⟨⟨_, hM, rfl⟩, or_cells (chkVs_sound M' hck)⟩⟩
      simp [execOp, hop, Instr.alloc, zeroValue, run_typeInfo w hi, hz, newVar, newRow, Result.andThen]
    · cases hc
  case box y =>
    simp only [chkOp] at hc
    split at hc
    · rename_i t x hop
      simp only [newOp, Option.bind_eq_some_iff] at he
      obtain ⟨v, hv, he⟩ := he
      simp only [Option.some.injEq, Prod.mk.injEq] at he
      obtain ⟨rfl, rfl⟩ := he
      have hvx := (ev_sound hc hv hr).cells
      refine ⟨.cells (a.eval x).cells t, .pointer (some ⟨w.heap.size, 0, none⟩), (a.eval x).cells.size, ?_, fun M' id hle hM => ⟨⟨_, hM, rfl⟩, or_cells (hvx.mono hle)⟩⟩
      simp [execOp, hop, Instr.box, newVar, newRow, Result.andThen]
    · cases hc
  case bslice len z qs =>
    simp only [chkOp] at hc
    split at hc
    · rename_i t n ps hop
      simp only [Bool.and_eq_true, Nat.beq_eq] at hc
      obtain ⟨rfl, hc⟩ := hc
      split at hc
      · rename_i e hd
        split at hc
        · rename_i i hi
          simp only [Bool.and_eq_true, Nat.ble_eq] at hc
          obtain ⟨⟨hsz, hps⟩, hz⟩ := hc
          simp only [newOp, Option.bind_eq_some_iff] at he
          obtain ⟨l, hl, he⟩ := he
          simp only [Option.some.injEq, Prod.mk.injEq] at he
          obtain ⟨rfl, rfl⟩ := he
          have hcell : i.size = P.cellsOf e := by simp [Program.cellsOf, hi]
          obtain ⟨zc, hzc, hzrun⟩ : ∃ zc : Array Value, VRL M z ((Array.range (n * P.cellsOf e)).map (fun i => zc[i % zc.size]!)).toList ∧
              (n * P.cellsOf e = 0 ∨ ∃ zv, (zeroValue e).run P w = .ok zv w ∧ zc = zv.cells) := by
            by_cases h0 : n * P.cellsOf e = 0
            · refine ⟨#[], ?_, .inl h0⟩
              split at hz
              · rename_i zv hiz
                simp only [Bool.and_eq_true, Nat.beq_eq] at hz
                have := chkVs_sound M hz.2
                have hl0 := this.length
                simp [hz.1, h0] at hl0
                rw [h0]
                have : z = [] := List.eq_nil_of_length_eq_zero (by simpa using hl0.symm)
                subst this; simp [VRL]
              · simp only [Bool.and_eq_true, List.isEmpty_iff] at hz
                rw [hz.2, h0]; simp [VRL]
            · split at hz
              · rename_i zv hiz
                simp only [Bool.and_eq_true, Nat.beq_eq] at hz
                refine ⟨zv.cells, ?_, .inr ⟨zv, by simp [zeroValue, run_typeInfo w hi, hiz], rfl⟩⟩
                rw [← hz.1, zeros_eq]
                exact chkVs_sound M hz.2
              · simp only [Bool.and_eq_true, Nat.beq_eq] at hz; exact absurd hz.1 h0
          obtain ⟨arr', hf, hv⟩ := fill_sound (M := M) (r := r) (a := a) (fun i => some (i * P.cellsOf e, P.cellsOf e)) (chkPartsA (P.cellsOf e))
            (fun p ps => rfl) (fun q qs => by cases q; rfl)
            (fun i x ps off n y qs h => by
              simp only [chkPartsA, Bool.and_eq_true, Nat.beq_eq] at h
              obtain ⟨⟨⟨h1, h2⟩, h3⟩, h4⟩ := h
              exact ⟨by rw [h1, h2], h3, h4⟩)
            hps hl hr hzc
          refine ⟨.cells arr' e, .slice (some ⟨w.heap.size, 0, none⟩) n n, arr'.size, ?_, fun M' id hle hM => ⟨⟨_, hM, rfl⟩, or_cells (hv.mono hle)⟩⟩
          have hn24 : ¬ (n * P.cellsOf e > 2 ^ 24) := by omega
          by_cases h0 : n * P.cellsOf e = 0
          · have hf0 : Instr.fill (fun i => some (i * P.cellsOf e, P.cellsOf e)) #[] (ps.toList.map fun x => (x.fst, a.eval x.snd)) = some arr' := by simpa [h0, show Array.range 0 = #[] from rfl] using hf
            simp [execOp, hop, Instr.buildSlice, run_underlying hd, run_sizeOf w hi, h0, show Array.range 0 = #[] from rfl, hf0, newRow, Result.andThen]
          · rcases hzrun with h | ⟨zv, hzv, rfl⟩
            · exact absurd h h0
            · have hf0 : Instr.fill (fun i => some (i * P.cellsOf e, P.cellsOf e)) ((Array.range (n * P.cellsOf e)).map (fun i => zv.cells[i % zv.cells.size]!)) (ps.toList.map fun x => (x.fst, a.eval x.snd)) = some arr' := hf
              simp [execOp, hop, Instr.buildSlice, run_underlying hd, run_sizeOf w hi, hn24, h0, hzv, hf0, newRow, Result.andThen]
        · cases hc
      · cases hc
    · cases hc
  case mkmap =>
    simp only [chkOp] at hc
    split at hc
    · rename_i t hop
      simp only [newOp, Option.some.injEq, Prod.mk.injEq] at he
      obtain ⟨rfl, rfl⟩ := he
      refine ⟨.map #[] 0, .map (some w.heap.size), 0, ?_, fun M' id hle hM => ⟨⟨_, hM, rfl⟩, ⟨#[], 0, rfl, rfl⟩⟩⟩
      simp [execOp, hop, Instr.makeMap, Result.andThen]
    · cases hc
  case mkslice bytes z l' c' =>
    simp only [chkOp] at hc
    split at hc
    · rename_i t l c hop
      simp only [Bool.and_eq_true] at hc
      obtain ⟨⟨hs, hl⟩, hcc⟩ := hc
      cases hse : sliceOf P t with
      | none => simp [hse] at hs
      | some e =>
        simp only [hse, Bool.and_eq_true] at hs
        obtain ⟨hb, hz⟩ := hs
        have hd := sliceOf_some hse
        unfold oneZero at hz
        simp only [Bool.and_eq_true] at hz
        obtain ⟨i, zv, hi, hiz, hck⟩ := zeroIs_spec hz.1
        obtain ⟨hcell, _⟩ := sizeIs_cells hz.2
        have hbytes : i.bytes = bytes := by unfold bytesIs at hb; simpa [hi] using hb
        have hzl := chkVs_sound M hck
        have hzs : zv.cells.size = P.cellsOf e := by have := hzl.length; rw [hcell]; simpa using this
        simp only [newOp, Option.bind_eq_some_iff] at he
        obtain ⟨lv, hlv, ln, hln, cv, hcv, cn, hcn, he⟩ := he
        cases hcond : (Nat.ble ln cn && Nat.ble (cn * bytes) (2 ^ 47) && Nat.ble cn (2 ^ 40)) with
        | false => simp [hcond] at he
        | true =>
          simp only [hcond, cond_true, Option.some.injEq, Prod.mk.injEq] at he
          simp only [Bool.and_eq_true, Nat.ble_eq] at hcond
          obtain ⟨rfl, rfl⟩ := he
          obtain ⟨⟨h1, h2⟩, h3⟩ := hcond
          obtain ⟨k1, hk1⟩ := natOf_int hln (ev_sound hl hlv hr)
          obtain ⟨k2, hk2⟩ := natOf_int hcn (ev_sound hcc hcv hr)
          have w1 : IntKind.i64.wrap (ln : Int) = ln := wrap_nat (by omega)
          have w2 : IntKind.i64.wrap (cn : Int) = cn := wrap_nat (by omega)
          have hmul : ((bytes : Int) * (cn : Int)) ≤ 2 ^ 48 := by
            have : bytes * cn ≤ 2 ^ 47 := by rw [Nat.mul_comm]; exact h2
            have : ((bytes * cn : Nat) : Int) ≤ 2 ^ 47 := by exact_mod_cast this
            rw [Int.natCast_mul] at this; omega
          refine ⟨.cells (List.replicate cn zv.cells.toList).flatten.toArray e, .slice (some ⟨w.heap.size, 0, none⟩) ln cn, (List.replicate cn zv.cells.toList).flatten.toArray.size, ?_, fun M' id hle hM => ⟨⟨_, hM, rfl⟩, or_cells (by simpa using (hzl.mono hle).flatten cn)⟩⟩
          have t1 : ¬ ((cn : Int) < 0) := by omega
          have t2 : ¬ ((bytes : Int) * (cn : Int) > 2 ^ 48) := by omega
          have t3 : ¬ ((ln : Int) < 0) := by omega
          have t4 : ¬ ((ln : Int) > (cn : Int)) := by omega
          have tl : (decide ((cn : Int) < 0) || decide ((bytes : Int) * (cn : Int) > 2 ^ 48) || decide ((ln : Int) < 0) || decide ((ln : Int) > (cn : Int))) = false := by simp [t1, t3]; omega
          by_cases h0 : cn * P.cellsOf e = 0
          · have hnil : (List.replicate cn zv.cells.toList).flatten = [] := by
              apply List.eq_nil_of_length_eq_zero; simp [hzs, h0]
            rw [hnil]
            simp only [execOp, hop, Sem.run_bind, Instr.makeSlice, hk1, hk2, asInt, asIntOf, run_underlying hd, Result.andThen_ok, Sem.run_pure, run_typeInfo w hi, hbytes, w1, w2, tl, Bool.false_eq_true, if_false, run_askRoom, run_sizeOf w hi]
            simp [h0, show Array.range 0 = #[] from rfl, newRow, Result.andThen]
          · have hzv : (zeroValue e).run P w = .ok zv w := by simp [zeroValue, run_typeInfo w hi, hiz]
            have hze := zeros_eq zv.cells cn
            rw [hzs] at hze
            simp only [execOp, hop, Sem.run_bind, Instr.makeSlice, hk1, hk2, asInt, asIntOf, run_underlying hd, Result.andThen_ok, Sem.run_pure, run_typeInfo w hi, hbytes, w1, w2, tl, Bool.false_eq_true, if_false, run_askRoom, run_sizeOf w hi]
            simp [h0, hzv, hzs, hze, newRow, Result.andThen]
    · cases hc
end
end Go.Vm
