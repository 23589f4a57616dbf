/-
  Contracts of functions on machines, second part. Conditions: none beyond those that each statement names.
-/
import Derived.Test.YtflgecobobgpcaaGreatPCW
import Derived.Test.YtflgecobobgpcaaGreatPVH
import Derived.Test.YtflgecobobgpcaaGreatPPA
namespace Go.Vm.Code
open Go.Vm
structure Std (E : Env) : Prop where
  funcs : E.funcs = tbl.get
  prim : ∀ f, f ≠ 12 → E.prim f = none
  aw : E.prim 12 = some (fun args H => match args with | [] => some (.bool true, H) | _ => none)
section
variable {E : Env}
theorem Std.fn (S : Std E) {n : Nat} {A : AFunc} (h : tbl.get n = some A) : E.funcs n = some A := by rw [S.funcs]; exact h
theorem Std.call (S : Std E) {f np nt : Nat} {res : List RV} {body : AC} {args : List V} {H : Hp} {Q : V → Hp → Prop} (hn : f ≠ 12) (hf : tbl.get f = some ⟨np, nt, res, body⟩) (ha : args.length = np)
    (h : Runs E none body (zipRegs 0 args) H (fun o r' H' => (∀ i, o ≠ .exit i) ∧ ∃ vs, results E r' H' res = some vs ∧ Q (retOf vs) H')) : CallR E f args H Q :=
  CallR.of (S.prim f hn) (S.fn hf) ha h
theorem Std.awake (S : Std E) (H : Hp) : CallR E 12 [] H (fun w H' => w = .bool true ∧ H' = H) :=
  ⟨.bool true, H, ⟨rfl, rfl⟩, 0, fun n _ => by simp only [callF, S.aw]⟩
theorem Std.f64 (S : Std E) : Fs64 E := ⟨S.prim, S.fn rfl, S.fn rfl, S.fn rfl, S.fn rfl, S.fn rfl⟩
theorem Std.r (S : Std E) : FsR E := ⟨S.f64, S.fn rfl, S.fn rfl, S.fn rfl, S.fn rfl⟩
theorem Std.q (S : Std E) : FsQ E := ⟨S.prim, S.fn rfl, S.fn rfl⟩
/-- how a call ends -/
theorem fin {o : Out} {r' : Regs} {H' : Hp} {res : List RV} {vs : List V} {Q : V → Hp → Prop} (ho : ∀ i, o ≠ .exit i) (hv : results E r' H' res = some vs) (h : Q (retOf vs) H') : (∀ i, o ≠ .exit i) ∧ ∃ vs, results E r' H' res = some vs ∧ Q (retOf vs) H' := ⟨ho, vs, hv, h⟩
theorem nx {o : Out} (h : o = .ret ∨ o = .normal) : ∀ i, o ≠ .exit i := by rcases h with rfl | rfl <;> exact fun i h => by cases h
theorem nr (i : Nat) : Out.ret ≠ .exit i := fun h => by cases h
end
end Go.Vm.Code

namespace Go.Vm.Code
open Go.Vm
variable {E : Env}

theorem idxF (S : Std E) {n : Nat} (hn : n ≠ 12) (hg : tbl.get n = some c154) {α : Type} {R : Hp → V → α → Prop} (hm : Mono R) {v fv : V} {l : List α} {H : Hp} (hl : Seq 1 (ValAt E R) H v l) (p : α → Bool)
    (hp : ∀ (x : α) (u : V) (H1 : Hp), x ∈ l → Ext H H1 → R H1 u x → ValR E fv [u] H1 (fun w H2 => w = .bool (p x) ∧ Ext H1 H2)) :
    CallR E n [v, fv] H (fun w H' => (∃ m : Int, w = .int .i64 m ∧ decide (m ≥ 0) = l.any p) ∧ Ext H H') := by
  refine S.call hn hg rfl ?_
  have hlen := hl.1
  refine Sq <| Rg <| O1 rfl <| On <| Sq <| Sq <| Rg <| O1 rfl <| O1 (lnL rfl ‹_›) <| O1 rfl <| On <| Bk <| ?_
  refine Runs.loopS (σ := Nat) (fun i => [(0, v), (1, fv), (7, .int .i64 l.length), (8, .int .i64 i)]) (fun i H' => i ≤ l.length ∧ Ext H H' ∧ (l.take i).any p = false) (fun i => l.length - i) ?_ 0 _ _ rfl ⟨Nat.zero_le _, Ext.refl _, rfl⟩
  rintro i H1 ⟨hi, hX, hno⟩
  refine Sq <| Rg <| O1 rfl <| On <| Sq <| ?_
  refine Runs.cond rfl (fun hc => ?_) (fun hc => ?_)
  · have hlt : i < l.length := by simpa using hc
    have hx : l[i]? = some l[i] := List.getElem?_eq_getElem hlt
    obtain ⟨x, hc, hr⟩ := hl.val hx
    refine Sk <| Sq <| Bk <| Sq <| Rg <| O1 rfl <| O1 rfl <| On <| Sq <| Rg <| O1 rfl <| O1 rfl <| O1 rfl <| O1 (ixE rfl rfl (Seq.len ‹_›) (by omega)) <| O1 (ldP rfl (Pers.mono ‹_› ‹_›)) <|
      ?_
    refine OpsR.call rfl rfl (ValR.mono (hp l[i] x H1 (List.getElem_mem hlt) hX (hm _ _ _ _ hX hr)) ?_)
    rintro _ H2 ⟨rfl, hX2⟩
    have hXX := hX.trans hX2
    have htk : (l.take (i + 1)).any p = p l[i] := by rw [List.take_add_one, hx, List.any_append, hno]; simp
    refine On <| ?_
    cases hb : p l[i] with
    | true =>
      refine CT rfl <| Sq <| Rg <| O1 rfl <| O1 rfl <| On <| Rt <| ?_
      exact ⟨nr, _, rfl, ⟨_, rfl, by rw [List.any_eq_true.2 ⟨l[i], List.getElem_mem hlt, hb⟩]; simp⟩, hXX⟩
    | false =>
      refine CF rfl <| Sk <| Rg <| O1 (addN rfl rfl (by omega)) <| O1 rfl <| On <| ?_
      exact ⟨i + 1, Nat.sub_lt_sub_left hlt (Nat.lt_succ_self i), rfl, by omega, hXX, by rw [htk, hb]⟩
  · have hlt : ¬ i < l.length := by simpa using hc
    refine Xt <| Sq <| Rg <| O1 rfl <| On <| Rt <| ?_
    rw [show l.take i = l from List.take_of_length_le (by omega)] at hno
    exact ⟨nr, _, rfl, ⟨_, rfl, by rw [hno]; rfl⟩, hX⟩

/-- slices.ContainsFunc, by the number of the slices.IndexFunc that it calls -/
theorem contF (S : Std E) {n k : Nat} (hn : n ≠ 12) (hk : k ≠ 12) (hg : tbl.get n = some ⟨2, 9, [.tmp 4], .seq (g [o 4 (.mv (.c (.bool false)))]) (.seq (g [o 5 (.mv (.t 0)), o 6 (.mv (.t 1)), o 7 (.call (.c (.fn k [])) [(.t 5), (.t 6)]), o 8 (.bin .geq (.t 7) (.c (i 0))), o 4 (.mv (.t 8))]) .ret)⟩)
    (hgk : tbl.get k = some c154) {α : Type} {R : Hp → V → α → Prop} (hm : Mono R) {v fv : V} {l : List α} {H : Hp} (hl : Seq 1 (ValAt E R) H v l) (p : α → Bool)
    (hp : ∀ (x : α) (u : V) (H1 : Hp), x ∈ l → Ext H H1 → R H1 u x → ValR E fv [u] H1 (fun w H2 => w = .bool (p x) ∧ Ext H1 H2)) :
    CallR E n [v, fv] H (fun w H' => w = .bool (l.any p) ∧ Ext H H') := by
  refine S.call hn hg rfl ?_
  refine Sq <| Rg <| O1 rfl <| On <| Sq <| Rg <| O1 rfl <| O1 rfl <| ?_
  refine OpsR.call rfl rfl (ValR.fn (CallR.mono (idxF S hk hgk hm hl p hp) ?_))
  rintro _ H' ⟨⟨m, rfl, hm⟩, hX⟩
  refine O1 rfl <| O1 rfl <| On <| Rt <| ?_
  exact ⟨nr, _, rfl, by rw [← hm]; rfl, hX⟩

theorem I1.vals {H : Hp} {v : V} {l : List Int} (h : I1 E H v l) : Seq 1 (ValAt E (fun _ u n => u = .int .i64 n)) H v l := ⟨h.1, h.2.1, fun i x hx => ⟨_, h.2.2 i x hx, rfl⟩⟩

theorem g64 (S : Std E) {v : V} {l : List Int} {H : Hp} (hl : I1 E H v l) (lo hi : Int) : CallR E 64 [v, .int .i64 lo, .int .i64 hi] H (fun w H' => w = .bool (l.all (inR lo hi)) ∧ Ext H H') := by
  refine S.call (by decide) (f := 64) rfl rfl ?_
  have hA := At.new H (.cells [.int .i64 lo])
  have hX1 := Ext.new H (.cells [.int .i64 lo])
  have hB := At.new (H.new (.cells [.int .i64 lo])) (.cells [.int .i64 hi])
  have hX2 := Ext.new (H.new (.cells [.int .i64 lo])) (.cells [.int .i64 hi])
  have hA2 := hX2.at hA
  refine Sq <| Rg <| O1 rfl <| O1 rfl <| O1 rfl <| On <| Sq <| Rg <| O1 rfl <| O1 rfl <| ?_
  refine OpsR.call rfl rfl (ValR.fn (CallR.mono (contF S (n := 105) (k := 154) (by decide) (by decide) rfl rfl (fun _ _ _ _ _ h => h) (Seq.mono (ValAt.mono (fun _ _ _ _ _ h => h)) (I1.vals hl) (hX1.trans hX2)) (fun x => !inR lo hi x) ?_) ?_))
  · rintro x u H1 _ hX rfl
    refine ValR.fn (CallR.mono (s106 S.prim (S.fn rfl) (S.fn rfl) (hX.at hA2) (hX.at hB)) ?_)
    rintro _ _ ⟨rfl, rfl⟩
    exact ⟨rfl, Ext.refl _⟩
  · rintro _ H' ⟨rfl, hX⟩
    refine O1 rfl <| O1 rfl <| On <| Rt <| ?_
    refine ⟨nr, _, rfl, ?_, (hX1.trans hX2).trans hX⟩
    show V.bool (!(l.any fun x => !inR lo hi x)) = _
    rw [List.not_any_eq_all_not]
    simp

/-- cmp.Compare of numbers -/
def cmpI (a b : Int) : Int := if a < b then -1 else if a > b then 1 else 0
theorem g99 (S : Std E) (a b : Int) (H : Hp) : CallR E 99 [.int .i64 a, .int .i64 b] H (fun w H' => w = .int .i64 (cmpI a b) ∧ H' = H) := by
  have t152 : ∀ a : Int, CallR E 152 [.int .i64 a] H (fun w H' => w = .bool false ∧ H' = H) := by
    intro a
    refine S.call (by decide) (f := 152) rfl rfl ?_
    refine Sq <| Rg <| O1 rfl <| On <| Sq <| Rg <| O1 rfl <| O1 rfl <| O1 rfl <| O1 rfl <| On <| Rt <| ?_
    exact ⟨nr, _, rfl, by show V.bool (a != a) = _; simp, rfl⟩
  refine S.call (by decide) (f := 99) rfl rfl ?_
  refine Sq <| Rg <| O1 rfl <| On <| Sq <| Rg <| O1 rfl <| ?_
  refine OpsR.call rfl rfl (ValR.fn (CallR.mono (t152 a) ?_))
  rintro _ H' ⟨rfl, e⟩
  subst e
  refine O1 rfl <| On <| Sq <| Rg <| O1 rfl <| ?_
  refine OpsR.call rfl rfl (ValR.fn (CallR.mono (t152 b) ?_))
  rintro _ H' ⟨rfl, e⟩
  subst e
  refine O1 rfl <| On <| Sq <| Sq <| Rg <| O1 rfl <| On <| CF rfl <| Sk <| Sq <| Sq <| Rg <| O1 rfl <| On <| CF rfl <| Sk <| Sq <| Sq <| Rg <| O1 rfl <| O1 rfl <| O1 rfl <| On <| ?_
  refine Runs.cond rfl (fun hc => ?_) (fun hc => ?_)
  · have hc : a < b := of_decide_eq_true hc
    refine Sq <| Rg <| O1 rfl <| On <| Rt <| ?_
    exact ⟨nr, _, rfl, by simp only [cmpI, if_pos hc]; rfl, rfl⟩
  · have hc : ¬ a < b := of_decide_eq_false hc
    refine Sk <| Sq <| Sq <| Rg <| O1 rfl <| O1 rfl <| O1 rfl <| On <| ?_
    refine Runs.cond rfl (fun hd => ?_) (fun hd => ?_)
    · have hd : a > b := of_decide_eq_true hd
      refine Sq <| Rg <| O1 rfl <| On <| Rt <| ?_
      exact ⟨nr, _, rfl, by simp only [cmpI, if_neg hc, if_pos hd]; rfl, rfl⟩
    · have hd : ¬ a > b := of_decide_eq_false hd
      refine Sk <| Sq <| Rg <| O1 rfl <| On <| Rt <| ?_
      exact ⟨nr, _, rfl, by simp only [cmpI, if_neg hc, if_neg hd]; rfl, rfl⟩

/-- slices.Compare of numbers -/
def cmpL : List Int → List Int → Int
  | [], [] => 0
  | [], _ :: _ => -1
  | _ :: _, [] => 1
  | a :: as, b :: bs => if cmpI a b ≠ 0 then cmpI a b else cmpL as bs
theorem g100 (S : Std E) {v w : V} {l m : List Int} {H : Hp} (hl : I1 E H v l) (hm : I1 E H w m) : CallR E 100 [v, w] H (fun u H' => u = .int .i64 (cmpL l m) ∧ H' = H) := by
  refine S.call (by decide) (f := 100) rfl rfl ?_
  have hlen := hl.1
  refine Sq <| Rg <| O1 rfl <| On <| Sq <| Sq <| Rg <| O1 rfl <| O1 (lnL rfl ‹_›) <| O1 rfl <| On <| Bk <| ?_
  refine Runs.loopS (σ := Nat) (fun i => [(0, v), (1, w), (9, v), (10, .int .i64 l.length), (11, .int .i64 i)]) (fun i H' => i ≤ l.length ∧ i ≤ m.length ∧ H' = H ∧ cmpL l m = cmpL (l.drop i) (m.drop i)) (fun i => l.length - i) ?_ 0 _ _ rfl ⟨Nat.zero_le _, Nat.zero_le _, rfl, rfl⟩
  rintro i H1 ⟨hi, hi2, rfl, hno⟩
  refine Sq <| Rg <| O1 rfl <| On <| Sq <| ?_
  refine Runs.cond rfl (fun hc => ?_) (fun hc => ?_)
  · have hlt : i < l.length := by simpa using hc
    refine Sk <| Sq <| Bk <| Sq <| Rg <| O1 rfl <| O1 (ixL rfl rfl ‹_› ‹_›) <| O1 (ldI rfl ‹_› ‹_›) <| O1 rfl <| O1 rfl <| On <| Sq <| Sq <| Rg <| O1 rfl <| O1 rfl <| O1 (lnL rfl ‹_›) <|
      O1 rfl <| On <| ?_
    rw [List.drop_eq_getElem_cons hlt] at hno
    refine Runs.cond rfl (fun hc => ?_) (fun hc => ?_)
    · have hc : ¬ i < m.length := by simpa using hc
      refine Sq <| Rg <| O1 rfl <| On <| Rt <| ?_
      exact ⟨nr, _, rfl, by rw [hno, List.drop_eq_nil_of_le (as := m) (by omega)]; rfl, rfl⟩
    · have hlt2 : i < m.length := by simpa using hc
      rw [List.drop_eq_getElem_cons hlt2] at hno
      refine Sk <| Sq <| Rg <| O1 rfl <| O1 rfl <| O1 (ixL rfl rfl ‹_› ‹_›) <| O1 (ldI rfl ‹_› ‹_›) <| O1 rfl <| On <| Sq <| Rg <| O1 rfl <| O1 rfl <| ?_
      refine OpsR.call rfl rfl (ValR.fn (CallR.mono (g99 S l[i] m[i] H1) ?_))
      rintro _ H' ⟨rfl, e⟩
      subst e
      refine O1 rfl <| On <| Sq <| Rg <| O1 rfl <| O1 rfl <| On <| ?_
      refine Runs.cond rfl (fun hd => ?_) (fun hd => ?_)
      · have hd : cmpI l[i] m[i] ≠ 0 := by simpa using hd
        refine Sq <| Rg <| O1 rfl <| O1 rfl <| On <| Rt <| ?_
        exact ⟨nr, _, rfl, by rw [hno, cmpL, if_pos hd]; rfl, rfl⟩
      · have hd : cmpI l[i] m[i] = 0 := by simpa using hd
        refine Sk <| Rg <| O1 (addN rfl rfl (by omega)) <| O1 rfl <| On <| ?_
        exact ⟨i + 1, Nat.sub_lt_sub_left hlt (Nat.lt_succ_self i), rfl, hlt, hlt2, rfl, by rw [hno, cmpL, if_neg (by simpa using hd)]⟩
  · have hlt : ¬ i < l.length := by simpa using hc
    refine Xt <| Sq <| Sq <| Rg <| O1 rfl <| O1 (lnL rfl ‹_›) <| O1 rfl <| O1 (lnL rfl ‹_›) <| O1 rfl <| On <| ?_
    rw [List.drop_eq_nil_of_le (as := l) (by omega)] at hno
    refine Runs.cond rfl (fun hc => ?_) (fun hc => ?_)
    · have hc : l.length < m.length := by simpa using hc
      refine Sq <| Rg <| O1 rfl <| On <| Rt <| ?_
      exact ⟨nr, _, rfl, by rw [hno, List.drop_eq_getElem_cons (by omega)]; rfl, rfl⟩
    · have hc : ¬ l.length < m.length := by simpa using hc
      refine Sk <| Sq <| Rg <| O1 rfl <| On <| Rt <| ?_
      exact ⟨nr, _, rfl, by rw [hno, List.drop_eq_nil_of_le (as := m) (by omega)]; rfl, rfl⟩
end Go.Vm.Code

namespace Go.Vm.Code
open Go.Vm
variable {E : Env}
def oLen (m : Mach) (k p : Nat) : Int := ((m.out.getD k []).getD p []).length
def Stp.hs (x : Stp) : List Int := [x.h0, x.h1, x.h2, x.h3, x.h4]
def badH (m : Mach) (x : Stp) (q : Nat) : Bool := if (q : Int) = x.p then !inR 0 (oLen m x.r.toNat q - 1) (x.hs.getD q 0) else !inR (-1) 1048576 (x.hs.getD q 0)
def outE (m : Mach) (x : Stp) : Bool := !inR 0 (m.r - 1) x.r || (!inR 0 (m.n - 1) x.p || !inR 0 (oLen m (x.r.toNat + 1) x.p.toNat - 1) x.t)
def stepE (m : Mach) (x : Stp) : Int :=
  if outE m x then 2
  else if (x.hs.drop m.n.toNat).all (inR (-1) (-1)) then (if (List.range m.n.toNat).any (badH m x) then 2 else 0) else 3
def Stp.vs (x : Stp) : List V := x.cells.map fun n => .int .i64 n

theorem inR_iff {lo hi n : Int} : inR lo hi n = true ↔ lo ≤ n ∧ n ≤ hi := by simp [inR]

/-- the states of a process behind a round, where they are read -/
theorem MachV.states {f sy st o : V} {m : Mach} (hm : MachV E f sy st o m) (hsh : Shp m) {k p : Nat} (hk : (k : Int) ≤ m.r) (hp : (p : Int) < m.n) : ∃ b o1 cap, o = .xslc b o1 m.out.length cap ∧ k < m.out.length ∧
    ∃ b2 o2 cap2 len2, E.ext b (o1 + k * 1) = some (.xslc b2 o2 len2 cap2) ∧ p < len2 ∧ ∃ y l, E.ext b2 (o2 + p * 1) = some y ∧ L1 E y l ∧ (l.length : Int) = oLen m k p := by
  have h1 := hsh.o
  have hltk : k < m.out.length := by omega
  have hxk : m.out[k]? = some m.out[k] := List.getElem?_eq_getElem hltk
  have hltp : p < m.out[k].length := by have := hsh.oi _ (List.getElem_mem hltk); omega
  have hxp : m.out[k][p]? = some m.out[k][p] := List.getElem?_eq_getElem hltp
  obtain ⟨b, o1, cap, rfl, x, hc1, hx2⟩ := hm.o.at hxk
  obtain ⟨b2, o2, cap2, rfl, y, hc2, hy2⟩ := hx2.at hxp
  refine ⟨b, o1, cap, rfl, hltk, b2, o2, cap2, _, hc1, hltp, y, _, hc2, hy2, ?_⟩
  simp only [oLen, List.getD_eq_getElem?_getD, hxk, Option.getD_some, hxp]

/-- the step's own condition, by its words -/
theorem range_succ_any (n : Nat) (p : Nat → Bool) : (List.range (n + 1)).any p = ((List.range n).any p || p n) := by
  rw [List.range_succ, List.any_append]; simp

theorem l50_0 (S : Std E) {Q : Out → Regs → Hp → Prop} {f sy st o : V} {m : Mach} (hm : MachV E f sy st o m) (hsh : Shp m) (hn : 1 ≤ m.n ∧ m.n ≤ 5) {H : Hp} {pb px : Nat} {x : Stp} (hA : At H pb (.cells (mcells f sy st o m))) (hB : At H px (.cells x.vs))
    (hxr : 0 ≤ x.r ∧ x.r ≤ m.r - 1)
    (hQ : (List.range m.n.toNat).any (badH m x) = false → ∀ r, Q (.exit 0) r H)
    (hF : (List.range m.n.toNat).any (badH m x) = true → ∀ r, look r 4 = some (.int .i64 2) → Q .ret r H) :
    ∀ r, restrict r [2, 3, 51, 52, 53] = [(2, .ptr pb 0), (3, .ptr px 0), (51, .slc px 2 m.n.toNat (.ex 5)), (52, .int .i64 m.n.toNat), (53, .int .i64 0)] → Runs E none w50_0 r H Q := by
  intro r hr
  have hI : I1 E H (.slc px 2 m.n.toNat (.ex 5)) (x.hs.take m.n.toNat) := by
    have := I1.own (E := E) (o := 2) (c := .ex 5) (l := x.hs.take m.n.toNat) hB (by simp [Stp.hs]; omega) (by
      intro i n hi
      rw [List.getElem?_take] at hi
      split at hi
      · simp only [Stp.hs] at hi
        rw [nth_eq]
        rcases i with _ | _ | _ | _ | _ | i <;> simp_all [Stp.vs, Stp.cells]
      · cases hi)
    have hlen : (x.hs.take m.n.toNat).length = m.n.toNat := by simp [Stp.hs]; omega
    rwa [hlen] at this
  have hlen : (x.hs.take m.n.toNat).length = m.n.toNat := by simp [Stp.hs]; omega
  refine Runs.loopS (σ := Nat) (fun q => [(2, .ptr pb 0), (3, .ptr px 0), (51, .slc px 2 m.n.toNat (.ex 5)), (52, .int .i64 m.n.toNat), (53, .int .i64 q)])
    (fun q H' => q ≤ m.n.toNat ∧ H' = H ∧ (List.range q).any (badH m x) = false) (fun q => m.n.toNat - q) ?_ 0 _ _ hr ⟨by omega, rfl, rfl⟩
  rintro q H1 ⟨hq, rfl, hall⟩
  refine Sq <| Rg <| O1 rfl <| On <| Sq <| ?_
  refine Runs.cond rfl (fun hc => ?_) (fun hc => ?_)
  · have hlt : q < m.n.toNat := by have := of_decide_eq_true hc; omega
    have hg : (x.hs.take m.n.toNat)[q]'(by omega) = x.hs.getD q 0 := by
      rw [List.getElem_take, List.getD_eq_getElem?_getD, List.getElem?_eq_getElem (by simp [Stp.hs]; omega)]; rfl
    refine Sk <| Sq <| Bk <| Sq <| Rg <| O1 rfl <| O1 (ixE rfl rfl (Seq.len ‹_›) (by omega)) <| O1 (ldI rfl ‹_› (by omega)) <| O1 rfl <| O1 rfl <| On <| Sq <| Rg <| O1 rfl <| O1 rfl <|
      O1 (ldA rfl ‹_› (by rfl)) <| O1 rfl <| O1 rfl <| ?_
    rw [hg]
    obtain ⟨b, o1, cap, rfl, hltk, b2, o2, cap2, len2, hc1, hltp, y, l, hc2, hy, hlen3⟩ := hm.states hsh (k := x.r.toNat) (p := q) (by omega) (by omega)
    have hbad : badH m x q = if (q : Int) = x.p then !inR 0 (oLen m x.r.toNat q - 1) (x.hs.getD q 0) else !inR (-1) 1048576 (x.hs.getD q 0) := rfl
    have hyl := hy.1
    have hend : ∀ r', look r' 3 = some (.ptr px 0) → True := fun _ _ => trivial
    cases hq1 : ((q : Int) == x.p) with
    | true =>
      rw [if_pos (by simpa using hq1)] at hbad
      refine OY rfl rfl <| OY rfl rfl <| OY rfl (ldA rfl ‹_› (by rfl)) <| OY rfl rfl <| OY rfl (ldA rfl ‹_› (by rfl)) <| OY rfl (ixI rfl rfl (by omega)) <| OY rfl (step_ld1 rfl ‹_›) <|
        OY rfl rfl <| OY rfl (step_ixS rfl rfl ‹_›) <| OY rfl (step_ld1 rfl ‹_›) <| OY rfl (lnS rfl ‹_›) <| OY rfl (subL rfl rfl (by omega)) <| ?_
      have tt := s47 (S.prim 47 (by decide)) (S.fn rfl) (x.hs.getD q 0) 0 ((l.length : Int) - 1) H1
      refine CQT rfl rfl rfl tt ?_
      clear tt
      refine OY rfl rfl <| O1 rfl <| O1 rfl <| ?_
      rw [hlen3]
      cases hb : inR 0 (oLen m x.r.toNat q - 1) (x.hs.getD q 0) with
      | false =>
        refine ON rfl <| ON rfl <| ON rfl <| ON rfl <| ON rfl <| ON rfl <| ON rfl <| ON rfl <| ON rfl <| O1 rfl <| On <| CT rfl <| Sq <| Rg <| O1 rfl <| On <| Rt <| ?_
        exact hF (by rw [List.any_eq_true]; exact ⟨q, List.mem_range.2 hlt, by rw [hbad, hb]; rfl⟩) _ rfl
      | true =>
        have hne : ((q : Int) != x.p) = false := by simpa using hq1
        refine OY rfl rfl <| OY rfl rfl <| OY rfl (ldA rfl ‹_› (by rfl)) <| OY rfl rfl <| OY rfl rfl <| ?_
        rw [hne]
        refine ON rfl <| ON rfl <| ON rfl <| OY rfl rfl <| O1 rfl <| On <| CF rfl <| Sk <| Rg <| O1 (addN rfl rfl (by omega)) <| O1 rfl <| On <| ?_
        exact ⟨q + 1, by simp only; omega, rfl, by omega, rfl, by rw [range_succ_any, hall, hbad, hb]; rfl⟩
    | false =>
      rw [if_neg (by simpa using hq1)] at hbad
      have hne : ((q : Int) != x.p) = true := by simpa using hq1
      refine ON rfl <| ON rfl <| ON rfl <| ON rfl <| ON rfl <| ON rfl <| ON rfl <| ON rfl <| ON rfl <| ON rfl <| ON rfl <| ON rfl <| ON rfl <| ON rfl <| O1 rfl <| O1 rfl <| OY rfl rfl <|
        OY rfl rfl <| OY rfl (ldA rfl ‹_› (by rfl)) <| OY rfl rfl <| OY rfl rfl <| ?_
      rw [hne]
      refine OY rfl rfl <| ?_
      have tt := s47 (S.prim 47 (by decide)) (S.fn rfl) (x.hs.getD q 0) (-1) 1048576 H1
      refine CQT rfl rfl rfl tt ?_
      clear tt
      refine OY rfl rfl <| OY rfl rfl <| O1 rfl <| On <| ?_
      cases hb : inR (-1) 1048576 (x.hs.getD q 0) with
      | false =>
        refine CT rfl <| Sq <| Rg <| O1 rfl <| On <| Rt <| ?_
        exact hF (by rw [List.any_eq_true]; exact ⟨q, List.mem_range.2 hlt, by rw [hbad, hb]; rfl⟩) _ rfl
      | true =>
        refine CF rfl <| Sk <| Rg <| O1 (addN rfl rfl (by omega)) <| O1 rfl <| On <| ?_
        exact ⟨q + 1, by simp only; omega, rfl, by omega, rfl, by rw [range_succ_any, hall, hbad, hb]; rfl⟩
  · have hlt : ¬ q < m.n.toNat := by have := of_decide_eq_false hc; omega
    refine Xt <| ?_
    exact hQ (by rw [show m.n.toNat = q from by omega]; exact hall) _
end Go.Vm.Code

namespace Go.Vm.Code
open Go.Vm
variable {E : Env}
/-- what is known of a machine whose header and lists are right -/
structure Hdr (m : Mach) : Prop where
  n : 1 ≤ m.n ∧ m.n ≤ 5
  r : 0 ≤ m.r ∧ m.r ≤ 6
  i : 1 ≤ m.ins ∧ m.ins ≤ 8
  o : 1 ≤ m.outs ∧ m.outs ≤ 8

theorem I1.hs {H : Hp} {px : Nat} {x : Stp} (hB : At H px (.cells x.vs)) {a : Nat} (ha : a ≤ 5) (c : Cap) : I1 E H (.slc px (2 + a) (5 - a) c) (x.hs.drop a) := by
  have := I1.own (E := E) (o := 2 + a) (c := c) (l := x.hs.drop a) hB (by simp [Stp.hs]; omega) (by
      intro i n hi
      rw [List.getElem?_drop] at hi
      simp only [Stp.hs] at hi
      rw [nth_eq]
      generalize hj : a + i = j at hi
      rw [show 2 + a + i = 2 + j from by omega]
      rcases j with _ | _ | _ | _ | _ | j <;> simp_all [Stp.vs, Stp.cells])
  rwa [show (x.hs.drop a).length = 5 - a from by simp [Stp.hs]] at this

theorem s50 (S : Std E) {f sy st o : V} {m : Mach} (hm : MachV E f sy st o m) (hh : Hdr m) (hsh : Shp m) (x : Stp) (H : Hp) :
    CallR E 50 [.agg (mcells f sy st o m), .agg x.vs] H (fun w H' => w = .int .i64 (stepE m x) ∧ Ext H H') := by
  have hn := hh.n
  have hr := hh.r
  refine S.call (f := 50) (by decide) rfl rfl ?_
  have hA0 := At.new H (.cells (mcells f sy st o m))
  have hX0 := Ext.new H (.cells (mcells f sy st o m))
  have hB := At.new (H.new (.cells (mcells f sy st o m))) (.cells x.vs)
  have hX1 := Ext.new (H.new (.cells (mcells f sy st o m))) (.cells x.vs)
  have hA := hX1.at hA0
  have hX := hX0.trans hX1
  clear hA0 hX0 hX1
  refine Sq <| Rg <| O1 rfl <| O1 rfl <| O1 rfl <| On <| Sq <| Sq <| Dg <| D1 rfl <| D1 (ldA rfl ‹_› (by rfl)) <| D1 rfl <| D1 (ldA rfl ‹_› (by rfl)) <| D1 (subL rfl rfl (by omega)) <| ?_
  have hret2 : outE m x = true → ∀ (r : Regs) (H' : Hp), Ext H H' → look r 4 = some (.int .i64 2) → (∀ i, Out.ret ≠ Out.exit i) ∧ ∃ vs, results E r H' [.tmp 4] = some vs ∧ retOf vs = .int .i64 (stepE m x) ∧ Ext H H' := fun h r H' hX hr =>
    ⟨nr, [.int .i64 2], by simp [results, result, hr], by simp only [stepE, h, if_true, retOf], hX⟩
  have c47 := fun a b c => s47 (E := E) (S.prim 47 (by decide)) (S.fn rfl) a b c ((H.new (.cells (mcells f sy st o m))).new (.cells x.vs))
  have tt := c47 x.r 0 (m.r - 1)
  refine DQ rfl rfl tt ?_
  clear tt
  refine D1 rfl <| D1 rfl <| ?_
  have ho : outE m x = (!inR 0 (m.r - 1) x.r || (!inR 0 (m.n - 1) x.p || !inR 0 (oLen m (x.r.toNat + 1) x.p.toNat - 1) x.t)) := rfl
  cases hb1 : inR 0 (m.r - 1) x.r with
  | false =>
    refine DN rfl <| DN rfl <| DN rfl <| DN rfl <| DN rfl <| DN rfl <| DN rfl <| D1 rfl <| D1 rfl <| DN rfl <| DN rfl <| DN rfl <| DN rfl <| DN rfl <| DN rfl <| DN rfl <| DN rfl <|
      DN rfl <| DN rfl <| DN rfl <| DN rfl <| DN rfl <| DN rfl <| DN rfl <| DN rfl <| DN rfl <| D1 rfl <| Dn <| CT rfl <| Sq <| Rg <| O1 rfl <| On <| Rt <| ?_
    exact hret2 (by rw [ho, hb1]; rfl) _ _ hX rfl
  | true =>
    have hb1' := inR_iff.1 hb1
    refine DY rfl rfl <| DY rfl (ldA rfl ‹_› (by rfl)) <| DY rfl rfl <| DY rfl (ldA rfl ‹_› (by rfl)) <| DY rfl (subL rfl rfl (by omega)) <| ?_
    have tt := c47 x.p 0 (m.n - 1)
    refine DQT rfl rfl rfl tt ?_
    clear tt
    refine DY rfl rfl <| D1 rfl <| D1 rfl <| ?_
    cases hb2 : inR 0 (m.n - 1) x.p with
    | false =>
      refine DN rfl <| DN rfl <| DN rfl <| DN rfl <| DN rfl <| DN rfl <| DN rfl <| DN rfl <| DN rfl <| DN rfl <| DN rfl <| DN rfl <| DN rfl <| DN rfl <| DN rfl <| DN rfl <| DN rfl <|
        D1 rfl <| Dn <| CT rfl <| Sq <| Rg <| O1 rfl <| On <| Rt <| ?_
      exact hret2 (by rw [ho, hb1, hb2]; rfl) _ _ hX rfl
    | true =>
      have hb2' := inR_iff.1 hb2
      obtain ⟨b, o1, cap, rfl, hltk, b2, o2, cap2, len2, hc1, hltp, y, l, hc2, hy, hlen3⟩ := hm.states hsh (k := x.r.toNat + 1) (p := x.p.toNat) (by omega) (by omega)
      have hyl := hy.1
      have hc1 : E.ext b (o1 + (x.r + ((1 : Nat) : Int)).toNat * 1) = some (.xslc b2 o2 len2 cap2) := by rw [show (x.r + ((1 : Nat) : Int)).toNat = x.r.toNat + 1 from by omega]; exact hc1
      refine DY rfl rfl <| DY rfl (ldA rfl ‹_› (by rfl)) <| DY rfl rfl <| DY rfl (ldA rfl ‹_› (by rfl)) <| DY rfl rfl <| DY rfl (ldA rfl ‹_› (by rfl)) <| DY rfl (addL rfl rfl (by omega)) <|
        DY rfl (ixI rfl rfl (by omega)) <| DY rfl (step_ld1 rfl ‹_›) <| DY rfl rfl <| DY rfl (ldA rfl ‹_› (by rfl)) <| DY rfl (ixI rfl rfl (by omega)) <| DY rfl (step_ld1 rfl ‹_›) <|
        DY rfl (lnS rfl ‹_›) <| DY rfl (subL rfl rfl (by omega)) <| ?_
      have tt := c47 x.t 0 ((l.length : Int) - 1)
      refine DQT rfl rfl rfl tt ?_
      clear tt
      refine DY rfl rfl <| D1 rfl <| Dn <| ?_
      rw [hlen3]
      cases hb3 : inR 0 (oLen m (x.r.toNat + 1) x.p.toNat - 1) x.t with
      | false =>
        refine CT rfl <| Sq <| Rg <| O1 rfl <| On <| Rt <| ?_
        exact hret2 (by rw [ho, hb1, hb2, hb3]; rfl) _ _ hX rfl
      | true =>
        have hout : outE m x = false := by rw [ho, hb1, hb2, hb3]; rfl
        have hst : stepE m x = if (x.hs.drop m.n.toNat).all (inR (-1) (-1)) then (if (List.range m.n.toNat).any (badH m x) then 2 else 0) else 3 := by simp only [stepE, hout]; rfl
        refine CF rfl <| Sk <| Sq <| Sq <| Rg <| O1 rfl <| O1 rfl <| O1 (ldA rfl ‹_› (by rfl)) <| ?_
        refine O1 (slcA_lo rfl rfl (by omega)) ?_
        have hI := I1.hs (E := E) hB (a := m.n.toNat) (by omega) (.ex (5 - m.n.toNat))
        have hI : I1 E ((H.new (.cells (mcells f sy st (.xslc b o1 m.out.length cap) m))).new (.cells x.vs)) (.slc (H.new (.cells (mcells f sy st (.xslc b o1 m.out.length cap) m))).next (cond (Nat.beq 5 m.n.toNat) (0 + 2) (0 + 2 + m.n.toNat * 1)) (5 - m.n.toNat) (.ex (5 - m.n.toNat))) (x.hs.drop m.n.toNat) := by
          cases hq : Nat.beq 5 m.n.toNat with
          | false => rw [cond_false, Nat.mul_one, Nat.zero_add]; exact hI
          | true =>
            have e : 5 = m.n.toNat := Nat.eq_of_beq_eq_true hq
            rw [cond_true, ← e] 
            rw [← e] at hI
            exact ⟨hI.1, hI.2.1, fun i n hi => by simp [Stp.hs] at hi⟩
        have tt := g64 S hI (-1) (-1)
        refine CE rfl rfl tt fun H2 hX2 => ?_
        clear tt
        refine O1 rfl <| On <| ?_
        have hA2 := hX2.at hA
        have hB2 := hX2.at hB
        cases hb4 : (x.hs.drop m.n.toNat).all (inR (-1) (-1)) with
        | false =>
          refine CT rfl <| Sq <| Rg <| O1 rfl <| On <| Rt <| ?_
          exact ⟨nr, _, rfl, by rw [hst, hb4]; rfl, hX.trans hX2⟩
        | true =>
          refine CF rfl <| Sk <| Sq <| Sq <| Rg <| O1 rfl <| O1 rfl <| O1 (ldA rfl ‹_› (by rfl)) <| ?_
          refine O1 (slcA_hi rfl rfl (by omega)) ?_
          refine O1 rfl <| O1 rfl <| On <| Bk <| ?_
          refine l50_0 S hm hsh hn hA2 hB2 (by omega) ?_ ?_ _ rfl
          · intro h r
            refine Sq <| Rg <| O1 rfl <| On <| Rt <| ?_
            exact ⟨nr, _, rfl, by rw [hst, hb4, h]; rfl, hX.trans hX2⟩
          · intro h r hr
            exact ⟨nr, [.int .i64 2], by simp [results, result, hr], by rw [hst, hb4, h]; rfl, hX.trans hX2⟩
end Go.Vm.Code

namespace Go.Vm.Code
open Go.Vm
variable {E : Env}
theorem ldC {r : Regs} {H : Hp} {a : Opd} {px q : Nat} {x : Stp} (ha : ev r a = some (.ptr px (0 + 2 + q * 1))) (hB : At H px (.cells x.vs)) (hq : q < 5) : stepOp E noCall r H (.ld1 a) = some (.int .i64 (x.hs.getD q 0), H) := by
  refine step_ld1 ha (hB.ld1.trans ?_)
  rw [nth_eq]
  rcases q with _ | _ | _ | _ | _ | q <;> simp_all [Stp.vs, Stp.cells, Stp.hs]
  omega

theorem getD_drop {l : List Int} {q : Nat} (hq : q < l.length) : l.drop q = l.getD q 0 :: l.drop (q + 1) := by
  rw [List.drop_eq_getElem_cons hq, List.getD_eq_getElem?_getD, List.getElem?_eq_getElem hq]; rfl

theorem l55_0 {Q : Out → Regs → Hp → Prop} {H : Hp} {pb px n : Nat} {x : Stp} (hB : At H px (.cells x.vs)) (hn : n ≤ 5)
    (hQ : (x.hs.drop n).all (inR (-1) (-1)) = true → ∀ r, look r 2 = some (.ptr pb 0) → look r 3 = some (.ptr px 0) → Q (.exit 0) r H)
    (hF : (x.hs.drop n).all (inR (-1) (-1)) = false → ∀ r, look r 4 = some (.int .i64 3) → Q .ret r H) :
    ∀ r, restrict r [2, 3, 5] = [(2, .ptr pb 0), (3, .ptr px 0), (5, .int .i64 n)] → Runs E none w55_0 r H Q := by
  intro r hr
  refine Runs.loopS (σ := Nat) (fun q => [(2, .ptr pb 0), (3, .ptr px 0), (5, .int .i64 q)])
    (fun q H' => q ≤ 5 ∧ H' = H ∧ (x.hs.drop n).all (inR (-1) (-1)) = (x.hs.drop q).all (inR (-1) (-1))) (fun q => 5 - q) ?_ n _ _ hr ⟨hn, rfl, rfl⟩
  rintro q H1 ⟨hq, rfl, hall⟩
  have hlen : x.hs.length = 5 := rfl
  refine Sq <| Sq <| Rg <| O1 rfl <| O1 rfl <| On <| ?_
  refine Runs.cond rfl (fun hc => ?_) (fun hc => ?_)
  · have hlt : q < 5 := by have : (q : Int) < ((5 : Nat) : Int) := of_decide_eq_true hc; omega
    rw [getD_drop (q := q) (by omega), List.all_cons] at hall
    refine Sk <| Sq <| Bk <| Sq <| Rg <| O1 rfl <| O1 rfl <| O1 (ixA rfl rfl (by omega)) <| ?_
    refine O1 (ldC rfl hB hlt) ?_
    refine O1 rfl <| On <| ?_
    refine Runs.cond rfl (fun hd => ?_) (fun hd => ?_)
    · have hd : ¬ x.hs.getD q 0 = -1 := by simpa using hd
      refine Sq <| Rg <| O1 rfl <| On <| Rt <| ?_
      have hz : inR (-1) (-1) (x.hs.getD q 0) = false := by rw [Bool.eq_false_iff, Ne, inR_iff]; omega
      exact hF (by rw [hall, hz]; rfl) _ rfl
    · have hd : x.hs.getD q 0 = -1 := by simpa using hd
      refine Sk <| Rg <| O1 rfl <| O1 (addN rfl rfl (by omega)) <| O1 rfl <| On <| ?_
      exact ⟨q + 1, by simp only; omega, rfl, hlt, rfl, by rw [hall, hd]; rfl⟩
  · have hlt : ¬ q < 5 := by have : ¬ (q : Int) < ((5 : Nat) : Int) := of_decide_eq_false hc; omega
    refine Xt <| ?_
    exact hQ (by rw [hall, List.drop_eq_nil_of_le (by omega)]; rfl) _ rfl rfl

theorem l55_1 (S : Std E) {Q : Out → Regs → Hp → Prop} {f sy st o : V} {m : Mach} (hm : MachV E f sy st o m) (hsh : Shp m) (hn : 1 ≤ m.n ∧ m.n ≤ 5) {H : Hp} {pb px : Nat} {x : Stp} (hA : At H pb (.cells (mcells f sy st o m))) (hB : At H px (.cells x.vs))
    (hxr : 0 ≤ x.r ∧ x.r ≤ m.r - 1)
    (hQ : (List.range m.n.toNat).any (badH m x) = false → ∀ r, Q (.exit 2) r H)
    (hF : (List.range m.n.toNat).any (badH m x) = true → ∀ r, look r 4 = some (.int .i64 2) → Q .ret r H) :
    ∀ r, restrict r [2, 3, 6] = [(2, .ptr pb 0), (3, .ptr px 0), (6, .int .i64 0)] → Runs E none w55_1 r H Q := by
  intro r hr
  refine Runs.loopS (σ := Nat) (fun q => [(2, .ptr pb 0), (3, .ptr px 0), (6, .int .i64 q)])
    (fun q H' => q ≤ m.n.toNat ∧ H' = H ∧ (List.range q).any (badH m x) = false) (fun q => m.n.toNat - q) ?_ 0 _ _ hr ⟨by omega, rfl, rfl⟩
  rintro q H1 ⟨hq, rfl, hall⟩
  refine Sq <| Sq <| Rg <| O1 rfl <| O1 rfl <| O1 (ldA rfl ‹_› (by rfl)) <| O1 rfl <| On <| ?_
  refine Runs.cond rfl (fun hc => ?_) (fun hc => ?_)
  · have hlt : q < m.n.toNat := by have : (q : Int) < m.n := of_decide_eq_true hc; omega
    obtain ⟨b, o1, cap, rfl, hltk, b2, o2, cap2, len2, hc1, hltp, y, l, hc2, hy, hlen3⟩ := hm.states hsh (k := x.r.toNat) (p := q) (by omega) (by omega)
    have hbad : badH m x q = if (q : Int) = x.p then !inR 0 (oLen m x.r.toNat q - 1) (x.hs.getD q 0) else !inR (-1) 1048576 (x.hs.getD q 0) := rfl
    have hyl := hy.1
    refine Sk <| Sq <| Bk <| Sq <| Rg <| O1 rfl <| O1 rfl <| On <| Sq <| Sq <| Rg <| O1 rfl <| O1 rfl <| O1 (ldA rfl ‹_› (by rfl)) <| O1 rfl <| On <| ?_
    refine Runs.cond rfl (fun hd => ?_) (fun hd => ?_)
    · have hd : (q : Int) = x.p := by simpa using hd
      rw [if_pos hd] at hbad
      refine Dg <| D1 rfl <| D1 (ldA rfl ‹_› (by rfl)) <| D1 rfl <| D1 (ldA rfl ‹_› (by rfl)) <| D1 (ixI rfl rfl (by omega)) <| D1 (step_ld1 rfl ‹_›) <| D1 rfl <|
        D1 (step_ixS rfl rfl ‹_›) <| D1 (step_ld1 rfl ‹_›) <| D1 (lnS rfl ‹_›) <| D1 (subL rfl rfl (by omega)) <| D1 rfl <| D1 rfl <| Dn <| Sq <| Rg <| O1 rfl <| O1 rfl <|
        O1 (ixA rfl rfl (by omega)) <| ?_
      refine O1 (ldC rfl hB (by omega)) ?_
      refine O1 rfl <| O1 rfl <| ?_
      have tt := s52 (S.prim 52 (by decide)) (S.fn rfl) (x.hs.getD q 0) 0 ((l.length : Int) - 1) H1
      refine CQ rfl rfl tt ?_
      clear tt
      refine O1 rfl <| On <| ?_
      rw [hlen3]
      refine Runs.cond rfl (fun hb => ?_) (fun hb => ?_)
      · refine Sq <| Rg <| O1 rfl <| On <| Rt <| ?_
        exact hF (by rw [List.any_eq_true]; exact ⟨q, List.mem_range.2 hlt, by rw [hbad]; exact hb⟩) _ rfl
      · refine Sk <| Rg <| O1 rfl <| O1 (addN rfl rfl (by omega)) <| O1 rfl <| On <| ?_
        exact ⟨q + 1, by simp only; omega, rfl, by omega, rfl, by rw [range_succ_any, hall, hbad]; exact hb⟩
    · have hd : ¬ (q : Int) = x.p := by simpa using hd
      rw [if_neg hd] at hbad
      refine Sk <| Sq <| Rg <| O1 rfl <| O1 rfl <| O1 (ixA rfl rfl (by omega)) <| ?_
      refine O1 (ldC rfl hB (by omega)) ?_
      refine O1 rfl <| O1 rfl <| ?_
      have tt := s52 (S.prim 52 (by decide)) (S.fn rfl) (x.hs.getD q 0) (-1) 1048576 H1
      refine CQ rfl rfl tt ?_
      clear tt
      refine O1 rfl <| On <| ?_
      refine Runs.cond rfl (fun hb => ?_) (fun hb => ?_)
      · refine Sq <| Rg <| O1 rfl <| On <| Rt <| ?_
        exact hF (by rw [List.any_eq_true]; exact ⟨q, List.mem_range.2 hlt, by rw [hbad]; exact hb⟩) _ rfl
      · refine Sk <| Rg <| O1 rfl <| O1 (addN rfl rfl (by omega)) <| O1 rfl <| On <| ?_
        exact ⟨q + 1, by simp only; omega, rfl, by omega, rfl, by rw [range_succ_any, hall, hbad]; exact hb⟩
  · have hlt : ¬ q < m.n.toNat := by have : ¬ (q : Int) < m.n := of_decide_eq_false hc; omega
    refine Xt <| ?_
    exact hQ (by rw [show m.n.toNat = q from by omega]; exact hall) _
end Go.Vm.Code

namespace Go.Vm.Code
open Go.Vm
variable {E : Env}
theorem s55 (S : Std E) {f sy st o : V} {m : Mach} (hm : MachV E f sy st o m) (hh : Hdr m) (hsh : Shp m) (x : Stp) (H : Hp) :
    CallR E 55 [.agg (mcells f sy st o m), .agg x.vs] H (fun w H' => w = .int .i64 (stepE m x) ∧ Ext H H') := by
  have hn := hh.n
  have hr := hh.r
  refine S.call (f := 55) (by decide) rfl rfl ?_
  have hA0 := At.new H (.cells (mcells f sy st o m))
  have hX0 := Ext.new H (.cells (mcells f sy st o m))
  have hB := At.new (H.new (.cells (mcells f sy st o m))) (.cells x.vs)
  have hX1 := Ext.new (H.new (.cells (mcells f sy st o m))) (.cells x.vs)
  have hA := hX1.at hA0
  have hX := hX0.trans hX1
  clear hA0 hX0 hX1
  refine Sq <| Rg <| O1 rfl <| O1 rfl <| O1 rfl <| On <| Sq <| Sq <| Dg <| D1 rfl <| D1 (ldA rfl ‹_› (by rfl)) <| D1 rfl <| D1 (ldA rfl ‹_› (by rfl)) <| D1 (subL rfl rfl (by omega)) <| ?_
  have hret2 : outE m x = true → ∀ (r : Regs) (H' : Hp), Ext H H' → look r 4 = some (.int .i64 2) → (∀ i, Out.ret ≠ Out.exit i) ∧ ∃ vs, results E r H' [.tmp 4] = some vs ∧ retOf vs = .int .i64 (stepE m x) ∧ Ext H H' := fun h r H' hX hr =>
    ⟨nr, [.int .i64 2], by simp [results, result, hr], by simp only [stepE, h, if_true, retOf], hX⟩
  have c52 := fun a b c => s52 (E := E) (S.prim 52 (by decide)) (S.fn rfl) a b c ((H.new (.cells (mcells f sy st o m))).new (.cells x.vs))
  have tt := c52 x.r 0 (m.r - 1)
  refine DQ rfl rfl tt ?_
  clear tt
  refine D1 rfl <| D1 rfl <| ?_
  have ho : outE m x = (!inR 0 (m.r - 1) x.r || (!inR 0 (m.n - 1) x.p || !inR 0 (oLen m (x.r.toNat + 1) x.p.toNat - 1) x.t)) := rfl
  cases hb1 : inR 0 (m.r - 1) x.r with
  | false =>
    refine DN rfl <| DN rfl <| DN rfl <| DN rfl <| DN rfl <| DN rfl <| DN rfl <| D1 rfl <| D1 rfl <| DN rfl <| DN rfl <| DN rfl <| DN rfl <| DN rfl <| DN rfl <| DN rfl <| DN rfl <|
      DN rfl <| DN rfl <| DN rfl <| DN rfl <| DN rfl <| DN rfl <| DN rfl <| DN rfl <| DN rfl <| D1 rfl <| Dn <| CT rfl <| Sq <| Rg <| O1 rfl <| On <| Rt <| ?_
    exact hret2 (by rw [ho, hb1]; rfl) _ _ hX rfl
  | true =>
    have hb1' := inR_iff.1 hb1
    refine DY rfl rfl <| DY rfl (ldA rfl ‹_› (by rfl)) <| DY rfl rfl <| DY rfl (ldA rfl ‹_› (by rfl)) <| DY rfl (subL rfl rfl (by omega)) <| ?_
    have tt := c52 x.p 0 (m.n - 1)
    refine DQT rfl rfl rfl tt ?_
    clear tt
    refine DY rfl rfl <| D1 rfl <| D1 rfl <| ?_
    cases hb2 : inR 0 (m.n - 1) x.p with
    | false =>
      refine DN rfl <| DN rfl <| DN rfl <| DN rfl <| DN rfl <| DN rfl <| DN rfl <| DN rfl <| DN rfl <| DN rfl <| DN rfl <| DN rfl <| DN rfl <| DN rfl <| DN rfl <| DN rfl <| DN rfl <|
        D1 rfl <| Dn <| CT rfl <| Sq <| Rg <| O1 rfl <| On <| Rt <| ?_
      exact hret2 (by rw [ho, hb1, hb2]; rfl) _ _ hX rfl
    | true =>
      have hb2' := inR_iff.1 hb2
      obtain ⟨b, o1, cap, rfl, hltk, b2, o2, cap2, len2, hc1, hltp, y, l, hc2, hy, hlen3⟩ := hm.states hsh (k := x.r.toNat + 1) (p := x.p.toNat) (by omega) (by omega)
      have hyl := hy.1
      have hc1 : E.ext b (o1 + (x.r + ((1 : Nat) : Int)).toNat * 1) = some (.xslc b2 o2 len2 cap2) := by rw [show (x.r + ((1 : Nat) : Int)).toNat = x.r.toNat + 1 from by omega]; exact hc1
      refine DY rfl rfl <| DY rfl (ldA rfl ‹_› (by rfl)) <| DY rfl rfl <| DY rfl (ldA rfl ‹_› (by rfl)) <| DY rfl rfl <| DY rfl (ldA rfl ‹_› (by rfl)) <| DY rfl (addL rfl rfl (by omega)) <|
        DY rfl (ixI rfl rfl (by omega)) <| DY rfl (step_ld1 rfl ‹_›) <| DY rfl rfl <| DY rfl (ldA rfl ‹_› (by rfl)) <| DY rfl (ixI rfl rfl (by omega)) <| DY rfl (step_ld1 rfl ‹_›) <|
        DY rfl (lnS rfl ‹_›) <| DY rfl (subL rfl rfl (by omega)) <| ?_
      have tt := c52 x.t 0 ((l.length : Int) - 1)
      refine DQT rfl rfl rfl tt ?_
      clear tt
      refine DY rfl rfl <| D1 rfl <| Dn <| ?_
      rw [hlen3]
      cases hb3 : inR 0 (oLen m (x.r.toNat + 1) x.p.toNat - 1) x.t with
      | false =>
        refine CT rfl <| Sq <| Rg <| O1 rfl <| On <| Rt <| ?_
        exact hret2 (by rw [ho, hb1, hb2, hb3]; rfl) _ _ hX rfl
      | true =>
        have hout : outE m x = false := by rw [ho, hb1, hb2, hb3]; rfl
        have hst : stepE m x = if (x.hs.drop m.n.toNat).all (inR (-1) (-1)) then (if (List.range m.n.toNat).any (badH m x) then 2 else 0) else 3 := by simp only [stepE, hout]; rfl
        have hnn : m.n = (m.n.toNat : Int) := by omega
        refine CF rfl <| Sk <| Sq <| Sq <| Rg <| O1 rfl <| O1 (ldA rfl ‹_› (by rfl)) <| O1 rfl <| On <| Bk <| ?_
        refine l55_0 (pb := H.next) (n := m.n.toNat) hB (by omega) ?_ ?_ _ ?_
        · intro h4 r g2 g3
          refine Sq <| Sq <| Rg <| O1 rfl <| On <| Bk <| ?_
          refine l55_1 S hm hsh hn hA hB (by omega) ?_ ?_ _ ?_
          · intro h r
            refine Sq <| Rg <| O1 rfl <| On <| Rt <| ?_
            exact ⟨nr, _, rfl, by rw [hst, h4, h]; rfl, hX⟩
          · intro h r hr
            exact ⟨nr, [.int .i64 2], by simp [results, result, hr], by rw [hst, h4, h]; rfl, hX⟩
          · simp [restrict, put, look_cons, g2, g3]; rfl
        · intro h4 r hr
          exact ⟨nr, [.int .i64 3], by simp [results, result, hr], by rw [hst, h4]; rfl, hX⟩
        · rw [← hnn]; rfl
end Go.Vm.Code

namespace Go.Vm.Code
open Go.Vm
variable {E : Env}
/-- cmp.Or of numbers: the first that is not 0 -/
def orL : List Int → Int
  | [] => 0
  | a :: l => if a ≠ 0 then a else orL l
theorem g98 (S : Std E) {v : V} {l : List Int} {H : Hp} (hl : I1 E H v l) : CallR E 98 [v] H (fun u H' => u = .int .i64 (orL l) ∧ H' = H) := by
  refine S.call (by decide) (f := 98) rfl rfl ?_
  have hlen := hl.1
  refine Sq <| Rg <| O1 rfl <| On <| Sq <| Rg <| O1 rfl <| On <| Sq <| Sq <| Rg <| O1 rfl <| O1 (lnL rfl ‹_›) <| O1 rfl <| On <| Bk <| ?_
  refine Runs.loopS (σ := Nat) (fun i => [(3, .int .i64 0), (6, v), (7, .int .i64 l.length), (8, .int .i64 i)]) (fun i H' => i ≤ l.length ∧ H' = H ∧ orL l = orL (l.drop i)) (fun i => l.length - i) ?_ 0 _ _ rfl ⟨Nat.zero_le _, rfl, rfl⟩
  rintro i H1 ⟨hi, rfl, hno⟩
  refine Sq <| Rg <| O1 rfl <| On <| Sq <| ?_
  refine Runs.cond rfl (fun hc => ?_) (fun hc => ?_)
  · have hlt : i < l.length := by simpa using hc
    rw [List.drop_eq_getElem_cons hlt] at hno
    refine Sk <| Sq <| Bk <| Sq <| Rg <| O1 (ixL rfl rfl ‹_› ‹_›) <| O1 (ldI rfl ‹_› ‹_›) <| O1 rfl <| On <| Sq <| Rg <| O1 rfl <| O1 rfl <| O1 rfl <| On <| ?_
    refine Runs.cond rfl (fun hd => ?_) (fun hd => ?_)
    · have hd : l[i] ≠ 0 := by simpa using hd
      refine Sq <| Rg <| O1 rfl <| O1 rfl <| On <| Rt <| ?_
      exact ⟨nr, _, rfl, by rw [hno, orL, if_pos hd]; rfl, rfl⟩
    · have hd : l[i] = 0 := by simpa using hd
      refine Sk <| Rg <| O1 (addN rfl rfl (by omega)) <| O1 rfl <| On <| ?_
      exact ⟨i + 1, Nat.sub_lt_sub_left hlt (Nat.lt_succ_self i), rfl, hlt, rfl, by rw [hno, orL, if_neg (by simpa using hd)]⟩
  · have hlt : ¬ i < l.length := by simpa using hc
    refine Xt <| Sq <| Rg <| O1 rfl <| O1 rfl <| On <| Rt <| ?_
    rw [List.drop_eq_nil_of_le (as := l) (by omega)] at hno
    exact ⟨nr, _, rfl, by rw [hno]; rfl, rfl⟩

def Stp.key (x : Stp) : List Int := x.r :: x.p :: x.hs
/-- the order of steps -/
def ordS (a b : Stp) : Int := cmpL a.key b.key

theorem s51 (S : Std E) (a b : Stp) (H : Hp) : CallR E 51 [.agg a.vs, .agg b.vs] H (fun w H' => w = .int .i64 (ordS a b) ∧ Ext H H') := by
  refine S.call (f := 51) (by decide) rfl rfl ?_
  have hA0 := At.new H (.cells a.vs)
  have hX0 := Ext.new H (.cells a.vs)
  have hB := At.new (H.new (.cells a.vs)) (.cells b.vs)
  have hX1 := Ext.new (H.new (.cells a.vs)) (.cells b.vs)
  have hA := hX1.at hA0
  have hX := hX0.trans hX1
  clear hA0 hX0 hX1
  refine Sq <| Rg <| O1 rfl <| O1 rfl <| O1 rfl <| On <| Sq <| Dg <| D1 rfl <| D1 (ldA rfl ‹_› (by rfl)) <| D1 rfl <| D1 (ldA rfl ‹_› (by rfl)) <| D1 rfl <| D1 (ldA rfl ‹_› (by rfl)) <|
    D1 rfl <| D1 (ldA rfl ‹_› (by rfl)) <| D1 rfl <| D1 rfl <| D1 rfl <| D1 rfl <| ?_
  have hI1 : I1 E ((H.new (.cells a.vs)).new (.cells b.vs)) (.slc H.next (0 + 2) 5 (.ex 5)) a.hs := I1.hs hA (a := 0) (by omega) (.ex 5)
  have hI2 : I1 E ((H.new (.cells a.vs)).new (.cells b.vs)) (.slc (H.new (.cells a.vs)).next (0 + 2) 5 (.ex 5)) b.hs := I1.hs hB (a := 0) (by omega) (.ex 5)
  refine DGr (Q := fun w _ => w = .int .i64 (cmpI a.r b.r)) rfl rfl ((g99 S a.r b.r _).mono fun w H' h => ⟨h.1, h.2 ▸ Ext.refl _⟩) fun v H' h1 hX1 => ⟨?_, ?_⟩
  · exact againI rfl rfl (hX1.at hA) rfl rfl (againI rfl rfl (hX1.at hB) rfl rfl rfl)
  subst h1
  have tt := g99 S a.p b.p H'
  refine DQ rfl rfl tt ?_
  clear tt
  have tt := g100 S (hI1.mono hX1) (hI2.mono hX1)
  refine DQ rfl rfl tt ?_
  clear tt
  refine Dw rfl (Nat.le_succ _) <| ?_
  have hX2 := Ext.new H' (.cells [.int .i64 (cmpI a.r b.r), .int .i64 (cmpI a.p b.p), .int .i64 (cmpL a.hs b.hs)])
  have hC := At.new H' (.cells [.int .i64 (cmpI a.r b.r), .int .i64 (cmpI a.p b.p), .int .i64 (cmpL a.hs b.hs)])
  have hI3 : I1 E (H'.new (.cells [.int .i64 (cmpI a.r b.r), .int .i64 (cmpI a.p b.p), .int .i64 (cmpL a.hs b.hs)])) (.slc H'.next 0 3 (.ex 3)) [cmpI a.r b.r, cmpI a.p b.p, cmpL a.hs b.hs] :=
    I1.own (o := 0) hC (by simp) (by
      intro i n hi
      rcases i with _ | _ | _ | i <;> simp_all [nth])
  have tt := g98 S hI3
  refine DQ rfl rfl tt ?_
  clear tt
  refine D1 rfl <| Dn <| Rt <| ?_
  refine ⟨nr, _, rfl, ?_, (hX.trans hX1).trans hX2⟩
  show V.int .i64 (orL _) = .int .i64 (cmpL (a.r :: a.p :: a.hs) (b.r :: b.p :: b.hs))
  congr 1
  simp only [orL, cmpL]
  split
  · rfl
  · split
    · rfl
    · split
      · rfl
      · rename_i h; exact (by simpa using h : cmpL a.hs b.hs = 0).symm
end Go.Vm.Code

namespace Go.Vm.Code
open Go.Vm
variable {E : Env}
theorem hs_take (x : Stp) {q : Nat} (hq : q < 5) : x.key.take (2 + q) ++ [x.hs.getD q 0] = x.key.take (2 + q + 1) := by
  rcases q with _ | _ | _ | _ | _ | q <;> first | rfl | omega
theorem ld_hs {x : Stp} {q : Nat} (hq : q < 5) : nth x.vs (0 + 2 + q * 1) = some (.int .i64 (x.hs.getD q 0)) := by
  rw [nth_eq]
  rcases q with _ | _ | _ | _ | _ | q <;> simp_all [Stp.vs, Stp.cells, Stp.hs]
  omega
structure O34 (a b : Stp) (pa pb : Nat) (Hb H : Hp) (q : Nat) (v w : V) : Prop where
  le : q ≤ 5
  x : Ext Hb H
  bv : Buf Hb H 1 v (2 + q) ((a.key.take (2 + q)).map (.int .i64))
  bw : Buf Hb H 1 w (2 + q) ((b.key.take (2 + q)).map (.int .i64))
  dj : Dj v w

theorem l34_0 {Q : Out → Regs → Hp → Prop} {a b : Stp} {pa pb : Nat} {Hb : Hp} (hA : At Hb pa (.cells a.vs)) (hB : At Hb pb (.cells b.vs)) {v w : V} {H : Hp} (hO : O34 a b pa pb Hb H 0 v w)
    (hQ : ∀ v w H', O34 a b pa pb Hb H' 5 v w → ∀ r, look r 5 = some v → look r 6 = some w → Q (.exit 0) r H') :
    ∀ r, restrict r [2, 3, 5, 6, 7] = [(2, .ptr pa 0), (3, .ptr pb 0), (5, v), (6, w), (7, .int .i64 0)] → Runs E none w34_0 r H Q := by
  intro r hr
  refine Runs.loopS (σ := Nat × V × V) (fun s => [(2, .ptr pa 0), (3, .ptr pb 0), (5, s.2.1), (6, s.2.2), (7, .int .i64 s.1)])
    (fun s H' => O34 a b pa pb Hb H' s.1 s.2.1 s.2.2) (fun s => 5 - s.1) ?_ (0, v, w) _ _ hr hO
  rintro ⟨q, v, w⟩ H1 hO
  have hq := hO.le
  simp only at hq hO ⊢
  refine Sq <| Sq <| Rg <| O1 rfl <| O1 rfl <| On <| ?_
  refine Runs.cond rfl (fun hc => ?_) (fun hc => ?_)
  · have hlt : q < 5 := by have : (q : Int) < ((5 : Nat) : Int) := of_decide_eq_true hc; omega
    refine Sk <| Sq <| Bk <| Dg <| D1 rfl <| D1 rfl <| D1 rfl <| D1 (ixA rfl rfl (by omega)) <| ?_
    refine D1 (ldC rfl (hO.x.at hA) hlt) ?_
    refine D1 rfl <| D1 rfl <| D1 rfl <| D1 (ixA rfl rfl (by omega)) <| ?_
    refine D1 (ldC rfl (hO.x.at hB) hlt) ?_
    refine Dw rfl (Nat.le_succ _) <| ?_
    have hX2 := Ext.new H1 (.cells [.int .i64 (a.hs.getD q 0)])
    have hC2 := At.new H1 (.cells [.int .i64 (a.hs.getD q 0)])
    have bv := hO.bv.mono hX2
    have bw := hO.bw.mono hX2
    have e1 := hs_take a hlt
    have e2 := hs_take b hlt
    refine DrR.opA (step_app rfl rfl rfl (by simp only [cellsOf, hC2.2]; rfl) bv (by omega) (by omega) rfl (room_ok (by omega) (by omega))) (by rw [bufH_next]; exact Nat.le_succ _) ?_ ?_
    · have hB3 := (bv.ext (nw := (a.key.take (2 + q)).map (.int .i64) ++ [.int .i64 (a.hs.getD q 0)]) (hO.x.trans hX2)).at hB
      exact againI rfl rfl hB3 (ld_hs hlt) rfl rfl
    refine Dw rfl (Nat.le_succ _) <| ?_
    have x3 := bv.ext (nw := (a.key.take (2 + q)).map (.int .i64) ++ [.int .i64 (a.hs.getD q 0)]) (hO.x.trans hX2)
    have bv3 := bv.grow (k := 1) (nw := [.int .i64 (a.hs.getD q 0)]) (hO.x.trans hX2) rfl
    have bw3 := bw.keep (cs' := (a.key.take (2 + q)).map (.int .i64) ++ [.int .i64 (a.hs.getD q 0)]) bv.off hO.dj
    have dj3 := (bw.old (Nat.le_refl _) (o := 0) (len := 2 + q + 1) (c := .up 1)).symm
    generalize hH3 : bufH (H1.new (.cells [.int .i64 (a.hs.getD q 0)])) v ((a.key.take (2 + q)).map (.int .i64) ++ [.int .i64 (a.hs.getD q 0)]) = H3 at x3 bv3 bw3
    have hn3 : H1.next + 1 < H3.next := by rw [← hH3, bufH_next]; exact Nat.lt_succ_self _
    have hX4 := Ext.new H3 (.cells [.int .i64 (b.hs.getD q 0)])
    have hC4 := At.new H3 (.cells [.int .i64 (b.hs.getD q 0)])
    have bv4 := bv3.mono hX4
    have bw4 := bw3.mono hX4
    refine Dw (step_app rfl rfl rfl (by simp only [cellsOf, hC4.2]; rfl) bw4 (by omega) (by omega) rfl (room_ok (by omega) (by omega))) (by rw [bufH_next]; exact Nat.le_succ _) ?_
    refine D1 rfl <| D1 rfl <| Dn <| Rg <| O1 rfl <| O1 (addN rfl rfl (by omega)) <| O1 rfl <| On <| ?_
    refine ⟨(q + 1, _, _), by simp only; omega, rfl, ?_⟩
    refine ⟨hlt, bw4.ext (x3.trans hX4), ?_, ?_, ?_⟩
    · have := bv4.keep (cs' := (b.key.take (2 + q)).map (.int .i64) ++ [.int .i64 (b.hs.getD q 0)]) bw4.off dj3.symm
      rw [show 2 + (q + 1) = 2 + q + 1 from rfl, ← e1, List.map_append]
      exact this
    · have := bw4.grow (k := 1) (nw := [.int .i64 (b.hs.getD q 0)]) (x3.trans hX4) rfl
      rw [show 2 + (q + 1) = 2 + q + 1 from rfl, ← e2, List.map_append]
      exact this
    · intro id h1 h2
      cases h1
      have : (H3.new (Ob.cells [.int .i64 (b.hs.getD q 0)])).next = (H1.new (Ob.cells [.int .i64 (a.hs.getD q 0)])).next := by injection h2
      have e5 : H3.next + 1 = H1.next + 1 := this
      omega
  · have hlt : ¬ q < 5 := by have : ¬ (q : Int) < ((5 : Nat) : Int) := of_decide_eq_false hc; omega
    refine Xt <| ?_
    have : q = 5 := by omega
    subst this
    exact hQ _ _ _ hO _ rfl rfl
end Go.Vm.Code

namespace Go.Vm.Code
open Go.Vm
variable {E : Env}
theorem l34_1 {Q : Out → Regs → Hp → Prop} {l m : List Int} {v w : V} {H : Hp} (hl : I1 E H v l) (hm : I1 E H w m) (hlm : l.length = m.length)
    (hQ : cmpL l m = 0 → ∀ r, Q (.exit 2) r H) (hF : ∀ r, look r 4 = some (.int .i64 (cmpL l m)) → Q .ret r H) :
    ∀ r, restrict r [5, 6, 8] = [(5, v), (6, w), (8, .int .i64 0)] → Runs E none w34_1 r H Q := by
  intro r hr
  have hlen := hl.1
  refine Runs.loopS (σ := Nat) (fun i => [(5, v), (6, w), (8, .int .i64 i)]) (fun i H' => i ≤ l.length ∧ H' = H ∧ cmpL l m = cmpL (l.drop i) (m.drop i)) (fun i => l.length - i) ?_ 0 _ _ hr ⟨Nat.zero_le _, rfl, rfl⟩
  rintro i H1 ⟨hi, rfl, hno⟩
  refine Sq <| Sq <| Rg <| O1 rfl <| O1 rfl <| O1 (lnL rfl ‹_›) <| O1 rfl <| On <| ?_
  refine Runs.cond rfl (fun hc => ?_) (fun hc => ?_)
  · have hlt : i < l.length := by simpa using hc
    have hlt2 : i < m.length := by omega
    rw [List.drop_eq_getElem_cons hlt, List.drop_eq_getElem_cons hlt2, cmpL] at hno
    refine Sk <| Sq <| Bk <| Sq <| Sq <| Dg <| D1 rfl <| D1 rfl <| D1 (ixL rfl rfl ‹_› ‹_›) <| D1 (ldI rfl ‹_› ‹_›) <| D1 rfl <| D1 rfl <| D1 (ixL rfl rfl ‹_› ‹_›) <|
      D1 (ldI rfl ‹_› ‹_›) <| D1 rfl <| Dn <| ?_
    refine Runs.cond rfl (fun hd => ?_) (fun hd => ?_)
    · have hd : l[i] < m[i] := of_decide_eq_true hd
      have hcm : cmpI l[i] m[i] = -1 := by rw [cmpI, if_pos hd]
      refine Sq <| Rg <| O1 rfl <| On <| Rt <| ?_
      exact hF _ (by rw [hno, if_pos (by rw [hcm]; decide), hcm]; rfl)
    · have hd : ¬ l[i] < m[i] := of_decide_eq_false hd
      refine Sk <| Sq <| Dg <| D1 rfl <| D1 rfl <| D1 (ixL rfl rfl ‹_› ‹_›) <| D1 (ldI rfl ‹_› ‹_›) <| D1 rfl <| D1 rfl <| D1 (ixL rfl rfl ‹_› ‹_›) <| D1 (ldI rfl ‹_› ‹_›) <| D1 rfl <|
        Dn <| ?_
      refine Runs.cond rfl (fun he => ?_) (fun he => ?_)
      · have he : l[i] > m[i] := of_decide_eq_true he
        have hcm : cmpI l[i] m[i] = 1 := by rw [cmpI, if_neg hd, if_pos he]
        refine Sq <| Rg <| O1 rfl <| On <| Rt <| ?_
        exact hF _ (by rw [hno, if_pos (by rw [hcm]; decide), hcm]; rfl)
      · have he : ¬ l[i] > m[i] := of_decide_eq_false he
        have hcm : cmpI l[i] m[i] = 0 := by rw [cmpI, if_neg hd, if_neg he]
        refine Sk <| Rg <| O1 rfl <| O1 (addN rfl rfl (by omega)) <| O1 rfl <| On <| ?_
        exact ⟨i + 1, Nat.sub_lt_sub_left hlt (Nat.lt_succ_self i), rfl, hlt, rfl, by rw [hno, if_neg (by rw [hcm]; decide)]⟩
  · have hlt : ¬ i < l.length := by simpa using hc
    refine Xt <| ?_
    exact hQ (by rw [hno, List.drop_eq_nil_of_le (by omega), List.drop_eq_nil_of_le (by omega)]; rfl) _

theorem s34 (S : Std E) (a b : Stp) (H : Hp) : CallR E 34 [.agg a.vs, .agg b.vs] H (fun w H' => w = .int .i64 (ordS a b) ∧ Ext H H') := by
  refine S.call (f := 34) (by decide) rfl rfl ?_
  have hA0 := At.new H (.cells a.vs)
  have hX0 := Ext.new H (.cells a.vs)
  have hB := At.new (H.new (.cells a.vs)) (.cells b.vs)
  have hX1 := Ext.new (H.new (.cells a.vs)) (.cells b.vs)
  have hA := hX1.at hA0
  have hX := hX0.trans hX1
  clear hA0 hX0 hX1
  have hX2 := Ext.new ((H.new (.cells a.vs)).new (.cells b.vs)) (.cells [.int .i64 a.r, .int .i64 a.p])
  have hA2 := hX2.at hA
  have hB2 := hX2.at hB
  have hC := At.new ((H.new (.cells a.vs)).new (.cells b.vs)) (.cells [.int .i64 a.r, .int .i64 a.p])
  have hD := At.new (((H.new (.cells a.vs)).new (.cells b.vs)).new (.cells [.int .i64 a.r, .int .i64 a.p])) (.cells [.int .i64 b.r, .int .i64 b.p])
  have hX3 := Ext.new (((H.new (.cells a.vs)).new (.cells b.vs)).new (.cells [.int .i64 a.r, .int .i64 a.p])) (.cells [.int .i64 b.r, .int .i64 b.p])
  refine Sq <| Rg <| O1 rfl <| O1 rfl <| O1 rfl <| On <| Sq <| Rg <| O1 rfl <| O1 (ldA rfl ‹_› (by rfl)) <| O1 rfl <| O1 (ldA rfl ‹_› (by rfl)) <| O1 rfl <| O1 rfl <| On <| Sq <| Rg <|
    O1 rfl <| O1 (ldA rfl ‹_› (by rfl)) <| O1 rfl <| O1 (ldA rfl ‹_› (by rfl)) <| O1 rfl <| O1 rfl <| On <| Sq <| Sq <| Rg <| O1 rfl <| On <| Bk <| ?_
  refine l34_0 hA hB (v := .slc ((H.new (.cells a.vs)).new (.cells b.vs)).next 0 2 (.ex 2)) (w := .slc (((H.new (.cells a.vs)).new (.cells b.vs)).next + 1) 0 2 (.ex 2)) ⟨by omega, hX2.trans hX3, ?_, ?_, ?_⟩ ?_ _ rfl
  · exact ⟨rfl, Or.inr ⟨_, _, rfl, Nat.le_refl _, hX3.at hC, Or.inr rfl⟩⟩
  · exact ⟨rfl, Or.inr ⟨_, _, rfl, Nat.le_succ _, hD, Or.inr rfl⟩⟩
  · intro id h1 h2; cases h1; injection h2 with h2; omega
  · intro v w H' hO r g5 g6
    refine Sq <| Sq <| Rg <| O1 rfl <| On <| Bk <| ?_
    have e1 : a.key.take (2 + 5) = a.key := rfl
    have e2 : b.key.take (2 + 5) = b.key := rfl
    have bv := hO.bv
    have bw := hO.bw
    rw [e1] at bv
    rw [e2] at bw
    refine l34_1 (bv.i1 (by simp [Stp.key, Stp.hs])) (bw.i1 (by simp [Stp.key, Stp.hs])) rfl ?_ ?_ _ ?_
    · intro h0 r
      refine Sq <| Rg <| O1 rfl <| On <| Rt <| ?_
      exact ⟨nr, _, rfl, by rw [ordS, h0]; rfl, hX.trans hO.x⟩
    · intro r hr
      exact ⟨nr, _, by simp only [results, result, hr, Option.bind_some]; rfl, rfl, hX.trans hO.x⟩
    · simp [restrict, put, look_cons, g5, g6]; rfl
end Go.Vm.Code

namespace Go.Vm.Code
open Go.Vm
variable {E : Env}
def afterS (p : Option Stp) (x : Stp) : Bool := match p with
  | some y => decide (ordS y x ≥ 0)
  | none => false
/-- the first error of steps -/
def stsE (m : Mach) : Option Stp → List Stp → Int
  | _, [] => 0
  | p, x :: l => if stepE m x ≠ 0 then stepE m x else if afterS p x then 14 else stsE m (some x) l
def prevS (l : List Stp) : Nat → Option Stp
  | 0 => none
  | i + 1 => l[i]?
theorem MachV.stepAt {f sy st o : V} {m : Mach} (hm : MachV E f sy st o m) {i : Nat} (hi : i < m.st.length) : ∃ b o1 cap, st = .xslc b o1 m.st.length cap ∧ ∀ j (hj : j < m.st.length), extN E b (o1 + j * 8) 8 = some m.st[j].vs := by
  obtain ⟨b, o1, cap, rfl, _⟩ := hm.st.at (List.getElem?_eq_getElem hi)
  refine ⟨b, o1, cap, rfl, fun j hj => ?_⟩
  obtain ⟨b', o1', cap', e, h⟩ := hm.st.at (List.getElem?_eq_getElem hj)
  cases e
  refine extN_of (l := m.st[j].vs) fun i x hx => ?_
  simp only [Stp.vs, List.getElem?_map, Option.map_eq_some_iff] at hx
  obtain ⟨n, hn, rfl⟩ := hx
  exact h i n hn

theorem l15_0 (S : Std E) {Q : Out → Regs → Hp → Prop} {f sy st o : V} {m : Mach} (hm : MachV E f sy st o m) (hh : Hdr m) (hsh : Shp m) {Hb : Hp} {pb : Nat} (hA : At Hb pb (.cells (mcells f sy st o m))) {H : Hp} (hX : Ext Hb H)
    (hQ : ∀ r H', Ext Hb H' → stsE m none m.st = 0 → Q (.exit 1) r H')
    (hF : ∀ r H', Ext Hb H' → look r 2 = some (.int .i64 (stsE m none m.st)) → Q .ret r H') :
    ∀ r, restrict r [1, 48, 49, 50] = [(1, .ptr pb 0), (48, st), (49, .int .i64 m.st.length), (50, .int .i64 0)] → Runs E none w15_0 r H Q := by
  intro r hr
  have hlen := hm.st.1
  refine Runs.loopS (σ := Nat) (fun i => [(1, .ptr pb 0), (48, st), (49, .int .i64 m.st.length), (50, .int .i64 i)])
    (fun i H' => i ≤ m.st.length ∧ Ext Hb H' ∧ stsE m none m.st = stsE m (prevS m.st i) (m.st.drop i)) (fun i => m.st.length - i) ?_ 0 _ _ hr ⟨Nat.zero_le _, hX, rfl⟩
  clear hX
  rintro i H1 ⟨hi, hX, hno⟩
  refine Sq <| Rg <| O1 rfl <| On <| Sq <| ?_
  refine Runs.cond rfl (fun hc => ?_) (fun hc => ?_)
  · have hlt : i < m.st.length := by simpa using hc
    obtain ⟨b, o1, cap, rfl, hst⟩ := hm.stepAt hlt
    have hsi := hst i hlt
    rw [List.drop_eq_getElem_cons hlt, stsE] at hno
    have hN := At.new H1 (.cells (List.replicate 8 (.int .i64 0)))
    have hN2 : At ((H1.new (.cells (List.replicate 8 (.int .i64 0)))).put H1.next (.cells m.st[i].vs)) H1.next (.cells m.st[i].vs) := hN.put
    have hX2 : Ext Hb ((H1.new (.cells (List.replicate 8 (.int .i64 0)))).put H1.next (.cells m.st[i].vs)) := (hX.trans (Ext.new _ _)).put hX.1
    have hA2 := hX2.at hA
    refine Sk <| Sq <| Bk <| Sq <| Rg <| O1 rfl <| O1 (step_ixS rfl rfl ‹_›) <| O1 (ldNX rfl ‹_›) <| O1 rfl <| O1 rfl <| O1 (step_st rfl rfl ‹_› rfl rfl) <| On <| Sq <| Sq <| Rg <|
      O1 (ldNA rfl ‹_› (by rfl)) <| O1 (ldNA rfl ‹_› (by rfl)) <| ?_
    have tt := s50 S hm hh hsh m.st[i] ((H1.new (.cells (List.replicate 8 (.int .i64 0)))).put H1.next (.cells m.st[i].vs))
    refine CE rfl rfl tt fun H3 hX3 => ?_
    clear tt
    refine O1 rfl <| On <| Sq <| Rg <| O1 rfl <| O1 rfl <| On <| ?_
    have hA3 := hX3.at hA2
    have hN3 := hX3.at hN2
    have hX23 := hX2.trans hX3
    refine Runs.cond rfl (fun hd => ?_) (fun hd => ?_)
    · have hd : stepE m m.st[i] ≠ 0 := by simpa using hd
      refine Sq <| Rg <| O1 rfl <| O1 rfl <| On <| Rt <| ?_
      exact hF _ _ hX23 (by rw [hno, if_pos hd]; rfl)
    · have hd : ¬ stepE m m.st[i] ≠ 0 := by simpa using hd
      rw [if_neg hd] at hno
      refine Sk <| Sq <| Dg <| D1 rfl <| D1 rfl <| D1 rfl <| ?_
      rcases i with _ | i
      · refine DN rfl <| DN rfl <| DN rfl <| DN rfl <| DN rfl <| DN rfl <| DN rfl <| DN rfl <| DN rfl <| D1 rfl <| Dn <| CF rfl <| Sk <| Rg <| O1 (addN rfl rfl (by omega)) <| O1 rfl <|
          On <| ?_
        exact ⟨1, by simp only; omega, rfl, hlt, hX23, by rw [hno]; simp [afterS, prevS, List.getElem?_eq_getElem hlt]⟩
      · have hpos : decide ((((i + 1 : Nat) : Int)) > Int.ofNat 0) = true := by simp
        have hlt' : i < m.st.length := by omega
        have haf : afterS (prevS m.st (i + 1)) m.st[i + 1] = decide (ordS m.st[i] m.st[i + 1] ≥ 0) := by simp only [afterS, prevS, List.getElem?_eq_getElem hlt']
        rw [haf] at hno
        have hti : ((((i + 1 : Nat) : Int) - ((1 : Nat) : Int))).toNat = i := by omega
        have hsi2 : extN E b (o1 + ((((i + 1 : Nat) : Int) - ((1 : Nat) : Int))).toNat * 8) 8 = some m.st[i].vs := by rw [hti]; exact hst i hlt'
        rw [hpos]
        refine DY rfl rfl <| DY rfl (ldA rfl ‹_› (by rfl)) <| DY rfl rfl <| DY rfl (subL rfl rfl (by omega)) <| DY rfl (ixI rfl rfl (by omega)) <| DY rfl (ldNX rfl ‹_›) <|
          DY rfl (ldNA rfl ‹_› (by rfl)) <| ?_
        have tt := s51 S m.st[i] m.st[i + 1] H3
        refine DET rfl rfl rfl tt fun H4 hX4 => ?_
        clear tt
        refine DY rfl rfl <| D1 rfl <| Dn <| ?_
        have hX34 := hX23.trans hX4
        refine Runs.cond rfl (fun he => ?_) (fun he => ?_)
        · have he : decide (ordS m.st[i] m.st[i + 1] ≥ 0) = true := he
          refine Sq <| Rg <| O1 rfl <| On <| Rt <| ?_
          exact hF _ _ hX34 (by rw [hno, if_pos he]; rfl)
        · have he : decide (ordS m.st[i] m.st[i + 1] ≥ 0) = false := he
          refine Sk <| Rg <| O1 (addN rfl rfl (by omega)) <| O1 rfl <| On <| ?_
          exact ⟨i + 1 + 1, by simp only; omega, rfl, by omega, hX34, by rw [hno, he]; simp [prevS, List.getElem?_eq_getElem hlt]⟩
  · have hlt : ¬ i < m.st.length := by simpa using hc
    refine Xt <| ?_
    exact hQ _ _ hX (by rw [hno, List.drop_eq_nil_of_le (by omega)]; rfl)
end Go.Vm.Code
