/-
  Rules for runs of the abstract machine; lists in memory. Conditions: none beyond those that each statement names.
-/
import Derived.Test.YtflgecobobgpcaaGreatPVA
import Derived.Test.YtflgecobobgpcaaGreatPVG
namespace Go.Vm
section
variable (E : Env)

/-- code runs to an end of which Q holds -/
def Runs (rd : Option Nat) (c : AC) (r : Regs) (H : Hp) (Q : Out → Regs → Hp → Prop) : Prop := ∃ o r' H', Q o r' H' ∧ ∃ n0, ∀ n, n0 ≤ n → exec E n rd c r H = some (o, r', H')
/-- a call runs to an end of which Q holds -/
def CallR (f : Nat) (args : List V) (H : Hp) (Q : V → Hp → Prop) : Prop := ∃ v H', Q v H' ∧ ∃ n0, ∀ n, n0 ≤ n → callF E (exec E n) f args H = some (v, H')
def ValR (fv : V) (args : List V) (H : Hp) (Q : V → Hp → Prop) : Prop := ∃ v H', Q v H' ∧ ∃ n0, ∀ n, n0 ≤ n → callV E (exec E n) fv args H = some (v, H')
def OpsR (ops : List AOper) (r : Regs) (H : Hp) (Q : Regs → Hp → Prop) : Prop := ∃ r' H', Q r' H' ∧ ∃ n0, ∀ n, n0 ≤ n → runOps E (callV E (exec E n)) ops r H = some (r', H')
def DrR (all ops : List AOper) (r : Regs) (H : Hp) (Q : Regs → Hp → Prop) : Prop := ∃ r' H', Q r' H' ∧ ∃ n0, ∀ n, n0 ≤ n → runDraw E (callV E (exec E n)) all ops r H = some (r', H')
end
section
variable {E : Env} {rd : Option Nat} {r : Regs} {H : Hp} {Q : Out → Regs → Hp → Prop}

/-- one step on, by fuel -/
theorem Runs.step {c : AC} {o : Out} {r' : Regs} {H' : Hp} (hQ : Q o r' H') (n0 : Nat) (h : ∀ n, n0 ≤ n → execWith E (exec E n) rd c r H = some (o, r', H')) : Runs E rd c r H Q :=
  ⟨o, r', H', hQ, n0 + 1, fun n hn => by
    obtain ⟨k, rfl⟩ : ∃ k, n = k + 1 := ⟨n - 1, by omega⟩
    exact h k (by omega)⟩
theorem Runs.mono {c : AC} {Q' : Out → Regs → Hp → Prop} (h : Runs E rd c r H Q) (hq : ∀ o r' H', Q o r' H' → Q' o r' H') : Runs E rd c r H Q' :=
  let ⟨o, r', H', h1, h2⟩ := h; ⟨o, r', H', hq _ _ _ h1, h2⟩
theorem CallR.mono {f : Nat} {args : List V} {Q Q' : V → Hp → Prop} (h : CallR E f args H Q) (hq : ∀ v H', Q v H' → Q' v H') : CallR E f args H Q' :=
  let ⟨v, H', h1, h2⟩ := h; ⟨v, H', hq _ _ h1, h2⟩
theorem ValR.fn {f : Nat} {cs args : List V} {Q : V → Hp → Prop} (h : CallR E f (args ++ cs) H Q) : ValR E (.fn f cs) args H Q := h

def thenQ (E : Env) (rd : Option Nat) (b : AC) (Q : Out → Regs → Hp → Prop) : Out → Regs → Hp → Prop
  | .normal, r, H => Runs E rd b r H Q
  | o, r, H => Q o r H

theorem Runs.skip (h : Q .normal r H) : Runs E rd .skip r H Q := Runs.step h 0 fun _ _ => rfl
theorem Runs.exit {id : Nat} (h : Q (.exit id) r H) : Runs E rd (.exit id) r H Q := Runs.step h 0 fun _ _ => rfl
theorem Runs.ret (h : Q .ret r H) : Runs E rd .ret r H Q := Runs.step h 0 fun _ _ => rfl
theorem Runs.seq {a b : AC} (h : Runs E rd a r H (thenQ E rd b Q)) : Runs E rd (.seq a b) r H Q := by
  obtain ⟨o, r1, H1, hq, n0, h1⟩ := h
  cases o with
  | normal =>
    obtain ⟨o2, r2, H2, hq2, n1, h2⟩ := hq
    refine Runs.step hq2 (max n0 n1) (fun n hn => ?_)
    simp only [execWith, h1 n (by omega), Option.bind_some, h2 n (by omega)]
  | exit id => exact Runs.step hq n0 (fun n hn => by simp only [execWith, h1 n hn, Option.bind_some])
  | ret => exact Runs.step hq n0 (fun n hn => by simp only [execWith, h1 n hn, Option.bind_some])
theorem Runs.cond {x : Opd} {a b : AC} {t : Bool} (hx : ev r x = some (.bool t)) (ht : t = true → Runs E rd a r H Q) (hf : t = false → Runs E rd b r H Q) : Runs E rd (.cond x a b) r H Q := by
  cases t with
  | true =>
    obtain ⟨o, r', H', h1, n0, h2⟩ := ht rfl
    exact Runs.step h1 n0 (fun n hn => by simp only [execWith, hx, Option.bind_some, h2 n hn])
  | false =>
    obtain ⟨o, r', H', h1, n0, h2⟩ := hf rfl
    exact Runs.step h1 n0 (fun n hn => by simp only [execWith, hx, Option.bind_some, h2 n hn])
def blockQ (id : Nat) (Q : Out → Regs → Hp → Prop) : Out → Regs → Hp → Prop
  | .exit i, r, H => if i = id then Q .normal r H else Q (.exit i) r H
  | o, r, H => Q o r H
theorem Runs.block {id : Nat} {b : AC} (h : Runs E rd b r H (blockQ id Q)) : Runs E rd (.block id b) r H Q := by
  obtain ⟨o, r1, H1, hq, n0, h1⟩ := h
  cases o with
  | normal => exact Runs.step hq n0 (fun n hn => by simp only [execWith, h1 n hn, Option.bind_some])
  | ret => exact Runs.step hq n0 (fun n hn => by simp only [execWith, h1 n hn, Option.bind_some])
  | exit i =>
    simp only [blockQ] at hq
    split at hq
    · rename_i e; subst e
      exact Runs.step hq n0 (fun n hn => by simp only [execWith, h1 n hn, Option.bind_some, Nat.beq_refl, cond_true])
    · rename_i e
      exact Runs.step hq n0 (fun n hn => by
        have : Nat.beq i id = false := by
          cases hb : Nat.beq i id with
          | false => rfl
          | true => exact absurd (Nat.eq_of_beq_eq_true hb) e
        simp only [execWith, h1 n hn, Option.bind_some, this, cond_false])
theorem Runs.loop {keep : List Nat} {b : AC} (h : Runs E rd b (restrict r keep) H (thenQ E rd (.loop keep b) Q)) : Runs E rd (.loop keep b) r H Q := by
  obtain ⟨o, r1, H1, hq, n0, h1⟩ := h
  cases o with
  | normal =>
    obtain ⟨o2, r2, H2, hq2, n1, h2⟩ := hq
    refine Runs.step hq2 (max n0 n1) (fun n hn => ?_)
    simp only [execWith, h1 n (by omega), Option.bind_some, h2 n (by omega)]
  | exit id => exact Runs.step hq n0 (fun n hn => by simp only [execWith, h1 n hn, Option.bind_some])
  | ret => exact Runs.step hq n0 (fun n hn => by simp only [execWith, h1 n hn, Option.bind_some])
theorem Runs.reg {ops : List AOper} (h : OpsR E ops r H (Q .normal)) : Runs E rd (.reg ops none) r H Q := by
  obtain ⟨r', H', hq, n0, h1⟩ := h
  exact Runs.step hq n0 (fun n hn => by simp only [execWith, h1 n hn, Option.bind_some, restrictO])
theorem Runs.dreg {perm : List Nat} {ops : List AOper} (h : DrR E ops ops r H (Q .normal)) : Runs E rd (.dreg perm ops none) r H Q := by
  obtain ⟨r', H', hq, n0, h1⟩ := h
  exact Runs.step hq n0 (fun n hn => by simp only [execWith, h1 n hn, Option.bind_some, restrictO])

/-- a call, from the run of its body -/
theorem CallR.of {f np nt : Nat} {res : List RV} {body : AC} {args : List V} {Q : V → Hp → Prop} (hp : E.prim f = none) (hf : E.funcs f = some ⟨np, nt, res, body⟩) (ha : args.length = np)
    (h : Runs E none body (zipRegs 0 args) H (fun o r' H' => (∀ i, o ≠ .exit i) ∧ ∃ vs, results E r' H' res = some vs ∧ Q (retOf vs) H')) : CallR E f args H Q := by
  obtain ⟨o, r', H', ⟨ho, vs, hv, hq⟩, n0, h1⟩ := h
  refine ⟨_, H', hq, n0, fun n hn => ?_⟩
  simp only [callF, hp, hf, Option.bind_some, ha, Nat.beq_refl, cond_true, h1 n hn]
  cases o with
  | exit i => exact absurd rfl (ho i)
  | normal => simp only [hv, Option.bind_some]
  | ret => simp only [hv, Option.bind_some]
end
end Go.Vm

namespace Go.Vm
def noCall : CallF := fun _ _ _ => none
section
variable {E : Env} {r : Regs} {H : Hp} {Q : Regs → Hp → Prop}

theorem stepOp_nc {call : CallF} {op : AOp} {p : V × Hp} (h : stepOp E noCall r H op = some p) : stepOp E call r H op = some p := by
  cases op <;> try exact h
  simp only [stepOp, AOp.kind, actOp, noCall] at h
  rename_i f as
  cases h1 : ev r f with
  | none => simp [h1] at h
  | some v => cases h2 : evs r as with
    | none => simp [h1, h2] at h
    | some vs => simp [h1, h2] at h

theorem OpsR.nil (h : Q r H) : OpsR E [] r H Q := ⟨r, H, h, 0, fun _ _ => rfl⟩
theorem OpsR.op {dst : Option Nat} {op : AOp} {re : List Nat} {os : List AOper} {v : V} {H1 : Hp} (h : stepOp E noCall r H op = some (v, H1)) (k : OpsR E os (put r dst v) H1 Q) : OpsR E (⟨dst, op, none, re⟩ :: os) r H Q := by
  obtain ⟨r', H', hq, n0, h1⟩ := k
  exact ⟨r', H', hq, n0, fun n hn => by simp only [runOps, wanted, Option.bind_some, cond_true, stepOp_nc h]; exact h1 n hn⟩
theorem OpsR.opT {dst : Option Nat} {op : AOp} {re : List Nat} {t : Nat} {b : Bool} {os : List AOper} {v : V} {H1 : Hp} (hw : wanted r (some (t, b)) = some true) (h : stepOp E noCall r H op = some (v, H1)) (k : OpsR E os (put r dst v) H1 Q) : OpsR E (⟨dst, op, some (t, b), re⟩ :: os) r H Q := by
  obtain ⟨r', H', hq, n0, h1⟩ := k
  exact ⟨r', H', hq, n0, fun n hn => by simp only [runOps, hw, Option.bind_some, cond_true, stepOp_nc h]; exact h1 n hn⟩
theorem OpsR.opF {dst : Option Nat} {op : AOp} {re : List Nat} {t : Nat} {b : Bool} {os : List AOper} (hw : wanted r (some (t, b)) = some false) (k : OpsR E os (put r dst (.tup [])) H Q) : OpsR E (⟨dst, op, some (t, b), re⟩ :: os) r H Q := by
  obtain ⟨r', H', hq, n0, h1⟩ := k
  exact ⟨r', H', hq, n0, fun n hn => by simp only [runOps, hw, Option.bind_some, cond_false]; exact h1 n hn⟩
theorem step_ld1 {a : Opd} {p v : V} (hp : ev r a = some p) (h : ld1 E H p = some v) : stepOp E noCall r H (.ld1 a) = some (v, H) := by
  simp only [stepOp, AOp.kind, readOp, hp, Option.bind_some, h]
theorem step_ldN {n : Nat} {a : Opd} {p : V} {l : List V} (hp : ev r a = some p) (h : ldN E H n p = some l) : stepOp E noCall r H (.ldN n a) = some (.agg l, H) := by
  simp only [stepOp, AOp.kind, readOp, hp, Option.bind_some, h]
theorem OpsR.call {dst : Option Nat} {f : Opd} {as : List Opd} {re : List Nat} {os : List AOper} {fv : V} {vs : List V} (hf : ev r f = some fv) (ha : evs r as = some vs) (k : ValR E fv vs H (fun v H' => OpsR E os (put r dst v) H' Q)) :
    OpsR E (⟨dst, .call f as, none, re⟩ :: os) r H Q := by
  obtain ⟨v, H1, ⟨r', H', hq, n0, h1⟩, n1, h2⟩ := k
  exact ⟨r', H', hq, max n0 n1, fun n hn => by simp only [runOps, wanted, Option.bind_some, cond_true, stepOp, AOp.kind, actOp, hf, ha, h2 n (by omega)]; exact h1 n (by omega)⟩
theorem OpsR.callT {dst : Option Nat} {f : Opd} {as : List Opd} {re : List Nat} {t : Nat} {b : Bool} {os : List AOper} {fv : V} {vs : List V} (hw : wanted r (some (t, b)) = some true) (hf : ev r f = some fv) (ha : evs r as = some vs) (k : ValR E fv vs H (fun v H' => OpsR E os (put r dst v) H' Q)) :
    OpsR E (⟨dst, .call f as, some (t, b), re⟩ :: os) r H Q := by
  obtain ⟨v, H1, ⟨r', H', hq, n0, h1⟩, n1, h2⟩ := k
  exact ⟨r', H', hq, max n0 n1, fun n hn => by simp only [runOps, hw, Option.bind_some, cond_true, stepOp, AOp.kind, actOp, hf, ha, h2 n (by omega)]; exact h1 n (by omega)⟩
theorem step_lenS {x : Opd} {v : V} {n : Nat} (hv : ev r x = some v) (h : lenOf v = some n) : stepOp E noCall r H (.lenS x) = some (.int .i64 n, H) := by
  simp only [stepOp, AOp.kind, pureOp, hv, Option.bind_some, h]
theorem step_ixS {x i : Opd} {b o len cap es n : Nat} {k : IntKind} (hv : ev r x = some (.xslc b o len cap)) (hi : ev r i = some (.int k (n : Int))) (h : n < len) : stepOp E noCall r H (.ixS es x i) = some (.xptr b (o + n * es), H) := by
  have h' : Nat.blt n len = true := by simpa using h
  simp only [stepOp, AOp.kind, pureOp, hv, hi, Option.bind_some, natOf, Int.natCast_nonneg, if_true, Int.toNat_natCast, h', cond_true]
theorem Runs.condT {rd : Option Nat} {x : Opd} {a b : AC} {t : Bool} {Q : Out → Regs → Hp → Prop} (hx : ev r x = some (.bool t)) (ht : t = true) (h : Runs E rd a r H Q) : Runs E rd (.cond x a b) r H Q :=
  Runs.cond hx (fun _ => h) (fun e => by rw [ht] at e; cases e)
theorem Runs.condF {rd : Option Nat} {x : Opd} {a b : AC} {t : Bool} {Q : Out → Regs → Hp → Prop} (hx : ev r x = some (.bool t)) (ht : t = false) (h : Runs E rd b r H Q) : Runs E rd (.cond x a b) r H Q :=
  Runs.cond hx (fun e => by rw [ht] at e; cases e) (fun _ => h)

section
variable {all : List AOper}
theorem ble_true {a b : Nat} (h : a ≤ b) : Nat.ble a b = true := by simpa using h
theorem DrR.nil (h : Q r H) : DrR E all [] r H Q := ⟨r, H, h, 0, fun _ _ => rfl⟩
theorem DrR.opA {dst : Option Nat} {op : AOp} {re : List Nat} {os : List AOper} {v : V} {H1 : Hp} (h : stepOp E noCall r H op = some (v, H1)) (hn : H.next ≤ H1.next) (ha : again E all r H1 re = true) (k : DrR E all os (put r dst v) H1 Q) : DrR E all (⟨dst, op, none, re⟩ :: os) r H Q := by
  obtain ⟨r', H', hq, n0, h1⟩ := k
  exact ⟨r', H', hq, n0, fun n hn' => by simp only [runDraw, wanted, Option.bind_some, cond_true, stepOp_nc h, ble_true hn, ha, Bool.and_self]; exact h1 n hn'⟩
theorem DrR.op {dst : Option Nat} {op : AOp} {os : List AOper} {v : V} {H1 : Hp} (h : stepOp E noCall r H op = some (v, H1)) (hn : H.next ≤ H1.next) (k : DrR E all os (put r dst v) H1 Q) : DrR E all (⟨dst, op, none, []⟩ :: os) r H Q := DrR.opA h hn rfl k
theorem DrR.opT {dst : Option Nat} {op : AOp} {t : Nat} {b : Bool} {os : List AOper} {v : V} {H1 : Hp} (hw : wanted r (some (t, b)) = some true) (h : stepOp E noCall r H op = some (v, H1)) (hn : H.next ≤ H1.next) (k : DrR E all os (put r dst v) H1 Q) : DrR E all (⟨dst, op, some (t, b), []⟩ :: os) r H Q := by
  obtain ⟨r', H', hq, n0, h1⟩ := k
  exact ⟨r', H', hq, n0, fun n hn' => by simp only [runDraw, hw, Option.bind_some, cond_true, stepOp_nc h, ble_true hn, again, Bool.and_self]; exact h1 n hn'⟩
theorem DrR.opF {dst : Option Nat} {op : AOp} {re : List Nat} {t : Nat} {b : Bool} {os : List AOper} (hw : wanted r (some (t, b)) = some false) (k : DrR E all os (put r dst (.tup [])) H Q) : DrR E all (⟨dst, op, some (t, b), re⟩ :: os) r H Q := by
  obtain ⟨r', H', hq, n0, h1⟩ := k
  exact ⟨r', H', hq, n0, fun n hn => by simp only [runDraw, hw, Option.bind_some, cond_false]; exact h1 n hn⟩
theorem DrR.call {dst : Option Nat} {f : Opd} {as : List Opd} {os : List AOper} {fv : V} {vs : List V} (hf : ev r f = some fv) (ha : evs r as = some vs) (k : ValR E fv vs H (fun v H' => H.next ≤ H'.next ∧ DrR E all os (put r dst v) H' Q)) :
    DrR E all (⟨dst, .call f as, none, []⟩ :: os) r H Q := by
  obtain ⟨v, H1, ⟨hn, r', H', hq, n0, h1⟩, n1, h2⟩ := k
  exact ⟨r', H', hq, max n0 n1, fun n hn' => by simp only [runDraw, wanted, Option.bind_some, cond_true, stepOp, AOp.kind, actOp, hf, ha, h2 n (by omega), ble_true hn, again, Bool.and_self]; exact h1 n (by omega)⟩
theorem DrR.callT {dst : Option Nat} {f : Opd} {as : List Opd} {t : Nat} {b : Bool} {os : List AOper} {fv : V} {vs : List V} (hw : wanted r (some (t, b)) = some true) (hf : ev r f = some fv) (ha : evs r as = some vs) (k : ValR E fv vs H (fun v H' => H.next ≤ H'.next ∧ DrR E all os (put r dst v) H' Q)) :
    DrR E all (⟨dst, .call f as, some (t, b), []⟩ :: os) r H Q := by
  obtain ⟨v, H1, ⟨hn, r', H', hq, n0, h1⟩, n1, h2⟩ := k
  exact ⟨r', H', hq, max n0 n1, fun n hn' => by simp only [runDraw, hw, Option.bind_some, cond_true, stepOp, AOp.kind, actOp, hf, ha, h2 n (by omega), ble_true hn, again, Bool.and_self]; exact h1 n (by omega)⟩
end
end
end Go.Vm

namespace Go.Vm
section
variable (E : Env)
/-- a slice of elements of es cells, each as R says -/
def SeqC {α : Type} (es : Nat) (R : Nat → Nat → α → Prop) (v : V) (l : List α) : Prop :=
  l.length < 2 ^ 63 ∧ ((v = .nils ∧ l = []) ∨ ∃ b o cap, v = .xslc b o l.length cap ∧ ∀ (i : Nat) (x : α), l[i]? = some x → R b (o + i * es) x)
def IntC (b off : Nat) (n : Int) : Prop := E.ext b off = some (.int .i64 n)
def ValC {α : Type} (R : V → α → Prop) (b off : Nat) (x : α) : Prop := ∃ u, E.ext b off = some u ∧ R u x
abbrev L1 := SeqC 1 (IntC E)
abbrev L2 := SeqC 1 (ValC E (L1 E))
abbrev L3 := SeqC 1 (ValC E (L2 E))
abbrev L4 := SeqC 1 (ValC E (L3 E))
end
theorem SeqC.len {α : Type} {es : Nat} {R : Nat → Nat → α → Prop} {v : V} {l : List α} (h : SeqC es R v l) : lenOf v = some l.length := by
  obtain ⟨_, ⟨rfl, rfl⟩ | ⟨b, o, cap, rfl, _⟩⟩ := h <;> rfl
/-- the address of an element -/
theorem SeqC.at {α : Type} {es : Nat} {R : Nat → Nat → α → Prop} {v : V} {l : List α} (h : SeqC es R v l) {i : Nat} {x : α} (hx : l[i]? = some x) : ∃ b o cap, v = .xslc b o l.length cap ∧ R b (o + i * es) x := by
  obtain ⟨_, ⟨rfl, rfl⟩ | ⟨b, o, cap, rfl, hr⟩⟩ := h
  · simp at hx
  · exact ⟨b, o, cap, rfl, hr i x hx⟩

/-- what was there is there -/
def Ext (H H' : Hp) : Prop := H.next ≤ H'.next ∧ ∀ id, id < H.next → H'.get id = H.get id
theorem Ext.refl (H : Hp) : Ext H H := ⟨Nat.le_refl _, fun _ _ => rfl⟩
theorem Ext.trans {A B C : Hp} (h : Ext A B) (h' : Ext B C) : Ext A C := ⟨Nat.le_trans h.1 h'.1, fun id hi => (h'.2 id (Nat.lt_of_lt_of_le hi h.1)).trans (h.2 id hi)⟩
def At (H : Hp) (p : Nat) (o : Ob) : Prop := p < H.next ∧ H.get p = some o
theorem Ext.at {H H' : Hp} {p : Nat} {o : Ob} (h : Ext H H') (a : At H p o) : At H' p o := ⟨Nat.lt_of_lt_of_le a.1 h.1, (h.2 p a.1).trans a.2⟩

/-- numbers -/
theorem wrap_id {n : Int} (h1 : -9223372036854775808 ≤ n) (h2 : n < 9223372036854775808) : IntKind.i64.wrap n = n := by
  have e1 : ((2 : Int) ^ IntKind.i64.bits) = 18446744073709551616 := by decide +kernel
  have e2 : ((2 : Int) ^ (IntKind.i64.bits - 1)) = 9223372036854775808 := by decide +kernel
  unfold IntKind.wrap
  rw [e1, e2]
  simp only [IntKind.signed, Bool.true_and, decide_eq_true_eq]
  split <;> omega

/-- how a round of a loop may end -/
def roundQ {σ : Type} (keep : List Nat) (RS : σ → Regs) (Inv : σ → Hp → Prop) (μ : σ → Nat) (Q : Out → Regs → Hp → Prop) (s : σ) : Out → Regs → Hp → Prop
  | .normal, r', H' => ∃ s', μ s' < μ s ∧ restrict r' keep = RS s' ∧ Inv s' H'
  | o, r', H' => Q o r' H'

theorem Runs.loopS {E : Env} {rd : Option Nat} {keep : List Nat} {B : AC} {Q : Out → Regs → Hp → Prop} {σ : Type} (RS : σ → Regs) (Inv : σ → Hp → Prop) (μ : σ → Nat)
    (body : ∀ s H, Inv s H → Runs E rd B (RS s) H (roundQ keep RS Inv μ Q s)) : ∀ s r H, restrict r keep = RS s → Inv s H → Runs E rd (.loop keep B) r H Q := by
  have key : ∀ k s r H, μ s = k → restrict r keep = RS s → Inv s H → Runs E rd (.loop keep B) r H Q := by
    intro k
    induction k using Nat.strongRecOn with
    | _ k ih =>
      intro s r H hk hr hI
      refine Runs.loop ?_
      rw [hr]
      refine Runs.mono (body s H hI) (fun o r' H' h => ?_)
      cases o with
      | normal =>
        obtain ⟨s', h1, h2, h3⟩ := h
        exact ih (μ s') (by omega) s' r' H' rfl h2 h3
      | exit i => exact h
      | ret => exact h
  exact fun s r H hr hI => key _ s r H rfl hr hI

theorem ValR.mono {E : Env} {fv : V} {args : List V} {H : Hp} {Q Q' : V → Hp → Prop} (h : ValR E fv args H Q) (hq : ∀ v H', Q v H' → Q' v H') : ValR E fv args H Q' :=
  let ⟨v, H', h1, h2⟩ := h; ⟨v, H', hq _ _ h1, h2⟩

theorem CallR.map {E : Env} {f : Nat} {args : List V} {H : Hp} {Q Q' : V → Hp → Prop} (h : CallR E f args H Q) (hq : ∀ v H', Q v H' → Q' v H') : CallR E f args H Q' := h.mono hq

/-- what is known of the environment of a law -/
structure Law (E : Env) (tbl : Nat → Option AFunc) : Prop where
  funcs : E.funcs = tbl
  prim : ∀ f, f ≠ 12 → E.prim f = none

theorem At.new (H : Hp) (o : Ob) : At (H.new o) H.next o := ⟨Nat.lt_succ_self _, by rw [get_new]; simp [gset]⟩
theorem Ext.new (H : Hp) (o : Ob) : Ext H (H.new o) := ⟨Nat.le_succ _, fun id hi => by rw [get_new]; simp only [gset]; rw [if_neg (by omega)]⟩
theorem At.ld1 {E : Env} {H : Hp} {p off : Nat} {l : List V} (h : At H p (.cells l)) : Vm.ld1 E H (.ptr p off) = nth l off := by simp only [Vm.ld1, h.2]
theorem At.ldN {E : Env} {H : Hp} {p off n : Nat} {l : List V} (h : At H p (.cells l)) : Vm.ldN E H n (.ptr p off) = getAt l off n := by simp only [Vm.ldN, h.2]
theorem foldl_take {α β : Type} {f : β → α → β} {l : List α} {a : β} {j : Nat} {x : α} (h : l[j]? = some x) : (l.take (j + 1)).foldl f a = f ((l.take j).foldl f a) x := by
  rw [List.take_add_one, h, List.foldl_append]; rfl
end Go.Vm

namespace Go.Vm
section
variable {E : Env} {r : Regs} {H : Hp}
theorem step_mv {t : Nat} {v : V} (h : look r t = some v) : stepOp E noCall r H (.mv (.t t)) = some (v, H) := by
  simp only [stepOp, AOp.kind, pureOp, ev, h, Option.bind_some]
theorem step_fa {t id o off : Nat} (h : look r t = some (.ptr id o)) : stepOp E noCall r H (.fa (.t t) off) = some (.ptr id (o + off), H) := by
  simp only [stepOp, AOp.kind, pureOp, ev, h, Option.bind_some]
theorem step_fax {t b o off : Nat} (h : look r t = some (.xptr b o)) : stepOp E noCall r H (.fa (.t t) off) = some (.xptr b (o + off), H) := by
  simp only [stepOp, AOp.kind, pureOp, ev, h, Option.bind_some]
theorem step_bin {op : BinOp} {x y : Opd} {k k' : IntKind} {a b : Int} {v : V} (hx : ev r x = some (.int k a)) (hy : ev r y = some (.int k' b)) (h : binInt op k a k' b = some v) : stepOp E noCall r H (.bin op x y) = some (v, H) := by
  simp only [stepOp, AOp.kind, pureOp, hx, hy, Option.bind_some, h]
/-- a sum of numbers that an int holds -/
theorem addN {x y : Opd} {n m : Nat} (hx : ev r x = some (.int .i64 (n : Int))) (hy : ev r y = some (.int .i64 (Int.ofNat m))) (h : n + m < 9223372036854775808) : stepOp E noCall r H (.bin .add x y) = some (.int .i64 ((n + m : Nat) : Int), H) := by
  refine step_bin hx hy ?_
  show (if IntKind.i64 = IntKind.i64 then some (V.int .i64 (IntKind.i64.wrap ((n : Int) + (m : Int)))) else none) = _
  rw [if_pos rfl, wrap_id (by omega) (by omega)]; rfl
theorem addI {x y : Opd} {a b : Int} (hx : ev r x = some (.int .i64 a)) (hy : ev r y = some (.int .i64 b)) (h : -9223372036854775808 ≤ a + b ∧ a + b < 9223372036854775808) : stepOp E noCall r H (.bin .add x y) = some (.int .i64 (a + b), H) := by
  refine step_bin hx hy ?_
  show (if IntKind.i64 = IntKind.i64 then some (V.int .i64 (IntKind.i64.wrap (a + b))) else none) = _
  rw [if_pos rfl, wrap_id h.1 h.2]
theorem addL {x y : Opd} {a : Int} {m : Nat} (hx : ev r x = some (.int .i64 a)) (hy : ev r y = some (.int .i64 (Int.ofNat m))) (h : -9223372036854775808 ≤ a + (m : Int) ∧ a + (m : Int) < 9223372036854775808) : stepOp E noCall r H (.bin .add x y) = some (.int .i64 (a + (m : Int)), H) := addI hx hy h
theorem subI {x y : Opd} {a b : Int} (hx : ev r x = some (.int .i64 a)) (hy : ev r y = some (.int .i64 b)) (h : -9223372036854775808 ≤ a - b ∧ a - b < 9223372036854775808) : stepOp E noCall r H (.bin .sub x y) = some (.int .i64 (a - b), H) := by
  refine step_bin hx hy ?_
  show (if IntKind.i64 = IntKind.i64 then some (V.int .i64 (IntKind.i64.wrap (a - b))) else none) = _
  rw [if_pos rfl, wrap_id h.1 h.2]
theorem subL {x y : Opd} {a : Int} {m : Nat} (hx : ev r x = some (.int .i64 a)) (hy : ev r y = some (.int .i64 (Int.ofNat m))) (h : -9223372036854775808 ≤ a - (m : Int) ∧ a - (m : Int) < 9223372036854775808) : stepOp E noCall r H (.bin .sub x y) = some (.int .i64 (a - (m : Int)), H) := subI hx hy h
theorem ixI {x i : Opd} {b o len cap es : Nat} {z : Int} {k : IntKind} (hv : ev r x = some (.xslc b o len cap)) (hi : ev r i = some (.int k z)) (h : 0 ≤ z ∧ z < (len : Int)) : stepOp E noCall r H (.ixS es x i) = some (.xptr b (o + z.toNat * es), H) := by
  obtain ⟨n, rfl⟩ := Int.eq_ofNat_of_zero_le h.1
  rw [Int.toNat_natCast]
  exact step_ixS hv hi (by omega)
theorem ix0 {x : Opd} {b o len cap es : Nat} {k : IntKind} (hv : ev r x = some (.xslc b o len cap)) (h : 0 < len) : stepOp E noCall r H (.ixS es x (.c (.int k (Int.ofNat 0)))) = some (.xptr b (o + 0 * es), H) :=
  step_ixS (n := 0) hv rfl h
/-- the same for slices of our own -/
theorem step_ixO {x i : Opd} {id o len es n : Nat} {c : Cap} {k : IntKind} (hv : ev r x = some (.slc id o len c)) (hi : ev r i = some (.int k (n : Int))) (h : n < len) : stepOp E noCall r H (.ixS es x i) = some (.ptr id (o + n * es), H) := by
  have h' : Nat.blt n len = true := by simpa using h
  simp only [stepOp, AOp.kind, pureOp, hv, hi, Option.bind_some, natOf, Int.natCast_nonneg, if_true, Int.toNat_natCast, h', cond_true]
/-- arrays -/
theorem ixA {x i : Opd} {id o es len n : Nat} {k : IntKind} (hv : ev r x = some (.ptr id o)) (hi : ev r i = some (.int k (n : Int))) (h : n < len) : stepOp E noCall r H (.ixA len es x i) = some (.ptr id (o + n * es), H) := by
  have h' : Nat.blt n len = true := by simpa using h
  simp only [stepOp, AOp.kind, pureOp, hv, hi, Option.bind_some, natOf, Int.natCast_nonneg, if_true, Int.toNat_natCast, h', cond_true]
theorem ixAI {x i : Opd} {id o es len : Nat} {z : Int} {k : IntKind} (hv : ev r x = some (.ptr id o)) (hi : ev r i = some (.int k z)) (h : 0 ≤ z ∧ z < (len : Int)) : stepOp E noCall r H (.ixA len es x i) = some (.ptr id (o + z.toNat * es), H) := by
  obtain ⟨n, rfl⟩ := Int.eq_ofNat_of_zero_le h.1
  rw [Int.toNat_natCast]
  exact ixA hv hi (by omega)
end
section
variable {E : Env} {r : Regs} {H : Hp}
theorem ldA {a : Opd} {p off : Nat} {l : List V} {v : V} (ha : ev r a = some (.ptr p off)) (h : At H p (.cells l)) (hn : nth l off = some v) : stepOp E noCall r H (.ld1 a) = some (v, H) := step_ld1 ha (h.ld1.trans hn)
theorem ldNA {a : Opd} {p off n : Nat} {l l' : List V} (ha : ev r a = some (.ptr p off)) (h : At H p (.cells l)) (hn : getAt l off n = some l') : stepOp E noCall r H (.ldN n a) = some (.agg l', H) := step_ldN ha (h.ldN.trans hn)
theorem lnS {α : Type} {es : Nat} {R : Nat → Nat → α → Prop} {x : Opd} {v : V} {l : List α} (hv : ev r x = some v) (h : SeqC es R v l) : stepOp E noCall r H (.lenS x) = some (.int .i64 l.length, H) := step_lenS hv h.len
end
/-! short names -/
section
variable {E : Env} {r : Regs} {H : Hp} {rd : Option Nat} {Q : Out → Regs → Hp → Prop} {K : Regs → Hp → Prop}
theorem Sq {a b : AC} (h : Runs E rd a r H (thenQ E rd b Q)) : Runs E rd (.seq a b) r H Q := Runs.seq h
theorem Rg {ops : List AOper} (h : OpsR E ops r H (Q .normal)) : Runs E rd (.reg ops none) r H Q := Runs.reg h
theorem Dg {perm : List Nat} {ops : List AOper} (h : DrR E ops ops r H (Q .normal)) : Runs E rd (.dreg perm ops none) r H Q := Runs.dreg h
theorem Sk (h : Q .normal r H) : Runs E rd .skip r H Q := Runs.skip h
theorem Xt {id : Nat} (h : Q (.exit id) r H) : Runs E rd (.exit id) r H Q := Runs.exit h
theorem Rt (h : Q .ret r H) : Runs E rd .ret r H Q := Runs.ret h
theorem Bk {id : Nat} {b : AC} (h : Runs E rd b r H (blockQ id Q)) : Runs E rd (.block id b) r H Q := Runs.block h
theorem CT {x : Opd} {a b : AC} (hx : ev r x = some (.bool true)) (h : Runs E rd a r H Q) : Runs E rd (.cond x a b) r H Q := Runs.condT hx rfl h
theorem CF {x : Opd} {a b : AC} (hx : ev r x = some (.bool false)) (h : Runs E rd b r H Q) : Runs E rd (.cond x a b) r H Q := Runs.condF hx rfl h
theorem On (h : K r H) : OpsR E [] r H K := OpsR.nil h
theorem O1 {dst : Option Nat} {op : AOp} {re : List Nat} {os : List AOper} {v : V} {H1 : Hp} (h : stepOp E noCall r H op = some (v, H1)) (k : OpsR E os (put r dst v) H1 K) : OpsR E (⟨dst, op, none, re⟩ :: os) r H K := OpsR.op h k
theorem OY {dst : Option Nat} {op : AOp} {re : List Nat} {t : Nat} {b : Bool} {os : List AOper} {v : V} {H1 : Hp} (hw : wanted r (some (t, b)) = some true) (h : stepOp E noCall r H op = some (v, H1)) (k : OpsR E os (put r dst v) H1 K) : OpsR E (⟨dst, op, some (t, b), re⟩ :: os) r H K := OpsR.opT hw h k
theorem ON {dst : Option Nat} {op : AOp} {re : List Nat} {t : Nat} {b : Bool} {os : List AOper} (hw : wanted r (some (t, b)) = some false) (k : OpsR E os (put r dst (.tup [])) H K) : OpsR E (⟨dst, op, some (t, b), re⟩ :: os) r H K := OpsR.opF hw k
variable {all : List AOper}
theorem Dn (h : K r H) : DrR E all [] r H K := DrR.nil h
/-- an operation that leaves the heap alone -/
theorem D1 {dst : Option Nat} {op : AOp} {os : List AOper} {v : V} (h : stepOp E noCall r H op = some (v, H)) (k : DrR E all os (put r dst v) H K) : DrR E all (⟨dst, op, none, []⟩ :: os) r H K := DrR.op h (Nat.le_refl _) k
theorem Dw {dst : Option Nat} {op : AOp} {os : List AOper} {v : V} {H1 : Hp} (h : stepOp E noCall r H op = some (v, H1)) (hn : H.next ≤ H1.next) (k : DrR E all os (put r dst v) H1 K) : DrR E all (⟨dst, op, none, []⟩ :: os) r H K := DrR.op h hn k
theorem DY {dst : Option Nat} {op : AOp} {t : Nat} {b : Bool} {os : List AOper} {v : V} (hw : wanted r (some (t, b)) = some true) (h : stepOp E noCall r H op = some (v, H)) (k : DrR E all os (put r dst v) H K) : DrR E all (⟨dst, op, some (t, b), []⟩ :: os) r H K := DrR.opT hw h (Nat.le_refl _) k
theorem DN {dst : Option Nat} {op : AOp} {re : List Nat} {t : Nat} {b : Bool} {os : List AOper} (hw : wanted r (some (t, b)) = some false) (k : DrR E all os (put r dst (.tup [])) H K) : DrR E all (⟨dst, op, some (t, b), re⟩ :: os) r H K := DrR.opF hw k
end
end Go.Vm

namespace Go.Vm
/-- the address of an element -/
def elp (es : Nat) : V → Nat → V
  | .xslc b o _ _, i => .xptr b (o + i * es)
  | .slc id o _ _, i => .ptr id (o + i * es)
  | _, _ => .nilp
def padd : V → Nat → V
  | .xptr b o, j => .xptr b (o + j)
  | .ptr id o, j => .ptr id (o + j)
  | _, _ => .nilp
section
variable (E : Env)
/-- a cell reads so, now and in all heaps that have grown -/
def Pers (H : Hp) (p u : V) : Prop := ∀ H', Ext H H' → ld1 E H' p = some u
def Seq {α : Type} (es : Nat) (R : Hp → V → α → Prop) (H : Hp) (v : V) (l : List α) : Prop :=
  l.length < 2 ^ 63 ∧ lenOf v = some l.length ∧ ∀ (i : Nat) (x : α), l[i]? = some x → R H (elp es v i) x
def IntAt (H : Hp) (p : V) (n : Int) : Prop := Pers E H p (.int .i64 n)
def ValAt {α : Type} (R : Hp → V → α → Prop) (H : Hp) (p : V) (x : α) : Prop := ∃ u, Pers E H p u ∧ R H u x
abbrev I1 := Seq 1 (IntAt E)
abbrev I2 := Seq 1 (ValAt E (I1 E))
abbrev I3 := Seq 1 (ValAt E (I2 E))
abbrev I4 := Seq 1 (ValAt E (I3 E))
end
def Mono {α : Type} (R : Hp → V → α → Prop) : Prop := ∀ H H' p x, Ext H H' → R H p x → R H' p x
section
variable {E : Env} {H H' : Hp} {α : Type} {es : Nat} {R : Hp → V → α → Prop} {v p u : V} {l : List α}
theorem Pers.mono (h : Pers E H p u) (hX : Ext H H') : Pers E H' p u := fun H2 h2 => h H2 (hX.trans h2)
theorem Pers.ld (h : Pers E H p u) : ld1 E H p = some u := h H (Ext.refl H)
theorem Seq.len (h : Seq es R H v l) : lenOf v = some l.length := h.2.1
theorem Seq.mono (hm : Mono R) (h : Seq es R H v l) (hX : Ext H H') : Seq es R H' v l := ⟨h.1, h.2.1, fun i x hx => hm _ _ _ _ hX (h.2.2 i x hx)⟩
theorem IntAt.mono : Mono (IntAt E) := fun _ _ _ _ hX h => Pers.mono h hX
theorem ValAt.mono (hm : Mono R) : Mono (ValAt E R) := fun _ _ _ _ hX ⟨u, h1, h2⟩ => ⟨u, h1.mono hX, hm _ _ _ _ hX h2⟩
theorem Mono.seq (hm : Mono R) : Mono (Seq es R) := fun _ _ _ _ hX h => h.mono hm hX
theorem I1.mono {l : List Int} (h : I1 E H v l) (hX : Ext H H') : I1 E H' v l := Seq.mono IntAt.mono h hX
theorem mono1 : Mono (I1 E) := Mono.seq IntAt.mono
theorem mono2 : Mono (I2 E) := Mono.seq (ValAt.mono mono1)
theorem mono3 : Mono (I3 E) := Mono.seq (ValAt.mono mono2)
theorem mono4 : Mono (I4 E) := Mono.seq (ValAt.mono mono3)
theorem I2.mono {l : List (List Int)} (h : I2 E H v l) (hX : Ext H H') : I2 E H' v l := mono2 _ _ _ _ hX h
theorem I3.mono {l : List (List (List Int))} (h : I3 E H v l) (hX : Ext H H') : I3 E H' v l := mono3 _ _ _ _ hX h
theorem Seq.val (h : Seq 1 (ValAt E R) H v l) {i : Nat} {x : α} (hx : l[i]? = some x) : ∃ u, Pers E H (elp 1 v i) u ∧ R H u x := h.2.2 i x hx
/-- memory that came in -/
theorem SeqC.seq {RC : Nat → Nat → α → Prop} (h : SeqC es RC v l) (hR : ∀ b o x, RC b o x → R H (.xptr b o) x) : Seq es R H v l := by
  obtain ⟨h1, ⟨rfl, rfl⟩ | ⟨b, o, cap, rfl, hr⟩⟩ := h
  · exact ⟨h1, rfl, fun i x hx => by simp at hx⟩
  · exact ⟨h1, rfl, fun i x hx => hR _ _ _ (hr i x hx)⟩
theorem IntC.at {b o : Nat} {n : Int} (h : IntC E b o n) : IntAt E H (.xptr b o) n := fun _ _ => h
theorem ValC.at {RC : V → α → Prop} {b o : Nat} {x : α} (h : ValC E RC b o x) (hR : ∀ u, RC u x → R H u x) : ValAt E R H (.xptr b o) x := by
  obtain ⟨u, h1, h2⟩ := h
  exact ⟨u, fun _ _ => h1, hR u h2⟩
theorem L1.i {v : V} {l : List Int} (h : L1 E v l) : I1 E H v l := SeqC.seq h fun _ _ _ h => IntC.at h
theorem L2.i {v : V} {l : List (List Int)} (h : L2 E v l) : I2 E H v l := SeqC.seq h fun _ _ _ h => ValC.at h fun _ h => L1.i h
theorem L3.i {v : V} {l : List (List (List Int))} (h : L3 E v l) : I3 E H v l := SeqC.seq h fun _ _ _ h => ValC.at h fun _ h => L2.i h
theorem L4.i {v : V} {l : List (List (List (List Int)))} (h : L4 E v l) : I4 E H v l := SeqC.seq h fun _ _ _ h => ValC.at h fun _ h => L3.i h
/-- memory of our own -/
theorem At.pers {id off : Nat} {cs : List V} (h : At H id (.cells cs)) (hn : nth cs off = some u) : Pers E H (.ptr id off) u := fun _ hX => (hX.at h).ld1.trans hn
theorem I1.own {id o : Nat} {c : Cap} {cs : List V} {l : List Int} (h : At H id (.cells cs)) (hl : l.length < 2 ^ 63) (hc : ∀ (i : Nat) (n : Int), l[i]? = some n → nth cs (o + i) = some (.int .i64 n)) : I1 E H (.slc id o l.length c) l :=
  ⟨hl, rfl, fun i n hi => by show Pers E H (.ptr id (o + i * 1)) _; rw [Nat.mul_one]; exact h.pers (hc i n hi)⟩
variable {r : Regs}
theorem ixE {x i : Opd} {len n : Nat} {k : IntKind} (hv : ev r x = some v) (hi : ev r i = some (.int k (n : Int))) (hl : lenOf v = some len) (h : n < len) : stepOp E noCall r H (.ixS es x i) = some (elp es v n, H) := by
  have h' : Nat.blt n len = true := by simpa using h
  cases v <;> simp only [lenOf, Option.some.injEq, reduceCtorEq] at hl
  · omega
  all_goals
    subst hl
    simp only [stepOp, AOp.kind, pureOp, hv, hi, Option.bind_some, natOf, Int.natCast_nonneg, if_true, Int.toNat_natCast, h', cond_true, elp]
/-- an element's address, by what is known of the list -/
theorem ixL {x i : Opd} {n : Nat} {k : IntKind} (hv : ev r x = some v) (hi : ev r i = some (.int k (n : Int))) (hl : Seq es R H v l) (h : n < l.length) : stepOp E noCall r H (.ixS es x i) = some (elp es v n, H) := ixE hv hi hl.len h
theorem ixLI {x i : Opd} {z : Int} {k : IntKind} (hv : ev r x = some v) (hi : ev r i = some (.int k z)) (hl : Seq es R H v l) (h : 0 ≤ z ∧ z < (l.length : Int)) : stepOp E noCall r H (.ixS es x i) = some (elp es v z.toNat, H) := by
  obtain ⟨n, rfl⟩ := Int.eq_ofNat_of_zero_le h.1
  rw [Int.toNat_natCast]
  exact ixE hv hi hl.len (by omega)
theorem ixL0 {x : Opd} {k : IntKind} (hv : ev r x = some v) (hl : Seq es R H v l) (h : 0 < l.length) : stepOp E noCall r H (.ixS es x (.c (.int k (Int.ofNat 0)))) = some (elp es v 0, H) := ixE (n := 0) hv rfl hl.len h
theorem lnL {x : Opd} (hv : ev r x = some v) (h : Seq es R H v l) : stepOp E noCall r H (.lenS x) = some (.int .i64 l.length, H) := step_lenS hv h.len
theorem ldI {a : Opd} {l : List Int} {i : Nat} (ha : ev r a = some (elp 1 v i)) (hl : I1 E H v l) (h : i < l.length) : stepOp E noCall r H (.ld1 a) = some (.int .i64 l[i], H) := step_ld1 ha (Pers.ld (hl.2.2 i l[i] (List.getElem?_eq_getElem h)))
theorem ldP {a : Opd} {p u : V} (ha : ev r a = some p) (hl : Pers E H p u) : stepOp E noCall r H (.ld1 a) = some (u, H) := step_ld1 ha hl.ld
end
end Go.Vm
namespace Go.Vm
section
variable {E : Env} {H : Hp} {r : Regs}
theorem slcA_lo {x lo : Opd} {id off es N : Nat} {z : Int} {k : IntKind} (hx : ev r x = some (.ptr id off)) (hl : ev r lo = some (.int k z)) (hz : 0 ≤ z ∧ z ≤ (N : Int)) :
    stepOp E noCall r H (.slcA N es x (some lo) none none) = some (.slc id (cond (Nat.beq N z.toNat) off (off + z.toNat * es)) (N - z.toNat) (.ex (N - z.toNat)), H) := by
  obtain ⟨n, rfl⟩ := Int.eq_ofNat_of_zero_le hz.1
  have h1 : Nat.ble n N = true := by simp; omega
  have h2 : Nat.ble N N = true := by simp
  simp only [stepOp, AOp.kind, pureOp, hx, natO, hl, Option.bind_some, natOf, Int.natCast_nonneg, if_true, Int.toNat_natCast, slcA, bounds, Option.getD_some, Option.getD_none, h1, h2, Bool.and_self, cond_true]
theorem slcA_hi {x hi : Opd} {id off es N : Nat} {z : Int} {k : IntKind} (hx : ev r x = some (.ptr id off)) (hl : ev r hi = some (.int k z)) (hz : 0 ≤ z ∧ z ≤ (N : Int)) :
    stepOp E noCall r H (.slcA N es x none (some hi) none) = some (.slc id off z.toNat (.ex N), H) := by
  obtain ⟨n, rfl⟩ := Int.eq_ofNat_of_zero_le hz.1
  have h1 : Nat.ble n N = true := by simp; omega
  have h2 : Nat.ble N N = true := by simp
  have h3 : Nat.ble 0 n = true := by simp
  have h4 : (cond (Nat.beq N 0) off (off + 0 * es)) = off := by cases Nat.beq N 0 <;> simp
  simp only [stepOp, AOp.kind, pureOp, hx, natO, hl, Option.bind_some, natOf, Int.natCast_nonneg, if_true, Int.toNat_natCast, slcA, bounds, Option.getD_some, Option.getD_none, h1, h2, h3, Bool.and_self, cond_true, h4, Nat.sub_zero]
/-- a tail of cells of our own, as numbers -/
theorem nth_drop {cs : List V} {a b : Nat} : nth (cs.drop a) b = nth cs (a + b) := by
  induction cs generalizing a with
  | nil => simp [nth]
  | cons c cs ih =>
    cases a with
    | zero => simp
    | succ a => rw [List.drop_succ_cons, ih, Nat.succ_add]; rfl
end
end Go.Vm
namespace Go.Vm
section
variable {E : Env} {r : Regs} {H : Hp} {K : Regs → Hp → Prop} {dst : Option Nat} {f : Opd} {as : List Opd} {re : List Nat} {os : List AOper} {n : Nat} {cs vs : List V} {v : V} {t : Nat} {b : Bool} {P : V → Prop}
/-! calls: Q: a known value, the heap as it was; E: a known value, the heap has grown; X: any value of which P holds; G: any ending -/
theorem CG {Q : V → Hp → Prop} (hf : ev r f = some (.fn n cs)) (ha : evs r as = some vs) (h : CallR E n (vs ++ cs) H Q) (k : ∀ v H', Q v H' → OpsR E os (put r dst v) H' K) : OpsR E (⟨dst, .call f as, none, re⟩ :: os) r H K :=
  OpsR.call hf ha (ValR.fn (h.mono k))
theorem CGT {Q : V → Hp → Prop} (hw : wanted r (some (t, b)) = some true) (hf : ev r f = some (.fn n cs)) (ha : evs r as = some vs) (h : CallR E n (vs ++ cs) H Q) (k : ∀ v H', Q v H' → OpsR E os (put r dst v) H' K) : OpsR E (⟨dst, .call f as, some (t, b), re⟩ :: os) r H K :=
  OpsR.callT hw hf ha (ValR.fn (h.mono k))
theorem CQ (hf : ev r f = some (.fn n cs)) (ha : evs r as = some vs) (h : CallR E n (vs ++ cs) H (fun w H' => w = v ∧ H' = H)) (k : OpsR E os (put r dst v) H K) : OpsR E (⟨dst, .call f as, none, re⟩ :: os) r H K :=
  CG hf ha h (fun _ _ ⟨h1, h2⟩ => h1 ▸ h2 ▸ k)
theorem CQT (hw : wanted r (some (t, b)) = some true) (hf : ev r f = some (.fn n cs)) (ha : evs r as = some vs) (h : CallR E n (vs ++ cs) H (fun w H' => w = v ∧ H' = H)) (k : OpsR E os (put r dst v) H K) : OpsR E (⟨dst, .call f as, some (t, b), re⟩ :: os) r H K :=
  CGT hw hf ha h (fun _ _ ⟨h1, h2⟩ => h1 ▸ h2 ▸ k)
theorem CE (hf : ev r f = some (.fn n cs)) (ha : evs r as = some vs) (h : CallR E n (vs ++ cs) H (fun w H' => w = v ∧ Ext H H')) (k : ∀ H', Ext H H' → OpsR E os (put r dst v) H' K) : OpsR E (⟨dst, .call f as, none, re⟩ :: os) r H K :=
  CG hf ha h (fun _ _ ⟨h1, h2⟩ => h1 ▸ k _ h2)
theorem CET (hw : wanted r (some (t, b)) = some true) (hf : ev r f = some (.fn n cs)) (ha : evs r as = some vs) (h : CallR E n (vs ++ cs) H (fun w H' => w = v ∧ Ext H H')) (k : ∀ H', Ext H H' → OpsR E os (put r dst v) H' K) : OpsR E (⟨dst, .call f as, some (t, b), re⟩ :: os) r H K :=
  CGT hw hf ha h (fun _ _ ⟨h1, h2⟩ => h1 ▸ k _ h2)
theorem CX {P : V → Hp → Prop} (hf : ev r f = some (.fn n cs)) (ha : evs r as = some vs) (h : CallR E n (vs ++ cs) H (fun w H' => P w H' ∧ Ext H H')) (k : ∀ v H', P v H' → Ext H H' → OpsR E os (put r dst v) H' K) : OpsR E (⟨dst, .call f as, none, re⟩ :: os) r H K :=
  CG hf ha h (fun _ _ ⟨h1, h2⟩ => k _ _ h1 h2)
theorem CXT {P : V → Hp → Prop} (hw : wanted r (some (t, b)) = some true) (hf : ev r f = some (.fn n cs)) (ha : evs r as = some vs) (h : CallR E n (vs ++ cs) H (fun w H' => P w H' ∧ Ext H H')) (k : ∀ v H', P v H' → Ext H H' → OpsR E os (put r dst v) H' K) : OpsR E (⟨dst, .call f as, some (t, b), re⟩ :: os) r H K :=
  CGT hw hf ha h (fun _ _ ⟨h1, h2⟩ => k _ _ h1 h2)
variable {all : List AOper}
theorem DG {Q : V → Hp → Prop} (hf : ev r f = some (.fn n cs)) (ha : evs r as = some vs) (h : CallR E n (vs ++ cs) H Q) (k : ∀ v H', Q v H' → H.next ≤ H'.next ∧ DrR E all os (put r dst v) H' K) : DrR E all (⟨dst, .call f as, none, []⟩ :: os) r H K :=
  DrR.call hf ha (ValR.fn (h.mono k))
theorem DGT {Q : V → Hp → Prop} (hw : wanted r (some (t, b)) = some true) (hf : ev r f = some (.fn n cs)) (ha : evs r as = some vs) (h : CallR E n (vs ++ cs) H Q) (k : ∀ v H', Q v H' → H.next ≤ H'.next ∧ DrR E all os (put r dst v) H' K) : DrR E all (⟨dst, .call f as, some (t, b), []⟩ :: os) r H K :=
  DrR.callT hw hf ha (ValR.fn (h.mono k))
theorem DQ (hf : ev r f = some (.fn n cs)) (ha : evs r as = some vs) (h : CallR E n (vs ++ cs) H (fun w H' => w = v ∧ H' = H)) (k : DrR E all os (put r dst v) H K) : DrR E all (⟨dst, .call f as, none, []⟩ :: os) r H K :=
  DG hf ha h (fun _ _ ⟨h1, h2⟩ => by subst h1; subst h2; exact ⟨Nat.le_refl _, k⟩)
theorem DQT (hw : wanted r (some (t, b)) = some true) (hf : ev r f = some (.fn n cs)) (ha : evs r as = some vs) (h : CallR E n (vs ++ cs) H (fun w H' => w = v ∧ H' = H)) (k : DrR E all os (put r dst v) H K) : DrR E all (⟨dst, .call f as, some (t, b), []⟩ :: os) r H K :=
  DGT hw hf ha h (fun _ _ ⟨h1, h2⟩ => by subst h1; subst h2; exact ⟨Nat.le_refl _, k⟩)
theorem DE (hf : ev r f = some (.fn n cs)) (ha : evs r as = some vs) (h : CallR E n (vs ++ cs) H (fun w H' => w = v ∧ Ext H H')) (k : ∀ H', Ext H H' → DrR E all os (put r dst v) H' K) : DrR E all (⟨dst, .call f as, none, []⟩ :: os) r H K :=
  DG hf ha h (fun _ _ ⟨h1, h2⟩ => by subst h1; exact ⟨h2.1, k _ h2⟩)
theorem DET (hw : wanted r (some (t, b)) = some true) (hf : ev r f = some (.fn n cs)) (ha : evs r as = some vs) (h : CallR E n (vs ++ cs) H (fun w H' => w = v ∧ Ext H H')) (k : ∀ H', Ext H H' → DrR E all os (put r dst v) H' K) : DrR E all (⟨dst, .call f as, some (t, b), []⟩ :: os) r H K :=
  DGT hw hf ha h (fun _ _ ⟨h1, h2⟩ => by subst h1; exact ⟨h2.1, k _ h2⟩)
theorem DX {P : V → Hp → Prop} (hf : ev r f = some (.fn n cs)) (ha : evs r as = some vs) (h : CallR E n (vs ++ cs) H (fun w H' => P w H' ∧ Ext H H')) (k : ∀ v H', P v H' → Ext H H' → DrR E all os (put r dst v) H' K) : DrR E all (⟨dst, .call f as, none, []⟩ :: os) r H K :=
  DG hf ha h (fun _ _ ⟨h1, h2⟩ => ⟨h2.1, k _ _ h1 h2⟩)
theorem DXT {P : V → Hp → Prop} (hw : wanted r (some (t, b)) = some true) (hf : ev r f = some (.fn n cs)) (ha : evs r as = some vs) (h : CallR E n (vs ++ cs) H (fun w H' => P w H' ∧ Ext H H')) (k : ∀ v H', P v H' → Ext H H' → DrR E all os (put r dst v) H' K) : DrR E all (⟨dst, .call f as, some (t, b), []⟩ :: os) r H K :=
  DGT hw hf ha h (fun _ _ ⟨h1, h2⟩ => ⟨h2.1, k _ _ h1 h2⟩)
/-- a call again reads what it read: of an operation of a draw region behind which reads are made again -/
theorem DGr {Q : V → Hp → Prop} (hf : ev r f = some (.fn n cs)) (ha : evs r as = some vs) (h : CallR E n (vs ++ cs) H (fun w H' => Q w H' ∧ Ext H H')) (k : ∀ v H', Q v H' → Ext H H' → again E all r H' re = true ∧ DrR E all os (put r dst v) H' K) : DrR E all (⟨dst, .call f as, none, re⟩ :: os) r H K := by
  obtain ⟨v, H1, ⟨hq, hX⟩, n1, h2⟩ := h
  obtain ⟨hag, r', H', hk, n0, h1⟩ := k v H1 hq hX
  refine ⟨r', H', hk, max n0 n1, fun n' hn' => ?_⟩
  have h3 := h2 n' (by omega)
  have h4 : callV E (exec E n') (.fn n cs) vs H = some (v, H1) := h3
  simp only [runDraw, wanted, Option.bind_some, cond_true, stepOp, AOp.kind, actOp, hf, ha, h4, ble_true hX.1, hag, Bool.and_self]
  exact h1 n' (by omega)
end
end Go.Vm
namespace Go.Vm
section
variable {E : Env} {r : Regs} {H : Hp} {all : List AOper}
theorem againI {i d p off : Nat} {a : Opd} {re is : List Nat} {l : List V} {k : IntKind} {n : Int} (h1 : all[i]? = some ⟨some d, .ld1 a, none, re⟩) (h2 : ev r a = some (.ptr p off)) (h3 : At H p (.cells l)) (h4 : nth l off = some (.int k n)) (h5 : look r d = some (.int k n))
    (h6 : again E all r H is = true) : again E all r H (i :: is) = true := by
  have h7 : ld1 E H (.ptr p off) = some (.int k n) := h3.ld1.trans h4
  simp only [again, h1, wanted, readOp, h2, Option.bind_some, h7, h5, V.beq, h6, Bool.and_true, beq_self_eq_true]
end
end Go.Vm

namespace Go.Vm
theorem room_ok {n b : Nat} (hn : n ≤ 1048576) (hb : b ≤ 4096) : room n b = true := by
  have h1 : (2 * n + 1024) * b ≤ (2 * 1048576 + 1024) * 4096 := Nat.mul_le_mul (by omega) hb
  have h2 : (2 * 1048576 + 1024) * 4096 ≤ 2 ^ 47 := by decide
  have h3 : n ≤ 2 ^ 40 := Nat.le_trans hn (by decide)
  simp only [room, Bool.and_eq_true]
  exact ⟨by simpa using Nat.le_trans h1 h2, by simpa using h3⟩
section
variable {E : Env} {H Hb H' : Hp} {r : Regs} {es bytes n k : Nat} {v vy : V} {cs nw : List V}
theorem getAt_all : ∀ cs : List V, getAt cs 0 cs.length = some cs
  | [] => rfl
  | c :: cs => by
    show (getAt cs 0 cs.length).bind _ = _
    rw [getAt_all cs]; rfl
/-- a list of n elements that the run made since a base heap -/
def Buf (Hb H : Hp) (es : Nat) (v : V) (n : Nat) (cs : List V) : Prop :=
  cs.length = n * es ∧ ((v = .nils ∧ n = 0) ∨ ∃ id c, v = .slc id 0 n c ∧ Hb.next ≤ id ∧ At H id (.cells cs) ∧ (c = .up es ∨ c = .ex n))
/-- the heap behind an append that makes new room -/
def bufH (H : Hp) (v : V) (cells : List V) : Hp :=
  match v with
  | .slc id _ _ (.up _) => (H.kill id).new (.cells cells)
  | _ => H.new (.cells cells)
theorem bufH_next : (bufH H v cs).next = H.next + 1 := by
  unfold bufH
  split <;> rfl
theorem At.kill {id p : Nat} {o : Ob} (h : At H p o) (hp : p ≠ id) : At (H.kill id) p o := ⟨h.1, by rw [get_kill]; simp only [gset]; rw [if_neg hp]; exact h.2⟩
theorem At.bufH {p : Nat} {o : Ob} (h : At H p o) (hp : ∀ len c, v ≠ .slc p 0 len c) (hv : ∀ id off len c, v = .slc id off len c → off = 0) : At (Vm.bufH H v cs) p o := by
  unfold Vm.bufH
  split
  · rename_i id off len es'
    refine (Ext.new _ _).at (h.kill fun e => ?_)
    subst e
    have := hv _ _ _ _ rfl
    subst this
    exact hp _ _ rfl
  · exact (Ext.new _ _).at h
theorem Buf.off (h : Buf Hb H es v n cs) : ∀ id off len c, v = .slc id off len c → off = 0 := by
  intro id off len c e
  obtain ⟨_, ⟨rfl, _⟩ | ⟨id', c', rfl, _⟩⟩ := h
  · cases e
  · cases e; rfl
theorem Buf.ext (h : Buf Hb H es v n cs) (hX : Ext Hb H) : Ext Hb (bufH H v nw) := by
  refine ⟨by rw [bufH_next]; exact Nat.le_succ_of_le hX.1, fun i hi => ?_⟩
  obtain ⟨_, ⟨rfl, _⟩ | ⟨id, c, rfl, hid, ha, hc⟩⟩ := h
  · exact ((Ext.new H _).2 i (Nat.lt_of_lt_of_le hi hX.1)).trans (hX.2 i hi)
  · rcases hc with rfl | rfl
    · simp only [bufH]
      rw [(Ext.new (H.kill id) _).2 i (Nat.lt_of_lt_of_le hi hX.1), get_kill]
      simp only [gset]
      rw [if_neg (by omega)]
      exact hX.2 i hi
    · exact ((Ext.new H _).2 i (Nat.lt_of_lt_of_le hi hX.1)).trans (hX.2 i hi)
theorem Buf.grow (h : Buf Hb H es v n cs) (hX : Ext Hb H) (hn : nw.length = k * es) : Buf Hb (bufH H v (cs ++ nw)) es (.slc H.next 0 (n + k) (.up es)) (n + k) (cs ++ nw) := by
  refine ⟨by rw [List.length_append, h.1, hn, Nat.add_mul], Or.inr ⟨H.next, .up es, rfl, hX.1, ?_, Or.inl rfl⟩⟩
  unfold bufH
  split
  · exact At.new (Hp.kill H _) _
  · exact At.new H _
theorem step_app {x y : Opd} (hx : ev r x = some v) (hy : ev r y = some vy) (hk : lenOf vy = some k) (hc : cellsOf E H es vy = some nw) (hB : Buf Hb H es v n cs) (hk0 : 0 < k) (he : 0 < es) (hone : allOne nw = true) (hroom : room (n + k) bytes = true) :
    stepOp E noCall r H (.app es bytes x y) = some (.slc H.next 0 (n + k) (.up es), bufH H v (cs ++ nw)) := by
  have h0 : Nat.beq k 0 = false := by cases k with | zero => omega | succ k => rfl
  simp only [stepOp, AOp.kind, actOp, hx, hy, Option.bind_some, hk, hc]
  delta app
  obtain ⟨hl, ⟨rfl, rfl⟩ | ⟨id, c, rfl, hid, ha, hc⟩⟩ := hB
  · have : cs = [] := List.eq_nil_of_length_eq_zero (by omega)
    subst this
    simp only [Nat.zero_add] at hroom ⊢
    simp only [h0, cond_false, hone, hroom, cond_true, bufH, List.nil_append]
  · have hg : getAt cs 0 (n * es) = some cs := by rw [← hl]; exact getAt_all cs
    rcases hc with rfl | rfl
    · have h1 : Nat.beq es es = true := Nat.beq_refl es
      have h2 : Nat.blt 0 es = true := by simpa using he
      have h3 : Nat.ble (0 + (n + k) * es) cs.length = false := by
        rw [Bool.eq_false_iff, Ne, Nat.ble_eq, hl, Nat.add_mul]
        have : 0 < k * es := Nat.mul_pos hk0 he
        omega
      have h4 : Nat.beq (0 + n * es) cs.length = true := by rw [hl, Nat.zero_add]; exact Nat.beq_refl _
      simp only [h0, hone, ha.2, h1, h2, Bool.and_self, cond_true, h3, cond_false, h4, hroom, hg, Option.bind_some, bufH]
    · have h3 : Nat.ble (n + k) n = false := by rw [Bool.eq_false_iff, Ne, Nat.ble_eq]; omega
      simp only [h0, hone, ha.2, h3, cond_false, hroom, cond_true, hg, Option.bind_some, bufH]
/-- as a list of numbers -/
theorem Buf.i1 {l : List Int} (h : Buf Hb H 1 v n (l.map (.int .i64))) (hl : l.length < 2 ^ 63) : I1 E H v l := by
  have hn : n = l.length := by have := h.1; simp at this; omega
  obtain ⟨_, ⟨rfl, h0⟩ | ⟨id, c, rfl, _, ha, _⟩⟩ := h
  · have : l = [] := List.eq_nil_of_length_eq_zero (by omega)
    subst this
    exact ⟨by simp, rfl, fun i x hx => by simp at hx⟩
  · subst hn
    exact I1.own ha hl (by intro i m hi; rw [nth_eq, Nat.zero_add, List.getElem?_map, hi]; rfl)
end
end Go.Vm
namespace Go.Vm
section
variable {E : Env} {H Hb H' : Hp} {r : Regs} {es bytes n k : Nat} {v w : V} {cs cs' : List V}
theorem Buf.mono (h : Buf Hb H es v n cs) (hX : Ext H H') : Buf Hb H' es v n cs :=
  ⟨h.1, h.2.imp id fun ⟨id, c, h1, h2, h3, h4⟩ => ⟨id, c, h1, h2, hX.at h3, h4⟩⟩
def sid : V → Option Nat
  | .slc id _ _ _ => some id
  | _ => none
/-- two lists that don't lie in one object -/
def Dj (v w : V) : Prop := ∀ id, sid v = some id → sid w ≠ some id
theorem Dj.symm (h : Dj v w) : Dj w v := fun id h1 h2 => h id h2 h1
theorem Buf.keep (h : Buf Hb H es v n cs) (hw : ∀ id off len c, w = .slc id off len c → off = 0) (hd : Dj w v) : Buf Hb (bufH H w cs') es v n cs := by
  refine ⟨h.1, h.2.imp id fun ⟨id, c, h1, h2, h3, h4⟩ => ⟨id, c, h1, h2, h3.bufH (fun len c e => ?_) hw, h4⟩⟩
  subst h1 e
  exact hd id rfl rfl
/-- lists that are older than a heap's end -/
theorem Buf.old (h : Buf Hb H es v n cs) {id : Nat} (hi : H.next ≤ id) {o len : Nat} {c : Cap} : Dj v (.slc id o len c) := by
  intro i h1 h2
  obtain ⟨_, ⟨rfl, _⟩ | ⟨id', c', rfl, _, ha, _⟩⟩ := h
  · cases h1
  · cases h1; cases h2
    exact absurd ha.1 (by omega)
end
end Go.Vm
namespace Go.Vm
section
variable {E : Env} {H Hb H' : Hp} {r : Regs} {id p n off : Nat} {v w : V} {l l' : List V} {o ob : Ob}
theorem At.put (h : At H id ob) : At (H.put id o) id o := ⟨h.1, by rw [get_put]; simp [gset]⟩
theorem At.put_ne (h : At H p ob) (hp : p ≠ id) : At (H.put id o) p ob := ⟨h.1, by rw [get_put]; simp only [gset]; rw [if_neg hp]; exact h.2⟩
theorem Ext.put (hX : Ext Hb H) (hid : Hb.next ≤ id) : Ext Hb (H.put id o) := ⟨hX.1, fun i hi => by rw [get_put]; simp only [gset]; rw [if_neg (by omega)]; exact hX.2 i hi⟩
theorem step_st {a x : Opd} (ha : ev r a = some (.ptr id off)) (hx : ev r x = some v) (h : At H id (.cells l)) (hn : (Nat.beq v.cells.length n && allOne v.cells) = true) (hs : setAt l off v.cells = some l') : stepOp E noCall r H (.st n a x) = some (.tup [], H.put id (.cells l')) := by
  simp only [stepOp, AOp.kind, actOp, ha, hx, Option.bind_some, stN, h.2, hn, cond_true, hs]
theorem extN_of {b : Nat} : ∀ {l : List V} {o : Nat}, (∀ (i : Nat) (x : V), l[i]? = some x → E.ext b (o + i) = some x) → extN E b o l.length = some l
  | [], _, _ => rfl
  | x :: l, o, h => by
    have h0 : E.ext b o = some x := h 0 x rfl
    have h1 : extN E b (o + 1) l.length = some l := extN_of fun i y hi => by
      have := h (i + 1) y hi
      rwa [show o + 1 + i = o + (i + 1) from by omega]
    simp only [List.length_cons, extN, h0, h1, Option.bind_some]
theorem ldNX {a : Opd} {b off n : Nat} {l : List V} (ha : ev r a = some (.xptr b off)) (h : extN E b off n = some l) : stepOp E noCall r H (.ldN n a) = some (.agg l, H) := step_ldN ha h
end
end Go.Vm
