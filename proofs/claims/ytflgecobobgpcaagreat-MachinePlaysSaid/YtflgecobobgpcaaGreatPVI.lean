/-
  Rules for loops over iterator functions. Conditions: none beyond those that each statement names.
-/
import Derived.Test.YtflgecobobgpcaaGreatPVH
namespace Go.Vm
/-- what was made since N is as it was -/
def Fr (N : Nat) (H H' : Hp) : Prop := H.next ≤ H'.next ∧ ∀ p, N ≤ p → p < H.next → H'.get p = H.get p
/-- all but one object is as it was -/
def Ex1 (id : Nat) (H H' : Hp) : Prop := H.next ≤ H'.next ∧ ∀ p, p < H.next → p ≠ id → H'.get p = H.get p
theorem Fr.refl (N : Nat) (H : Hp) : Fr N H H := ⟨Nat.le_refl _, fun _ _ _ => rfl⟩
theorem Fr.trans {N : Nat} {A B C : Hp} (h : Fr N A B) (h' : Fr N B C) : Fr N A C := ⟨Nat.le_trans h.1 h'.1, fun p h1 h2 => (h'.2 p h1 (Nat.lt_of_lt_of_le h2 h.1)).trans (h.2 p h1 h2)⟩
theorem Ext.fr {N : Nat} {H H' : Hp} (h : Ext H H') : Fr N H H' := ⟨h.1, fun p _ hp => h.2 p hp⟩
theorem Ext.ex1 {id : Nat} {H H' : Hp} (h : Ext H H') : Ex1 id H H' := ⟨h.1, fun p hp _ => h.2 p hp⟩
theorem Fr.at {N p : Nat} {H H' : Hp} {o : Ob} (h : Fr N H H') (hp : N ≤ p) (a : At H p o) : At H' p o := ⟨Nat.lt_of_lt_of_le a.1 h.1, (h.2 p hp a.1).trans a.2⟩
theorem Ex1.at {id p : Nat} {H H' : Hp} {o : Ob} (h : Ex1 id H H') (hp : p ≠ id) (a : At H p o) : At H' p o := ⟨Nat.lt_of_lt_of_le a.1 h.1, (h.2 p a.1 hp).trans a.2⟩
theorem put_get {H : Hp} {id p : Nat} {o : Ob} : (H.put id o).get p = if p = id then some o else H.get p := by rw [get_put]; rfl
theorem Ex1.put {id : Nat} {H : Hp} {o : Ob} : Ex1 id H (H.put id o) := ⟨Nat.le_refl _, fun p _ hp => by rw [put_get, if_neg hp]⟩
theorem Fr.put {N id : Nat} {H : Hp} {o : Ob} (h : id < N) : Fr N H (H.put id o) := ⟨Nat.le_refl _, fun p hp _ => by rw [put_get, if_neg (by omega)]⟩
theorem Ex1.trans {id : Nat} {A B C : Hp} (h : Ex1 id A B) (h' : Ex1 id B C) : Ex1 id A C := ⟨Nat.le_trans h.1 h'.1, fun p h1 h2 => (h'.2 p (Nat.lt_of_lt_of_le h1 h.1) h2).trans (h.2 p h1 h2)⟩
def jmp : Out → Option Jump
  | .normal => none
  | .exit i => some (.exit i)
  | .ret => some .ret
section
variable {E : Env} {rd : Option Nat} {r : Regs} {H : Hp}
theorem Runs.forF {Q : Out → Regs → Hp → Prop} {f : Opd} {g : Nat} {cs : List V} {ps : List Nat} {assign body : AC} {n : Nat} (args : Nat → List V) (P : Nat → Hp → Prop) (D : Out → Hp → Prop)
    (hf : ev r f = some (.fn g cs)) (hin : within H rd = true)
    (hst : ∀ i H1 H2, P i H1 → Ex1 H.next H1 H2 → P i H2) (hsD : ∀ o H1 H2, D o H1 → Ex1 H.next H1 H2 → D o H2)
    (hstep : ∀ i H1, i < n → At H1 H.next (.loop ⟨.ready, none, r, ps, assign, body⟩) → P i H1 → ∃ r1, setParams r ps (args i) = some r1 ∧
      Runs E (some H.next) assign r1 H1 (fun o r2 H2 => o = .normal ∧ At H2 H.next (.loop ⟨.ready, none, r, ps, assign, body⟩) ∧ Fr (H.next + 1) H1 H2 ∧
        Runs E (some H.next) body r2 (H2.put H.next (.loop ⟨.busy, none, r, ps, assign, body⟩)) (fun o _ H3 => At H3 H.next (.loop ⟨.busy, none, r, ps, assign, body⟩) ∧ Fr (H.next + 1) H2 H3 ∧
          match o with | .normal => P (i + 1) H3 | o => D o H3)))
    (hit : (∀ i H1, i < n → (At H1 H.next (.loop ⟨.ready, none, r, ps, assign, body⟩) ∧ P i H1) → ValR E (.yld H.next) (args i) H1 (fun w H2 => Fr (H.next + 1) H1 H2 ∧
        ((w = .bool true ∧ At H2 H.next (.loop ⟨.ready, none, r, ps, assign, body⟩) ∧ P (i + 1) H2) ∨ (w = .bool false ∧ ∃ o, o ≠ .normal ∧ At H2 H.next (.loop ⟨.done, jmp o, r, ps, assign, body⟩) ∧ D o H2)))) →
      CallR E g (.yld H.next :: cs) (H.new (.loop ⟨.ready, none, r, ps, assign, body⟩)) (fun _ H' =>
        (At H' H.next (.loop ⟨.ready, none, r, ps, assign, body⟩) ∧ P n H') ∨ ∃ o, o ≠ .normal ∧ At H' H.next (.loop ⟨.done, jmp o, r, ps, assign, body⟩) ∧ D o H'))
    (hQ : ∀ H', P n H' → Q .normal r H') (hD : ∀ o H', o ≠ .normal → D o H' → Q o r H') : Runs E rd (.rangeF f ps assign body) r H Q := by
  obtain ⟨v, H', hpost, n0, hrun⟩ := hit (fun i H1 hi h1 => by
    obtain ⟨r1, hr1, o, r2, H2, ⟨ho, ha2, hf2, o3, r3, H3, ⟨ha3, hf3, hm⟩, n3, h3⟩, n2, h2⟩ := hstep i H1 hi h1.1 h1.2
    subst ho
    have hb3 : ∀ st pd, At (H3.put H.next (.loop ⟨st, pd, r, ps, assign, body⟩)) H.next (.loop ⟨st, pd, r, ps, assign, body⟩) := fun st pd => ha3.put
    have hfr : ∀ st pd, Fr (H.next + 1) H1 (H3.put H.next (.loop ⟨st, pd, r, ps, assign, body⟩)) := fun st pd => (hf2.trans hf3).trans (Fr.put (Nat.lt_succ_self _))
    cases o3 with
    | normal =>
      refine ⟨.bool true, H3.put H.next (.loop ⟨.ready, none, r, ps, assign, body⟩), ⟨hfr _ _, Or.inl ⟨rfl, hb3 _ _, hst _ _ _ hm Ex1.put⟩⟩, max n2 n3, fun n' hn' => ?_⟩
      simp only [callV, h1.1.2, hr1, Option.bind_some, h2 n' (by omega), ha2.2, h3 n' (by omega), ha3.2]
    | exit i =>
      refine ⟨.bool false, H3.put H.next (.loop ⟨.done, some (.exit i), r, ps, assign, body⟩), ⟨hfr _ _, Or.inr ⟨rfl, .exit i, (fun h => by cases h), hb3 _ _, hsD _ _ _ hm Ex1.put⟩⟩, max n2 n3, fun n' hn' => ?_⟩
      simp only [callV, h1.1.2, hr1, Option.bind_some, h2 n' (by omega), ha2.2, h3 n' (by omega), ha3.2]
    | ret =>
      refine ⟨.bool false, H3.put H.next (.loop ⟨.done, some .ret, r, ps, assign, body⟩), ⟨hfr _ _, Or.inr ⟨rfl, .ret, (fun h => by cases h), hb3 _ _, hsD _ _ _ hm Ex1.put⟩⟩, max n2 n3, fun n' hn' => ?_⟩
      simp only [callV, h1.1.2, hr1, Option.bind_some, h2 n' (by omega), ha2.2, h3 n' (by omega), ha3.2])
  rcases hpost with ⟨ha, hp⟩ | ⟨o, hne, ha, hd⟩
  · refine Runs.step (hQ (H'.put H.next (.loop ⟨.exhausted, none, r, ps, assign, body⟩)) (hst _ _ _ hp Ex1.put)) n0 (fun n' hn' => ?_)
    simp only [execWith, hf, Option.bind_some, hin, cond_true, hrun n' hn', ha.2]
  · cases o with
    | normal => exact absurd rfl hne
    | exit i =>
      refine Runs.step (hD (.exit i) (H'.put H.next (.loop ⟨.exhausted, some (.exit i), r, ps, assign, body⟩)) hne (hsD _ _ _ hd Ex1.put)) n0 (fun n' hn' => ?_)
      simp only [execWith, hf, Option.bind_some, hin, cond_true, hrun n' hn', ha.2, jmp]
    | ret =>
      refine Runs.step (hD .ret (H'.put H.next (.loop ⟨.exhausted, some .ret, r, ps, assign, body⟩)) hne (hsD _ _ _ hd Ex1.put)) n0 (fun n' hn' => ?_)
      simp only [execWith, hf, Option.bind_some, hin, cond_true, hrun n' hn', ha.2, jmp]
end
end Go.Vm

namespace Go.Vm
variable {E : Env}
/-- bit p of a set -/
def bitB (a : Int) (p : Nat) : Bool := decide (a / 2 ^ p % 2 = 1)
theorem and1 {x : Int} : bitsOf .and .i64 x 1 = some (.int .i64 (x % 2)) := by
  have h : (BitVec.ofInt 64 x &&& BitVec.ofInt 64 1).toNat = (x % 2).toNat := by
    rw [BitVec.toNat_and, BitVec.toNat_ofInt, BitVec.toNat_ofInt]
    have h1 : ((1 : Int) % ((2 ^ 64 : Nat) : Int)).toNat = 1 := by decide
    rw [h1, Nat.and_one_is_mod]
    omega
  show some (V.int .i64 (IntKind.i64.wrap ((BitVec.ofInt 64 x &&& BitVec.ofInt 64 1).toNat : Nat))) = _
  rw [h, wrap_id (by omega) (by omega)]
  congr 2
  omega
section
variable {r : Regs} {H : Hp}
theorem step_and1 {x y : Opd} {a : Int} (hx : ev r x = some (.int .i64 a)) (hy : ev r y = some (.int .i64 (Int.ofNat 1))) : stepOp E noCall r H (.bin .and x y) = some (.int .i64 (a % 2), H) :=
  step_bin hx hy (by show (if IntKind.i64 = IntKind.i64 then bitsOf .and .i64 a 1 else none) = _; rw [if_pos rfl, and1])
theorem step_shr {x y : Opd} {a b : Int} (hx : ev r x = some (.int .i64 a)) (hy : ev r y = some (.int .i64 b)) (hb : 0 ≤ b ∧ b ≤ 63) : stepOp E noCall r H (.bin .shr x y) = some (.int .i64 (a / 2 ^ b.toNat), H) := by
  refine step_bin hx hy ?_
  show (if b < 0 then none else some (V.int .i64 (a.fdiv (2 ^ (min b.toNat 64))))) = _
  rw [if_neg (by omega), Nat.min_eq_left (by omega), Int.fdiv_eq_ediv_of_nonneg _ (Int.le_of_lt (Int.pow_pos (by decide)))]
theorem step_shl1 {x y : Opd} {b : Int} (hx : ev r x = some (.int .i64 (Int.ofNat 1))) (hy : ev r y = some (.int .i64 b)) (hb : 0 ≤ b ∧ b ≤ 62) : stepOp E noCall r H (.bin .shl x y) = some (.int .i64 (2 ^ b.toNat), H) := by
  refine step_bin hx hy ?_
  show (if b < 0 then none else some (V.int .i64 (IntKind.i64.wrap (1 * 2 ^ (min b.toNat 64))))) = _
  have h1 : (2 : Int) ^ b.toNat ≤ 2 ^ 62 := by
    have := Nat.pow_le_pow_right (n := 2) (by decide) (show b.toNat ≤ 62 by omega)
    exact_mod_cast this
  have h2 : (0 : Int) < 2 ^ b.toNat := Int.pow_pos (by decide)
  rw [if_neg (by omega), Nat.min_eq_left (by omega), Int.one_mul, wrap_id (by omega) (by omega)]
theorem step_quo {x y : Opd} {a b : Int} (hx : ev r x = some (.int .i64 a)) (hy : ev r y = some (.int .i64 b)) (ha : 0 ≤ a ∧ a < 9223372036854775808) (hb : 0 < b) : stepOp E noCall r H (.bin .quo x y) = some (.int .i64 (a / b), H) := by
  refine step_bin hx hy ?_
  show (if IntKind.i64 = IntKind.i64 then (if b = 0 then none else some (V.int .i64 (IntKind.i64.wrap (a.tdiv b)))) else none) = _
  have h1 : 0 ≤ a / b := Int.ediv_nonneg ha.1 (by omega)
  have h2 : a / b ≤ a := Int.ediv_le_self b ha.1
  rw [if_pos rfl, if_neg (by omega), Int.tdiv_eq_ediv_of_nonneg ha.1, wrap_id (by omega) (by omega)]
theorem step_rem {x y : Opd} {a b : Int} (hx : ev r x = some (.int .i64 a)) (hy : ev r y = some (.int .i64 b)) (ha : 0 ≤ a) (hb : b ≠ 0) : stepOp E noCall r H (.bin .rem x y) = some (.int .i64 (a % b), H) := by
  refine step_bin hx hy ?_
  show (if IntKind.i64 = IntKind.i64 then (if b = 0 then none else some (V.int .i64 (a.tmod b))) else none) = _
  rw [if_pos rfl, if_neg hb, Int.tmod_eq_emod_of_nonneg ha]
theorem step_mul {x y : Opd} {a b : Int} (hx : ev r x = some (.int .i64 a)) (hy : ev r y = some (.int .i64 b)) (h : -9223372036854775808 ≤ a * b ∧ a * b < 9223372036854775808) : stepOp E noCall r H (.bin .mul x y) = some (.int .i64 (a * b), H) := by
  refine step_bin hx hy ?_
  show (if IntKind.i64 = IntKind.i64 then some (V.int .i64 (IntKind.i64.wrap (a * b))) else none) = _
  rw [if_pos rfl, wrap_id h.1 h.2]
end
theorem pow_le {n : Nat} (h : n ≤ 62) : (1 : Int) ≤ 2 ^ n ∧ (2 : Int) ^ n ≤ 4611686018427387904 := by
  have h1 := Nat.pow_le_pow_right (n := 2) (by decide) h
  have h2 : (2 : Int) ^ n ≤ 2 ^ 62 := by exact_mod_cast h1
  exact ⟨Int.pow_pos (by decide), by simpa using h2⟩

end Go.Vm

namespace Go.Vm
/-- what was made since N, and is not the client's, is as it was -/
def FC (C : Hp → Nat → Prop) (N : Nat) (H H' : Hp) : Prop := H.next ≤ H'.next ∧ (∀ p, N ≤ p → p < H.next → ¬ C H p → H'.get p = H.get p) ∧ ∀ p, p < H.next → C H' p → C H p
theorem FC.trans {C : Hp → Nat → Prop} {N : Nat} {A B D : Hp} (h : FC C N A B) (h' : FC C N B D) : FC C N A D :=
  ⟨Nat.le_trans h.1 h'.1, fun p h1 h2 h3 => (h'.2.1 p h1 (Nat.lt_of_lt_of_le h2 h.1) (fun c => h3 (h.2.2 p h2 c))).trans (h.2.1 p h1 h2 h3), fun p hp c => h.2.2 p hp (h'.2.2 p (Nat.lt_of_lt_of_le hp h.1) c)⟩
theorem FC.put {C : Hp → Nat → Prop} {N id : Nat} {H : Hp} {o : Ob} (hC : ∀ H1 H2 p, Ex1 id H1 H2 → p < H1.next → C H2 p → C H1 p) (h : id < N) : FC C N H (H.put id o) :=
  ⟨Nat.le_refl _, fun p hp _ _ => by rw [put_get, if_neg (by omega)], fun p hp c => hC _ _ p Ex1.put hp c⟩
theorem FC.ext {C : Hp → Nat → Prop} {N id : Nat} {H H' : Hp} (hC : ∀ H1 H2 p, Ex1 id H1 H2 → p < H1.next → C H2 p → C H1 p) (h : Ext H H') : FC C N H H' :=
  ⟨h.1, fun p _ hp _ => h.2 p hp, fun p hp c => hC _ _ p h.ex1 hp c⟩
theorem FC.at {C : Hp → Nat → Prop} {N p : Nat} {H H' : Hp} {o : Ob} (h : FC C N H H') (hp : N ≤ p) (hc : ¬ C H p) (a : At H p o) : At H' p o := ⟨Nat.lt_of_lt_of_le a.1 h.1, (h.2.1 p hp a.1 hc).trans a.2⟩
section
variable {E : Env} {rd : Option Nat} {r : Regs} {H : Hp}
theorem Runs.forC {Q : Out → Regs → Hp → Prop} {f : Opd} {g : Nat} {cs : List V} {ps : List Nat} {assign body : AC} {n : Nat} (args : Nat → List V) (P : Nat → Hp → Prop) (D : Out → Hp → Prop) (C : Hp → Nat → Prop) (hC : ∀ H1 H2 p, Ex1 H.next H1 H2 → p < H1.next → C H2 p → C H1 p)
    (hf : ev r f = some (.fn g cs)) (hin : within H rd = true)
    (hst : ∀ i H1 H2, P i H1 → Ex1 H.next H1 H2 → P i H2) (hsD : ∀ o H1 H2, D o H1 → Ex1 H.next H1 H2 → D o H2)
    (hstep : ∀ i H1, i < n → At H1 H.next (.loop ⟨.ready, none, r, ps, assign, body⟩) → P i H1 → ∃ r1, setParams r ps (args i) = some r1 ∧
      Runs E (some H.next) assign r1 H1 (fun o r2 H2 => o = .normal ∧ At H2 H.next (.loop ⟨.ready, none, r, ps, assign, body⟩) ∧ FC C (H.next + 1) H1 H2 ∧
        Runs E (some H.next) body r2 (H2.put H.next (.loop ⟨.busy, none, r, ps, assign, body⟩)) (fun o _ H3 => At H3 H.next (.loop ⟨.busy, none, r, ps, assign, body⟩) ∧ FC C (H.next + 1) H2 H3 ∧
          match o with | .normal => P (i + 1) H3 | o => D o H3)))
    (hit : (∀ i H1, i < n → (At H1 H.next (.loop ⟨.ready, none, r, ps, assign, body⟩) ∧ P i H1) → ValR E (.yld H.next) (args i) H1 (fun w H2 => FC C (H.next + 1) H1 H2 ∧
        ((w = .bool true ∧ At H2 H.next (.loop ⟨.ready, none, r, ps, assign, body⟩) ∧ P (i + 1) H2) ∨ (w = .bool false ∧ ∃ o, o ≠ .normal ∧ At H2 H.next (.loop ⟨.done, jmp o, r, ps, assign, body⟩) ∧ D o H2)))) →
      CallR E g (.yld H.next :: cs) (H.new (.loop ⟨.ready, none, r, ps, assign, body⟩)) (fun _ H' =>
        (At H' H.next (.loop ⟨.ready, none, r, ps, assign, body⟩) ∧ P n H') ∨ ∃ o, o ≠ .normal ∧ At H' H.next (.loop ⟨.done, jmp o, r, ps, assign, body⟩) ∧ D o H'))
    (hQ : ∀ H', P n H' → Q .normal r H') (hD : ∀ o H', o ≠ .normal → D o H' → Q o r H') : Runs E rd (.rangeF f ps assign body) r H Q := by
  obtain ⟨v, H', hpost, n0, hrun⟩ := hit (fun i H1 hi h1 => by
    obtain ⟨r1, hr1, o, r2, H2, ⟨ho, ha2, hf2, o3, r3, H3, ⟨ha3, hf3, hm⟩, n3, h3⟩, n2, h2⟩ := hstep i H1 hi h1.1 h1.2
    subst ho
    have hb3 : ∀ st pd, At (H3.put H.next (.loop ⟨st, pd, r, ps, assign, body⟩)) H.next (.loop ⟨st, pd, r, ps, assign, body⟩) := fun st pd => ha3.put
    have hfr : ∀ st pd, FC C (H.next + 1) H1 (H3.put H.next (.loop ⟨st, pd, r, ps, assign, body⟩)) := fun st pd => (hf2.trans hf3).trans (FC.put hC (Nat.lt_succ_self _))
    cases o3 with
    | normal =>
      refine ⟨.bool true, H3.put H.next (.loop ⟨.ready, none, r, ps, assign, body⟩), ⟨hfr _ _, Or.inl ⟨rfl, hb3 _ _, hst _ _ _ hm Ex1.put⟩⟩, max n2 n3, fun n' hn' => ?_⟩
      simp only [callV, h1.1.2, hr1, Option.bind_some, h2 n' (by omega), ha2.2, h3 n' (by omega), ha3.2]
    | exit i =>
      refine ⟨.bool false, H3.put H.next (.loop ⟨.done, some (.exit i), r, ps, assign, body⟩), ⟨hfr _ _, Or.inr ⟨rfl, .exit i, (fun h => by cases h), hb3 _ _, hsD _ _ _ hm Ex1.put⟩⟩, max n2 n3, fun n' hn' => ?_⟩
      simp only [callV, h1.1.2, hr1, Option.bind_some, h2 n' (by omega), ha2.2, h3 n' (by omega), ha3.2]
    | ret =>
      refine ⟨.bool false, H3.put H.next (.loop ⟨.done, some .ret, r, ps, assign, body⟩), ⟨hfr _ _, Or.inr ⟨rfl, .ret, (fun h => by cases h), hb3 _ _, hsD _ _ _ hm Ex1.put⟩⟩, max n2 n3, fun n' hn' => ?_⟩
      simp only [callV, h1.1.2, hr1, Option.bind_some, h2 n' (by omega), ha2.2, h3 n' (by omega), ha3.2])
  rcases hpost with ⟨ha, hp⟩ | ⟨o, hne, ha, hd⟩
  · refine Runs.step (hQ (H'.put H.next (.loop ⟨.exhausted, none, r, ps, assign, body⟩)) (hst _ _ _ hp Ex1.put)) n0 (fun n' hn' => ?_)
    simp only [execWith, hf, Option.bind_some, hin, cond_true, hrun n' hn', ha.2]
  · cases o with
    | normal => exact absurd rfl hne
    | exit i =>
      refine Runs.step (hD (.exit i) (H'.put H.next (.loop ⟨.exhausted, some (.exit i), r, ps, assign, body⟩)) hne (hsD _ _ _ hd Ex1.put)) n0 (fun n' hn' => ?_)
      simp only [execWith, hf, Option.bind_some, hin, cond_true, hrun n' hn', ha.2, jmp]
    | ret =>
      refine Runs.step (hD .ret (H'.put H.next (.loop ⟨.exhausted, some .ret, r, ps, assign, body⟩)) hne (hsD _ _ _ hd Ex1.put)) n0 (fun n' hn' => ?_)
      simp only [execWith, hf, Option.bind_some, hin, cond_true, hrun n' hn', ha.2, jmp]
end
end Go.Vm
namespace Go.Vm
section
variable {E : Env} {H Hb : Hp} {r : Regs} {bytes n : Nat} {v z : V} {cs : List V}
/-- one element more: the new one lies in a block of its own first -/
theorem push1 {x y : Opd} (hx : ev r x = some v) (hy : ev r y = some (.slc H.next 0 1 (.ex 1))) (B : Buf Hb H 1 v n cs) (hn : n ≤ 1000000) (hb : bytes ≤ 4096) (hz : z.one = true) :
    stepOp E noCall r (H.new (.cells [z])) (.app 1 bytes x y) = some (.slc (H.next + 1) 0 (n + 1) (.up 1), bufH (H.new (.cells [z])) v (cs ++ [z])) := by
  have hC := At.new H (.cells [z])
  exact step_app hx hy rfl (by simp only [cellsOf, hC.2]; rfl) (B.mono (Ext.new H _)) (by omega) (by omega) (by simp [allOne, hz]) (room_ok (by omega) hb)
theorem push1_ext (B : Buf Hb H 1 v n cs) (hX : Ext Hb H) : Ext Hb (bufH (H.new (.cells [z])) v (cs ++ [z])) := (B.mono (Ext.new H (.cells [z]))).ext (hX.trans (Ext.new H _))
theorem push1_buf (B : Buf Hb H 1 v n cs) (hX : Ext Hb H) : Buf Hb (bufH (H.new (.cells [z])) v (cs ++ [z])) 1 (.slc (H.next + 1) 0 (n + 1) (.up 1)) (n + 1) (cs ++ [z]) := (B.mono (Ext.new H (.cells [z]))).grow (k := 1) (hX.trans (Ext.new H _)) rfl
theorem push1_keep {w : V} {m : Nat} {ds : List V} (B : Buf Hb H 1 v n cs) {Hc : Hp} {es : Nat} (Bw : Buf Hc H es w m ds) (hd : Dj v w) : Buf Hc (bufH (H.new (.cells [z])) v (cs ++ [z])) es w m ds := (Bw.mono (Ext.new H _)).keep B.off hd
theorem push1_at (B : Buf Hb H 1 v n cs) (hX : Ext Hb H) : At (bufH (H.new (.cells [z])) v (cs ++ [z])) (H.next + 1) (.cells (cs ++ [z])) := by
  obtain ⟨_, ⟨h, _⟩ | ⟨id, c, h, _, ha, _⟩⟩ := push1_buf (z := z) B hX
  · cases h
  · cases h; exact ha
theorem push1_next : (bufH (H.new (.cells [z])) v (cs ++ [z])).next = H.next + 2 := by rw [bufH_next]; rfl
/-- an object of no list -/
theorem push1_obj (B : Buf Hb H 1 v n cs) {p : Nat} {o : Ob} (h : At H p o) (hp : sid v ≠ some p) : At (bufH (H.new (.cells [z])) v (cs ++ [z])) p o :=
  ((Ext.new H _).at h).bufH (fun len c e => hp (by rw [e]; rfl)) B.off
end
end Go.Vm
namespace Go.Vm
section
variable {E : Env}
theorem Buf.base {Hb Hc H : Hp} {es n : Nat} {v : V} {cs : List V} (h : Buf Hc H es v n cs) (hb : Hb.next ≤ Hc.next) : Buf Hb H es v n cs :=
  ⟨h.1, h.2.imp id fun ⟨id, c, h1, h2, h3, h4⟩ => ⟨id, c, h1, Nat.le_trans hb h2, h3, h4⟩⟩
theorem Buf.djNew {Hc H : Hp} {es m : Nat} {s : V} {ds : List V} (h : Buf Hc H es s m ds) {k : Nat} {c : Cap} : Dj (.slc (H.next + 1) 0 k c) s := by
  intro id h1 h2
  cases h1
  obtain ⟨_, ⟨rfl, _⟩ | ⟨id', c', rfl, _, ha, _⟩⟩ := h
  · cases h2
  · injection h2 with h2
    have := ha.1
    omega
theorem Buf.djOld {Hb Hc H H' : Hp} {es es' n m : Nat} {v s : V} {cs ds : List V} (h : Buf Hb H es v n cs) (h' : Buf Hc H' es' s m ds) (hc : H.next ≤ Hc.next) : Dj v s := by
  intro id h1 h2
  obtain ⟨_, ⟨rfl, _⟩ | ⟨id1, c1, rfl, _, ha, _⟩⟩ := h
  · cases h1
  · obtain ⟨_, ⟨rfl, _⟩ | ⟨id2, c2, rfl, hid, _, _⟩⟩ := h'
    · cases h2
    · injection h1 with h1; injection h2 with h2
      have := ha.1
      omega
/-- lists of numbers, each in an object of its own, apart from the list of them -/
structure Rows (Hb H : Hp) (v : V) (vs : List V) (Ls : List (List Int)) : Prop where
  b : Buf Hb H 1 v vs.length vs
  l : vs.length = Ls.length
  e : ∀ (i : Nat) (s : V) (l : List Int), vs[i]? = some s → Ls[i]? = some l → Buf Hb H 1 s l.length (l.map (.int .i64)) ∧ Dj v s ∧ l.length < 2 ^ 63
theorem Rows.mono {Hb H H' : Hp} {v : V} {vs : List V} {Ls : List (List Int)} (h : Rows Hb H v vs Ls) (hX : Ext H H') : Rows Hb H' v vs Ls :=
  ⟨h.b.mono hX, h.l, fun i s l h1 h2 => ⟨(h.e i s l h1 h2).1.mono hX, (h.e i s l h1 h2).2⟩⟩
theorem Rows.push {Hb H : Hp} {v s : V} {vs : List V} {Ls : List (List Int)} {l : List Int} (h : Rows Hb H v vs Ls) (hX : Ext Hb H) (hs : Buf Hb H 1 s l.length (l.map (.int .i64))) (hd : Dj v s) (hl : l.length < 2 ^ 63) :
    Rows Hb (bufH (H.new (.cells [s])) v (vs ++ [s])) (.slc (H.next + 1) 0 (vs.length + 1) (.up 1)) (vs ++ [s]) (Ls ++ [l]) := by
  refine ⟨by have := push1_buf (z := s) h.b hX; rwa [List.length_append], by simp [h.l], fun i s' l' h1 h2 => ?_⟩
  by_cases hi : i < vs.length
  · rw [List.getElem?_append_left hi] at h1
    rw [List.getElem?_append_left (by rw [← h.l]; exact hi)] at h2
    obtain ⟨g1, g2, g3⟩ := h.e i s' l' h1 h2
    exact ⟨push1_keep h.b g1 g2, g1.djNew, g3⟩
  · have : i = vs.length := by
      have := (List.getElem?_eq_some_iff.1 h1).1
      simp at this; omega
    subst this
    rw [List.getElem?_append_right (Nat.le_refl _), Nat.sub_self] at h1
    rw [h.l, List.getElem?_append_right (Nat.le_refl _), Nat.sub_self] at h2
    cases h1; cases h2
    exact ⟨push1_keep h.b hs hd, hs.djNew, hl⟩
theorem Rows.i2 {Hb H : Hp} {v : V} {vs : List V} {Ls : List (List Int)} (h : Rows Hb H v vs Ls) (hl : Ls.length < 2 ^ 63) : I2 E H v Ls := by
  have hlen : lenOf v = some Ls.length := by
    rw [← h.l]
    obtain ⟨_, ⟨rfl, h0⟩ | ⟨id, c, rfl, _⟩⟩ := h.b
    · rw [h0]; rfl
    · rfl
  refine ⟨hl, hlen, fun i l hi => ?_⟩
  have hlt := (List.getElem?_eq_some_iff.1 hi).1
  have hs : vs[i]? = some (vs[i]'(by rw [h.l]; exact hlt)) := List.getElem?_eq_getElem _
  obtain ⟨h1, _, h3⟩ := h.e i _ l hs hi
  refine ⟨vs[i]'(by rw [h.l]; exact hlt), ?_, Buf.i1 h1 h3⟩
  obtain ⟨_, ⟨rfl, h0⟩ | ⟨id, c, rfl, _, ha, _⟩⟩ := h.b
  · rw [← h.l] at hlt; omega
  · show Pers E H (.ptr id (0 + i * 1)) _
    rw [Nat.zero_add, Nat.mul_one]
    exact ha.pers (by rw [nth_eq]; exact hs)

theorem Buf.slc {Hb H : Hp} {es n : Nat} {v : V} {cs : List V} (h : Buf Hb H es v n cs) (hn : 0 < n) : ∃ id c, v = .slc id 0 n c := by
  obtain ⟨_, ⟨_, h0⟩ | ⟨id, c, rfl, _⟩⟩ := h
  · omega
  · exact ⟨id, c, rfl⟩
end
end Go.Vm

namespace Go.Vm
section
variable {E : Env} {rd : Option Nat} {r : Regs} {H : Hp}
theorem Runs.forG {σ : Type} {Q : Out → Regs → Hp → Prop} {f : Opd} {g : Nat} {cs : List V} {ps : List Nat} {assign body : AC} (A : σ → List V → σ → Hp → Prop) (Fin : σ → Prop) (P : σ → Hp → Prop) (D : Out → Hp → Prop) (C : Hp → Nat → Prop) (hC : ∀ H1 H2 p, Ex1 H.next H1 H2 → p < H1.next → C H2 p → C H1 p)
    (hf : ev r f = some (.fn g cs)) (hin : within H rd = true)
    (hst : ∀ (i : σ) H1 H2, P i H1 → Ex1 H.next H1 H2 → P i H2) (hsD : ∀ o H1 H2, D o H1 → Ex1 H.next H1 H2 → D o H2)
    (hstep : ∀ (i : σ) (args : List V) (i' : σ) H1, A i args i' H1 → At H1 H.next (.loop ⟨.ready, none, r, ps, assign, body⟩) → P i H1 → ∃ r1, setParams r ps args = some r1 ∧
      Runs E (some H.next) assign r1 H1 (fun o r2 H2 => o = .normal ∧ At H2 H.next (.loop ⟨.ready, none, r, ps, assign, body⟩) ∧ FC C (H.next + 1) H1 H2 ∧
        Runs E (some H.next) body r2 (H2.put H.next (.loop ⟨.busy, none, r, ps, assign, body⟩)) (fun o _ H3 => At H3 H.next (.loop ⟨.busy, none, r, ps, assign, body⟩) ∧ FC C (H.next + 1) H2 H3 ∧
          match o with | .normal => P i' H3 | o => D o H3)))
    (hit : (∀ (i : σ) (args : List V) (i' : σ) H1, A i args i' H1 → (At H1 H.next (.loop ⟨.ready, none, r, ps, assign, body⟩) ∧ P i H1) → ValR E (.yld H.next) args H1 (fun w H2 => FC C (H.next + 1) H1 H2 ∧
        ((w = .bool true ∧ At H2 H.next (.loop ⟨.ready, none, r, ps, assign, body⟩) ∧ P i' H2) ∨ (w = .bool false ∧ ∃ o, o ≠ .normal ∧ At H2 H.next (.loop ⟨.done, jmp o, r, ps, assign, body⟩) ∧ D o H2)))) →
      CallR E g (.yld H.next :: cs) (H.new (.loop ⟨.ready, none, r, ps, assign, body⟩)) (fun _ H' =>
        (∃ s, Fin s ∧ At H' H.next (.loop ⟨.ready, none, r, ps, assign, body⟩) ∧ P s H') ∨ ∃ o, o ≠ .normal ∧ At H' H.next (.loop ⟨.done, jmp o, r, ps, assign, body⟩) ∧ D o H'))
    (hQ : ∀ s H', Fin s → P s H' → Q .normal r H') (hD : ∀ o H', o ≠ .normal → D o H' → Q o r H') : Runs E rd (.rangeF f ps assign body) r H Q := by
  obtain ⟨v, H', hpost, n0, hrun⟩ := hit (fun i args i' H1 hi h1 => by
    obtain ⟨r1, hr1, o, r2, H2, ⟨ho, ha2, hf2, o3, r3, H3, ⟨ha3, hf3, hm⟩, n3, h3⟩, n2, h2⟩ := hstep i args i' H1 hi h1.1 h1.2
    subst ho
    have hb3 : ∀ st pd, At (H3.put H.next (.loop ⟨st, pd, r, ps, assign, body⟩)) H.next (.loop ⟨st, pd, r, ps, assign, body⟩) := fun st pd => ha3.put
    have hfr : ∀ st pd, FC C (H.next + 1) H1 (H3.put H.next (.loop ⟨st, pd, r, ps, assign, body⟩)) := fun st pd => (hf2.trans hf3).trans (FC.put hC (Nat.lt_succ_self _))
    cases o3 with
    | normal =>
      refine ⟨.bool true, H3.put H.next (.loop ⟨.ready, none, r, ps, assign, body⟩), ⟨hfr _ _, Or.inl ⟨rfl, hb3 _ _, hst _ _ _ hm Ex1.put⟩⟩, max n2 n3, fun n' hn' => ?_⟩
      simp only [callV, h1.1.2, hr1, Option.bind_some, h2 n' (by omega), ha2.2, h3 n' (by omega), ha3.2]
    | exit i =>
      refine ⟨.bool false, H3.put H.next (.loop ⟨.done, some (.exit i), r, ps, assign, body⟩), ⟨hfr _ _, Or.inr ⟨rfl, .exit i, (fun h => by cases h), hb3 _ _, hsD _ _ _ hm Ex1.put⟩⟩, max n2 n3, fun n' hn' => ?_⟩
      simp only [callV, h1.1.2, hr1, Option.bind_some, h2 n' (by omega), ha2.2, h3 n' (by omega), ha3.2]
    | ret =>
      refine ⟨.bool false, H3.put H.next (.loop ⟨.done, some .ret, r, ps, assign, body⟩), ⟨hfr _ _, Or.inr ⟨rfl, .ret, (fun h => by cases h), hb3 _ _, hsD _ _ _ hm Ex1.put⟩⟩, max n2 n3, fun n' hn' => ?_⟩
      simp only [callV, h1.1.2, hr1, Option.bind_some, h2 n' (by omega), ha2.2, h3 n' (by omega), ha3.2])
  rcases hpost with ⟨s, hs, ha, hp⟩ | ⟨o, hne, ha, hd⟩
  · refine Runs.step (hQ s (H'.put H.next (.loop ⟨.exhausted, none, r, ps, assign, body⟩)) hs (hst _ _ _ hp Ex1.put)) n0 (fun n' hn' => ?_)
    simp only [execWith, hf, Option.bind_some, hin, cond_true, hrun n' hn', ha.2]
  · cases o with
    | normal => exact absurd rfl hne
    | exit i =>
      refine Runs.step (hD (.exit i) (H'.put H.next (.loop ⟨.exhausted, some (.exit i), r, ps, assign, body⟩)) hne (hsD _ _ _ hd Ex1.put)) n0 (fun n' hn' => ?_)
      simp only [execWith, hf, Option.bind_some, hin, cond_true, hrun n' hn', ha.2, jmp]
    | ret =>
      refine Runs.step (hD .ret (H'.put H.next (.loop ⟨.exhausted, some .ret, r, ps, assign, body⟩)) hne (hsD _ _ _ hd Ex1.put)) n0 (fun n' hn' => ?_)
      simp only [execWith, hf, Option.bind_some, hin, cond_true, hrun n' hn', ha.2, jmp]

theorem flat1 (n : Nat) (z : V) : (List.replicate n [z]).flatten = List.replicate n z := by
  induction n with
  | zero => rfl
  | succ n ih => rw [List.replicate_succ, List.flatten_cons, ih, List.replicate_succ]; rfl
theorem step_mks {x y : Opd} {z : V} {n : Nat} {bytes : Nat} {a : Int} (hx : ev r x = some (.int .i64 a)) (hy : ev r y = some (.int .i64 a)) (ha : a = (n : Int)) (hn : n ≤ 1048576) (hb : bytes ≤ 4096) :
    stepOp E noCall r H (.mkslice bytes [z] x y) = some (.slc H.next 0 n (.ex n), H.new (.cells (List.replicate n z))) := by
  subst ha
  have h1 : Nat.ble n n = true := by simp
  have h2 : Nat.ble (n * bytes) (2 ^ 47) = true := by
    rw [Nat.ble_eq]
    exact Nat.le_trans (Nat.mul_le_mul hn hb) (by decide)
  have h3 : Nat.ble n (2 ^ 40) = true := by rw [Nat.ble_eq]; exact Nat.le_trans hn (by decide)
  simp only [stepOp, AOp.kind, newOp, hx, hy, Option.bind_some, natOf, Int.natCast_nonneg, if_true, Int.toNat_natCast, h1, h2, h3, Bool.and_self, cond_true, flat1]
/-- n cells, the first ones written -/
def partN (n : Nat) (L : List Int) (q : Nat) : List V := (L.take q).map (.int .i64) ++ List.replicate (n - q) (.int .i64 0)
theorem setAtA {v x : V} : ∀ {as bs : List V}, setAt (as ++ x :: bs) as.length [v] = some (as ++ v :: bs)
  | [], bs => by cases bs <;> rfl
  | a :: as, bs => by
    show (setAt (as ++ x :: bs) as.length [v]).bind _ = _
    rw [setAtA]; rfl
theorem partN_set {n q : Nat} {L : List Int} (hq : q < n) {z : Int} (hz : L[q]? = some z) : setAt (partN n L q) (0 + q * 1) (V.cells (.int .i64 z)) = some (partN n L (q + 1)) := by
  have h0 := (List.getElem?_eq_some_iff.1 hz).1
  have h1 : (0 + q * 1) = ((L.take q).map (V.int .i64)).length := by simp; omega
  have h2 : List.replicate (n - q) (V.int .i64 0) = .int .i64 0 :: List.replicate (n - (q + 1)) (.int .i64 0) := by rw [show n - q = (n - (q + 1)) + 1 from by omega, List.replicate_succ]
  have h3 : partN n L (q + 1) = (L.take q).map (V.int .i64) ++ .int .i64 z :: List.replicate (n - (q + 1)) (.int .i64 0) := by
    rw [partN, List.take_add_one, hz, List.map_append]; simp
  rw [h3, partN, h2, h1]
  exact setAtA
theorem partN_app {n : Nat} {l : List Int} (t : Int) : partN n (l ++ [t]) l.length = partN n l l.length := by simp [partN]
theorem partN_full {n : Nat} {L : List Int} (hL : L.length = n) : partN n L n = L.map (.int .i64) := by rw [partN, List.take_of_length_le (by omega)]; simp
end
end Go.Vm
namespace Go.Vm
section
variable {E : Env} {H H' Hb : Hp} {es n : Nat} {v : V} {cs : List V}
theorem Buf.ex1 {id : Nat} (h : Buf Hb H es v n cs) (hX : Ex1 id H H') (hid : id < Hb.next) : Buf Hb H' es v n cs :=
  ⟨h.1, h.2.imp (fun x => x) fun ⟨i, c, h1, h2, h3, h4⟩ => ⟨i, c, h1, h2, hX.at (by omega) h3, h4⟩⟩
theorem Rows.ex1 {id : Nat} {vs : List V} {Ls : List (List Int)} (h : Rows Hb H v vs Ls) (hX : Ex1 id H H') (hid : id < Hb.next) : Rows Hb H' v vs Ls :=
  ⟨h.b.ex1 hX hid, h.l, fun i s l h1 h2 => ⟨(h.e i s l h1 h2).1.ex1 hX hid, (h.e i s l h1 h2).2⟩⟩
theorem bufH_get {p : Nat} (hp : p < H.next) (hv : sid v ≠ some p) : (bufH H v cs).get p = H.get p := by
  unfold bufH
  split
  · rename_i id off len es'
    have hne : p ≠ id := fun e => hv (by rw [e]; rfl)
    rw [(Ext.new (H.kill id) _).2 p hp, get_kill]
    simp only [gset]
    rw [if_neg hne]
  · exact (Ext.new H _).2 p hp
end
end Go.Vm
