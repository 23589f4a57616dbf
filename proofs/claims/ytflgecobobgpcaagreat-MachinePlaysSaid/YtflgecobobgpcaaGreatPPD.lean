/-
  Contracts of functions on rounds and words. Conditions: none beyond those that each statement names.
-/
import Derived.Test.YtflgecobobgpcaaGreatPPC
import Derived.Test.YtflgecobobgpcaaGreatPVI
namespace Go.Vm.Code
open Go.Vm
variable {E : Env}
/-- the reference's power of two -/
theorem g202 (S : Std E) (n : Nat) (hn : n ≤ 62) (H : Hp) : CallR E 202 [.int .i64 n] H (fun w H' => w = .int .i64 (2 ^ n) ∧ H' = H) := by
  refine S.call (f := 202) (by decide) rfl rfl ?_
  refine Sq <| Rg <| O1 rfl <| On <| Sq <| Rg <| O1 rfl <| On <| Sq <| Sq <| Rg <| O1 rfl <| On <| Bk <| ?_
  refine Runs.loopS (σ := Nat) (fun i => [(0, .int .i64 n), (3, .int .i64 (2 ^ i)), (4, .int .i64 i)]) (fun i H' => i ≤ n ∧ H' = H) (fun i => n - i) ?_ 0 _ _ rfl ⟨Nat.zero_le _, rfl⟩
  rintro i H1 ⟨hi, rfl⟩
  refine Sq <| Sq <| Rg <| O1 rfl <| O1 rfl <| O1 rfl <| On <| ?_
  refine Runs.cond rfl (fun hc => ?_) (fun hc => ?_)
  · have hlt : i < n := by simpa using hc
    have hb := pow_le (show i + 1 ≤ 62 by omega)
    have hm : (2 : Int) ^ i * Int.ofNat 2 = 2 ^ (i + 1) := by rw [Int.pow_succ]; rfl
    have hm2 : (2 : Int) ^ (i + 1) = 2 ^ i * 2 := Int.pow_succ ..
    refine Sk <| Sq <| Bk <| Rg <| O1 rfl <| O1 (step_mul rfl rfl (by omega)) <| O1 rfl <| On <| Rg <| O1 rfl <| O1 (addN rfl rfl (by omega)) <| O1 rfl <| On <| ?_
    exact ⟨i + 1, Nat.sub_lt_sub_left hlt (Nat.lt_succ_self i), by show restrict (put _ (some 4) _) _ = _; rw [hm]; rfl, hlt, rfl⟩
  · have hlt : ¬ i < n := by simpa using hc
    refine Xt <| Sq <| Rg <| O1 rfl <| O1 rfl <| On <| Rt <| ?_
    exact ⟨nr, _, rfl, by rw [show n = i from by omega]; rfl, rfl⟩
/-- the reference's Has -/
theorem g161 (S : Std E) {a : Int} (ha : 0 ≤ a ∧ a < 9223372036854775808) (p : Nat) (hp : p ≤ 62) (H : Hp) : CallR E 161 [.int .i64 a, .int .i64 p] H (fun w H' => w = .bool (bitB a p) ∧ H' = H) := by
  refine S.call (f := 161) (by decide) rfl rfl ?_
  have hb := pow_le hp
  refine Sq <| Rg <| O1 rfl <| On <| Sq <| Rg <| O1 rfl <| O1 rfl <| ?_
  have tt := g202 S p hp H
  refine CQ rfl rfl tt ?_
  clear tt
  refine O1 (step_quo rfl rfl ha (by omega)) ?_
  refine O1 (step_rem (b := Int.ofNat 2) rfl rfl (Int.ediv_nonneg ha.1 (by omega)) (by decide)) ?_
  refine O1 rfl <| O1 rfl <| On <| Rt <| ?_
  exact ⟨nr, _, rfl, by show V.bool ((a / 2 ^ p % 2) == 1) = _; simp only [bitB]; congr 1, rfl⟩
theorem g201 (S : Std E) (n : Nat) (hn : n ≤ 62) (H : Hp) : CallR E 201 [.int .i64 n] H (fun w H' => w = .int .i64 (2 ^ n - 1) ∧ H' = H) := by
  refine S.call (f := 201) (by decide) rfl rfl ?_
  have hb := pow_le hn
  refine Sq <| Rg <| O1 rfl <| On <| Sq <| Rg <| O1 rfl <| ?_
  have tt := g202 S n hn H
  refine CQ rfl rfl tt ?_
  clear tt
  refine O1 (subL rfl rfl (by omega)) <| O1 rfl <| On <| Rt <| ?_
  exact ⟨nr, _, rfl, rfl, rfl⟩
theorem g199 (S : Std E) (n : Nat) (hn : n ≤ 62) (H : Hp) : CallR E 199 [.int .i64 n] H (fun w H' => w = .int .i64 (2 ^ n - 1) ∧ H' = H) := by
  refine S.call (f := 199) (by decide) rfl rfl ?_
  have hb := pow_le hn
  refine Sq <| Rg <| O1 rfl <| On <| Sq <| Rg <| O1 rfl <| ?_
  refine O1 (step_shl1 (b := (n : Int)) rfl rfl (by omega)) ?_
  have e : ((n : Int)).toNat = n := by omega
  rw [e]
  refine O1 (subL rfl rfl (by omega)) <| O1 rfl <| On <| Rt <| ?_
  exact ⟨nr, _, rfl, rfl, rfl⟩
/-- the error of a number of processes -/
def procE (n : Int) : Int := if n < 1 ∨ n > 5 then 1 else 0
theorem gProc (S : Std E) {k : Nat} (hk : k ≠ 12) (hg : tbl.get k = some c107) (n : Int) (H : Hp) : CallR E k [.int .i64 n] H (fun w H' => w = .int .i64 (procE n) ∧ H' = H) := by
  refine S.call hk hg rfl ?_
  refine Sq <| Rg <| O1 rfl <| On <| Sq <| Sq <| Rg <| O1 rfl <| O1 rfl <| O1 rfl <| ?_
  cases h1 : decide (n < Int.ofNat 1) with
  | true =>
    refine ON rfl <| ON rfl <| O1 rfl <| On <| CT rfl <| Sq <| Rg <| O1 rfl <| On <| Rt <| ?_
    exact ⟨nr, _, rfl, by rw [procE, if_pos (Or.inl (show n < 1 from of_decide_eq_true h1))]; rfl, rfl⟩
  | false =>
    refine OY rfl rfl <| OY rfl rfl <| O1 rfl <| On <| ?_
    refine Runs.cond rfl (fun h2 => ?_) (fun h2 => ?_)
    · refine Sq <| Rg <| O1 rfl <| On <| Rt <| ?_
      exact ⟨nr, _, rfl, by rw [procE, if_pos (Or.inr (show n > 5 from of_decide_eq_true h2))]; rfl, rfl⟩
    · refine Sk <| Sq <| Rg <| O1 rfl <| On <| Rt <| ?_
      exact ⟨nr, _, rfl, by rw [procE, if_neg (by rintro (h | h); exact of_decide_eq_false h1 h; exact of_decide_eq_false h2 h)]; rfl, rfl⟩
end Go.Vm.Code

namespace Go.Vm.Code
open Go.Vm
variable {E : Env}
structure Rnd where
  n : Int
  h0 : Int
  h1 : Int
  h2 : Int
  h3 : Int
  h4 : Int
  fa : Int
def Rnd.hs (r : Rnd) : List Int := [r.h0, r.h1, r.h2, r.h3, r.h4]
def Rnd.gs (r : Rnd) : List Int := r.n :: r.hs
def Rnd.cells (r : Rnd) : List Int := [r.n, r.h0, r.h1, r.h2, r.h3, r.h4, r.fa]
def Rnd.gv (r : Rnd) : List V := r.gs.map (.int .i64)
def Rnd.vs (r : Rnd) : List V := r.cells.map (.int .i64)
/-- the error of the sets of a graph, from process p on -/
def gE (n : Int) : Nat → List Int → Int
  | _, [] => 0
  | p, h :: l => if (p : Int) ≥ n then (if h ≠ 0 then 3 else gE n (p + 1) l) else if h < 0 ∨ h > 2 ^ n.toNat - 1 then 2 else if bitB h p = false then 3 else gE n (p + 1) l
def graphE (r : Rnd) : Int := if r.n < 1 ∨ r.n > 5 then 2 else gE r.n 0 r.hs
def setE (n f : Int) : Int := if procE n ≠ 0 then procE n else if f < 0 ∨ f ≥ 2 ^ n.toNat then 2 else 0
def rndE (r : Rnd) : Int := if graphE r ≠ 0 then graphE r else setE r.n r.fa
theorem hs_drop (r : Rnd) {q : Nat} (hq : q < 5) : r.hs.drop q = r.hs.getD q 0 :: r.hs.drop (q + 1) := getD_drop (l := r.hs) hq
theorem step_idx {rg : Regs} {H : Hp} {x i : Opd} {l : List Int} {N q : Nat} {k : IntKind} (hx : ev rg x = some (.agg (l.map (.int .i64)))) (hi : ev rg i = some (.int k (q : Int))) (hq : q < N) (hl : l.length = N) : stepOp E noCall rg H (.idx N 1 false x i) = some (.int .i64 (l.getD q 0), H) := by
  have h' : Nat.blt q N = true := by simpa using hq
  have hn : nth (l.map (V.int .i64)) (q * 1) = some (.int .i64 (l.getD q 0)) := by
    rw [nth_eq, Nat.mul_one, List.getElem?_map, List.getD_eq_getElem?_getD, List.getElem?_eq_getElem (by omega)]; rfl
  simp only [stepOp, AOp.kind, pureOp, hx, hi, Option.bind_some, natOf, Int.natCast_nonneg, if_true, Int.toNat_natCast, h', cond_true, cond_false, hn]

theorem l156 (S : Std E) {Q : Out → Regs → Hp → Prop} {r : Rnd} (hn : 1 ≤ r.n ∧ r.n ≤ 5) {H : Hp} {pb : Nat} (hA : At H pb (.cells r.gv))
    (hQ : gE r.n 0 r.hs = 0 → ∀ rg, Q (.exit 0) rg H) (hF : ∀ rg, look rg 2 = some (.int .i64 (gE r.n 0 r.hs)) → Q .ret rg H) :
    ∀ rg, restrict rg [1, 14, 15] = [(1, .ptr pb 0), (14, .agg (r.hs.map (.int .i64))), (15, .int .i64 0)] → Runs E none w156_0 rg H Q := by
  intro rg hr
  refine Runs.loopS (σ := Nat) (fun p => [(1, .ptr pb 0), (14, .agg (r.hs.map (.int .i64))), (15, .int .i64 p)]) (fun p H' => p ≤ 5 ∧ H' = H ∧ gE r.n 0 r.hs = gE r.n p (r.hs.drop p)) (fun p => 5 - p) ?_ 0 _ _ hr ⟨by omega, rfl, rfl⟩
  rintro p H1 ⟨hp, rfl, hno⟩
  refine Sq <| Rg <| O1 rfl <| On <| Sq <| ?_
  refine Runs.cond rfl (fun hc => ?_) (fun hc => ?_)
  · have hlt : p < 5 := by have : (p : Int) < ((5 : Nat) : Int) := of_decide_eq_true hc; omega
    rw [hs_drop r hlt, gE] at hno
    refine Sk <| Sq <| Bk <| Sq <| Rg <| O1 rfl <| ?_
    refine O1 (step_idx rfl rfl hlt rfl) ?_
    refine O1 rfl <| O1 rfl <| On <| Bk <| Sq <| Rg <| O1 rfl <| O1 rfl <| O1 (ldA rfl ‹_› (by rfl)) <| O1 rfl <| O1 rfl <| ?_
    cases h1 : decide ((p : Int) ≥ r.n) with
    | true =>
      rw [if_pos (of_decide_eq_true h1)] at hno
      refine OY rfl rfl <| OY rfl rfl <| O1 rfl <| O1 rfl <| On <| ?_
      refine Runs.cond rfl (fun h2 => ?_) (fun h2 => ?_)
      · have h2 : r.hs.getD p 0 ≠ 0 := by simpa using h2
        refine Sq <| Rg <| O1 rfl <| On <| Rt <| ?_
        exact hF _ (by rw [hno, if_pos h2]; rfl)
      · have h2 : ¬ r.hs.getD p 0 ≠ 0 := by simpa using h2
        refine Sq <| Rg <| O1 rfl <| O1 rfl <| O1 (ldA rfl ‹_› (by rfl)) <| O1 rfl <| O1 rfl <| On <| ?_
        rw [h1]
        refine CT rfl <| Sk <| Rg <| O1 (addN rfl rfl (by omega)) <| O1 rfl <| On <| ?_
        exact ⟨p + 1, by simp only; omega, rfl, by omega, rfl, by rw [hno, if_neg h2]⟩
    | false =>
      have h1' := of_decide_eq_false h1
      rw [if_neg h1'] at hno
      refine ON rfl <| ON rfl <| O1 rfl <| O1 rfl <| On <| CF rfl <| Sq <| Rg <| O1 rfl <| O1 rfl <| O1 (ldA rfl ‹_› (by rfl)) <| O1 rfl <| O1 rfl <| On <| ?_
      rw [h1]
      refine CF rfl <| Sq <| Rg <| O1 rfl <| O1 rfl <| O1 rfl <| ?_
      cases h2 : decide (r.hs.getD p 0 < Int.ofNat 0) with
      | true =>
        have h2' : r.hs.getD p 0 < 0 := of_decide_eq_true h2
        refine ON rfl <| ON rfl <| ON rfl <| ON rfl <| ON rfl <| O1 rfl <| O1 rfl <| On <| CT rfl <| Sq <| Rg <| O1 rfl <| On <| Rt <| ?_
        exact hF _ (by rw [hno, if_pos (Or.inl h2')]; rfl)
      | false =>
        have h2' : ¬ r.hs.getD p 0 < 0 := of_decide_eq_false h2
        have hnn : r.n = (r.n.toNat : Int) := by omega
        refine OY rfl rfl <| OY rfl rfl <| OY rfl (ldA rfl ‹_› (by rfl)) <| ?_
        have tt := g199 S r.n.toNat (by omega) H1
        rw [← hnn] at tt
        have tt := tt
        refine CQT rfl rfl rfl tt ?_
        clear tt
        refine OY rfl rfl <| O1 rfl <| O1 rfl <| On <| ?_
        refine Runs.cond rfl (fun h3 => ?_) (fun h3 => ?_)
        · have h3 : r.hs.getD p 0 > 2 ^ r.n.toNat - 1 := of_decide_eq_true h3
          refine Sq <| Rg <| O1 rfl <| On <| Rt <| ?_
          exact hF _ (by rw [hno, if_pos (Or.inr h3)]; rfl)
        · have h3 : ¬ r.hs.getD p 0 > 2 ^ r.n.toNat - 1 := of_decide_eq_false h3
          rw [if_neg (by rintro (h | h); exact h2' h; exact h3 h)] at hno
          refine Sq <| Rg <| O1 rfl <| O1 rfl <| ?_
          refine O1 (step_shr (b := (p : Int)) rfl rfl (by omega)) ?_
          rw [show ((p : Int)).toNat = p from by omega]
          refine O1 (step_and1 rfl rfl) <| O1 rfl <| O1 rfl <| On <| ?_
          have hbit : (r.hs.getD p 0 / 2 ^ p % 2 == Int.ofNat 0) = !bitB (r.hs.getD p 0) p := by
            simp only [bitB]
            have : r.hs.getD p 0 / 2 ^ p % 2 = 0 ∨ r.hs.getD p 0 / 2 ^ p % 2 = 1 := by omega
            rcases this with e | e <;> rw [e] <;> rfl
          rw [hbit]
          cases hb : bitB (r.hs.getD p 0) p with
          | false =>
            rw [hb] at hno
            refine CT rfl <| Sq <| Rg <| O1 rfl <| On <| Rt <| ?_
            exact hF _ (by rw [hno]; rfl)
          | true =>
            rw [hb] at hno
            refine CF rfl <| Sk <| Rg <| O1 (addN rfl rfl (by omega)) <| O1 rfl <| On <| ?_
            exact ⟨p + 1, by simp only; omega, rfl, by omega, rfl, by rw [hno]; rfl⟩
  · have hlt : ¬ p < 5 := by have : ¬ (p : Int) < ((5 : Nat) : Int) := of_decide_eq_false hc; omega
    refine Xt <| ?_
    exact hQ (by rw [hno, List.drop_eq_nil_of_le (by simp [Rnd.hs]; omega)]; rfl) _

theorem l159 (S : Std E) {Q : Out → Regs → Hp → Prop} {r : Rnd} (hn : 1 ≤ r.n ∧ r.n ≤ 5) {H : Hp} {pb : Nat} (hA : At H pb (.cells r.gv))
    (hQ : gE r.n 0 r.hs = 0 → ∀ rg, Q (.exit 0) rg H) (hF : ∀ rg, look rg 2 = some (.int .i64 (gE r.n 0 r.hs)) → Q .ret rg H) :
    ∀ rg, restrict rg [1, 3] = [(1, .ptr pb 0), (3, .int .i64 0)] → Runs E none w159_0 rg H Q := by
  intro rg hr
  refine Runs.loopS (σ := Nat) (fun p => [(1, .ptr pb 0), (3, .int .i64 p)]) (fun p H' => p ≤ 5 ∧ H' = H ∧ gE r.n 0 r.hs = gE r.n p (r.hs.drop p)) (fun p => 5 - p) ?_ 0 _ _ hr ⟨by omega, rfl, rfl⟩
  rintro p H1 ⟨hp, rfl, hno⟩
  refine Sq <| Sq <| Rg <| O1 rfl <| O1 rfl <| On <| ?_
  refine Runs.cond rfl (fun hc => ?_) (fun hc => ?_)
  · have hlt : p < 5 := by have : (p : Int) < ((5 : Nat) : Int) := of_decide_eq_true hc; omega
    rw [hs_drop r hlt, gE] at hno
    have hnth : nth r.gv (0 + 1 + p * 1) = some (.int .i64 (r.hs.getD p 0)) := by
      rw [nth_eq]
      rcases p with _ | _ | _ | _ | _ | p <;> first | rfl | omega
    refine Sk <| Sq <| Bk <| Sq <| Rg <| O1 rfl <| O1 rfl <| O1 (ixA rfl rfl (by omega)) <| ?_
    refine O1 (ldA rfl hA hnth) ?_
    refine O1 rfl <| On <| Sq <| Sq <| Rg <| O1 rfl <| O1 rfl <| O1 (ldA rfl ‹_› (by rfl)) <| O1 rfl <| On <| ?_
    refine Runs.cond rfl (fun h1 => ?_) (fun h1 => ?_)
    · have h1 : (p : Int) ≥ r.n := of_decide_eq_true h1
      rw [if_pos h1] at hno
      refine Sq <| Sq <| Rg <| O1 rfl <| O1 rfl <| On <| ?_
      refine Runs.cond rfl (fun h2 => ?_) (fun h2 => ?_)
      · have h2 : r.hs.getD p 0 ≠ 0 := by simpa using h2
        refine Sq <| Rg <| O1 rfl <| On <| Rt <| ?_
        exact hF _ (by rw [hno, if_pos h2]; rfl)
      · have h2 : ¬ r.hs.getD p 0 ≠ 0 := by simpa using h2
        refine Sk <| Xt <| Rg <| O1 rfl <| O1 (addN rfl rfl (by omega)) <| O1 rfl <| On <| ?_
        exact ⟨p + 1, by simp only; omega, rfl, by omega, rfl, by rw [hno, if_neg h2]⟩
    · have h1 : ¬ (p : Int) ≥ r.n := of_decide_eq_false h1
      rw [if_neg h1] at hno
      refine Sk <| Sq <| Sq <| Rg <| O1 rfl <| O1 rfl <| O1 rfl <| ?_
      cases h2 : decide (r.hs.getD p 0 < Int.ofNat 0) with
      | true =>
        have h2' : r.hs.getD p 0 < 0 := of_decide_eq_true h2
        refine ON rfl <| ON rfl <| ON rfl <| ON rfl <| ON rfl <| O1 rfl <| On <| CT rfl <| Sq <| Rg <| O1 rfl <| On <| Rt <| ?_
        exact hF _ (by rw [hno, if_pos (Or.inl h2')]; rfl)
      | false =>
        have h2' : ¬ r.hs.getD p 0 < 0 := of_decide_eq_false h2
        have hnn : r.n = (r.n.toNat : Int) := by omega
        have hp2 := pow_le (show r.n.toNat ≤ 62 by omega)
        refine OY rfl rfl <| OY rfl rfl <| OY rfl (ldA rfl ‹_› (by rfl)) <| ?_
        have tt := g201 S r.n.toNat (by omega) H1
        rw [← hnn] at tt
        have tt := tt
        refine CQT rfl rfl rfl tt ?_
        clear tt
        refine OY rfl rfl <| O1 rfl <| On <| ?_
        refine Runs.cond rfl (fun h3 => ?_) (fun h3 => ?_)
        · have h3 : r.hs.getD p 0 > 2 ^ r.n.toNat - 1 := of_decide_eq_true h3
          refine Sq <| Rg <| O1 rfl <| On <| Rt <| ?_
          exact hF _ (by rw [hno, if_pos (Or.inr h3)]; rfl)
        · have h3 : ¬ r.hs.getD p 0 > 2 ^ r.n.toNat - 1 := of_decide_eq_false h3
          rw [if_neg (by rintro (h | h); exact h2' h; exact h3 h)] at hno
          refine Sk <| Sq <| Rg <| O1 rfl <| O1 rfl <| ?_
          have tt := g161 S (a := r.hs.getD p 0) (by omega) p (by omega) H1
          refine CQ rfl rfl tt ?_
          clear tt
          refine O1 rfl <| On <| ?_
          cases hb : bitB (r.hs.getD p 0) p with
          | false =>
            rw [hb] at hno
            refine CT rfl <| Sq <| Rg <| O1 rfl <| On <| Rt <| ?_
            exact hF _ (by rw [hno]; rfl)
          | true =>
            rw [hb] at hno
            refine CF rfl <| Sk <| Rg <| O1 rfl <| O1 (addN rfl rfl (by omega)) <| O1 rfl <| On <| ?_
            exact ⟨p + 1, by simp only; omega, rfl, by omega, rfl, by rw [hno]; rfl⟩
  · have hlt : ¬ p < 5 := by have : ¬ (p : Int) < ((5 : Nat) : Int) := of_decide_eq_false hc; omega
    refine Xt <| ?_
    exact hQ (by rw [hno, List.drop_eq_nil_of_le (by simp [Rnd.hs]; omega)]; rfl) _
end Go.Vm.Code

namespace Go.Vm.Code
open Go.Vm
variable {E : Env}
theorem s156 (S : Std E) (r : Rnd) (H : Hp) : CallR E 156 [.agg r.gv] H (fun w H' => w = .int .i64 (graphE r) ∧ Ext H H') := by
  refine S.call (f := 156) (by decide) rfl rfl ?_
  have hA := At.new H (.cells r.gv)
  have hX := Ext.new H (.cells r.gv)
  refine Sq <| Rg <| O1 rfl <| O1 rfl <| On <| Sq <| Sq <| Rg <| O1 rfl <| O1 (ldA rfl ‹_› (by rfl)) <| O1 rfl <| O1 rfl <| ?_
  cases h1 : decide (r.n < Int.ofNat 1) with
  | true =>
    refine ON rfl <| ON rfl <| ON rfl <| O1 rfl <| On <| CT rfl <| Sq <| Rg <| O1 rfl <| On <| Rt <| ?_
    exact ⟨nr, _, rfl, by rw [graphE, if_pos (Or.inl (show r.n < 1 from of_decide_eq_true h1))]; rfl, hX⟩
  | false =>
    have h1' : ¬ r.n < 1 := of_decide_eq_false h1
    refine OY rfl rfl <| OY rfl (ldA rfl ‹_› (by rfl)) <| OY rfl rfl <| O1 rfl <| On <| ?_
    refine Runs.cond rfl (fun h2 => ?_) (fun h2 => ?_)
    · refine Sq <| Rg <| O1 rfl <| On <| Rt <| ?_
      exact ⟨nr, _, rfl, by rw [graphE, if_pos (Or.inr (show r.n > 5 from of_decide_eq_true h2))]; rfl, hX⟩
    · have h2' : ¬ r.n > 5 := of_decide_eq_false h2
      have hg : graphE r = gE r.n 0 r.hs := by rw [graphE, if_neg (by rintro (h | h); exact h1' h; exact h2' h)]
      refine Sk <| Sq <| Sq <| Rg <| O1 rfl <| O1 (ldNA rfl ‹_› (by rfl)) <| O1 rfl <| On <| Bk <| ?_
      refine l156 S (by omega) hA ?_ ?_ _ rfl
      · intro h rg
        refine Sq <| Rg <| O1 rfl <| On <| Rt <| ?_
        exact ⟨nr, _, rfl, by rw [hg, h]; rfl, hX⟩
      · intro rg hr
        exact ⟨nr, _, by simp only [results, result, hr, Option.bind_some]; rfl, by rw [hg]; rfl, hX⟩
theorem s159 (S : Std E) (r : Rnd) (H : Hp) : CallR E 159 [.agg r.gv] H (fun w H' => w = .int .i64 (graphE r) ∧ Ext H H') := by
  refine S.call (f := 159) (by decide) rfl rfl ?_
  have hA := At.new H (.cells r.gv)
  have hX := Ext.new H (.cells r.gv)
  refine Sq <| Rg <| O1 rfl <| O1 rfl <| On <| Sq <| Sq <| Rg <| O1 rfl <| O1 (ldA rfl ‹_› (by rfl)) <| O1 rfl <| O1 rfl <| ?_
  cases h1 : decide (r.n < Int.ofNat 1) with
  | true =>
    refine ON rfl <| ON rfl <| ON rfl <| O1 rfl <| On <| CT rfl <| Sq <| Rg <| O1 rfl <| On <| Rt <| ?_
    exact ⟨nr, _, rfl, by rw [graphE, if_pos (Or.inl (show r.n < 1 from of_decide_eq_true h1))]; rfl, hX⟩
  | false =>
    have h1' : ¬ r.n < 1 := of_decide_eq_false h1
    refine OY rfl rfl <| OY rfl (ldA rfl ‹_› (by rfl)) <| OY rfl rfl <| O1 rfl <| On <| ?_
    refine Runs.cond rfl (fun h2 => ?_) (fun h2 => ?_)
    · refine Sq <| Rg <| O1 rfl <| On <| Rt <| ?_
      exact ⟨nr, _, rfl, by rw [graphE, if_pos (Or.inr (show r.n > 5 from of_decide_eq_true h2))]; rfl, hX⟩
    · have h2' : ¬ r.n > 5 := of_decide_eq_false h2
      have hg : graphE r = gE r.n 0 r.hs := by rw [graphE, if_neg (by rintro (h | h); exact h1' h; exact h2' h)]
      refine Sk <| Sq <| Sq <| Rg <| O1 rfl <| On <| Bk <| ?_
      refine l159 S (by omega) hA ?_ ?_ _ rfl
      · intro h rg
        refine Sq <| Rg <| O1 rfl <| On <| Rt <| ?_
        exact ⟨nr, _, rfl, by rw [hg, h]; rfl, hX⟩
      · intro rg hr
        exact ⟨nr, _, by simp only [results, result, hr, Option.bind_some]; rfl, by rw [hg]; rfl, hX⟩
theorem procE_zero {n : Int} (h : ¬ procE n ≠ 0) : 1 ≤ n ∧ n ≤ 5 := by
  unfold procE at h
  split at h
  · omega
  · omega
theorem s157 (S : Std E) (n f : Int) (H : Hp) : CallR E 157 [.int .i64 n, .int .i64 f] H (fun w H' => w = .int .i64 (setE n f) ∧ H' = H) := by
  refine S.call (f := 157) (by decide) rfl rfl ?_
  refine Sq <| Rg <| O1 rfl <| On <| Sq <| Sq <| Rg <| O1 rfl <| ?_
  have tt := gProc S (k := 200) (by decide) rfl n H
  refine CQ rfl rfl tt ?_
  clear tt
  refine O1 rfl <| On <| Sq <| Rg <| O1 rfl <| O1 rfl <| On <| ?_
  refine Runs.cond rfl (fun h1 => ?_) (fun h1 => ?_)
  · have h1 : procE n ≠ 0 := by simpa using h1
    refine Sq <| Rg <| O1 rfl <| O1 rfl <| On <| Rt <| ?_
    exact ⟨nr, _, rfl, by rw [setE, if_pos h1]; rfl, rfl⟩
  · have h1 : ¬ procE n ≠ 0 := by simpa using h1
    have hn := procE_zero h1
    have hset : setE n f = if f < 0 ∨ f ≥ 2 ^ n.toNat then 2 else 0 := by rw [setE, if_neg h1]
    refine Sk <| Sq <| Sq <| Rg <| O1 rfl <| O1 rfl <| O1 rfl <| ?_
    cases h2 : decide (f < Int.ofNat 0) with
    | true =>
      refine ON rfl <| ON rfl <| ON rfl <| ON rfl <| O1 rfl <| On <| CT rfl <| Sq <| Rg <| O1 rfl <| On <| Rt <| ?_
      exact ⟨nr, _, rfl, by rw [hset, if_pos (Or.inl (show f < 0 from of_decide_eq_true h2))]; rfl, rfl⟩
    | false =>
      have h2' : ¬ f < 0 := of_decide_eq_false h2
      refine OY rfl rfl <| OY rfl rfl <| ?_
      refine OY rfl (step_shr (b := n) rfl rfl (by omega)) ?_
      refine OY rfl rfl <| O1 rfl <| On <| ?_
      have hp := pow_le (show n.toNat ≤ 62 by omega)
      have hdiv : (f / 2 ^ n.toNat != Int.ofNat 0) = decide (f ≥ 2 ^ n.toNat) := by
        by_cases hge : f ≥ 2 ^ n.toNat
        · have h0 : 1 ≤ f / 2 ^ n.toNat := by
            rw [Int.le_ediv_iff_mul_le (by omega)]; omega
          have h3 : f / 2 ^ n.toNat ≠ 0 := by omega
          rw [decide_eq_true hge]
          simpa using h3
        · have h0 : f / 2 ^ n.toNat = 0 := Int.ediv_eq_zero_of_lt (by omega) (by omega)
          rw [h0, decide_eq_false hge]; rfl
      rw [hdiv]
      refine Runs.cond rfl (fun h3 => ?_) (fun h3 => ?_)
      · refine Sq <| Rg <| O1 rfl <| On <| Rt <| ?_
        exact ⟨nr, _, rfl, by rw [hset, if_pos (Or.inr (of_decide_eq_true h3))]; rfl, rfl⟩
      · refine Sk <| Sq <| Rg <| O1 rfl <| On <| Rt <| ?_
        exact ⟨nr, _, rfl, by rw [hset, if_neg (by rintro (h | h); exact h2' h; exact of_decide_eq_false h3 h)]; rfl, rfl⟩
theorem s160 (S : Std E) (n f : Int) (H : Hp) : CallR E 160 [.int .i64 n, .int .i64 f] H (fun w H' => w = .int .i64 (setE n f) ∧ H' = H) := by
  refine S.call (f := 160) (by decide) rfl rfl ?_
  refine Sq <| Rg <| O1 rfl <| On <| Sq <| Sq <| Rg <| O1 rfl <| ?_
  have tt := gProc S (k := 113) (by decide) rfl n H
  refine CQ rfl rfl tt ?_
  clear tt
  refine O1 rfl <| On <| Sq <| Rg <| O1 rfl <| O1 rfl <| On <| ?_
  refine Runs.cond rfl (fun h1 => ?_) (fun h1 => ?_)
  · have h1 : procE n ≠ 0 := by simpa using h1
    refine Sq <| Rg <| O1 rfl <| O1 rfl <| On <| Rt <| ?_
    exact ⟨nr, _, rfl, by rw [setE, if_pos h1]; rfl, rfl⟩
  · have h1 : ¬ procE n ≠ 0 := by simpa using h1
    have hn := procE_zero h1
    have hset : setE n f = if f < 0 ∨ f ≥ 2 ^ n.toNat then 2 else 0 := by rw [setE, if_neg h1]
    refine Sk <| Sq <| Sq <| Rg <| O1 rfl <| O1 rfl <| O1 rfl <| ?_
    cases h2 : decide (f < Int.ofNat 0) with
    | true =>
      refine ON rfl <| ON rfl <| ON rfl <| ON rfl <| O1 rfl <| On <| CT rfl <| Sq <| Rg <| O1 rfl <| On <| Rt <| ?_
      exact ⟨nr, _, rfl, by rw [hset, if_pos (Or.inl (show f < 0 from of_decide_eq_true h2))]; rfl, rfl⟩
    | false =>
      have h2' : ¬ f < 0 := of_decide_eq_false h2
      have hnn : n = (n.toNat : Int) := by omega
      refine OY rfl rfl <| OY rfl rfl <| ?_
      have tt := g202 S n.toNat (by omega) H
      rw [← hnn] at tt
      have tt := tt
      refine CQT rfl rfl rfl tt ?_
      clear tt
      refine OY rfl rfl <| O1 rfl <| On <| ?_
      refine Runs.cond rfl (fun h3 => ?_) (fun h3 => ?_)
      · refine Sq <| Rg <| O1 rfl <| On <| Rt <| ?_
        exact ⟨nr, _, rfl, by rw [hset, if_pos (Or.inr (of_decide_eq_true h3))]; rfl, rfl⟩
      · refine Sk <| Sq <| Rg <| O1 rfl <| On <| Rt <| ?_
        exact ⟨nr, _, rfl, by rw [hset, if_neg (by rintro (h | h); exact h2' h; exact of_decide_eq_false h3 h)]; rfl, rfl⟩
theorem s109 (S : Std E) (r : Rnd) (H : Hp) : CallR E 109 [.agg r.vs] H (fun w H' => w = .int .i64 (rndE r) ∧ Ext H H') := by
  refine S.call (f := 109) (by decide) rfl rfl ?_
  have hA := At.new H (.cells r.vs)
  have hX := Ext.new H (.cells r.vs)
  refine Sq <| Rg <| O1 rfl <| O1 rfl <| On <| Sq <| Sq <| Rg <| O1 rfl <| O1 (ldNA rfl ‹_› (by rfl)) <| ?_
  have tt := s156 S r (H.new (.cells r.vs))
  refine CE rfl rfl tt fun H2 hX2 => ?_
  clear tt
  refine O1 rfl <| On <| Sq <| Rg <| O1 rfl <| O1 rfl <| On <| ?_
  have hA2 := hX2.at hA
  refine Runs.cond rfl (fun h1 => ?_) (fun h1 => ?_)
  · have h1 : graphE r ≠ 0 := by simpa using h1
    refine Sq <| Rg <| O1 rfl <| O1 rfl <| On <| Rt <| ?_
    exact ⟨nr, _, rfl, by rw [rndE, if_pos h1]; rfl, hX.trans hX2⟩
  · have h1 : ¬ graphE r ≠ 0 := by simpa using h1
    refine Sk <| Sq <| Rg <| O1 rfl <| O1 rfl <| O1 (ldA rfl ‹_› (by rfl)) <| O1 rfl <| O1 (ldA rfl ‹_› (by rfl)) <| ?_
    have tt := s157 S r.n r.fa H2
    refine CQ rfl rfl tt ?_
    clear tt
    refine O1 rfl <| On <| Rt <| ?_
    exact ⟨nr, _, rfl, by rw [rndE, if_neg h1]; rfl, hX.trans hX2⟩
theorem s114 (S : Std E) (r : Rnd) (H : Hp) : CallR E 114 [.agg r.vs] H (fun w H' => w = .int .i64 (rndE r) ∧ Ext H H') := by
  refine S.call (f := 114) (by decide) rfl rfl ?_
  have hA := At.new H (.cells r.vs)
  have hX := Ext.new H (.cells r.vs)
  refine Sq <| Rg <| O1 rfl <| O1 rfl <| On <| Sq <| Sq <| Rg <| O1 rfl <| O1 (ldNA rfl ‹_› (by rfl)) <| ?_
  have tt := s159 S r (H.new (.cells r.vs))
  refine CE rfl rfl tt fun H2 hX2 => ?_
  clear tt
  refine O1 rfl <| On <| Sq <| Rg <| O1 rfl <| O1 rfl <| On <| ?_
  have hA2 := hX2.at hA
  refine Runs.cond rfl (fun h1 => ?_) (fun h1 => ?_)
  · have h1 : graphE r ≠ 0 := by simpa using h1
    refine Sq <| Rg <| O1 rfl <| O1 rfl <| On <| Rt <| ?_
    exact ⟨nr, _, rfl, by rw [rndE, if_pos h1]; rfl, hX.trans hX2⟩
  · have h1 : ¬ graphE r ≠ 0 := by simpa using h1
    refine Sk <| Sq <| Rg <| O1 rfl <| O1 rfl <| O1 (ldA rfl ‹_› (by rfl)) <| O1 rfl <| O1 (ldA rfl ‹_› (by rfl)) <| ?_
    have tt := s160 S r.n r.fa H2
    refine CQ rfl rfl tt ?_
    clear tt
    refine O1 rfl <| On <| Rt <| ?_
    exact ⟨nr, _, rfl, by rw [rndE, if_neg h1]; rfl, hX.trans hX2⟩
end Go.Vm.Code

namespace Go.Vm.Code
open Go.Vm
variable {E : Env}
def insideB (a b : Int) : Bool := (List.range 5).all fun p => !bitB a p || bitB b p
/-- the error of the rounds of a word, behind a set of faulty processes -/
def wE (n : Int) : Int → List Rnd → Int
  | _, [] => 0
  | b, r :: l => if rndE r ≠ 0 then rndE r else if r.n ≠ n then 22 else if insideB b r.fa = false then 14 else wE n r.fa l
def wordE (n : Int) (l : List Rnd) : Int := if procE n ≠ 0 then procE n else if l.length > 1024 then 5 else wE n 0 l
def RndC (E : Env) (b off : Nat) (r : Rnd) : Prop := ∀ (j : Nat) (n : Int), r.cells[j]? = some n → E.ext b (off + j) = some (.int .i64 n)
abbrev WordV (E : Env) := SeqC 7 (RndC E)
theorem RndC.all {b off : Nat} {r : Rnd} (h : RndC E b off r) : extN E b off 7 = some r.vs :=
  extN_of (l := r.vs) fun i x hx => by
    simp only [Rnd.vs, List.getElem?_map, Option.map_eq_some_iff] at hx
    obtain ⟨n, hn, rfl⟩ := hx
    exact h i n hn
theorem RndC.n {b off : Nat} {r : Rnd} (h : RndC E b off r) : E.ext b (off + 0 + 0) = some (.int .i64 r.n) := h 0 _ rfl
theorem RndC.fa {b off : Nat} {r : Rnd} (h : RndC E b off r) : E.ext b (off + 6) = some (.int .i64 r.fa) := h 6 _ rfl
theorem rnd_zero {r : Rnd} (h : ¬ rndE r ≠ 0) : (1 ≤ r.n ∧ r.n ≤ 5) ∧ 0 ≤ r.fa ∧ r.fa < 2 ^ r.n.toNat ∧ r.fa < 32 ∧ gE r.n 0 r.hs = 0 := by
  unfold rndE at h
  split at h
  · rename_i h1; exact absurd h1 h
  · rename_i h1
    unfold setE at h
    split at h
    · rename_i h2; exact absurd h2 h
    · rename_i h2
      have hn := procE_zero h2
      split at h
      · exact absurd (by decide) h
      · rename_i h3
        have hp : (2 : Int) ^ r.n.toNat ≤ 2 ^ 5 := by
          have := Nat.pow_le_pow_right (n := 2) (by decide) (show r.n.toNat ≤ 5 by omega)
          exact_mod_cast this
        have hp : (2 : Int) ^ r.n.toNat ≤ 32 := hp
        refine ⟨hn, by omega, by omega, by omega, ?_⟩
        have h1 : graphE r = 0 := by simpa using h1
        unfold graphE at h1
        split at h1
        · cases h1
        · exact h1

theorem s115 (S : Std E) {a b : Int} (ha : 0 ≤ a ∧ a < 9223372036854775808) (hb : 0 ≤ b ∧ b < 9223372036854775808) (H : Hp) : CallR E 115 [.int .i64 a, .int .i64 b] H (fun w H' => w = .bool (insideB a b) ∧ H' = H) := by
  refine S.call (f := 115) (by decide) rfl rfl ?_
  refine Sq <| Rg <| O1 rfl <| On <| Sq <| Sq <| Rg <| O1 rfl <| On <| Bk <| ?_
  have hall : ∀ q, (List.range (q + 1)).all (fun p => !bitB a p || bitB b p) = ((List.range q).all (fun p => !bitB a p || bitB b p) && (!bitB a q || bitB b q)) := fun q => by rw [List.range_succ, List.all_append]; simp
  refine Runs.loopS (σ := Nat) (fun p => [(0, .int .i64 a), (1, .int .i64 b), (5, .int .i64 p)]) (fun p H' => p ≤ 5 ∧ H' = H ∧ (List.range p).all (fun p => !bitB a p || bitB b p) = true) (fun p => 5 - p) ?_ 0 _ _ rfl ⟨by omega, rfl, rfl⟩
  rintro p H1 ⟨hp, rfl, hno⟩
  refine Sq <| Sq <| Rg <| O1 rfl <| O1 rfl <| On <| ?_
  refine Runs.cond rfl (fun hc => ?_) (fun hc => ?_)
  · have hlt : p < 5 := by have : (p : Int) < ((5 : Nat) : Int) := of_decide_eq_true hc; omega
    have hbad : (!bitB a p || bitB b p) = false → insideB a b = false := fun h => by
      cases hq : insideB a b with
      | false => rfl
      | true => rw [List.all_eq_true.1 hq p (List.mem_range.2 hlt)] at h; cases h
    refine Sk <| Sq <| Bk <| Sq <| Rg <| O1 rfl <| O1 rfl <| ?_
    have tt := g161 S ha p (by omega) H1
    refine CQ rfl rfl tt ?_
    clear tt
    refine O1 rfl <| ?_
    cases h1 : bitB a p with
    | false =>
      refine ON rfl <| ON rfl <| ON rfl <| ON rfl <| O1 rfl <| On <| CF rfl <| Sk <| Rg <| O1 rfl <| O1 (addN rfl rfl (by omega)) <| O1 rfl <| On <| ?_
      exact ⟨p + 1, by simp only; omega, rfl, by omega, rfl, by rw [hall, hno, h1]; rfl⟩
    | true =>
      refine OY rfl rfl <| OY rfl rfl <| ?_
      have tt := g161 S hb p (by omega) H1
      refine CQT rfl rfl rfl tt ?_
      clear tt
      refine OY rfl rfl <| O1 rfl <| On <| ?_
      cases h2 : bitB b p with
      | false =>
        refine CT rfl <| Sq <| Rg <| O1 rfl <| On <| Rt <| ?_
        exact ⟨nr, _, rfl, by rw [hbad (by rw [h1, h2]; rfl)]; rfl, rfl⟩
      | true =>
        refine CF rfl <| Sk <| Rg <| O1 rfl <| O1 (addN rfl rfl (by omega)) <| O1 rfl <| On <| ?_
        exact ⟨p + 1, by simp only; omega, rfl, by omega, rfl, by rw [hall, hno, h1, h2]; rfl⟩
  · have hlt : ¬ p < 5 := by have : ¬ (p : Int) < ((5 : Nat) : Int) := of_decide_eq_false hc; omega
    refine Xt <| Sq <| Rg <| O1 rfl <| On <| Rt <| ?_
    exact ⟨nr, _, rfl, by rw [show p = 5 from by omega] at hno; rw [show insideB a b = true from hno]; rfl, rfl⟩

def befS (l : List Rnd) : Nat → Int
  | 0 => 0
  | i + 1 => (l[i]?.map Rnd.fa).getD 0
theorem insideB_zero (b : Int) : insideB 0 b = true := by
  simp only [insideB, List.all_eq_true]
  intro p _
  have : bitB 0 p = false := by simp [bitB]
  rw [this]; rfl

theorem l69_0 (S : Std E) {Q : Out → Regs → Hp → Prop} {n : Int} {v : V} {l : List Rnd} (hl : WordV E v l) {Hb : Hp} {H : Hp} (hX : Ext Hb H)
    (hQ : ∀ H', Ext Hb H' → wE n 0 l = 0 → ∀ rg, Q (.exit 0) rg H') (hF : ∀ H', Ext Hb H' → ∀ rg, look rg 4 = some (.int .i64 (wE n 0 l)) → Q .ret rg H') :
    ∀ rg, restrict rg [0, 1, 6] = [(0, .int .i64 n), (1, v), (6, .int .i64 0)] → Runs E none w69_0 rg H Q := by
  intro rg hr
  have hlen := hl.1
  refine Runs.loopS (σ := Nat) (fun i => [(0, .int .i64 n), (1, v), (6, .int .i64 i)]) (fun i H' => i ≤ l.length ∧ Ext Hb H' ∧ wE n 0 l = wE n (befS l i) (l.drop i) ∧ 0 ≤ befS l i ∧ befS l i < 32) (fun i => l.length - i) ?_ 0 _ _ hr ⟨Nat.zero_le _, hX, rfl, Int.le_refl _, by show (0 : Int) < 32; decide⟩
  clear hX
  rintro i H1 ⟨hi, hX, hno, hb1, hb2⟩
  refine Sq <| Sq <| Rg <| O1 rfl <| O1 rfl <| O1 (lnS rfl ‹_›) <| O1 rfl <| On <| ?_
  refine Runs.cond rfl (fun hc => ?_) (fun hc => ?_)
  · have hlt : i < l.length := by simpa using hc
    have hx : l[i]? = some l[i] := List.getElem?_eq_getElem hlt
    obtain ⟨b, o1, cap, rfl, hcell⟩ := hl.at hx
    have hall := hcell.all
    have hcn := hcell.n
    have hcf := hcell.fa
    rw [List.drop_eq_getElem_cons hlt, wE] at hno
    refine Sk <| Sq <| Bk <| Sq <| Sq <| Rg <| O1 rfl <| O1 rfl <| O1 (step_ixS rfl rfl ‹_›) <| O1 (ldNX rfl ‹_›) <| ?_
    have tt := s114 S l[i] H1
    refine CE rfl rfl tt fun H2 hX2 => ?_
    clear tt
    refine O1 rfl <| On <| Sq <| Rg <| O1 rfl <| O1 rfl <| On <| ?_
    have hXX := hX.trans hX2
    refine Runs.cond rfl (fun h1 => ?_) (fun h1 => ?_)
    · have h1 : rndE l[i] ≠ 0 := by simpa using h1
      refine Sq <| Rg <| O1 rfl <| O1 rfl <| On <| Rt <| ?_
      exact hF _ hXX _ (by rw [hno, if_pos h1]; rfl)
    · have h1 : ¬ rndE l[i] ≠ 0 := by simpa using h1
      rw [if_neg h1] at hno
      obtain ⟨hn5, hf0, _, hf32, _⟩ := rnd_zero h1
      refine Sk <| Sq <| Sq <| Rg <| O1 rfl <| O1 rfl <| O1 (step_ixS rfl rfl ‹_›) <| O1 rfl <| O1 rfl <| O1 (step_ld1 rfl ‹_›) <| O1 rfl <| O1 rfl <| On <| ?_
      refine Runs.cond rfl (fun h2 => ?_) (fun h2 => ?_)
      · have h2 : l[i].n ≠ n := by simpa using h2
        refine Sq <| Rg <| O1 rfl <| On <| Rt <| ?_
        exact hF _ hXX _ (by rw [hno, if_pos h2]; rfl)
      · have h2 : ¬ l[i].n ≠ n := by simpa using h2
        rw [if_neg h2] at hno
        have hbs : befS l (i + 1) = l[i].fa := by simp [befS, hx]
        refine Sk <| Sq <| Dg <| D1 rfl <| D1 rfl <| D1 rfl <| ?_
        rcases i with _ | i
        · refine DN rfl <| DN rfl <| DN rfl <| DN rfl <| DN rfl <| DN rfl <| DN rfl <| DN rfl <| DN rfl <| DN rfl <| DN rfl <| DN rfl <| DN rfl <| D1 rfl <| Dn <| CF rfl <| Sk <| Rg <|
            O1 rfl <| O1 (addN rfl rfl (by omega)) <| O1 rfl <| On <| ?_
          refine ⟨1, by simp only; omega, rfl, hlt, hXX, ?_, by rw [hbs]; exact hf0, by rw [hbs]; exact hf32⟩
          rw [hno, hbs, show befS l 0 = 0 from rfl, insideB_zero]; rfl
        · have hpos : decide ((((i + 1 : Nat) : Int)) > Int.ofNat 0) = true := by simp
          have hlt' : i < l.length := by omega
          have hx' : l[i]? = some l[i] := List.getElem?_eq_getElem hlt'
          have hti : ((((i + 1 : Nat) : Int) - ((1 : Nat) : Int))).toNat = i := by omega
          have hbi : befS l (i + 1) = l[i].fa := by simp [befS, hx']
          obtain ⟨b', o1', cap', e, hcell2⟩ := hl.at hx'
          cases e
          have hcf2 : E.ext b (o1 + ((((i + 1 : Nat) : Int) - ((1 : Nat) : Int))).toNat * 7 + 6) = some (.int .i64 l[i].fa) := by rw [hti]; exact hcell2.fa
          rw [hbi] at hno hb1 hb2
          rw [hpos]
          refine DY rfl rfl <| DY rfl rfl <| DY rfl (subL rfl rfl (by omega)) <| DY rfl (ixI rfl rfl (by omega)) <| DY rfl rfl <| DY rfl (step_ld1 rfl ‹_›) <| DY rfl rfl <| DY rfl rfl <|
            DY rfl (step_ixS rfl rfl ‹_›) <| DY rfl rfl <| DY rfl (step_ld1 rfl ‹_›) <| ?_
          have tt := s115 S (a := l[i].fa) (b := l[i + 1].fa) (by omega) (by omega) H2
          refine DQT rfl rfl rfl tt ?_
          clear tt
          refine DY rfl rfl <| D1 rfl <| Dn <| ?_
          cases h3 : insideB l[i].fa l[i + 1].fa with
          | false =>
            rw [h3] at hno
            refine CT rfl <| Sq <| Rg <| O1 rfl <| On <| Rt <| ?_
            exact hF _ hXX _ (by rw [hno]; rfl)
          | true =>
            rw [h3] at hno
            refine CF rfl <| Sk <| Rg <| O1 rfl <| O1 (addN rfl rfl (by omega)) <| O1 rfl <| On <| ?_
            refine ⟨i + 1 + 1, by simp only; omega, rfl, by omega, hXX, ?_, by rw [hbs]; exact hf0, by rw [hbs]; exact hf32⟩
            rw [hno, hbs]; rfl
  · have hlt : ¬ i < l.length := by simpa using hc
    refine Xt <| ?_
    exact hQ _ hX (by rw [hno, List.drop_eq_nil_of_le (by omega)]; rfl) _

theorem s69 (S : Std E) (n : Int) {v : V} {l : List Rnd} (hl : WordV E v l) (H : Hp) : CallR E 69 [.int .i64 n, v] H (fun w H' => w = .int .i64 (wordE n l) ∧ Ext H H') := by
  refine S.call (f := 69) (by decide) rfl rfl ?_
  refine Sq <| Rg <| O1 rfl <| On <| Sq <| Sq <| Rg <| O1 rfl <| ?_
  have tt := gProc S (k := 113) (by decide) rfl n H
  refine CQ rfl rfl tt ?_
  clear tt
  refine O1 rfl <| On <| Sq <| Rg <| O1 rfl <| O1 rfl <| On <| ?_
  refine Runs.cond rfl (fun h1 => ?_) (fun h1 => ?_)
  · have h1 : procE n ≠ 0 := by simpa using h1
    refine Sq <| Rg <| O1 rfl <| O1 rfl <| On <| Rt <| ?_
    exact ⟨nr, _, rfl, by rw [wordE, if_pos h1]; rfl, Ext.refl _⟩
  · have h1 : ¬ procE n ≠ 0 := by simpa using h1
    refine Sk <| Sq <| Sq <| Rg <| O1 rfl <| O1 (lnS rfl ‹_›) <| O1 rfl <| On <| ?_
    refine Runs.cond rfl (fun h2 => ?_) (fun h2 => ?_)
    · have h2 : (l.length : Int) > ((1024 : Nat) : Int) := of_decide_eq_true h2
      refine Sq <| Rg <| O1 rfl <| On <| Rt <| ?_
      exact ⟨nr, _, rfl, by rw [wordE, if_neg h1, if_pos (by omega)]; rfl, Ext.refl _⟩
    · have h2 : ¬ (l.length : Int) > ((1024 : Nat) : Int) := of_decide_eq_false h2
      have hw : wordE n l = wE n 0 l := by rw [wordE, if_neg h1, if_neg (by omega)]
      refine Sk <| Sq <| Sq <| Rg <| O1 rfl <| On <| Bk <| ?_
      refine l69_0 S hl (Ext.refl _) ?_ ?_ _ rfl
      · intro H' hX h0 rg
        refine Sq <| Rg <| O1 rfl <| On <| Rt <| ?_
        exact ⟨nr, _, rfl, by rw [hw, h0]; rfl, hX⟩
      · intro H' hX rg hr
        exact ⟨nr, _, by simp only [results, result, hr, Option.bind_some]; rfl, by rw [hw]; rfl, hX⟩
end Go.Vm.Code

namespace Go.Vm.Code
open Go.Vm
variable {E : Env}
theorem Ext.ex1r {id : Nat} {A B C : Hp} (h : Ext A B) (h' : Ex1 id B C) (hid : A.next ≤ id) : Ext A C :=
  ⟨Nat.le_trans h.1 h'.1, fun p hp => (h'.2 p (Nat.lt_of_lt_of_le hp h.1) (by omega)).trans (h.2 p hp)⟩
def argW (l : List Rnd) (i : Nat) : List V := [.int .i64 (befS l i), .agg ((l[i]?.map Rnd.vs).getD [])]
/-- what pairs yields -/
theorem it155 (S : Std E) {y : V} {pl : Nat} {v : V} {l : List Rnd} (hl : WordV E v l) (I : Nat → Hp → Prop) (J : Hp → Prop) {N : Nat} (hst : ∀ i H1 H2, I i H1 → Ext H1 H2 → I i H2) (hp : ∀ i H1, I i H1 → At H1 pl (.cells [v]))
    (hN : ∀ i H1, I i H1 → N ≤ H1.next) (hy : ∀ i H1, i < l.length → I i H1 → ValR E y (argW l i) H1 (fun w H2 => Fr N H1 H2 ∧ ((w = .bool true ∧ I (i + 1) H2) ∨ (w = .bool false ∧ J H2)))) {H : Hp} (h0 : I 0 H) :
    CallR E 155 [y, .ptr pl 0] H (fun _ H' => I l.length H' ∨ J H') := by
  refine S.call (f := 155) (by decide) rfl rfl ?_
  have hA := hp _ _ h0
  have hlen := hl.1
  refine Sq <| Rg <| O1 rfl <| On <| Sq <| Rg <| O1 (ldA rfl ‹_› (by rfl)) <| O1 (lnS rfl ‹_›) <| O1 rfl <| On <| Bk <| ?_
  refine Runs.loopS (σ := Nat) (fun i => [(0, y), (3, .int .i64 (befS l i)), (6, v), (7, .int .i64 l.length), (8, .int .i64 i)]) (fun i H' => i ≤ l.length ∧ I i H') (fun i => l.length - i) ?_ 0 _ _ rfl ⟨Nat.zero_le _, h0⟩
  clear hA h0 H
  rintro i H1 ⟨hi, hI⟩
  refine Sq <| Rg <| O1 rfl <| On <| Sq <| ?_
  refine Runs.cond rfl (fun hc => ?_) (fun hc => ?_)
  · have hlt : i < l.length := by simpa using hc
    have hx : l[i]? = some l[i] := List.getElem?_eq_getElem hlt
    obtain ⟨b, o1, cap, rfl, hcell⟩ := hl.at hx
    have hall := hcell.all
    have hN1 := At.new H1 (.cells (List.replicate 7 (.int .i64 0)))
    have hN2 : At ((H1.new (.cells (List.replicate 7 (.int .i64 0)))).put H1.next (.cells l[i].vs)) H1.next (.cells l[i].vs) := hN1.put
    have hX2 : Ext H1 ((H1.new (.cells (List.replicate 7 (.int .i64 0)))).put H1.next (.cells l[i].vs)) := (Ext.new H1 _).put (Nat.le_refl _)
    have hI2 := hst _ _ _ hI hX2
    refine Sk <| Sq <| Bk <| Sq <| Rg <| O1 (step_ixS rfl rfl ‹_›) <| O1 (ldNX rfl ‹_›) <| O1 rfl <| O1 (step_st rfl rfl ‹_› rfl rfl) <| On <| Sq <| Sq <| Rg <| O1 rfl <| O1 rfl <|
      O1 (ldNA rfl ‹_› (by rfl)) <| ?_
    have hyy := hy i _ hlt hI2
    have harg : argW l i = [.int .i64 (befS l i), .agg l[i].vs] := by simp [argW, hx]
    rw [harg] at hyy
    refine OpsR.call rfl rfl (ValR.mono hyy ?_)
    rintro w H3 ⟨hfr, hw⟩
    have hN3 := hfr.at (hN _ _ hI) hN2
    rcases hw with ⟨rfl, hI3⟩ | ⟨rfl, hJ⟩
    · refine O1 rfl <| On <| CF rfl <| Sk <| Rg <| O1 rfl <| O1 (ldA rfl ‹_› (by rfl)) <| O1 rfl <| On <| Rg <| O1 (addN rfl rfl (by omega)) <| O1 rfl <| On <| ?_
      exact ⟨i + 1, Nat.sub_lt_sub_left hlt (Nat.lt_succ_self i), by simp [restrict, put, look_cons, befS, hx], hlt, hI3⟩
    · refine O1 rfl <| On <| CT rfl <| Rt <| ?_
      exact ⟨nr, _, rfl, Or.inr hJ⟩
  · have hlt : ¬ i < l.length := by simpa using hc
    refine Xt <| ?_
    exact ⟨(fun i h => by cases h), _, rfl, Or.inl (by rw [show l.length = i from by omega]; exact hI)⟩
theorem s108 (S : Std E) (v : V) (H : Hp) : CallR E 108 [v] H (fun w H' => w = .fn 155 [.ptr H.next 0] ∧ H' = H.new (.cells v.cells)) := by
  refine S.call (f := 108) (by decide) rfl rfl ?_
  refine Sq <| Rg <| O1 rfl <| O1 rfl <| On <| Sq <| Rg <| O1 rfl <| O1 rfl <| On <| Rt <| ?_
  exact ⟨nr, _, rfl, rfl, rfl⟩
/-- what is known while Word goes on -/
structure P65 (n : Int) (v : V) (l : List Rnd) (H0 : Hp) (p2 p4 pb : Nat) (i : Nat) (H : Hp) : Prop where
  x : Ext H0 H
  a2 : At H p2 (.cells [.int .i64 n])
  a4 : ∃ z, At H p4 (.cells [z])
  ab : At H pb (.cells [v])
  w : wE n 0 l = wE n (befS l i) (l.drop i)
  b : 0 ≤ befS l i ∧ befS l i < 32
structure D65 (n : Int) (l : List Rnd) (H0 : Hp) (p4 : Nat) (o : Out) (H : Hp) : Prop where
  o : o = .ret
  x : Ext H0 H
  a4 : At H p4 (.cells [.int .i64 (wE n 0 l)])
theorem andNot0 : ∀ a b : Fin 32, (bitsOf .andNot .i64 (a.val : Int) (b.val : Int)).map (fun v => match v with | .int _ z => z != 0 | _ => false) = some (!insideB (a.val : Int) (b.val : Int)) := by decide +kernel
theorem andNot_z {a b : Int} (ha : 0 ≤ a ∧ a < 32) (hb : 0 ≤ b ∧ b < 32) : ∃ z : Int, (z != Int.ofNat 0) = !insideB a b ∧ ∀ {r : Regs} {H : Hp} {x y : Opd}, ev r x = some (.int .i64 a) → ev r y = some (.int .i64 b) → stepOp E noCall r H (.bin .andNot x y) = some (.int .i64 z, H) := by
  obtain ⟨m, rfl⟩ := Int.eq_ofNat_of_zero_le ha.1
  obtain ⟨k, rfl⟩ := Int.eq_ofNat_of_zero_le hb.1
  have h := andNot0 ⟨m, by omega⟩ ⟨k, by omega⟩
  simp only at h
  have h1 : bitsOf .andNot .i64 (m : Int) (k : Int) = some (.int .i64 (IntKind.i64.wrap ((BitVec.ofInt 64 (m : Int) &&& ~~~BitVec.ofInt 64 (k : Int)).toNat : Nat))) := rfl
  rw [h1] at h
  refine ⟨_, ?_, fun hx hy => step_bin hx hy (by show (if IntKind.i64 = IntKind.i64 then bitsOf .andNot .i64 (m : Int) (k : Int) else none) = _; rw [if_pos rfl, h1])⟩
  simpa using h

theorem l65 (S : Std E) {rd : Option Nat} {Q : Out → Regs → Hp → Prop} {G : Hp} {n z b : Int} {zz : V} {p2 p4 pr : Nat} {r : Rnd} (hA2 : At G p2 (.cells [.int .i64 n])) (hA4 : At G p4 (.cells [zz])) (hr : At G pr (.cells r.vs)) (hb : 0 ≤ b ∧ b < 32)
    (hQ : ¬ rndE r ≠ 0 → ¬ r.n ≠ n → insideB b r.fa = true → ∀ rg G', Ext G G' → Q .normal rg G')
    (hF : ∀ rg G', Ext G G' → (∀ l, wE n b (r :: l) = z) → Q .ret rg (G'.put p4 (.cells [.int .i64 z])))
    (hz : z = if rndE r ≠ 0 then rndE r else if r.n ≠ n then 22 else 14) :
    ∀ rg, look rg 2 = some (.ptr p2 0) → look rg 4 = some (.ptr p4 0) → look rg 6 = some (.int .i64 b) → look rg 7 = some (.ptr pr 0) → Runs E rd u65_0 rg G Q := by
  intro rg g2 g4 g6 g7
  refine Bk <| Sq <| Sq <| Rg <| ?_
  refine O1 (step_ldN (p := .ptr pr 0) g7 (hr.ldN.trans rfl)) ?_
  have tt := s109 S r G
  refine CE rfl rfl tt fun G2 hX => ?_
  clear tt
  refine O1 rfl <| On <| Sq <| Rg <| O1 rfl <| O1 rfl <| On <| ?_
  have hA22 := hX.at hA2
  have hA42 := hX.at hA4
  have hr2 := hX.at hr
  refine Runs.cond rfl (fun h1 => ?_) (fun h1 => ?_)
  · have h1 : rndE r ≠ 0 := by simpa using h1
    rw [if_pos h1] at hz
    subst hz
    refine Sq <| Rg <| O1 rfl <| ?_
    refine O1 (step_st (l := [zz]) g4 rfl hA42 rfl rfl) ?_
    refine On <| Rt <| ?_
    exact hF _ _ hX (fun l => by rw [wE, if_pos h1])
  · have h1 : ¬ rndE r ≠ 0 := by simpa using h1
    rw [if_neg h1] at hz
    obtain ⟨_, hf0, _, hf32, _⟩ := rnd_zero h1
    refine Sk <| Bk <| Sq <| Rg <| O1 (step_fa ‹_›) <| O1 rfl <| O1 (ldA rfl ‹_› (by rfl)) <| ?_
    refine O1 (step_ld1 (p := .ptr p2 0) g2 (hA22.ld1.trans rfl)) ?_
    refine O1 rfl <| O1 rfl <| On <| ?_
    refine Runs.cond rfl (fun h2 => ?_) (fun h2 => ?_)
    · have h2 : r.n ≠ n := by simpa using h2
      rw [if_pos h2] at hz
      subst hz
      refine Sq <| Rg <| ?_
      refine O1 (step_st (l := [zz]) g4 rfl hA42 rfl rfl) ?_
      refine On <| Rt <| ?_
      exact hF _ _ hX (fun l => by rw [wE, if_neg h1, if_pos h2])
    · have h2 : ¬ r.n ≠ n := by simpa using h2
      rw [if_neg h2] at hz
      subst hz
      refine Sq <| Rg <| O1 (step_mv ‹_›) <| O1 (step_fa ‹_›) <| O1 (ldA rfl ‹_› (by rfl)) <| ?_
      obtain ⟨zz2, hz1, hz2⟩ := andNot_z (E := E) hb ⟨hf0, hf32⟩
      refine O1 (hz2 rfl rfl) ?_
      refine O1 rfl <| O1 rfl <| On <| ?_
      rw [hz1]
      cases h3 : insideB b r.fa with
      | false =>
        refine CT rfl <| Sq <| Rg <| ?_
        refine O1 (step_st (l := [zz]) g4 rfl hA42 rfl rfl) ?_
        refine On <| Rt <| ?_
        exact hF _ _ hX (fun l => by rw [wE, if_neg h1, if_neg h2, h3]; rfl)
      | true =>
        refine CF rfl <| Sk <| ?_
        exact hQ h1 h2 h3 _ _ hX

theorem s65 (S : Std E) (n : Int) {v : V} (hv1 : v.cells = [v]) {l : List Rnd} (hl : WordV E v l) (H : Hp) : CallR E 65 [.int .i64 n, v] H (fun w H' => w = .int .i64 (wordE n l) ∧ Ext H H') := by
  refine S.call (f := 65) (by decide) rfl rfl ?_
  have hA0 := At.new H (.cells [.int .i64 n])
  have hX0 := Ext.new H (.cells [.int .i64 n])
  have hB := At.new (H.new (.cells [.int .i64 n])) (.cells [.int .i64 0])
  have hX1 := Ext.new (H.new (.cells [.int .i64 n])) (.cells [.int .i64 0])
  have hA := hX1.at hA0
  have hX := hX0.trans hX1
  have hp4 : H.next ≤ (H.new (.cells [.int .i64 n])).next := Nat.le_succ _
  have hlen := hl.1
  obtain ⟨H2, hH2⟩ : ∃ H2, H2 = (H.new (.cells [.int .i64 n])).new (.cells [.int .i64 0]) := ⟨_, rfl⟩
  refine Sq <| Rg <| O1 rfl <| O1 rfl <| On <| Sq <| Sq <| Rg <| O1 (ldA rfl ‹_› (by rfl)) <| ?_
  have eH : (H.new (Ob.cells (V.cells (V.int .i64 n)))).new (.cells [Code.i 0]) = H2 := hH2.symm
  rw [eH]
  rw [← hH2] at hA hB hX
  have e2 : (H.new (Ob.cells (V.cells (V.int .i64 n)))).next = (H.new (.cells [.int .i64 n])).next := rfl
  clear hA0 hX0 hX1
  have hp2 : H.next < H2.next := hA.1
  have hret : ∀ (e : Int) (rg : Regs) (H' : Hp), Ext H H' → look rg 4 = some (.ptr (H.new (.cells [.int .i64 n])).next 0) → At H' (H.new (.cells [.int .i64 n])).next (.cells [.int .i64 e]) → wordE n l = e → (∀ i, Out.ret ≠ Out.exit i) ∧ ∃ vs, results E rg H' [.cell1 4] = some vs ∧ retOf vs = .int .i64 (wordE n l) ∧ Ext H H' := fun e rg H' hX hr ha h =>
    ⟨nr, [.int .i64 e], by simp only [results, result, hr, Option.bind_some, ha.ld1, nth], by rw [h]; rfl, hX⟩
  have tt := gProc S (k := 107) (by decide) rfl n H2
  refine CQ rfl rfl tt ?_
  clear tt
  refine O1 rfl <| On <| Sq <| Rg <| O1 rfl <| O1 rfl <| On <| ?_
  refine Runs.cond rfl (fun h1 => ?_) (fun h1 => ?_)
  · have h1 : procE n ≠ 0 := by simpa using h1
    refine Sq <| Rg <| O1 rfl <| O1 (step_st rfl rfl ‹_› rfl rfl) <| On <| Rt <| ?_
    exact hret _ _ _ (hX.put hp4) rfl hB.put (by rw [wordE, if_pos h1])
  · have h1 : ¬ procE n ≠ 0 := by simpa using h1
    refine Sk <| Sq <| Sq <| Rg <| O1 rfl <| O1 (lnS rfl ‹_›) <| O1 rfl <| On <| ?_
    refine Runs.cond rfl (fun h2 => ?_) (fun h2 => ?_)
    · have h2 : (l.length : Int) > ((1024 : Nat) : Int) := of_decide_eq_true h2
      refine Sq <| Rg <| O1 (step_st rfl rfl ‹_› rfl rfl) <| On <| Rt <| ?_
      exact hret _ _ _ (hX.put hp4) rfl hB.put (by rw [wordE, if_neg h1, if_pos (by omega)]; rfl)
    · have h2 : ¬ (l.length : Int) > ((1024 : Nat) : Int) := of_decide_eq_false h2
      have hw : wordE n l = wE n 0 l := by rw [wordE, if_neg h1, if_neg (by omega)]
      refine Sk <| Sq <| Sq <| Rg <| O1 rfl <| ?_
      refine CG rfl rfl (s108 S v H2) fun w H3 hw3 => ?_
      obtain ⟨rfl, hH3⟩ := hw3
      rw [hv1] at hH3
      have hX3 : Ext H2 H3 := hH3 ▸ Ext.new H2 _
      have hC3 : At H3 H2.next (.cells [v]) := hH3 ▸ At.new H2 _
      have hA3 := hX3.at hA
      have hB3 := hX3.at hB
      have hXX := hX.trans hX3
      refine On <| Bk <| ?_
      have hneA : H.next ≠ H3.next := by have := hA3.1; omega
      have hneB : (H.new (.cells [.int .i64 n])).next ≠ H3.next := by have := hB3.1; omega
      have hneC : H2.next ≠ H3.next := by have := hC3.1; omega
      refine Runs.forF (n := l.length) (argW l) (P65 n v l H H.next (H.new (.cells [.int .i64 n])).next H2.next) (D65 n l H (H.new (.cells [.int .i64 n])).next) rfl rfl ?_ ?_ ?_ ?_ ?_ ?_
      · intro i H1 H1' hP hE
        exact ⟨Ext.ex1r hP.x hE hXX.1, hE.at hneA hP.a2, hP.a4.imp fun z h => hE.at hneB h, hE.at hneC hP.ab, hP.w, hP.b⟩
      · intro o H1 H1' hD hE
        exact ⟨hD.o, Ext.ex1r hD.x hE hXX.1, hE.at hneB hD.a4⟩
      · intro i H1 hi hL hP
        have hx : l[i]? = some l[i] := List.getElem?_eq_getElem hi
        have harg : argW l i = [.int .i64 (befS l i), .agg l[i].vs] := by simp [argW, hx]
        obtain ⟨z4, hz4⟩ := hP.a4
        have hno := hP.w
        rw [List.drop_eq_getElem_cons hi, wE] at hno
        have hbs : befS l (i + 1) = l[i].fa := by simp [befS, hx]
        have hb := hP.b
        rw [harg]
        refine ⟨_, rfl, ?_⟩
        have hN := At.new H1 (.cells (List.replicate 7 (.int .i64 0)))
        have hN2 : At ((H1.new (.cells (List.replicate 7 (.int .i64 0)))).put H1.next (.cells l[i].vs)) H1.next (.cells l[i].vs) := hN.put
        have hX1 : Ext H1 ((H1.new (.cells (List.replicate 7 (.int .i64 0)))).put H1.next (.cells l[i].vs)) := (Ext.new H1 _).put (Nat.le_refl _)
        refine Sq <| Rg <| O1 rfl <| On <| Rg <| O1 rfl <| O1 (step_st rfl rfl ‹_› rfl rfl) <| On <| ?_
        refine ⟨rfl, hX1.at hL, hX1.fr, ?_⟩
        have e0 : ∀ o, Ex1 H3.next H1 ((((H1.new (.cells (List.replicate 7 (.int .i64 0)))).put H1.next (.cells l[i].vs))).put H3.next o) := fun o => hX1.ex1.trans Ex1.put
        have hr7 : ∀ o, At ((((H1.new (.cells (List.replicate 7 (.int .i64 0)))).put H1.next (.cells l[i].vs))).put H3.next o) H1.next (.cells l[i].vs) := fun o => hN2.put_ne (by have := hL.1; omega)
        have hlt4 : (H.new (.cells [.int .i64 n])).next < H1.next := hz4.1
        refine l65 S (r := l[i]) (n := n) (b := befS l i) ((e0 _).at hneA hP.a2) ((e0 _).at hneB hz4) (hr7 _) hb ?_ ?_ rfl _ rfl rfl rfl rfl
        · intro g1 g2 g3 rg G' hG
          refine ⟨hG.at (hX1.at hL).put, (Fr.put (Nat.lt_succ_self _)).trans hG.fr, Ext.ex1r (Ext.ex1r hP.x (e0 _) hXX.1) hG.ex1 hXX.1, hG.at ((e0 _).at hneA hP.a2), ⟨_, hG.at ((e0 _).at hneB hz4)⟩, hG.at ((e0 _).at hneC hP.ab), ?_, ?_⟩
          · rw [hno, if_neg g1, if_neg g2, g3, hbs]; rfl
          · obtain ⟨_, hf0, _, hf32, _⟩ := rnd_zero g1
            rw [hbs]; exact ⟨hf0, hf32⟩
        · intro rg G' hG hall
          have h4 := hG.at ((e0 (.loop ⟨.busy, none, _, _, _, _⟩)).at hneB hz4)
          refine ⟨(hG.at (hX1.at hL).put).put_ne hneB.symm, ((Fr.put (Nat.lt_succ_self _)).trans hG.fr).trans (Fr.put (by have := hB3.1; omega)), rfl, (Ext.ex1r (Ext.ex1r hP.x (e0 _) hXX.1) hG.ex1 hXX.1).put hp4, ?_⟩
          rw [hP.w, List.drop_eq_getElem_cons hi, hall]
          exact h4.put
      · intro hy
        refine (it155 S hl (fun i H1 => At H1 H3.next _ ∧ P65 n v l H H.next (H.new (.cells [.int .i64 n])).next H2.next i H1) (fun H1 => ∃ o, o ≠ .normal ∧ At H1 H3.next (.loop ⟨.done, jmp o, _, _, _, _⟩) ∧ D65 n l H (H.new (.cells [.int .i64 n])).next o H1) (N := H3.next + 1) ?_ ?_ ?_ ?_ ?_)
        · rintro i H1 H1' ⟨h1, h2⟩ hE
          exact ⟨hE.at h1, h2.x.trans hE, hE.at h2.a2, h2.a4.imp fun z h => hE.at h, hE.at h2.ab, h2.w, h2.b⟩
        · rintro i H1 ⟨_, h2⟩
          exact h2.ab
        · rintro i H1 ⟨h1, _⟩
          exact h1.1
        · exact hy
        · exact ⟨At.new H3 _, hXX.trans (Ext.new H3 _), (Ext.new H3 _).at hA3, ⟨_, (Ext.new H3 _).at hB3⟩, (Ext.new H3 _).at hC3, rfl, Int.le_refl _, by show (0 : Int) < 32; decide⟩
      · intro H' hP
        obtain ⟨z4, hz4⟩ := hP.a4
        refine Sq <| Rg <| O1 (step_st rfl rfl ‹_› rfl rfl) <| On <| Rt <| ?_
        exact hret 0 _ _ (hP.x.put hp4) rfl hz4.put (by rw [hw, hP.w, List.drop_eq_nil_of_le (by omega)]; rfl)
      · rintro o H' hne ⟨rfl, hx, ha⟩
        exact hret _ _ _ hx rfl ha hw
end Go.Vm.Code

namespace Go.Vm.Code
open Go.Vm
variable {E : Env}
def symAt (m : Mach) (k q p : Nat) (s : Int) : Int := (((m.sy.getD k []).getD q []).getD p []).getD s.toNat 0
def hearQ (m : Mach) (k p : Nat) (now : List Int) (set : Int) (q : Nat) : Int :=
  if q = p then now.getD p 0 else if (q : Int) < m.n ∧ bitB set q = true then symAt m k q p (now.getD q 0) else -1
def hearL (m : Mach) (k p : Nat) (now : List Int) (set : Int) : List Int := (List.range 5).map (hearQ m k p now set)
/-- states behind k rounds -/
def OkN (m : Mach) (k : Nat) (now : List Int) : Prop := (now.length : Int) = m.n ∧ ∀ q, q < now.length → 0 ≤ now.getD q 0 ∧ now.getD q 0 < oLen m k q
theorem MachV.sym {f sy st o : V} {m : Mach} (hm : MachV E f sy st o m) (hsh : Shp m) {k q p : Nat} {s : Int} (hk : (k : Int) < m.r) (hq : (q : Int) < m.n) (hp : (p : Int) < m.n) (hqp : q ≠ p) (hs : 0 ≤ s ∧ s < oLen m k q) :
    ∃ b o1 cap, sy = .xslc b o1 m.sy.length cap ∧ k < m.sy.length ∧ ∃ b2 o2 cap2 len2, E.ext b (o1 + k * 1) = some (.xslc b2 o2 len2 cap2) ∧ q < len2 ∧
      ∃ b3 o3 cap3 len3, E.ext b2 (o2 + q * 1) = some (.xslc b3 o3 len3 cap3) ∧ p < len3 ∧ ∃ b4 o4 cap4 len4, E.ext b3 (o3 + p * 1) = some (.xslc b4 o4 len4 cap4) ∧ s < (len4 : Int) ∧ E.ext b4 (o4 + s.toNat * 1) = some (.int .i64 (symAt m k q p s)) := by
  have h1 := hsh.s
  have hltk : k < m.sy.length := by omega
  have hxk : m.sy[k]? = some m.sy[k] := List.getElem?_eq_getElem hltk
  have hsk := hsh.si k _ hxk
  have hltq : q < m.sy[k].length := by omega
  have hxq : m.sy[k][q]? = some m.sy[k][q] := List.getElem?_eq_getElem hltq
  have hsq := hsk.2 q _ hxq
  have hltp : p < m.sy[k][q].length := by omega
  have hxp : m.sy[k][q][p]? = some m.sy[k][q][p] := List.getElem?_eq_getElem hltp
  have hsp := hsq.2 p _ hxp
  rw [if_neg hqp] at hsp
  have hlen : (m.sy[k][q][p].length : Int) = oLen m k q := by simp only [oLen]; rw [hsp]
  have hlts : s.toNat < m.sy[k][q][p].length := by omega
  have hxs : m.sy[k][q][p][s.toNat]? = some m.sy[k][q][p][s.toNat] := List.getElem?_eq_getElem hlts
  obtain ⟨b, o1, cap, rfl, x, hc, hx2⟩ := hm.sy.at hxk
  obtain ⟨b2, o2, cap2, rfl, y, hc2, hy2⟩ := hx2.at hxq
  obtain ⟨b3, o3, cap3, rfl, z, hc3, hz2⟩ := hy2.at hxp
  obtain ⟨b4, o4, cap4, rfl, hc4⟩ := hz2.at hxs
  refine ⟨b, o1, cap, rfl, hltk, b2, o2, cap2, _, hc, hltq, b3, o3, cap3, _, hc2, hltp, b4, o4, cap4, _, hc3, by omega, ?_⟩
  have : symAt m k q p s = m.sy[k][q][p][s.toNat] := by
    simp only [symAt, List.getD_eq_getElem?_getD, hxk, Option.getD_some, hxq, hxp, hxs]
  rw [this]; exact hc4
/-- five cells, the first ones written -/
def part5 (L : List Int) (q : Nat) : List V := (L.take q).map (.int .i64) ++ List.replicate (5 - q) (.int .i64 0)
theorem setAt_at {v x : V} : ∀ {as bs : List V}, setAt (as ++ x :: bs) as.length [v] = some (as ++ v :: bs)
  | [], bs => by cases bs <;> rfl
  | a :: as, bs => by
    show (setAt (as ++ x :: bs) as.length [v]).bind _ = _
    rw [setAt_at]; rfl
theorem part5_len {L : List Int} (hL : L.length = 5) {q : Nat} (hq : q ≤ 5) : (part5 L q).length = 5 := by simp [part5, hL]; omega
theorem part5_set {L : List Int} (hL : L.length = 5) {q : Nat} (hq : q < 5) (z : Int) : setAt (part5 L q) (0 + q * 1) (V.cells (.int .i64 z)) = some ((L.take q).map (.int .i64) ++ .int .i64 z :: List.replicate (4 - q) (.int .i64 0)) := by
  have h1 : (0 + q * 1) = ((L.take q).map (V.int .i64)).length := by simp [hL]; omega
  have h2 : List.replicate (5 - q) (V.int .i64 0) = .int .i64 0 :: List.replicate (4 - q) (.int .i64 0) := by rw [show 5 - q = (4 - q) + 1 from by omega, List.replicate_succ]
  rw [part5, h2, h1]
  exact setAt_at
theorem part5_set2 {L : List Int} (hL : L.length = 5) {q : Nat} (hq : q < 5) (y z : Int) : setAt ((L.take q).map (.int .i64) ++ .int .i64 y :: List.replicate (4 - q) (.int .i64 0)) (0 + q * 1) (V.cells (.int .i64 z)) = some ((L.take q).map (.int .i64) ++ .int .i64 z :: List.replicate (4 - q) (.int .i64 0)) := by
  have h1 : (0 + q * 1) = ((L.take q).map (V.int .i64)).length := by simp [hL]; omega
  rw [h1]
  exact setAt_at
theorem part5_next {L : List Int} {q : Nat} (hq : q < 5) {z : Int} (hz : L[q]? = some z) : (L.take q).map (V.int .i64) ++ .int .i64 z :: List.replicate (4 - q) (.int .i64 0) = part5 L (q + 1) := by
  rw [part5, List.take_add_one, hz, List.map_append, show 5 - (q + 1) = 4 - q from by omega]
  simp
theorem hearL_get {m : Mach} {k p : Nat} {now : List Int} {set : Int} {q : Nat} (hq : q < 5) : (hearL m k p now set)[q]? = some (hearQ m k p now set q) := by
  simp [hearL, List.getElem?_map, List.getElem?_range hq]

theorem l78_0 {Q : Out → Regs → Hp → Prop} {f sy st o : V} {m : Mach} (hm : MachV E f sy st o m) (hh : Hdr m) (hsh : Shp m) {Hb : Hp} {pb p10 p11 : Nat} (hA : At Hb pb (.cells (mcells f sy st o m))) {k p : Nat} {v : V} {now : List Int} {set : Int} (hI : I1 E Hb v now) (hk : (k : Int) < m.r) (hp : (p : Int) < m.n) (hN : OkN m k now) {H : Hp} (hX : Ext Hb H) (h10' : At H p10 (.cells (List.replicate 5 (.int .i64 0)))) (h1011 : p10 ≠ p11) (h11 : Hb.next ≤ p11) (hC : At H p11 (.cells (part5 (hearL m k p now set) 0)))
    (hQ : ∀ rg H', Ext Hb H' → look rg 10 = some (.ptr p10 0) → look rg 11 = some (.ptr p11 0) → At H' p10 (.cells (List.replicate 5 (.int .i64 0))) → At H' p11 (.cells ((hearL m k p now set).map (.int .i64))) → Q (.exit 0) rg H') :
    ∀ rg, restrict rg [1, 2, 3, 4, 5, 10, 11, 13] = [(1, .int .i64 k), (2, .int .i64 p), (3, v), (4, .int .i64 set), (5, .ptr pb 0), (10, .ptr p10 0), (11, .ptr p11 0), (13, .int .i64 0)] → Runs E none w78_0 rg H Q := by
  intro rg hr
  have hn5 := hh.n
  have hL : (hearL m k p now set).length = 5 := by simp [hearL]
  refine Runs.loopS (σ := Nat) (fun q => [(1, .int .i64 k), (2, .int .i64 p), (3, v), (4, .int .i64 set), (5, .ptr pb 0), (10, .ptr p10 0), (11, .ptr p11 0), (13, .int .i64 q)])
    (fun q H' => q ≤ 5 ∧ Ext Hb H' ∧ At H' p10 (.cells (List.replicate 5 (.int .i64 0))) ∧ At H' p11 (.cells (part5 (hearL m k p now set) q))) (fun q => 5 - q) ?_ 0 _ _ hr ⟨by omega, hX, h10', hC⟩
  clear hX hC h10'
  rintro q H1 ⟨hq, hX, h10', hC⟩
  refine Sq <| Rg <| O1 rfl <| On <| Sq <| ?_
  refine Runs.cond rfl (fun hc => ?_) (fun hc => ?_)
  · have hlt : q < 5 := by have : (q : Int) < ((5 : Nat) : Int) := of_decide_eq_true hc; omega
    have hget := hearL_get (m := m) (k := k) (p := p) (now := now) (set := set) hlt
    refine Sk <| Sq <| Bk <| Sq <| Rg <| O1 rfl <| O1 rfl <| On <| Sq <| Rg <| O1 rfl <| O1 (ixA rfl rfl (by omega)) <| ?_
    refine O1 (step_st (l := part5 (hearL m k p now set) q) rfl rfl hC rfl (part5_set hL hlt _)) ?_
    have hX2 := hX.put (o := .cells (((hearL m k p now set).take q).map (.int .i64) ++ .int .i64 (Int.negSucc 0) :: List.replicate (4 - q) (.int .i64 0))) h11
    have hC2 := hC.put (o := .cells (((hearL m k p now set).take q).map (.int .i64) ++ .int .i64 (Int.negSucc 0) :: List.replicate (4 - q) (.int .i64 0)))
    have h102 := h10'.put_ne (o := .cells (((hearL m k p now set).take q).map (.int .i64) ++ .int .i64 (Int.negSucc 0) :: List.replicate (4 - q) (.int .i64 0))) h1011
    have hA2 := hX2.at hA
    have hI2 := hI.mono hX2
    have done : ∀ z, (hearL m k p now set)[q]? = some z → ((hearL m k p now set).take q).map (V.int .i64) ++ .int .i64 z :: List.replicate (4 - q) (.int .i64 0) = part5 (hearL m k p now set) (q + 1) := fun z hz => part5_next hlt hz
    refine On <| Bk <| Sq <| Rg <| O1 rfl <| O1 rfl <| O1 rfl <| O1 rfl <| On <| ?_
    cases h1 : ((q : Int) == (p : Int)) with
    | true =>
      have e : q = p := by have : (q : Int) = p := by simpa using h1
                           omega
      have hpl : p < now.length := by have := hN.1; omega
      have hg : now[p] = now.getD p 0 := by rw [List.getD_eq_getElem?_getD, List.getElem?_eq_getElem hpl]; rfl
      refine CT rfl <| Rg <| O1 rfl <| O1 rfl <| O1 rfl <| O1 (ixL rfl rfl ‹_› ‹_›) <| O1 (ldI rfl ‹_› ‹_›) <| O1 (ixA rfl rfl (by omega)) <| ?_
      rw [hg]
      refine O1 (step_st (l := ((hearL m k p now set).take q).map (.int .i64) ++ .int .i64 (Int.negSucc 0) :: List.replicate (4 - q) (.int .i64 0)) rfl rfl hC2 rfl (part5_set2 hL hlt _ _)) ?_
      refine On <| Rg <| O1 (addN rfl rfl (by omega)) <| O1 rfl <| On <| ?_
      have hz : (hearL m k p now set)[q]? = some (now.getD p 0) := by rw [hget, hearQ, if_pos e]
      refine ⟨q + 1, by simp only; omega, rfl, hlt, hX2.put h11, h102.put_ne h1011, ?_⟩
      rw [← done _ hz]
      exact hC2.put
    | false =>
      have e : q ≠ p := by have : ¬ (q : Int) = p := by simpa using h1
                           omega
      refine CF rfl <| Sq <| Rg <| O1 rfl <| O1 rfl <| O1 (ldA rfl ‹_› (by rfl)) <| O1 rfl <| O1 rfl <| ?_
      have stay : hearQ m k p now set q = -1 → At ((H1.put p11 (.cells (((hearL m k p now set).take q).map (.int .i64) ++ .int .i64 (Int.negSucc 0) :: List.replicate (4 - q) (.int .i64 0))))) p11 (.cells (part5 (hearL m k p now set) (q + 1))) := fun h => by
        rw [← done (Int.negSucc 0) (by rw [hget, h]; rfl)]; exact hC2
      cases h2 : decide ((q : Int) < m.n) with
      | false =>
        have h2' := of_decide_eq_false h2
        refine ON rfl <| ON rfl <| ON rfl <| ON rfl <| ON rfl <| O1 rfl <| O1 rfl <| On <| CF rfl <| Sk <| Rg <| O1 (addN rfl rfl (by omega)) <| O1 rfl <| On <| ?_
        exact ⟨q + 1, by simp only; omega, rfl, hlt, hX2, h102, stay (by rw [hearQ, if_neg e, if_neg (fun h => h2' h.1)])⟩
      | true =>
        have h2' := of_decide_eq_true h2
        refine OY rfl rfl <| OY rfl rfl <| ?_
        refine OY rfl (step_shr (b := (q : Int)) rfl rfl (by omega)) ?_
        rw [show ((q : Int)).toNat = q from by omega]
        refine OY rfl (step_and1 rfl rfl) <| OY rfl rfl <| O1 rfl <| O1 rfl <| On <| ?_
        have hbit : (set / 2 ^ q % 2 == Int.ofNat 1) = bitB set q := by simp only [bitB]; rfl
        rw [hbit]
        cases h3 : bitB set q with
        | false =>
          refine CF rfl <| Sk <| Rg <| O1 (addN rfl rfl (by omega)) <| O1 rfl <| On <| ?_
          exact ⟨q + 1, by simp only; omega, rfl, hlt, hX2, h102, stay (by rw [hearQ, if_neg e, if_neg (by rw [h3]; simp)])⟩
        | true =>
          have hql : q < now.length := by have := hN.1; omega
          have hg : now[q] = now.getD q 0 := by rw [List.getD_eq_getElem?_getD, List.getElem?_eq_getElem hql]; rfl
          obtain ⟨b, o1, cap, rfl, hltk, b2, o2, cap2, len2, hc1, hltq, b3, o3, cap3, len3, hc2, hltp, b4, o4, cap4, len4, hc3, hlts, hc4⟩ := hm.sym hsh hk h2' hp e (hN.2 q hql)
          have hs0 := (hN.2 q hql).1
          refine CT rfl <| Dg <| D1 rfl <| D1 rfl <| D1 (ldA rfl ‹_› (by rfl)) <| D1 rfl <| D1 (step_ixS rfl rfl ‹_›) <| D1 (step_ld1 rfl ‹_›) <| D1 rfl <| D1 (step_ixS rfl rfl ‹_›) <|
            D1 (step_ld1 rfl ‹_›) <| D1 rfl <| D1 (step_ixS rfl rfl ‹_›) <| D1 (step_ld1 rfl ‹_›) <| D1 rfl <| D1 rfl <| D1 (ixL rfl rfl ‹_› ‹_›) <| D1 (ldI rfl ‹_› ‹_›) <|
            D1 (ixI rfl rfl (by omega)) <| ?_
          rw [hg]
          refine D1 (step_ld1 rfl ‹_›) <| D1 (ixA rfl rfl (by omega)) <| ?_
          have hz : (hearL m k p now set)[q]? = some (symAt m k q p (now.getD q 0)) := by rw [hget, hearQ, if_neg e, if_pos ⟨h2', h3⟩]
          refine Dw (step_st (l := ((hearL m k p now set).take q).map (.int .i64) ++ .int .i64 (Int.negSucc 0) :: List.replicate (4 - q) (.int .i64 0)) rfl rfl hC2 rfl (part5_set2 hL hlt _ _)) (Nat.le_refl _) ?_
          refine Dn <| Rg <| O1 (addN rfl rfl (by omega)) <| O1 rfl <| On <| ?_
          refine ⟨q + 1, by simp only; omega, rfl, hlt, hX2.put h11, h102.put_ne h1011, ?_⟩
          rw [← done _ hz]
          exact hC2.put
  · have hlt : ¬ q < 5 := by have : ¬ (q : Int) < ((5 : Nat) : Int) := of_decide_eq_false hc; omega
    refine Xt <| ?_
    have e5 : q = 5 := by omega
    subst e5
    refine hQ _ _ hX rfl rfl h10' ?_
    have : part5 (hearL m k p now set) 5 = (hearL m k p now set).map (.int .i64) := by rw [part5, List.take_of_length_le (by omega)]; simp
    rw [← this]; exact hC

theorem resN {rg : Regs} {H : Hp} {a p n : Nat} {l l' : List V} (hl : look rg a = some (.ptr p 0)) (hA : At H p (.cells l)) (hn : getAt l 0 n = some l') : results E rg H [.cellN a n] = some [.agg l'] := by
  simp only [results, result, hl, Option.bind_some, hA.ldN, hn]
theorem res1 {rg : Regs} {H : Hp} {a p : Nat} {l : List V} {v : V} (hl : look rg a = some (.ptr p 0)) (hA : At H p (.cells l)) (hn : nth l 0 = some v) : results E rg H [.cell1 a] = some [v] := by
  simp only [results, result, hl, Option.bind_some, hA.ld1, hn]
theorem s78 (S : Std E) {f sy st o : V} {m : Mach} (hm : MachV E f sy st o m) (hh : Hdr m) (hsh : Shp m) {k p : Nat} {v : V} {now : List Int} {set : Int} {H : Hp} (hI : I1 E H v now) (hk : (k : Int) < m.r) (hp : (p : Int) < m.n) (hN : OkN m k now) :
    CallR E 78 [MM f sy st o m, .int .i64 k, .int .i64 p, v, .int .i64 set] H (fun w H' => w = .agg ((hearL m k p now set).map (.int .i64)) ∧ Ext H H') := by
  refine S.call (f := 78) (by decide) rfl rfl ?_
  have hA0 := At.new H (.cells (mcells f sy st o m))
  have hX0 := Ext.new H (.cells (mcells f sy st o m))
  have hB0 := At.new (H.new (.cells (mcells f sy st o m))) (.cells (List.replicate 5 (.int .i64 0)))
  have hX1 := Ext.new (H.new (.cells (mcells f sy st o m))) (.cells (List.replicate 5 (.int .i64 0)))
  have hC := At.new ((H.new (.cells (mcells f sy st o m))).new (.cells (List.replicate 5 (.int .i64 0)))) (.cells (List.replicate 5 (.int .i64 0)))
  have hX2 := Ext.new ((H.new (.cells (mcells f sy st o m))).new (.cells (List.replicate 5 (.int .i64 0)))) (.cells (List.replicate 5 (.int .i64 0)))
  refine Sq <| Rg <| O1 rfl <| O1 rfl <| On <| Sq <| Rg <| O1 rfl <| On <| Sq <| Sq <| Rg <| O1 rfl <| On <| Bk <| ?_
  refine l78_0 hm hh hsh (Hb := H.new (.cells (mcells f sy st o m))) (pb := H.next) (p10 := (H.new (.cells (mcells f sy st o m))).next) (p11 := ((H.new (.cells (mcells f sy st o m))).new (.cells (List.replicate 5 (.int .i64 0)))).next) hA0 (hI.mono hX0) hk hp hN (hX1.trans hX2) (hX2.at hB0) (Nat.ne_of_lt hB0.1) (Nat.le_succ _) hC ?_ _ rfl
  intro rg H' hX g10 g11 h10 h11
  refine Sq <| Rg <| O1 (ldNA (off := 0) g11 h11 (l' := (hearL m k p now set).map (.int .i64)) ?_) ?_
  · rfl
  refine O1 (step_st (id := (H.new (.cells (mcells f sy st o m))).next) (l' := (hearL m k p now set).map (.int .i64)) (by simpa [ev, put, look_cons] using g10) rfl h10 rfl rfl) ?_
  refine On <| Rt <| ?_
  exact ⟨nr, _, resN g10 (h10.put (o := .cells ((hearL m k p now set).map (.int .i64)))) rfl, rfl, (hX0.trans hX).put (Nat.le_succ _)⟩
end Go.Vm.Code

namespace Go.Vm.Code
open Go.Vm
variable {E : Env}
def hearR (m : Mach) (k p : Nat) (now : List Int) (set : Int) (q : Nat) : Int :=
  if q = p then -1 else if (q : Int) < m.n ∧ bitB set q = true then symAt m k q p (now.getD q 0) else -1
def hear2 (m : Mach) (k p : Nat) (now : List Int) (set : Int) : List Int := (List.range 5).map (hearR m k p now set)
theorem hear2_get {m : Mach} {k p : Nat} {now : List Int} {set : Int} {q : Nat} (hq : q < 5) : (hear2 m k p now set)[q]? = some (hearR m k p now set q) := by
  simp [hear2, List.getElem?_map, List.getElem?_range hq]
theorem hear_set {m : Mach} {k p : Nat} {now : List Int} {set : Int} (hp : p < 5) : setAt ((hear2 m k p now set).map (V.int .i64)) (0 + p * 1) (V.cells (.int .i64 (now.getD p 0))) = some ((hearL m k p now set).map (.int .i64)) := by
  rcases p with _ | _ | _ | _ | _ | p
  · simp [hear2, hearL, hearR, hearQ, List.range_succ, setAt, V.cells]
  · simp [hear2, hearL, hearR, hearQ, List.range_succ, setAt, V.cells]
  · simp [hear2, hearL, hearR, hearQ, List.range_succ, setAt, V.cells]
  · simp [hear2, hearL, hearR, hearQ, List.range_succ, setAt, V.cells]
  · simp [hear2, hearL, hearR, hearQ, List.range_succ, setAt, V.cells]
  · omega
theorem l116_0 (S : Std E) {Q : Out → Regs → Hp → Prop} {f sy st o : V} {m : Mach} (hm : MachV E f sy st o m) (hh : Hdr m) (hsh : Shp m) {Hb : Hp} {pb p10 p11 : Nat} (hA : At Hb pb (.cells (mcells f sy st o m))) {k p : Nat} {v : V} {now : List Int} {set : Int} (hI : I1 E Hb v now) (hk : (k : Int) < m.r) (hp : (p : Int) < m.n) (hN : OkN m k now) {r : Rnd} {pg : Nat} (hG : At Hb pg (.cells r.gv)) (hset : set = r.hs.getD p 0) (hset0 : 0 ≤ set ∧ set < 32) {H : Hp} (hX : Ext Hb H) (h10' : At H p10 (.cells (List.replicate 5 (.int .i64 0)))) (h1011 : p10 ≠ p11) (h11 : Hb.next ≤ p11) (hC : At H p11 (.cells (part5 (hear2 m k p now set) 0)))
    (hQ : ∀ rg H', Ext Hb H' → look rg 2 = some (.int .i64 p) → look rg 3 = some v → look rg 10 = some (.ptr p10 0) → look rg 11 = some (.ptr p11 0) → At H' p10 (.cells (List.replicate 5 (.int .i64 0))) → At H' p11 (.cells ((hear2 m k p now set).map (.int .i64))) → Q (.exit 0) rg H') :
    ∀ rg, restrict rg [1, 2, 3, 5, 9, 10, 11, 12] = [(1, .int .i64 k), (2, .int .i64 p), (3, v), (5, .ptr pb 0), (9, .ptr pg 0), (10, .ptr p10 0), (11, .ptr p11 0), (12, .int .i64 0)] → Runs E none w116_0 rg H Q := by
  intro rg hr
  have hn5 := hh.n
  have hL : (hear2 m k p now set).length = 5 := by simp [hear2]
  refine Runs.loopS (σ := Nat) (fun q => [(1, .int .i64 k), (2, .int .i64 p), (3, v), (5, .ptr pb 0), (9, .ptr pg 0), (10, .ptr p10 0), (11, .ptr p11 0), (12, .int .i64 q)])
    (fun q H' => q ≤ 5 ∧ Ext Hb H' ∧ At H' p10 (.cells (List.replicate 5 (.int .i64 0))) ∧ At H' p11 (.cells (part5 (hear2 m k p now set) q))) (fun q => 5 - q) ?_ 0 _ _ hr ⟨by omega, hX, h10', hC⟩
  clear hX hC h10'
  rintro q H1 ⟨hq, hX, h10', hC⟩
  refine Sq <| Sq <| Rg <| O1 rfl <| O1 rfl <| On <| ?_
  refine Runs.cond rfl (fun hc => ?_) (fun hc => ?_)
  · have hlt : q < 5 := by have : (q : Int) < ((5 : Nat) : Int) := of_decide_eq_true hc; omega
    have hget := hear2_get (m := m) (k := k) (p := p) (now := now) (set := set) hlt
    refine Sk <| Sq <| Bk <| Sq <| Rg <| O1 rfl <| O1 (ixA rfl rfl (by omega)) <| ?_
    refine O1 (step_st (l := part5 (hear2 m k p now set) q) rfl rfl hC rfl (part5_set hL hlt _)) ?_
    have hX2 := hX.put (o := .cells (((hear2 m k p now set).take q).map (.int .i64) ++ .int .i64 (Int.negSucc 0) :: List.replicate (4 - q) (.int .i64 0))) h11
    have hC2 := hC.put (o := .cells (((hear2 m k p now set).take q).map (.int .i64) ++ .int .i64 (Int.negSucc 0) :: List.replicate (4 - q) (.int .i64 0)))
    have h102 := h10'.put_ne (o := .cells (((hear2 m k p now set).take q).map (.int .i64) ++ .int .i64 (Int.negSucc 0) :: List.replicate (4 - q) (.int .i64 0))) h1011
    have hA2 := hX2.at hA
    have hI2 := hI.mono hX2
    have done : ∀ z, (hear2 m k p now set)[q]? = some z → ((hear2 m k p now set).take q).map (V.int .i64) ++ .int .i64 z :: List.replicate (4 - q) (.int .i64 0) = part5 (hear2 m k p now set) (q + 1) := fun z hz => part5_next hlt hz
    refine On <| Sq <| Rg <| O1 rfl <| O1 rfl <| O1 (ldA rfl ‹_› (by rfl)) <| O1 rfl <| O1 rfl <| ?_
    have stay : hearR m k p now set q = -1 → At ((H1.put p11 (.cells (((hear2 m k p now set).take q).map (.int .i64) ++ .int .i64 (Int.negSucc 0) :: List.replicate (4 - q) (.int .i64 0))))) p11 (.cells (part5 (hear2 m k p now set) (q + 1))) := fun h => by
      rw [← done (Int.negSucc 0) (by rw [hget, h]; rfl)]; exact hC2
    have hG2 := hX2.at hG
    cases h2 : decide ((q : Int) < m.n) with
    | false =>
      have h2' := of_decide_eq_false h2
      refine ON rfl <| ON rfl <| ON rfl <| O1 rfl <| O1 rfl <| ON rfl <| ON rfl <| ON rfl <| ON rfl <| ON rfl <| ON rfl <| O1 rfl <| On <| CF rfl <| Sk <| Rg <| O1 rfl <|
        O1 (addN rfl rfl (by omega)) <| O1 rfl <| On <| ?_
      exact ⟨q + 1, by simp only; omega, rfl, hlt, hX2, h102, stay (by by_cases e : q = p; rw [hearR, if_pos e]; rw [hearR, if_neg e, if_neg (fun h => h2' h.1)])⟩
    | true =>
      have h2' := of_decide_eq_true h2
      refine OY rfl rfl <| OY rfl rfl <| OY rfl rfl <| O1 rfl <| O1 rfl <| ?_
      cases h1 : ((q : Int) != (p : Int)) with
      | false =>
        have e : q = p := by have : (q : Int) = p := by simpa using h1
                             omega
        refine ON rfl <| ON rfl <| ON rfl <| ON rfl <| ON rfl <| ON rfl <| O1 rfl <| On <| CF rfl <| Sk <| Rg <| O1 rfl <| O1 (addN rfl rfl (by omega)) <| O1 rfl <| On <| ?_
        exact ⟨q + 1, by simp only; omega, rfl, hlt, hX2, h102, stay (by rw [hearR, if_pos e])⟩
      | true =>
        have e : q ≠ p := by have : ¬ (q : Int) = p := by simpa using h1
                             omega
        have hp5 : p < 5 := by omega
        have hnth : nth r.gv (0 + 1 + p * 1) = some (.int .i64 (r.hs.getD p 0)) := by
          rw [nth_eq]
          rcases p with _ | _ | _ | _ | _ | p <;> first | rfl | omega
        rw [← hset] at hnth
        refine OY rfl rfl <| OY rfl rfl <| OY rfl (ixA rfl rfl (by omega)) <| ?_
        refine OY rfl (ldA rfl hG2 hnth) ?_
        refine OY rfl rfl <| ?_
        have tt := g161 S (a := set) (by omega) q (by omega) (H1.put p11 (.cells (((hear2 m k p now set).take q).map (.int .i64) ++ .int .i64 (Int.negSucc 0) :: List.replicate (4 - q) (.int .i64 0))))
        refine CQT rfl rfl rfl tt ?_
        clear tt
        refine O1 rfl <| On <| ?_
        cases h3 : bitB set q with
        | false =>
          refine CF rfl <| Sk <| Rg <| O1 rfl <| O1 (addN rfl rfl (by omega)) <| O1 rfl <| On <| ?_
          exact ⟨q + 1, by simp only; omega, rfl, hlt, hX2, h102, stay (by rw [hearR, if_neg e, if_neg (by rw [h3]; simp)])⟩
        | true =>
          have hql : q < now.length := by have := hN.1; omega
          have hg : now[q] = now.getD q 0 := by rw [List.getD_eq_getElem?_getD, List.getElem?_eq_getElem hql]; rfl
          obtain ⟨b, o1, cap, rfl, hltk, b2, o2, cap2, len2, hc1, hltq, b3, o3, cap3, len3, hc2, hltp, b4, o4, cap4, len4, hc3, hlts, hc4⟩ := hm.sym hsh hk h2' hp e (hN.2 q hql)
          have hs0 := (hN.2 q hql).1
          refine CT rfl <| Dg <| D1 rfl <| D1 rfl <| D1 (ldA rfl ‹_› (by rfl)) <| D1 rfl <| D1 (step_ixS rfl rfl ‹_›) <| D1 (step_ld1 rfl ‹_›) <| D1 rfl <| D1 (step_ixS rfl rfl ‹_›) <|
            D1 (step_ld1 rfl ‹_›) <| D1 rfl <| D1 (step_ixS rfl rfl ‹_›) <| D1 (step_ld1 rfl ‹_›) <| D1 rfl <| D1 rfl <| D1 (ixL rfl rfl ‹_› ‹_›) <| D1 (ldI rfl ‹_› ‹_›) <|
            D1 (ixI rfl rfl (by omega)) <| ?_
          rw [hg]
          refine D1 (step_ld1 rfl ‹_›) <| D1 (ixA rfl rfl (by omega)) <| ?_
          have hz : (hear2 m k p now set)[q]? = some (symAt m k q p (now.getD q 0)) := by rw [hget, hearR, if_neg e, if_pos ⟨h2', h3⟩]
          refine Dw (step_st (l := ((hear2 m k p now set).take q).map (.int .i64) ++ .int .i64 (Int.negSucc 0) :: List.replicate (4 - q) (.int .i64 0)) rfl rfl hC2 rfl (part5_set2 hL hlt _ _)) (Nat.le_refl _) ?_
          refine Dn <| Rg <| O1 rfl <| O1 (addN rfl rfl (by omega)) <| O1 rfl <| On <| ?_
          refine ⟨q + 1, by simp only; omega, rfl, hlt, hX2.put h11, h102.put_ne h1011, ?_⟩
          rw [← done _ hz]
          exact hC2.put
  · have hlt : ¬ q < 5 := by have : ¬ (q : Int) < ((5 : Nat) : Int) := of_decide_eq_false hc; omega
    refine Xt <| ?_
    have e5 : q = 5 := by omega
    subst e5
    refine hQ _ _ hX rfl rfl rfl rfl h10' ?_
    have : part5 (hear2 m k p now set) 5 = (hear2 m k p now set).map (.int .i64) := by rw [part5, List.take_of_length_le (by omega)]; simp
    rw [← this]; exact hC

theorem s116 (S : Std E) {f sy st o : V} {m : Mach} (hm : MachV E f sy st o m) (hh : Hdr m) (hsh : Shp m) {k p : Nat} {v : V} {now : List Int} {r : Rnd} {H : Hp} (hI : I1 E H v now) (hk : (k : Int) < m.r) (hp : (p : Int) < m.n) (hN : OkN m k now) (hset0 : 0 ≤ r.hs.getD p 0 ∧ r.hs.getD p 0 < 32) :
    CallR E 116 [MM f sy st o m, .int .i64 k, .int .i64 p, v, .agg r.gv] H (fun w H' => w = .agg ((hearL m k p now (r.hs.getD p 0)).map (.int .i64)) ∧ Ext H H') := by
  have hn5 := hh.n
  refine S.call (f := 116) (by decide) rfl rfl ?_
  have hA0 := At.new H (.cells (mcells f sy st o m))
  have hX0 := Ext.new H (.cells (mcells f sy st o m))
  have hG0 := At.new (H.new (.cells (mcells f sy st o m))) (.cells r.gv)
  have hXg := Ext.new (H.new (.cells (mcells f sy st o m))) (.cells r.gv)
  have hB0 := At.new ((H.new (.cells (mcells f sy st o m))).new (.cells r.gv)) (.cells (List.replicate 5 (.int .i64 0)))
  have hX1 := Ext.new ((H.new (.cells (mcells f sy st o m))).new (.cells r.gv)) (.cells (List.replicate 5 (.int .i64 0)))
  have hC := At.new (((H.new (.cells (mcells f sy st o m))).new (.cells r.gv)).new (.cells (List.replicate 5 (.int .i64 0)))) (.cells (List.replicate 5 (.int .i64 0)))
  have hX2 := Ext.new (((H.new (.cells (mcells f sy st o m))).new (.cells r.gv)).new (.cells (List.replicate 5 (.int .i64 0)))) (.cells (List.replicate 5 (.int .i64 0)))
  refine Sq <| Rg <| O1 rfl <| O1 rfl <| O1 rfl <| On <| Sq <| Rg <| O1 rfl <| On <| Sq <| Sq <| Rg <| O1 rfl <| On <| Bk <| ?_
  refine l116_0 S hm hh hsh (Hb := (H.new (.cells (mcells f sy st o m))).new (.cells r.gv)) (pb := H.next) (p10 := ((H.new (.cells (mcells f sy st o m))).new (.cells r.gv)).next) (p11 := (((H.new (.cells (mcells f sy st o m))).new (.cells r.gv)).new (.cells (List.replicate 5 (.int .i64 0)))).next) (hXg.at hA0) (hI.mono (hX0.trans hXg)) hk hp hN (r := r) hG0 rfl hset0 (hX1.trans hX2) (hX2.at hB0) (Nat.ne_of_lt hB0.1) (Nat.le_succ _) hC ?_ _ rfl
  intro rg H' hX g2 g3 g10 g11 h10 h11
  have hpl : p < now.length := by have := hN.1; omega
  have hg : now[p] = now.getD p 0 := by rw [List.getD_eq_getElem?_getD, List.getElem?_eq_getElem hpl]; rfl
  have hI' := hI.mono ((hX0.trans hXg).trans hX)
  refine Sq <| Rg <| ?_
  refine O1 (step_mv ‹_›) <| O1 (step_mv ‹_›) <| O1 (step_mv ‹_›) <| O1 (ixL rfl rfl ‹_› ‹_›) <| O1 (ldI rfl ‹_› ‹_›) <| ?_
  rw [hg]
  refine O1 (ixA (id := (((H.new (.cells (mcells f sy st o m))).new (.cells r.gv)).new (.cells (List.replicate 5 (.int .i64 0)))).next) (o := 0) g11 rfl (by omega)) ?_
  refine O1 (step_st rfl rfl h11 rfl (hear_set (by omega))) ?_
  refine On <| Sq <| Rg <| ?_
  have h11' := h11.put (o := .cells ((hearL m k p now (r.hs.getD p 0)).map (.int .i64)))
  have h10' := h10.put_ne (id := (((H.new (.cells (mcells f sy st o m))).new (.cells r.gv)).new (.cells (List.replicate 5 (.int .i64 0)))).next) (o := .cells ((hearL m k p now (r.hs.getD p 0)).map (.int .i64))) (Nat.ne_of_lt hB0.1)
  refine O1 (ldNA (off := 0) g11 h11' (l' := (hearL m k p now (r.hs.getD p 0)).map (.int .i64)) rfl) ?_
  refine O1 (step_st (id := ((H.new (.cells (mcells f sy st o m))).new (.cells r.gv)).next) (l' := (hearL m k p now (r.hs.getD p 0)).map (.int .i64)) g10 rfl h10' rfl rfl) ?_
  refine On <| Rt <| ?_
  exact ⟨nr, _, resN g10 (h10'.put (o := .cells ((hearL m k p now (r.hs.getD p 0)).map (.int .i64)))) rfl, rfl, (((hX0.trans hXg).trans hX).put (Nat.le_succ_of_le (Nat.le_succ_of_le (Nat.le_succ _)))).put (Nat.le_succ_of_le (Nat.le_succ _))⟩
end Go.Vm.Code
