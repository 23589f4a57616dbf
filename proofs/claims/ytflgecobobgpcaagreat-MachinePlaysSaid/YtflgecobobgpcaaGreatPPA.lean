/-
  Contracts of functions on machines, first part. Conditions: none beyond those that each statement names.
-/
import Derived.Test.YtflgecobobgpcaaGreatPCB
import Derived.Test.YtflgecobobgpcaaGreatPVH
namespace Go.Vm.Code
open Go.Vm
variable {E : Env}
/-- how many states there are, as the machine counts -/
def cntL (n : Int) (l : List (List Int)) : Int := l.foldl (fun n x => IntKind.i64.wrap (n + (x.length : Int))) n
def cnt (l : List (List (List Int))) : Int := l.foldl cntL 0

theorem idx_succ {i n : Nat} (h : i < n) (hn : n < 2 ^ 63) : IntKind.i64.wrap ((i : Int) + 1) = ((i + 1 : Nat) : Int) := by
  rw [wrap_id (by omega) (by omega)]; rfl

theorem s45 (h : E.prim 45 = none) (hf : E.funcs 45 = some c45) {n r k u f sy st v : V} {l : List (List (List Int))} (hl : L3 E v l) (H : Hp) :
    CallR E 45 [.agg [n, r, k, u, f, sy, st, v]] H (fun w H' => w = .int .i64 (cnt l) ∧ Ext H H') := by
  refine CallR.of h hf rfl ?_
  refine Runs.seq (Runs.reg (OpsR.op rfl (OpsR.op rfl (OpsR.nil ?_))))
  have hA := At.new H (.cells [n, r, k, u, f, sy, st, v])
  have hX := Ext.new H (.cells [n, r, k, u, f, sy, st, v])
  generalize hH : H.new (.cells [n, r, k, u, f, sy, st, v]) = H1 at hA hX
  have hH' : H.new (Ob.cells (V.cells (V.agg [n, r, k, u, f, sy, st, v]))) = H1 := hH
  rw [hH']
  refine Runs.seq (Runs.reg (OpsR.op rfl (OpsR.nil ?_)))
  refine Runs.seq (Runs.seq (Runs.reg (OpsR.op rfl (OpsR.op (step_ld1 rfl (hA.ld1.trans rfl)) (OpsR.op (step_lenS rfl hl.len) (OpsR.op rfl (OpsR.nil (Runs.block ?_))))))))
  have hlen := hl.1
  refine Runs.loopS (σ := Nat) (fun i => [(3, .int .i64 ((l.take i).foldl cntL 0)), (9, v), (10, .int .i64 l.length), (11, .int .i64 i)]) (fun i H' => i ≤ l.length ∧ H' = H1) (fun i => l.length - i) ?_ 0 _ _ rfl ⟨Nat.zero_le _, rfl⟩
  rintro i H2 ⟨hi, rfl⟩
  refine Runs.seq (Runs.reg (OpsR.op rfl (OpsR.nil ?_)))
  by_cases hlt : i < l.length
  · have hx : l[i]? = some l[i] := List.getElem?_eq_getElem hlt
    obtain ⟨b, o, cap, rfl, x, hc, hx2⟩ := hl.at hx
    refine Runs.seq (Runs.condT rfl (by simp; omega) (Runs.skip ?_))
    refine Runs.seq (Runs.block (Runs.seq (Runs.reg (OpsR.op (step_ixS rfl rfl hlt) (OpsR.op (step_ld1 rfl hc) (OpsR.op rfl (OpsR.nil ?_)))))))
    refine Runs.seq (Runs.reg (OpsR.op rfl (OpsR.op (step_lenS rfl hx2.len) (OpsR.op rfl (OpsR.nil (Runs.block ?_))))))
    have hlen2 := hx2.1
    refine Runs.loopS (σ := Nat) (fun j => [(3, .int .i64 (cntL ((l.take i).foldl cntL 0) (l[i].take j))), (9, .xslc b o l.length cap), (10, .int .i64 l.length), (11, .int .i64 i), (15, x), (16, .int .i64 l[i].length), (17, .int .i64 j)]) (fun j H' => j ≤ l[i].length ∧ H' = H2) (fun j => l[i].length - j) ?_ 0 _ _ rfl ⟨Nat.zero_le _, rfl⟩
    rintro j H3 ⟨hj, rfl⟩
    refine Runs.seq (Runs.reg (OpsR.op rfl (OpsR.nil ?_)))
    by_cases hlt2 : j < l[i].length
    · have hy : l[i][j]? = some l[i][j] := List.getElem?_eq_getElem hlt2
      obtain ⟨b2, o2, cap2, rfl, y, hc2, hy2⟩ := hx2.at hy
      refine Runs.seq (Runs.condT rfl (by simp; omega) (Runs.skip ?_))
      refine Runs.seq (Runs.block (Runs.seq (Runs.reg (OpsR.op (step_ixS rfl rfl hlt2) (OpsR.op (step_ld1 rfl hc2) (OpsR.op rfl (OpsR.nil ?_)))))))
      refine Runs.reg (OpsR.op rfl (OpsR.op rfl (OpsR.op (step_lenS rfl hy2.len) (OpsR.op rfl (OpsR.op rfl (OpsR.nil ?_))))))
      refine Runs.reg (OpsR.op rfl (OpsR.op rfl (OpsR.nil ?_)))
      refine ⟨j + 1, Nat.sub_lt_sub_left hlt2 (Nat.lt_succ_self j), ?_, by omega, rfl⟩
      show [(3, _), (9, _), (10, _), (11, _), (15, _), (16, _), (17, V.int .i64 (IntKind.i64.wrap ((j : Int) + 1)))] = _
      rw [idx_succ hlt2 hlen2]
      simp only [cntL, foldl_take hy]
    · refine Runs.seq (Runs.condF rfl (by simp; omega) (Runs.exit ?_))
      refine Runs.reg (OpsR.op rfl (OpsR.op rfl (OpsR.nil ?_)))
      refine ⟨i + 1, Nat.sub_lt_sub_left hlt (Nat.lt_succ_self i), ?_, by omega, rfl⟩
      show [(3, _), (9, _), (10, _), (11, V.int .i64 (IntKind.i64.wrap ((i : Int) + 1)))] = _
      simp only
      rw [idx_succ hlt hlen, foldl_take hx, show l[i].take j = l[i] from List.take_of_length_le (by omega)]
  · refine Runs.seq (Runs.condF rfl (by simp; omega) (Runs.exit ?_))
    refine Runs.seq (Runs.reg (OpsR.op rfl (OpsR.op rfl (OpsR.nil (Runs.ret ?_)))))
    exact ⟨(fun i h => by cases h), _, rfl, by rw [show l.take i = l from List.take_of_length_le (by omega)]; rfl, hX⟩

theorem s36 (h : E.prim 36 = none) (hf : E.funcs 36 = some c36) {n r k u f sy st v : V} {l : List (List (List Int))} (hl : L3 E v l) (H : Hp) :
    CallR E 36 [.agg [n, r, k, u, f, sy, st, v]] H (fun w H' => w = .int .i64 (cnt l) ∧ Ext H H') := by
  refine CallR.of h hf rfl ?_
  refine Runs.seq (Runs.reg (OpsR.op rfl (OpsR.op rfl (OpsR.nil ?_))))
  have hA := At.new H (.cells [n, r, k, u, f, sy, st, v])
  have hX := Ext.new H (.cells [n, r, k, u, f, sy, st, v])
  generalize hH : H.new (.cells [n, r, k, u, f, sy, st, v]) = H1 at hA hX
  have hH' : H.new (Ob.cells (V.cells (V.agg [n, r, k, u, f, sy, st, v]))) = H1 := hH
  rw [hH']
  have hlen := hl.1
  refine Runs.seq (Runs.reg (OpsR.op rfl (OpsR.nil ?_)))
  refine Runs.seq (Runs.seq (Runs.reg (OpsR.op rfl (OpsR.nil (Runs.block ?_)))))
  refine Runs.loopS (σ := Nat) (fun i => [(1, .ptr H.next 0), (3, .int .i64 ((l.take i).foldl cntL 0)), (4, .int .i64 i)]) (fun i H' => i ≤ l.length ∧ H' = H1) (fun i => l.length - i) ?_ 0 _ _ rfl ⟨Nat.zero_le _, rfl⟩
  rintro i H2 ⟨hi, rfl⟩
  refine Runs.seq (Runs.seq (Runs.reg (OpsR.op rfl (OpsR.op rfl (OpsR.op (step_ld1 rfl (hA.ld1.trans rfl)) (OpsR.op (step_lenS rfl hl.len) (OpsR.op rfl (OpsR.nil ?_))))))))
  by_cases hlt : i < l.length
  · have hx : l[i]? = some l[i] := List.getElem?_eq_getElem hlt
    obtain ⟨b, o, cap, rfl, x, hc, hx2⟩ := hl.at hx
    have hlen2 := hx2.1
    refine Runs.condT rfl (by simp; omega) (Runs.skip ?_)
    refine Runs.seq (Runs.block (Runs.seq (Runs.reg (OpsR.op rfl (OpsR.nil (Runs.block ?_))))))
    refine Runs.loopS (σ := Nat) (fun j => [(1, .ptr H.next 0), (3, .int .i64 (cntL ((l.take i).foldl cntL 0) (l[i].take j))), (4, .int .i64 i), (5, .int .i64 j)]) (fun j H' => j ≤ l[i].length ∧ H' = H2) (fun j => l[i].length - j) ?_ 0 _ _ rfl ⟨Nat.zero_le _, rfl⟩
    rintro j H3 ⟨hj, rfl⟩
    refine Runs.seq (Runs.seq (Runs.reg (OpsR.op rfl (OpsR.op rfl (OpsR.op (step_ld1 rfl (hA.ld1.trans rfl)) (OpsR.op rfl (OpsR.op (step_ixS rfl rfl hlt) (OpsR.op (step_ld1 rfl hc) (OpsR.op (step_lenS rfl hx2.len) (OpsR.op rfl (OpsR.nil ?_)))))))))))
    by_cases hlt2 : j < l[i].length
    · have hy : l[i][j]? = some l[i][j] := List.getElem?_eq_getElem hlt2
      obtain ⟨b2, o2, cap2, rfl, y, hc2, hy2⟩ := hx2.at hy
      refine Runs.condT rfl (by simp; omega) (Runs.skip ?_)
      refine Runs.seq (Runs.block (Runs.reg (OpsR.op rfl (OpsR.op rfl (OpsR.op (step_ld1 rfl (hA.ld1.trans rfl)) (OpsR.op rfl (OpsR.op (step_ixS rfl rfl hlt) (OpsR.op (step_ld1 rfl hc) (OpsR.op rfl (OpsR.op (step_ixS rfl rfl hlt2) (OpsR.op (step_ld1 rfl hc2) (OpsR.op (step_lenS rfl hy2.len) (OpsR.op rfl (OpsR.op rfl (OpsR.nil ?_)))))))))))))))
      refine Runs.reg (OpsR.op rfl (OpsR.op rfl (OpsR.op rfl (OpsR.nil ?_))))
      refine ⟨j + 1, Nat.sub_lt_sub_left hlt2 (Nat.lt_succ_self j), ?_, by omega, rfl⟩
      show [(1, _), (3, _), (4, _), (5, V.int .i64 (IntKind.i64.wrap ((j : Int) + 1)))] = _
      rw [idx_succ hlt2 hlen2]
      simp only [cntL, foldl_take hy]
    · refine Runs.condF rfl (by simp; omega) (Runs.exit ?_)
      refine Runs.reg (OpsR.op rfl (OpsR.op rfl (OpsR.op rfl (OpsR.nil ?_))))
      refine ⟨i + 1, Nat.sub_lt_sub_left hlt (Nat.lt_succ_self i), ?_, by omega, rfl⟩
      show [(1, _), (3, _), (4, V.int .i64 (IntKind.i64.wrap ((i : Int) + 1)))] = _
      simp only
      rw [idx_succ hlt hlen, foldl_take hx, show l[i].take j = l[i] from List.take_of_length_le (by omega)]
  · refine Runs.condF rfl (by simp; omega) (Runs.exit ?_)
    refine Runs.seq (Runs.reg (OpsR.op rfl (OpsR.op rfl (OpsR.nil (Runs.ret ?_)))))
    exact ⟨(fun i h => by cases h), _, rfl, by rw [show l.take i = l from List.take_of_length_le (by omega)]; rfl, hX⟩

def inR (lo hi n : Int) : Bool := decide (lo ≤ n) && decide (n ≤ hi)
theorem s52 (hp : E.prim 52 = none) (hf : E.funcs 52 = some c52) (n lo hi : Int) (H : Hp) : CallR E 52 [.int .i64 n, .int .i64 lo, .int .i64 hi] H (fun v H' => v = .bool (inR lo hi n) ∧ H' = H) := by
  refine CallR.of hp hf rfl ?_
  repeat first
    | refine Runs.seq ?_
    | refine Runs.reg ?_
    | refine OpsR.op rfl ?_
    | refine OpsR.nil ?_
    | refine Runs.ret ?_
    | refine OpsR.opT rfl rfl ?_
    | refine OpsR.opF rfl ?_
  rw [show inR lo hi n = (decide (n ≥ lo) && decide (n ≤ hi)) from rfl]
  generalize decide (n ≥ lo) = c
  cases c
  all_goals repeat first
    | refine Runs.seq ?_
    | refine Runs.reg ?_
    | refine OpsR.op rfl ?_
    | refine OpsR.nil ?_
    | refine Runs.ret ?_
    | refine OpsR.opT rfl rfl ?_
    | refine OpsR.opF rfl ?_
  all_goals exact ⟨(fun i h => by cases h), _, rfl, rfl, rfl⟩

theorem l68 (hp : E.prim 52 = none) (hf : E.funcs 52 = some c52) {v : V} {l : List Int} (hl : L1 E v l) (lo hi : Int) (H : Hp) {Q : Out → Regs → Hp → Prop} : ∀ (k i : Nat), l.length - i = k → i ≤ l.length →
    ((l.drop i).all (inR lo hi) = true → ∀ r, Q (.exit 0) r H) → ((l.drop i).all (inR lo hi) = false → ∀ r, look r 6 = some (.bool false) → Q .ret r H) →
    ∀ r, restrict r [0, 1, 2, 7] = [(0, v), (1, .int .i64 lo), (2, .int .i64 hi), (7, .int .i64 i)] → Runs E none w68_0 r H Q := by
  have hlen := hl.1
  intro k
  induction k with
  | zero =>
    intro i hk hil h1 h2 r hr
    refine Runs.loop ?_
    rw [hr]
    refine Runs.seq (Runs.seq (Runs.reg ?_))
    refine OpsR.op rfl (OpsR.op rfl (OpsR.op (step_lenS rfl hl.len) (OpsR.op rfl (OpsR.nil ?_))))
    refine Runs.condF rfl (by simp; omega) (Runs.exit ?_)
    exact h1 (by rw [List.drop_eq_nil_of_le (by omega)]; rfl) _
  | succ k ih =>
    intro i hk hil h1 h2 r hr
    have hlt : i < l.length := by omega
    have hx : l[i]? = some l[i] := List.getElem?_eq_getElem hlt
    have hdrop : l.drop i = l[i] :: l.drop (i + 1) := List.drop_eq_getElem_cons hlt
    rw [hdrop, List.all_cons] at h1 h2
    obtain ⟨b, o, cap, hv, hc⟩ := hl.at hx
    refine Runs.loop ?_
    rw [hr]
    refine Runs.seq (Runs.seq (Runs.reg ?_))
    refine OpsR.op rfl (OpsR.op rfl (OpsR.op (step_lenS rfl hl.len) (OpsR.op rfl (OpsR.nil ?_))))
    refine Runs.condT rfl (by simp; omega) (Runs.skip ?_)
    subst hv
    refine Runs.seq (Runs.block (Runs.seq (Runs.reg ?_)))
    refine OpsR.op rfl (OpsR.op rfl (OpsR.op (step_ixS rfl rfl hlt) (OpsR.op (step_ld1 rfl hc) (OpsR.op rfl (OpsR.op rfl ?_)))))
    refine OpsR.call rfl rfl (ValR.fn (CallR.mono (s52 hp hf _ _ _ _) ?_))
    rintro _ _ ⟨rfl, rfl⟩
    refine OpsR.op rfl (OpsR.nil ?_)
    cases hb : inR lo hi l[i] with
    | false =>
      refine Runs.condT rfl (by simp) (Runs.seq (Runs.reg (OpsR.op rfl (OpsR.nil (Runs.ret ?_)))))
      exact h2 (by rw [hb]; rfl) _ rfl
    | true =>
      refine Runs.condF rfl (by simp) (Runs.skip (Runs.reg ?_))
      refine OpsR.op rfl (OpsR.op rfl (OpsR.op rfl (OpsR.nil ?_)))
      rw [hb] at h1 h2
      have hw : IntKind.i64.wrap ((i : Int) + 1) = ((i + 1 : Nat) : Int) := idx_succ hlt hlen
      refine ih (i + 1) (by omega) (by omega) (fun h => h1 (by simpa using h)) (fun h => h2 (by simpa using h)) _ ?_
      show [(0, _), (1, _), (2, _), (7, V.int .i64 (IntKind.i64.wrap ((i : Int) + 1)))] = _
      rw [hw]

theorem s47 (hp : E.prim 47 = none) (hf : E.funcs 47 = some c47) (n lo hi : Int) (H : Hp) : CallR E 47 [.int .i64 n, .int .i64 lo, .int .i64 hi] H (fun v H' => v = .bool (inR lo hi n) ∧ H' = H) := by
  refine CallR.of hp hf rfl ?_
  repeat first
    | refine Runs.seq ?_
    | refine Runs.reg ?_
    | refine OpsR.op rfl ?_
    | refine OpsR.nil ?_
    | refine Runs.ret ?_
    | refine OpsR.opT rfl rfl ?_
    | refine OpsR.opF rfl ?_
  rw [show inR lo hi n = (decide (n ≥ lo) && decide (n ≤ hi)) from rfl]
  generalize decide (n ≥ lo) = c
  cases c
  all_goals repeat first
    | refine Runs.seq ?_
    | refine Runs.reg ?_
    | refine OpsR.op rfl ?_
    | refine OpsR.nil ?_
    | refine Runs.ret ?_
    | refine OpsR.opT rfl rfl ?_
    | refine OpsR.opF rfl ?_
  all_goals exact ⟨(fun i h => by cases h), _, rfl, rfl, rfl⟩

theorem s68 (hp : ∀ f, f ≠ 12 → E.prim f = none) (h68 : E.funcs 68 = some c68) (h52 : E.funcs 52 = some c52) {v : V} {l : List Int} (hl : L1 E v l) (lo hi : Int) (H : Hp) : CallR E 68 [v, .int .i64 lo, .int .i64 hi] H (fun u H' => u = .bool (l.all (inR lo hi)) ∧ H' = H) := by
  refine CallR.of (hp 68 (by decide)) h68 rfl ?_
  refine Runs.seq (Runs.reg (OpsR.op rfl (OpsR.nil (Runs.seq (Runs.seq (Runs.reg (OpsR.op rfl (OpsR.nil (Runs.block ?_)))))))))
  refine l68 (hp 52 (by decide)) h52 hl lo hi H _ 0 rfl (Nat.zero_le _) (fun h r => ?_) (fun h r hr => ?_) _ rfl
  · refine Runs.seq (Runs.reg (OpsR.op rfl (OpsR.nil (Runs.ret ?_))))
    exact ⟨(fun i h => by cases h), _, rfl, by rw [List.drop_zero] at h; rw [h]; rfl, rfl⟩
  · exact ⟨(fun i h => by cases h), [.bool false], by simp [results, result, hr], by rw [List.drop_zero] at h; rw [h]; rfl, rfl⟩

theorem s154 (h : E.prim 154 = none) (hf : E.funcs 154 = some c154) {α : Type} {R : V → α → Prop} {v fv : V} {l : List α} (hl : SeqC 1 (ValC E R) v l) (p : α → Bool) (H : Hp)
    (hp : ∀ (x : α) (u : V) (H1 : Hp), x ∈ l → R u x → Ext H H1 → ValR E fv [u] H1 (fun w H2 => w = .bool (p x) ∧ Ext H1 H2)) :
    CallR E 154 [v, fv] H (fun w H' => (∃ m : Int, w = .int .i64 m ∧ decide (m ≥ 0) = l.any p) ∧ Ext H H') := by
  refine CallR.of h hf rfl ?_
  have hlen := hl.1
  refine Runs.seq (Runs.reg (OpsR.op rfl (OpsR.nil ?_)))
  refine Runs.seq (Runs.seq (Runs.reg (OpsR.op rfl (OpsR.op (step_lenS rfl hl.len) (OpsR.op rfl (OpsR.nil (Runs.block ?_)))))))
  refine Runs.loopS (σ := Nat) (fun i => [(0, v), (1, fv), (7, .int .i64 l.length), (8, .int .i64 i)]) (fun i H' => i ≤ l.length ∧ Ext H H' ∧ (l.take i).any p = false) (fun i => l.length - i) ?_ 0 _ _ rfl ⟨Nat.zero_le _, Ext.refl _, rfl⟩
  rintro i H1 ⟨hi, hX, hno⟩
  refine Runs.seq (Runs.reg (OpsR.op rfl (OpsR.nil ?_)))
  by_cases hlt : i < l.length
  · have hx : l[i]? = some l[i] := List.getElem?_eq_getElem hlt
    obtain ⟨b, o, cap, rfl, x, hc, hr⟩ := hl.at hx
    refine Runs.seq (Runs.condT rfl (by simp; omega) (Runs.skip ?_))
    refine Runs.seq (Runs.block (Runs.seq (Runs.reg (OpsR.op rfl (OpsR.op rfl (OpsR.nil ?_))))))
    refine Runs.seq (Runs.reg (OpsR.op rfl (OpsR.op rfl (OpsR.op rfl (OpsR.op (step_ixS rfl rfl hlt) (OpsR.op (step_ld1 rfl hc) ?_))))))
    refine OpsR.call rfl rfl (ValR.mono (hp l[i] x H1 (List.getElem_mem hlt) hr hX) ?_)
    rintro _ H2 ⟨rfl, hX2⟩
    refine OpsR.nil ?_
    have hXX := hX.trans hX2
    have htk : (l.take (i + 1)).any p = p l[i] := by rw [List.take_add_one, hx, List.any_append, hno]; simp
    cases hb : p l[i] with
    | true =>
      refine Runs.condT rfl rfl (Runs.seq (Runs.reg (OpsR.op rfl (OpsR.op rfl (OpsR.nil (Runs.ret ?_))))))
      exact ⟨(fun i h => by cases h), _, rfl, ⟨_, rfl, by rw [List.any_eq_true.2 ⟨l[i], List.getElem_mem hlt, hb⟩]; simp⟩, hXX⟩
    | false =>
      refine Runs.condF rfl rfl (Runs.skip (Runs.reg (OpsR.op rfl (OpsR.op rfl (OpsR.nil ?_)))))
      refine ⟨i + 1, Nat.sub_lt_sub_left hlt (Nat.lt_succ_self i), ?_, by omega, hXX, by rw [htk, hb]⟩
      show [(0, _), (1, _), (7, _), (8, V.int .i64 (IntKind.i64.wrap ((i : Int) + 1)))] = _
      rw [idx_succ hlt hlen]
  · refine Runs.seq (Runs.condF rfl (by simp; omega) (Runs.exit ?_))
    refine Runs.seq (Runs.reg (OpsR.op rfl (OpsR.nil (Runs.ret ?_))))
    rw [show l.take i = l from List.take_of_length_le (by omega)] at hno
    exact ⟨(fun i h => by cases h), _, rfl, ⟨_, rfl, by rw [hno]; rfl⟩, hX⟩

theorem s105 (h : E.prim 105 = none) (hf : E.funcs 105 = some c105) (h' : E.prim 154 = none) (hf' : E.funcs 154 = some c154) {α : Type} {R : V → α → Prop} {v fv : V} {l : List α} (hl : SeqC 1 (ValC E R) v l) (p : α → Bool) (H : Hp)
    (hp : ∀ (x : α) (u : V) (H1 : Hp), x ∈ l → R u x → Ext H H1 → ValR E fv [u] H1 (fun w H2 => w = .bool (p x) ∧ Ext H1 H2)) :
    CallR E 105 [v, fv] H (fun w H' => w = .bool (l.any p) ∧ Ext H H') := by
  refine CallR.of h hf rfl ?_
  refine Runs.seq (Runs.reg (OpsR.op rfl (OpsR.nil ?_)))
  refine Runs.seq (Runs.reg (OpsR.op rfl (OpsR.op rfl (OpsR.call rfl rfl (ValR.fn (CallR.mono (s154 h' hf' hl p H hp) ?_))))))
  rintro _ H' ⟨⟨m, rfl, hm⟩, hX⟩
  refine OpsR.op rfl (OpsR.op rfl (OpsR.nil (Runs.ret ?_)))
  exact ⟨(fun i h => by cases h), _, rfl, by rw [← hm]; rfl, hX⟩

theorem s151 (h : E.prim 151 = none) (hf : E.funcs 151 = some c151) {α : Type} {R : V → α → Prop} {v fv : V} {l : List α} (hl : SeqC 1 (ValC E R) v l) (p : α → Bool) (H : Hp)
    (hp : ∀ (x : α) (u : V) (H1 : Hp), x ∈ l → R u x → Ext H H1 → ValR E fv [u] H1 (fun w H2 => w = .bool (p x) ∧ Ext H1 H2)) :
    CallR E 151 [v, fv] H (fun w H' => (∃ m : Int, w = .int .i64 m ∧ decide (m ≥ 0) = l.any p) ∧ Ext H H') := by
  refine CallR.of h hf rfl ?_
  have hlen := hl.1
  refine Runs.seq (Runs.reg (OpsR.op rfl (OpsR.nil ?_)))
  refine Runs.seq (Runs.seq (Runs.reg (OpsR.op rfl (OpsR.op (step_lenS rfl hl.len) (OpsR.op rfl (OpsR.nil (Runs.block ?_)))))))
  refine Runs.loopS (σ := Nat) (fun i => [(0, v), (1, fv), (7, .int .i64 l.length), (8, .int .i64 i)]) (fun i H' => i ≤ l.length ∧ Ext H H' ∧ (l.take i).any p = false) (fun i => l.length - i) ?_ 0 _ _ rfl ⟨Nat.zero_le _, Ext.refl _, rfl⟩
  rintro i H1 ⟨hi, hX, hno⟩
  refine Runs.seq (Runs.reg (OpsR.op rfl (OpsR.nil ?_)))
  by_cases hlt : i < l.length
  · have hx : l[i]? = some l[i] := List.getElem?_eq_getElem hlt
    obtain ⟨b, o, cap, rfl, x, hc, hr⟩ := hl.at hx
    refine Runs.seq (Runs.condT rfl (by simp; omega) (Runs.skip ?_))
    refine Runs.seq (Runs.block (Runs.seq (Runs.reg (OpsR.op rfl (OpsR.op rfl (OpsR.nil ?_))))))
    refine Runs.seq (Runs.reg (OpsR.op rfl (OpsR.op rfl (OpsR.op rfl (OpsR.op (step_ixS rfl rfl hlt) (OpsR.op (step_ld1 rfl hc) ?_))))))
    refine OpsR.call rfl rfl (ValR.mono (hp l[i] x H1 (List.getElem_mem hlt) hr hX) ?_)
    rintro _ H2 ⟨rfl, hX2⟩
    refine OpsR.nil ?_
    have hXX := hX.trans hX2
    have htk : (l.take (i + 1)).any p = p l[i] := by rw [List.take_add_one, hx, List.any_append, hno]; simp
    cases hb : p l[i] with
    | true =>
      refine Runs.condT rfl rfl (Runs.seq (Runs.reg (OpsR.op rfl (OpsR.op rfl (OpsR.nil (Runs.ret ?_))))))
      exact ⟨(fun i h => by cases h), _, rfl, ⟨_, rfl, by rw [List.any_eq_true.2 ⟨l[i], List.getElem_mem hlt, hb⟩]; simp⟩, hXX⟩
    | false =>
      refine Runs.condF rfl rfl (Runs.skip (Runs.reg (OpsR.op rfl (OpsR.op rfl (OpsR.nil ?_)))))
      refine ⟨i + 1, Nat.sub_lt_sub_left hlt (Nat.lt_succ_self i), ?_, by omega, hXX, by rw [htk, hb]⟩
      show [(0, _), (1, _), (7, _), (8, V.int .i64 (IntKind.i64.wrap ((i : Int) + 1)))] = _
      rw [idx_succ hlt hlen]
  · refine Runs.seq (Runs.condF rfl (by simp; omega) (Runs.exit ?_))
    refine Runs.seq (Runs.reg (OpsR.op rfl (OpsR.nil (Runs.ret ?_))))
    rw [show l.take i = l from List.take_of_length_le (by omega)] at hno
    exact ⟨(fun i h => by cases h), _, rfl, ⟨_, rfl, by rw [hno]; rfl⟩, hX⟩

theorem s95 (h : E.prim 95 = none) (hf : E.funcs 95 = some c95) (h' : E.prim 151 = none) (hf' : E.funcs 151 = some c151) {α : Type} {R : V → α → Prop} {v fv : V} {l : List α} (hl : SeqC 1 (ValC E R) v l) (p : α → Bool) (H : Hp)
    (hp : ∀ (x : α) (u : V) (H1 : Hp), x ∈ l → R u x → Ext H H1 → ValR E fv [u] H1 (fun w H2 => w = .bool (p x) ∧ Ext H1 H2)) :
    CallR E 95 [v, fv] H (fun w H' => w = .bool (l.any p) ∧ Ext H H') := by
  refine CallR.of h hf rfl ?_
  refine Runs.seq (Runs.reg (OpsR.op rfl (OpsR.nil ?_)))
  refine Runs.seq (Runs.reg (OpsR.op rfl (OpsR.op rfl (OpsR.call rfl rfl (ValR.fn (CallR.mono (s151 h' hf' hl p H hp) ?_))))))
  rintro _ H' ⟨⟨m, rfl, hm⟩, hX⟩
  refine OpsR.op rfl (OpsR.op rfl (OpsR.nil (Runs.ret ?_)))
  exact ⟨(fun i h => by cases h), _, rfl, by rw [← hm]; rfl, hX⟩

theorem s106 (h : ∀ f, f ≠ 12 → E.prim f = none) (hf : E.funcs 106 = some c106) (hf47 : E.funcs 47 = some c47) {x lo hi : Int} {pl ph : Nat} {H : Hp} (hl : At H pl (.cells [.int .i64 lo])) (hh : At H ph (.cells [.int .i64 hi])) :
    CallR E 106 [.int .i64 x, .ptr pl 0, .ptr ph 0] H (fun w H' => w = .bool (!inR lo hi x) ∧ H' = H) := by
  refine CallR.of (h 106 (by decide)) hf rfl ?_
  refine Runs.seq (Runs.reg (OpsR.op rfl (OpsR.nil ?_)))
  refine Runs.seq (Runs.reg (OpsR.op rfl (OpsR.op (step_ld1 rfl (hl.ld1.trans rfl)) (OpsR.op (step_ld1 rfl (hh.ld1.trans rfl)) (OpsR.call rfl rfl (ValR.fn (CallR.mono (s47 (h 47 (by decide)) hf47 _ _ _ _) ?_)))))))
  rintro _ _ ⟨rfl, rfl⟩
  refine OpsR.op rfl (OpsR.op rfl (OpsR.nil (Runs.ret ?_)))
  exact ⟨(fun i h => by cases h), _, rfl, rfl, rfl⟩

theorem L1.val {v : V} {l : List Int} (h : L1 E v l) : SeqC 1 (ValC E (fun u n => u = .int .i64 n)) v l :=
  ⟨h.1, h.2.imp id fun ⟨b, o, cap, h1, h2⟩ => ⟨b, o, cap, h1, fun i x hx => ⟨_, h2 i x hx, rfl⟩⟩⟩

structure Fs64 (E : Env) : Prop where
  prim : ∀ f, f ≠ 12 → E.prim f = none
  f47 : E.funcs 47 = some c47
  f64 : E.funcs 64 = some c64
  f105 : E.funcs 105 = some c105
  f106 : E.funcs 106 = some c106
  f154 : E.funcs 154 = some c154

theorem s64 (F : Fs64 E) {v : V} {l : List Int} (hl : L1 E v l) (lo hi : Int) (H : Hp) : CallR E 64 [v, .int .i64 lo, .int .i64 hi] H (fun w H' => w = .bool (l.all (inR lo hi)) ∧ Ext H H') := by
  refine CallR.of (F.prim 64 (by decide)) F.f64 rfl ?_
  refine Runs.seq (Runs.reg (OpsR.op rfl (OpsR.op rfl (OpsR.op rfl (OpsR.nil ?_)))))
  have hA := At.new H (.cells [.int .i64 lo])
  have hX1 := Ext.new H (.cells [.int .i64 lo])
  have hB := At.new (H.new (.cells [.int .i64 lo])) (.cells [.int .i64 hi])
  have hX2 := Ext.new (H.new (.cells [.int .i64 lo])) (.cells [.int .i64 hi])
  have hA2 := hX2.at hA
  refine Runs.seq (Runs.reg (OpsR.op rfl (OpsR.op rfl (OpsR.call rfl rfl (ValR.fn (CallR.mono (s105 (F.prim 105 (by decide)) F.f105 (F.prim 154 (by decide)) F.f154 (L1.val hl) (fun x => !inR lo hi x) _ ?_) ?_))))))
  · rintro x u H1 _ rfl hX
    refine ValR.fn (CallR.mono (s106 F.prim F.f106 F.f47 (hX.at hA2) (hX.at hB)) ?_)
    rintro _ _ ⟨rfl, rfl⟩
    exact ⟨rfl, Ext.refl _⟩
  · rintro _ H' ⟨rfl, hX⟩
    refine OpsR.op rfl (OpsR.op rfl (OpsR.nil (Runs.ret ?_)))
    refine ⟨(fun i h => by cases h), _, rfl, ?_, (hX1.trans hX2).trans hX⟩
    show V.bool (!(l.any fun x => !inR lo hi x)) = _
    rw [List.not_any_eq_all_not]
    simp
end Go.Vm.Code

namespace Go.Vm.Code
open Go.Vm
variable {E : Env}

structure Stp where
  r : Int
  p : Int
  h0 : Int
  h1 : Int
  h2 : Int
  h3 : Int
  h4 : Int
  t : Int

structure Mach where
  n : Int
  r : Int
  ins : Int
  outs : Int
  fst : List (List Int)
  sy : List (List (List (List Int)))
  st : List Stp
  out : List (List (List Int))

def Stp.cells (s : Stp) : List Int := [s.r, s.p, s.h0, s.h1, s.h2, s.h3, s.h4, s.t]
def StepC (E : Env) (b off : Nat) (s : Stp) : Prop := ∀ (j : Nat) (n : Int), s.cells[j]? = some n → E.ext b (off + j) = some (.int .i64 n)

/-- the cells of a machine -/
structure MachV (E : Env) (f sy st o : V) (m : Mach) : Prop where
  f : L2 E f m.fst
  sy : L4 E sy m.sy
  st : SeqC 8 (StepC E) st m.st
  o : L3 E o m.out
def mcells (f sy st o : V) (m : Mach) : List V := [.int .i64 m.n, .int .i64 m.r, .int .i64 m.ins, .int .i64 m.outs, f, sy, st, o]

/-- the lists have the right lengths -/
structure Shp (m : Mach) : Prop where
  f : (m.fst.length : Int) = m.n
  o : (m.out.length : Int) = m.r + 1
  s : (m.sy.length : Int) = m.r
  fi : ∀ l ∈ m.fst, (l.length : Int) = m.ins
  oi : ∀ l ∈ m.out, (l.length : Int) = m.n
  si : ∀ (k : Nat) s, m.sy[k]? = some s → (s.length : Int) = m.n ∧ ∀ (p : Nat) rc, s[p]? = some rc → (rc.length : Int) = m.n ∧ ∀ (q : Nat) l, rc[q]? = some l → l.length = if p = q then 0 else ((m.out.getD k []).getD p []).length

def BoolR (P : Prop) (w : V) : Prop := ∃ b, w = .bool b ∧ (b = true ↔ P)
theorem BoolR.f {P : Prop} (h : ¬ P) : BoolR P (.bool false) := ⟨false, rfl, by simp [h]⟩
theorem BoolR.t {P : Prop} (h : P) : BoolR P (.bool true) := ⟨true, rfl, by simp [h]⟩

theorem s48 (h : E.prim 48 = none) (hf : E.funcs 48 = some c48) {f sy st o : V} {m : Mach} (hm : MachV E f sy st o m) (hr : 0 ≤ m.r ∧ m.r ≤ 6) (H : Hp) :
    CallR E 48 [.agg (mcells f sy st o m)] H (fun w H' => BoolR (Shp m) w ∧ Ext H H') := by
  refine CallR.of h hf rfl ?_
  refine Runs.seq (Runs.reg (OpsR.op rfl (OpsR.op rfl (OpsR.nil ?_))))
  have hA := At.new H (.cells (mcells f sy st o m))
  have hX := Ext.new H (.cells (mcells f sy st o m))
  generalize hH : H.new (.cells (mcells f sy st o m)) = H1 at hA hX
  have hH' : H.new (Ob.cells (V.cells (V.agg (mcells f sy st o m)))) = H1 := hH
  rw [hH']
  clear hH hH'
  refine Runs.seq (Runs.seq (Runs.reg (OpsR.op rfl (OpsR.op (step_ld1 rfl (hA.ld1.trans rfl)) (OpsR.op (step_lenS rfl hm.f.len) (OpsR.op rfl (OpsR.op (step_ld1 rfl (hA.ld1.trans rfl)) (OpsR.op rfl (OpsR.op rfl ?_)))))))))
  have hw : IntKind.i64.wrap (m.r + 1) = m.r + 1 := wrap_id (by omega) (by omega)
  have hret : ¬ Shp m → ∀ (r : Regs), look r 2 = some (.bool false) → (∀ i, Out.ret ≠ Out.exit i) ∧ ∃ vs, results E r H1 [.tmp 2] = some vs ∧ BoolR (Shp m) (retOf vs) ∧ Ext H H1 := fun hn r hr =>
    ⟨(fun i h => by cases h), [.bool false], by simp [results, result, hr], BoolR.f hn, hX⟩
  cases hb1 : ((m.fst.length : Int) != m.n) with
  | true =>
    repeat first
      | refine OpsR.opF rfl ?_
      | refine OpsR.op rfl ?_
    refine OpsR.nil (Runs.condT rfl rfl (Runs.seq (Runs.reg (OpsR.op rfl (OpsR.nil (Runs.ret ?_))))))
    exact hret (fun hs => by simp [hs.f] at hb1) _ rfl
  | false =>
    have hF : (m.fst.length : Int) = m.n := by simpa using hb1
    refine OpsR.opT rfl rfl (OpsR.opT rfl (step_ld1 rfl (hA.ld1.trans rfl)) (OpsR.opT rfl (step_lenS rfl hm.o.len) (OpsR.opT rfl rfl (OpsR.opT rfl (step_ld1 rfl (hA.ld1.trans rfl)) (OpsR.opT rfl rfl (OpsR.opT rfl rfl (OpsR.op rfl (OpsR.op rfl ?_))))))))
    have hadd : IntKind.i64.wrap (m.r + Int.ofNat 1) = m.r + 1 := hw
    rw [hadd]
    cases hb2 : ((m.out.length : Int) != m.r + 1) with
    | true =>
      repeat first
        | refine OpsR.opF rfl ?_
        | refine OpsR.op rfl ?_
      refine OpsR.nil (Runs.condT rfl rfl (Runs.seq (Runs.reg (OpsR.op rfl (OpsR.nil (Runs.ret ?_))))))
      exact hret (fun hs => by simp [hs.o] at hb2) _ rfl
    | false =>
      have hO : (m.out.length : Int) = m.r + 1 := by simpa using hb2
      refine OpsR.opT rfl rfl (OpsR.opT rfl (step_ld1 rfl (hA.ld1.trans rfl)) (OpsR.opT rfl (step_lenS rfl hm.sy.len) (OpsR.opT rfl rfl (OpsR.opT rfl (step_ld1 rfl (hA.ld1.trans rfl)) (OpsR.opT rfl rfl (OpsR.op rfl (OpsR.nil ?_)))))))
      cases hb3 : ((m.sy.length : Int) != m.r) with
      | true =>
        refine Runs.condT rfl rfl (Runs.seq (Runs.reg (OpsR.op rfl (OpsR.nil (Runs.ret ?_)))))
        exact hret (fun hs => by simp [hs.s] at hb3) _ rfl
      | false =>
        have hS : (m.sy.length : Int) = m.r := by simpa using hb3
        refine Runs.condF rfl rfl (Runs.skip ?_)
        refine Runs.seq (Runs.seq (Runs.reg (OpsR.op rfl (OpsR.op (step_ld1 rfl (hA.ld1.trans rfl)) (OpsR.op (step_lenS rfl hm.f.len) (OpsR.op rfl (OpsR.nil (Runs.block ?_))))))))
        have hlf := hm.f.1
        refine Runs.loopS (σ := Nat) (fun i => [(1, .ptr H.next 0), (38, f), (39, .int .i64 m.fst.length), (40, .int .i64 i)]) (fun i H' => i ≤ m.fst.length ∧ H' = H1 ∧ ∀ l ∈ m.fst.take i, (l.length : Int) = m.ins) (fun i => m.fst.length - i) ?_ 0 _ _ rfl ⟨Nat.zero_le _, rfl, by simp⟩
        rintro i H2 ⟨hi, rfl, hall⟩
        refine Runs.seq (Runs.reg (OpsR.op rfl (OpsR.nil ?_)))
        by_cases hlt : i < m.fst.length
        · have hx : m.fst[i]? = some m.fst[i] := List.getElem?_eq_getElem hlt
          obtain ⟨b, o', cap, rfl, x, hc, hx2⟩ := hm.f.at hx
          refine Runs.seq (Runs.condT rfl (by simp; omega) (Runs.skip ?_))
          refine Runs.seq (Runs.block (Runs.seq (Runs.reg (OpsR.op (step_ixS rfl rfl hlt) (OpsR.op (step_ld1 rfl hc) (OpsR.op rfl (OpsR.nil ?_)))))))
          refine Runs.seq (Runs.reg (OpsR.op rfl (OpsR.op (step_lenS rfl hx2.len) (OpsR.op rfl (OpsR.op (step_ld1 rfl (hA.ld1.trans rfl)) (OpsR.op rfl (OpsR.nil ?_)))))))
          cases hb : ((m.fst[i].length : Int) != m.ins) with
          | true =>
            refine Runs.condT rfl rfl (Runs.seq (Runs.reg (OpsR.op rfl (OpsR.nil (Runs.ret ?_)))))
            exact hret (fun hs => by simp [hs.fi _ (List.getElem_mem hlt)] at hb) _ rfl
          | false =>
            have hb' : (m.fst[i].length : Int) = m.ins := by simpa using hb
            refine Runs.condF rfl rfl (Runs.skip (Runs.reg (OpsR.op rfl (OpsR.op rfl (OpsR.nil ?_)))))
            refine ⟨i + 1, Nat.sub_lt_sub_left hlt (Nat.lt_succ_self i), ?_, by omega, rfl, ?_⟩
            · show [(1, _), (38, _), (39, _), (40, V.int .i64 (IntKind.i64.wrap ((i : Int) + 1)))] = _
              rw [idx_succ hlt hlf]
            · rw [List.take_add_one, hx]
              intro l hl
              rcases List.mem_append.1 hl with h | h
              · exact hall l h
              · simp at h; rw [h]; exact hb'
        · refine Runs.seq (Runs.condF rfl (by simp; omega) (Runs.exit ?_))
          rw [show m.fst.take i = m.fst from List.take_of_length_le (by omega)] at hall
          refine Runs.seq (Runs.seq (Runs.reg (OpsR.op rfl (OpsR.op (step_ld1 rfl (hA.ld1.trans rfl)) (OpsR.op (step_lenS rfl hm.o.len) (OpsR.op rfl (OpsR.nil (Runs.block ?_))))))))
          have hlo := hm.o.1
          refine Runs.loopS (σ := Nat) (fun i => [(1, .ptr H.next 0), (51, o), (52, .int .i64 m.out.length), (53, .int .i64 i)]) (fun i H' => i ≤ m.out.length ∧ H' = H2 ∧ ∀ l ∈ m.out.take i, (l.length : Int) = m.n) (fun i => m.out.length - i) ?_ 0 _ _ rfl ⟨Nat.zero_le _, rfl, by simp⟩
          clear hi hlt
          rintro i H3 ⟨hi, rfl, hall2⟩
          refine Runs.seq (Runs.reg (OpsR.op rfl (OpsR.nil ?_)))
          by_cases hlt : i < m.out.length
          · have hx : m.out[i]? = some m.out[i] := List.getElem?_eq_getElem hlt
            obtain ⟨b, o', cap, rfl, x, hc, hx2⟩ := hm.o.at hx
            refine Runs.seq (Runs.condT rfl (by simp; omega) (Runs.skip ?_))
            refine Runs.seq (Runs.block (Runs.seq (Runs.reg (OpsR.op (step_ixS rfl rfl hlt) (OpsR.op (step_ld1 rfl hc) (OpsR.op rfl (OpsR.nil ?_)))))))
            refine Runs.seq (Runs.reg (OpsR.op rfl (OpsR.op (step_lenS rfl hx2.len) (OpsR.op rfl (OpsR.op (step_ld1 rfl (hA.ld1.trans rfl)) (OpsR.op rfl (OpsR.nil ?_)))))))
            cases hb : ((m.out[i].length : Int) != m.n) with
            | true =>
              refine Runs.condT rfl rfl (Runs.seq (Runs.reg (OpsR.op rfl (OpsR.nil (Runs.ret ?_)))))
              exact hret (fun hs => by simp [hs.oi _ (List.getElem_mem hlt)] at hb) _ rfl
            | false =>
              have hb' : (m.out[i].length : Int) = m.n := by simpa using hb
              refine Runs.condF rfl rfl (Runs.skip (Runs.reg (OpsR.op rfl (OpsR.op rfl (OpsR.nil ?_)))))
              refine ⟨i + 1, Nat.sub_lt_sub_left hlt (Nat.lt_succ_self i), ?_, by omega, rfl, ?_⟩
              · show [(1, _), (51, _), (52, _), (53, V.int .i64 (IntKind.i64.wrap ((i : Int) + 1)))] = _
                rw [idx_succ hlt hlo]
              · rw [List.take_add_one, hx]
                intro l hl
                rcases List.mem_append.1 hl with h | h
                · exact hall2 l h
                · simp at h; rw [h]; exact hb'
          · refine Runs.seq (Runs.condF rfl (by simp; omega) (Runs.exit ?_))
            rw [show m.out.take i = m.out from List.take_of_length_le (by omega)] at hall2
            clear hi hlt
            refine Runs.seq (Runs.seq (Runs.reg (OpsR.op rfl (OpsR.op (step_ld1 rfl (hA.ld1.trans rfl)) (OpsR.op (step_lenS rfl hm.sy.len) (OpsR.op rfl (OpsR.nil (Runs.block ?_))))))))
            have hls := hm.sy.1
            refine Runs.loopS (σ := Nat) (fun k => [(1, .ptr H.next 0), (64, sy), (65, .int .i64 m.sy.length), (66, .int .i64 k)])
              (fun k H' => k ≤ m.sy.length ∧ H' = H3 ∧ ∀ (k' : Nat) s, k' < k → m.sy[k']? = some s → (s.length : Int) = m.n ∧ ∀ (p : Nat) rc, s[p]? = some rc → (rc.length : Int) = m.n ∧ ∀ (q : Nat) l, rc[q]? = some l → l.length = if p = q then 0 else ((m.out.getD k' []).getD p []).length)
              (fun k => m.sy.length - k) ?_ 0 _ _ rfl ⟨Nat.zero_le _, rfl, fun k' s h => by omega⟩
            rintro k H4 ⟨hk, rfl, hk3⟩
            refine Runs.seq (Runs.reg (OpsR.op rfl (OpsR.nil ?_)))
            by_cases hltk : k < m.sy.length
            · have hxk : m.sy[k]? = some m.sy[k] := List.getElem?_eq_getElem hltk
              obtain ⟨b, o1, cap, rfl, x, hc, hx2⟩ := hm.sy.at hxk
              have hls2 := hx2.1
              refine Runs.seq (Runs.condT rfl (by simp; omega) (Runs.skip ?_))
              refine Runs.seq (Runs.block (Runs.seq (Runs.reg (OpsR.op rfl (OpsR.op (step_ixS rfl rfl hltk) (OpsR.op (step_ld1 rfl hc) (OpsR.op rfl (OpsR.op rfl (OpsR.nil ?_)))))))))
              refine Runs.seq (Runs.seq (Runs.reg (OpsR.op rfl (OpsR.op (step_lenS rfl hx2.len) (OpsR.op rfl (OpsR.op (step_ld1 rfl (hA.ld1.trans rfl)) (OpsR.op rfl (OpsR.nil ?_))))))))
              cases hb : ((m.sy[k].length : Int) != m.n) with
              | true =>
                refine Runs.condT rfl rfl (Runs.seq (Runs.reg (OpsR.op rfl (OpsR.nil (Runs.ret ?_)))))
                exact hret (fun hs => by simp [(hs.si k _ hxk).1] at hb) _ rfl
              | false =>
                have hbk : (m.sy[k].length : Int) = m.n := by simpa using hb
                refine Runs.condF rfl rfl (Runs.skip ?_)
                refine Runs.seq (Runs.reg (OpsR.op rfl (OpsR.op (step_lenS rfl hx2.len) (OpsR.op rfl (OpsR.nil (Runs.block ?_))))))
                have hko : k < m.out.length := by omega
                have hxo : m.out[k]? = some m.out[k] := List.getElem?_eq_getElem hko
                obtain ⟨bo, oo, capo, rfl, xo, hco, hxo2⟩ := hm.o.at hxo
                have hok : (m.out[k].length : Int) = m.n := hall2 _ (List.getElem_mem hko)
                have hgk : m.out.getD k [] = m.out[k] := by rw [List.getD_eq_getElem?_getD, hxo]; rfl
                refine Runs.loopS (σ := Nat) (fun p => [(1, .ptr H.next 0), (7, .int .i64 k), (64, .xslc b o1 m.sy.length cap), (65, .int .i64 m.sy.length), (66, .int .i64 k), (76, x), (77, .int .i64 m.sy[k].length), (78, .int .i64 p)])
                  (fun p H' => p ≤ m.sy[k].length ∧ H' = H4 ∧ ∀ (p' : Nat) rc, p' < p → m.sy[k][p']? = some rc → (rc.length : Int) = m.n ∧ ∀ (q : Nat) l, rc[q]? = some l → l.length = if p' = q then 0 else ((m.out.getD k []).getD p' []).length)
                  (fun p => m.sy[k].length - p) ?_ 0 _ _ rfl ⟨Nat.zero_le _, rfl, fun k' s h => by omega⟩
                rintro p H5 ⟨hp, rfl, hp3⟩
                refine Runs.seq (Runs.reg (OpsR.op rfl (OpsR.nil ?_)))
                by_cases hltp : p < m.sy[k].length
                · have hxp : m.sy[k][p]? = some m.sy[k][p] := List.getElem?_eq_getElem hltp
                  obtain ⟨b2, o2, cap2, rfl, y, hc2, hy2⟩ := hx2.at hxp
                  have hls3 := hy2.1
                  refine Runs.seq (Runs.condT rfl (by simp; omega) (Runs.skip ?_))
                  refine Runs.seq (Runs.block (Runs.seq (Runs.reg (OpsR.op rfl (OpsR.op (step_ixS rfl rfl hltp) (OpsR.op (step_ld1 rfl hc2) (OpsR.op rfl (OpsR.op rfl (OpsR.nil ?_)))))))))
                  refine Runs.seq (Runs.seq (Runs.reg (OpsR.op rfl (OpsR.op (step_lenS rfl hy2.len) (OpsR.op rfl (OpsR.op (step_ld1 rfl (hA.ld1.trans rfl)) (OpsR.op rfl (OpsR.nil ?_))))))))
                  cases hb : ((m.sy[k][p].length : Int) != m.n) with
                  | true =>
                    refine Runs.condT rfl rfl (Runs.seq (Runs.reg (OpsR.op rfl (OpsR.nil (Runs.ret ?_)))))
                    exact hret (fun hs => by simp [((hs.si k _ hxk).2 p _ hxp).1] at hb) _ rfl
                  | false =>
                    have hbp : (m.sy[k][p].length : Int) = m.n := by simpa using hb
                    refine Runs.condF rfl rfl (Runs.skip ?_)
                    refine Runs.seq (Runs.reg (OpsR.op rfl (OpsR.op (step_lenS rfl hy2.len) (OpsR.op rfl (OpsR.nil (Runs.block ?_))))))
                    have hpo : p < m.out[k].length := by omega
                    have hxpo : m.out[k][p]? = some m.out[k][p] := List.getElem?_eq_getElem hpo
                    obtain ⟨bp, op, capp, rfl, xp, hcp, hxp2⟩ := hxo2.at hxpo
                    have hgp : ((m.out.getD k []).getD p []).length = m.out[k][p].length := by rw [hgk, List.getD_eq_getElem?_getD, hxpo]; rfl
                    refine Runs.loopS (σ := Nat) (fun q => [(1, .ptr H.next 0), (7, .int .i64 k), (9, .int .i64 p), (64, .xslc b o1 m.sy.length cap), (65, .int .i64 m.sy.length), (66, .int .i64 k), (76, .xslc b2 o2 m.sy[k].length cap2), (77, .int .i64 m.sy[k].length), (78, .int .i64 p), (88, y), (89, .int .i64 m.sy[k][p].length), (90, .int .i64 q)])
                      (fun q H' => q ≤ m.sy[k][p].length ∧ H' = H5 ∧ ∀ (q' : Nat) l, q' < q → m.sy[k][p][q']? = some l → l.length = if p = q' then 0 else ((m.out.getD k []).getD p []).length)
                      (fun q => m.sy[k][p].length - q) ?_ 0 _ _ rfl ⟨Nat.zero_le _, rfl, fun k' s h => by omega⟩
                    rintro q H6 ⟨hq, rfl, hq3⟩
                    refine Runs.seq (Runs.reg (OpsR.op rfl (OpsR.nil ?_)))
                    by_cases hltq : q < m.sy[k][p].length
                    · have hxq : m.sy[k][p][q]? = some m.sy[k][p][q] := List.getElem?_eq_getElem hltq
                      obtain ⟨b3, o3, cap3, rfl, z, hc3, hz2⟩ := hy2.at hxq
                      refine Runs.seq (Runs.condT rfl (by simp; omega) (Runs.skip ?_))
                      refine Runs.seq (Runs.block (Runs.seq (Runs.reg (OpsR.op rfl (OpsR.op (step_ixS rfl rfl hltq) (OpsR.op (step_ld1 rfl hc3) (OpsR.op rfl (OpsR.op rfl (OpsR.nil ?_)))))))))
                      refine Runs.seq (Runs.reg (OpsR.op rfl (OpsR.op (step_ld1 rfl (hA.ld1.trans rfl)) (OpsR.op rfl (OpsR.op (step_ixS rfl rfl hko) (OpsR.op (step_ld1 rfl hco) (OpsR.op rfl (OpsR.op (step_ixS rfl rfl hpo) (OpsR.op (step_ld1 rfl hcp) (OpsR.op (step_lenS rfl hxp2.len) (OpsR.op rfl (OpsR.nil ?_))))))))))))
                      refine Runs.seq (Runs.seq (Runs.reg (OpsR.op rfl (OpsR.op rfl (OpsR.op rfl (OpsR.nil ?_))))))
                      cases hpq : ((p : Int) == (q : Int)) with
                      | true =>
                        have epq : p = q := by simp at hpq; omega
                        refine Runs.condT rfl rfl (Runs.reg (OpsR.op rfl (OpsR.nil ?_)))
                        refine Runs.seq (Runs.reg (OpsR.op rfl (OpsR.op (step_lenS rfl hz2.len) (OpsR.op rfl (OpsR.op rfl (OpsR.nil ?_))))))
                        cases hb : ((m.sy[k][p][q].length : Int) != Int.ofNat 0) with
                        | true =>
                          refine Runs.condT rfl rfl (Runs.seq (Runs.reg (OpsR.op rfl (OpsR.nil (Runs.ret ?_)))))
                          refine hret (fun hs => ?_) _ rfl
                          have := ((hs.si k _ hxk).2 p _ hxp).2 q _ hxq
                          rw [if_pos epq] at this
                          simp [this] at hb
                        | false =>
                          have hb' : m.sy[k][p][q].length = 0 := by
                            have h9 : (m.sy[k][p][q].length : Int) = ((0 : Nat) : Int) := bne_eq_false_iff_eq.1 hb
                            omega
                          refine Runs.condF rfl rfl (Runs.skip (Runs.reg (OpsR.op rfl (OpsR.op rfl (OpsR.nil ?_)))))
                          refine ⟨q + 1, Nat.sub_lt_sub_left hltq (Nat.lt_succ_self q), ?_, by omega, rfl, ?_⟩
                          · show [(1, _), (7, _), (9, _), (64, _), (65, _), (66, _), (76, _), (77, _), (78, _), (88, _), (89, _), (90, V.int .i64 (IntKind.i64.wrap ((q : Int) + 1)))] = _
                            rw [idx_succ hltq hls3]
                          · intro q' l hq' hl
                            by_cases e' : q' = q
                            · subst e'
                              rw [hxq] at hl; cases hl
                              rw [if_pos epq]; exact hb'
                            · exact hq3 q' l (by omega) hl
                      | false =>
                        have epq : ¬ p = q := by simp at hpq; omega
                        refine Runs.condF rfl rfl (Runs.skip ?_)
                        refine Runs.seq (Runs.reg (OpsR.op rfl (OpsR.op (step_lenS rfl hz2.len) (OpsR.op rfl (OpsR.op rfl (OpsR.nil ?_))))))
                        cases hb : ((m.sy[k][p][q].length : Int) != (m.out[k][p].length : Int)) with
                        | true =>
                          refine Runs.condT rfl rfl (Runs.seq (Runs.reg (OpsR.op rfl (OpsR.nil (Runs.ret ?_)))))
                          refine hret (fun hs => ?_) _ rfl
                          have := ((hs.si k _ hxk).2 p _ hxp).2 q _ hxq
                          rw [if_neg epq, hgp] at this
                          simp [this] at hb
                        | false =>
                          have hb' : m.sy[k][p][q].length = m.out[k][p].length := by simp at hb; omega
                          refine Runs.condF rfl rfl (Runs.skip (Runs.reg (OpsR.op rfl (OpsR.op rfl (OpsR.nil ?_)))))
                          refine ⟨q + 1, Nat.sub_lt_sub_left hltq (Nat.lt_succ_self q), ?_, by omega, rfl, ?_⟩
                          · show [(1, _), (7, _), (9, _), (64, _), (65, _), (66, _), (76, _), (77, _), (78, _), (88, _), (89, _), (90, V.int .i64 (IntKind.i64.wrap ((q : Int) + 1)))] = _
                            rw [idx_succ hltq hls3]
                          · intro q' l hq' hl
                            by_cases e' : q' = q
                            · subst e'
                              rw [hxq] at hl; cases hl
                              rw [if_neg epq, hgp]; exact hb'
                            · exact hq3 q' l (by omega) hl
                    · refine Runs.seq (Runs.condF rfl (by simp; omega) (Runs.exit ?_))
                      refine Runs.reg (OpsR.op rfl (OpsR.op rfl (OpsR.nil ?_)))
                      refine ⟨p + 1, Nat.sub_lt_sub_left hltp (Nat.lt_succ_self p), ?_, by omega, rfl, ?_⟩
                      · show [(1, _), (7, _), (64, _), (65, _), (66, _), (76, _), (77, _), (78, V.int .i64 (IntKind.i64.wrap ((p : Int) + 1)))] = _
                        rw [idx_succ hltp hls2]
                      · intro p' rc hp' hrc
                        by_cases e : p' = p
                        · subst e
                          rw [hxp] at hrc; cases hrc
                          exact ⟨hbp, fun q' l hl => hq3 q' l (by have := (List.getElem?_eq_some_iff.1 hl).1; omega) hl⟩
                        · exact hp3 p' rc (by omega) hrc
                · refine Runs.seq (Runs.condF rfl (by simp; omega) (Runs.exit ?_))
                  refine Runs.reg (OpsR.op rfl (OpsR.op rfl (OpsR.nil ?_)))
                  refine ⟨k + 1, Nat.sub_lt_sub_left hltk (Nat.lt_succ_self k), ?_, by omega, rfl, ?_⟩
                  · show [(1, _), (64, _), (65, _), (66, V.int .i64 (IntKind.i64.wrap ((k : Int) + 1)))] = _
                    rw [idx_succ hltk hls]
                  · intro k' s hk' hs
                    by_cases e : k' = k
                    · subst e
                      rw [hxk] at hs; cases hs
                      exact ⟨hbk, fun p' rc hrc => hp3 p' rc (by have := (List.getElem?_eq_some_iff.1 hrc).1; omega) hrc⟩
                    · exact hk3 k' s (by omega) hs
            · refine Runs.seq (Runs.condF rfl (by simp; omega) (Runs.exit ?_))
              refine Runs.seq (Runs.reg (OpsR.op rfl (OpsR.nil (Runs.ret ?_))))
              exact ⟨(fun i h => by cases h), _, rfl, BoolR.t ⟨hF, hO, hS, hall, hall2, fun k' s hs => hk3 k' s (by have := (List.getElem?_eq_some_iff.1 hs).1; omega) hs⟩, hX⟩
end Go.Vm.Code

namespace Go.Vm.Code
open Go.Vm
variable {E : Env}
theorem r53_4 {Q : Out → Regs → Hp → Prop} {H : Hp} {pb k p q lk lp lq ok op b o1 c b2 o2 c2 b3 o3 c3 bo oo co bp opp cp lz lo : Nat} {n0 n1 n2 n3 f st z y : V} {a94 a95 a96 a97 : V}
    (hA : At H pb (.cells [n0, n1, n2, n3, f, .xslc b o1 lk c, st, .xslc bo oo ok co])) (hltk : k < lk) (hc : E.ext b (o1 + k * 1) = some (.xslc b2 o2 lp c2)) (hltp : p < lp) (hc2 : E.ext b2 (o2 + p * 1) = some (.xslc b3 o3 lq c3))
    (hltq : q < lq) (hc3 : E.ext b3 (o3 + q * 1) = some z) (hz : lenOf z = some lz) (hko : k < ok) (hco : E.ext bo (oo + k * 1) = some (.xslc bp opp op cp)) (hpo : p < op) (hcp : E.ext bp (opp + p * 1) = some y) (hxp : lenOf y = some lo)
    (h : ∀ r, look r 146 = some (.bool (decide (lz ≠ if p = q then 0 else lo))) → restrict r [1, 5, 6, 7] = [(1, .ptr pb 0), (5, .int .i64 k), (6, .int .i64 p), (7, .int .i64 q)] → Q .normal r H) :
    Runs E none v53_4 [(97, a97), (96, a96), (95, a95), (94, a94), (1, .ptr pb 0), (5, .int .i64 k), (6, .int .i64 p), (7, .int .i64 q)] H Q := by
  refine Runs.dreg ?_
  refine DrR.op rfl (Nat.le_refl _) (DrR.op rfl (Nat.le_refl _) (DrR.op rfl (Nat.le_refl _) (DrR.op rfl (Nat.le_refl _) ?_)))
  cases hpq : ((p : Int) == (q : Int)) with
  | true =>
    have epq : p = q := by simp at hpq; omega
    have hne0 : ((p : Int) != (q : Int)) = false := by rw [bne, hpq]; rfl
    refine DrR.opT rfl rfl (Nat.le_refl _) (DrR.opT rfl (step_ld1 rfl (hA.ld1.trans rfl)) (Nat.le_refl _) (DrR.opT rfl rfl (Nat.le_refl _) (DrR.opT rfl (step_ixS rfl rfl hltk) (Nat.le_refl _) (DrR.opT rfl (step_ld1 rfl hc) (Nat.le_refl _) (DrR.opT rfl rfl (Nat.le_refl _) (DrR.opT rfl (step_ixS rfl rfl hltp) (Nat.le_refl _) (DrR.opT rfl (step_ld1 rfl hc2) (Nat.le_refl _) (DrR.opT rfl rfl (Nat.le_refl _) (DrR.opT rfl (step_ixS rfl rfl hltq) (Nat.le_refl _) (DrR.opT rfl (step_ld1 rfl hc3) (Nat.le_refl _) (DrR.opT rfl (step_lenS rfl hz) (Nat.le_refl _) (DrR.opT rfl rfl (Nat.le_refl _) (DrR.op rfl (Nat.le_refl _) (DrR.op rfl (Nat.le_refl _) ?_))))))))))))))
    cases hb : decide ((lz : Int) > Int.ofNat 0) with
    | true =>
      repeat first
        | refine DrR.opF rfl ?_
        | refine DrR.op rfl (Nat.le_refl _) ?_
      refine DrR.nil (h _ ?_ rfl)
      have h9 := of_decide_eq_true hb
      have h8 : (lz : Int) > 0 := h9
      rw [if_pos epq, show decide (lz ≠ 0) = true from by simp; omega]; rfl
    | false =>
      refine DrR.opT rfl rfl (Nat.le_refl _) (DrR.opT rfl rfl (Nat.le_refl _) (DrR.opT rfl rfl (Nat.le_refl _) ?_))
      rw [hne0]
      refine DrR.opT rfl rfl (Nat.le_refl _) ?_
      iterate 22 refine DrR.opF rfl ?_
      refine DrR.opT rfl rfl (Nat.le_refl _) (DrR.op rfl (Nat.le_refl _) (DrR.nil (h _ ?_ rfl)))
      have h9 := of_decide_eq_false hb
      have h8 : ¬ ((lz : Int) > 0) := h9
      rw [if_pos epq, show decide (lz ≠ 0) = false from by simp; omega]; rfl
  | false =>
    have epq : ¬ p = q := by simp at hpq; omega
    have hne : ((p : Int) != (q : Int)) = true := by rw [bne, hpq]; rfl
    iterate 13 refine DrR.opF rfl ?_
    refine DrR.op rfl (Nat.le_refl _) (DrR.op rfl (Nat.le_refl _) (DrR.opT rfl rfl (Nat.le_refl _) (DrR.opT rfl rfl (Nat.le_refl _) (DrR.opT rfl rfl (Nat.le_refl _) ?_))))
    rw [hne]
    refine DrR.opT rfl rfl (Nat.le_refl _) ?_
    refine DrR.opT rfl rfl (Nat.le_refl _) (DrR.opT rfl (step_ld1 rfl (hA.ld1.trans rfl)) (Nat.le_refl _) (DrR.opT rfl rfl (Nat.le_refl _) (DrR.opT rfl (step_ixS rfl rfl hltk) (Nat.le_refl _) (DrR.opT rfl (step_ld1 rfl hc) (Nat.le_refl _) (DrR.opT rfl rfl (Nat.le_refl _) (DrR.opT rfl (step_ixS rfl rfl hltp) (Nat.le_refl _) (DrR.opT rfl (step_ld1 rfl hc2) (Nat.le_refl _) (DrR.opT rfl rfl (Nat.le_refl _) (DrR.opT rfl (step_ixS rfl rfl hltq) (Nat.le_refl _) (DrR.opT rfl (step_ld1 rfl hc3) (Nat.le_refl _) (DrR.opT rfl (step_lenS rfl hz) (Nat.le_refl _) (DrR.opT rfl rfl (Nat.le_refl _) (DrR.opT rfl (step_ld1 rfl (hA.ld1.trans rfl)) (Nat.le_refl _) (DrR.opT rfl rfl (Nat.le_refl _) (DrR.opT rfl (step_ixS rfl rfl hko) (Nat.le_refl _) (DrR.opT rfl (step_ld1 rfl hco) (Nat.le_refl _) (DrR.opT rfl rfl (Nat.le_refl _) (DrR.opT rfl (step_ixS rfl rfl hpo) (Nat.le_refl _) (DrR.opT rfl (step_ld1 rfl hcp) (Nat.le_refl _) (DrR.opT rfl (step_lenS rfl hxp) (Nat.le_refl _) (DrR.opT rfl rfl (Nat.le_refl _) (DrR.opT rfl rfl (Nat.le_refl _) (DrR.op rfl (Nat.le_refl _) (DrR.nil ?_))))))))))))))))))))))))
    refine h _ ?_ rfl
    rw [if_neg epq]
    show some (V.bool ((lz : Int) != (lo : Int))) = _
    congr 2
    rw [Bool.eq_iff_iff]; simp; omega

theorem l53_2 {Q : Out → Regs → Hp → Prop} {H : Hp} {m : Mach} {f sy st o : V} {pb k p : Nat} (hA : At H pb (.cells (mcells f sy st o m))) (hm : MachV E f sy st o m) (hltk : k < m.sy.length) (hltp : p < m.sy[k].length) (hko : k < m.out.length) (hpo : p < m.out[k].length)
    (hn : (m.sy[k][p].length : Int) = m.n)
    (hQ : (∀ (q : Nat) l, m.sy[k][p][q]? = some l → l.length = if p = q then 0 else m.out[k][p].length) → ∀ a b c d (q : Nat), Q (.exit 8) [(97, a), (96, b), (95, c), (94, d), (1, .ptr pb 0), (5, .int .i64 k), (6, .int .i64 p), (7, .int .i64 q)] H)
    (hF : (¬ ∀ (q : Nat) l, m.sy[k][p][q]? = some l → l.length = if p = q then 0 else m.out[k][p].length) → ∀ r, look r 2 = some (.bool false) → Q .ret r H) :
    ∀ r, restrict r [1, 5, 6, 7] = [(1, .ptr pb 0), (5, .int .i64 k), (6, .int .i64 p), (7, .int .i64 0)] → Runs E none w53_2 r H Q := by
  intro r hr
  obtain ⟨b, o1, cap, rfl, x, hc, hx2⟩ := hm.sy.at (List.getElem?_eq_getElem hltk)
  obtain ⟨b2, o2, cap2, rfl, y, hc2, hy2⟩ := hx2.at (List.getElem?_eq_getElem hltp)
  obtain ⟨bo, oo, capo, rfl, xo, hco, hxo2⟩ := hm.o.at (List.getElem?_eq_getElem hko)
  obtain ⟨bp, opp, capp, rfl, xp, hcp, hxp2⟩ := hxo2.at (List.getElem?_eq_getElem hpo)
  have hls3 := hy2.1
  refine Runs.loopS (σ := Nat) (fun q => [(1, .ptr pb 0), (5, .int .i64 k), (6, .int .i64 p), (7, .int .i64 q)])
    (fun q H' => q ≤ m.sy[k][p].length ∧ H' = H ∧ ∀ (q' : Nat) l, q' < q → m.sy[k][p][q']? = some l → l.length = if p = q' then 0 else m.out[k][p].length)
    (fun q => m.sy[k][p].length - q) ?_ 0 _ _ hr ⟨Nat.zero_le _, rfl, fun k' s h => by omega⟩
  rintro q H6 ⟨hq, rfl, hq3⟩
  refine Runs.seq (Runs.seq (Runs.reg (OpsR.op rfl (OpsR.op rfl (OpsR.op (step_ld1 rfl (hA.ld1.trans rfl)) (OpsR.op rfl (OpsR.nil ?_)))))))
  by_cases hltq : q < m.sy[k][p].length
  · have hxq : m.sy[k][p][q]? = some m.sy[k][p][q] := List.getElem?_eq_getElem hltq
    obtain ⟨b3, o3, cap3, rfl, z, hc3, hz2⟩ := hy2.at hxq
    refine Runs.condT rfl (by simp; omega) (Runs.skip ?_)
    refine Runs.seq (Runs.block (Runs.seq ?_))
    refine r53_4 hA hltk hc hltp hc2 hltq hc3 hz2.len hko hco hpo hcp hxp2.len (fun r' h1 h2 => ?_)
    cases hb : decide (m.sy[k][p][q].length ≠ if p = q then 0 else m.out[k][p].length) with
    | true =>
      rw [hb] at h1
      refine Runs.condT h1 rfl (Runs.seq (Runs.reg (OpsR.op rfl (OpsR.nil (Runs.ret ?_)))))
      exact hF (fun hall => absurd (hall q _ hxq) (of_decide_eq_true hb)) _ rfl
    | false =>
      rw [hb] at h1
      have hb' : m.sy[k][p][q].length = if p = q then 0 else m.out[k][p].length := Decidable.byContradiction (of_decide_eq_false hb)
      refine Runs.condF h1 rfl (Runs.skip ?_)
      have h7 : look r' 7 = some (.int .i64 q) := by rw [← look_restrict_mem (ks := [1, 5, 6, 7]) (by simp), h2]; rfl
      refine Runs.reg (OpsR.op (v := .int .i64 q) (H1 := H6) (by simp only [stepOp, AOp.kind, pureOp, ev, h7, Option.bind_some]) (OpsR.op rfl (OpsR.op rfl (OpsR.nil ?_))))
      have g : ∀ t ∈ [1, 5, 6, 7], look r' t = look [(1, .ptr pb 0), (5, .int .i64 k), (6, .int .i64 p), (7, .int .i64 q)] t := fun t ht => by rw [← h2, look_restrict_mem ht]
      have g1 : look r' 1 = some (.ptr pb 0) := (g 1 (by simp)).trans rfl
      have g5 : look r' 5 = some (.int .i64 k) := (g 5 (by simp)).trans rfl
      have g6 : look r' 6 = some (.int .i64 p) := (g 6 (by simp)).trans rfl
      refine ⟨q + 1, Nat.sub_lt_sub_left hltq (Nat.lt_succ_self q), ?_, by omega, rfl, ?_⟩
      · show restrict ((7, V.int .i64 (IntKind.i64.wrap ((q : Int) + 1))) :: (99, V.int .i64 (IntKind.i64.wrap ((q : Int) + 1))) :: (98, V.int .i64 q) :: r') [1, 5, 6, 7] = _
        rw [idx_succ hltq hls3]
        simp [restrict, look_cons, g1, g5, g6]
      · intro q' l hq' hl
        by_cases e' : q' = q
        · subst e'
          rw [hxq] at hl; cases hl
          exact hb'
        · exact hq3 q' l (by omega) hl
  · refine Runs.condF rfl (by simp; omega) (Runs.exit ?_)
    exact hQ (fun q' l hl => hq3 q' l (by have := (List.getElem?_eq_some_iff.1 hl).1; omega) hl) _ _ _ _ _
end Go.Vm.Code

namespace Go.Vm.Code
open Go.Vm
variable {E : Env}
/-- what is asked of the lists of one sender -/
def ShpP (m : Mach) (k p : Nat) (rc : List (List Int)) : Prop := (rc.length : Int) = m.n ∧ ∀ (q : Nat) l, rc[q]? = some l → l.length = if p = q then 0 else ((m.out.getD k []).getD p []).length
def ShpK (m : Mach) (k : Nat) (s : List (List (List Int))) : Prop := (s.length : Int) = m.n ∧ ∀ (p : Nat) rc, s[p]? = some rc → ShpP m k p rc

theorem l53_3 {Q : Out → Regs → Hp → Prop} {H : Hp} {m : Mach} {f sy st o : V} {pb k : Nat} (hA : At H pb (.cells (mcells f sy st o m))) (hm : MachV E f sy st o m) (hltk : k < m.sy.length) (hko : k < m.out.length)
    (hok : (m.out[k].length : Int) = m.n) (hn : (m.sy[k].length : Int) = m.n)
    (hQ : (∀ (p : Nat) rc, m.sy[k][p]? = some rc → ShpP m k p rc) → ∀ a b c d (p : Nat), Q (.exit 6) [(79, a), (78, b), (77, c), (76, d), (1, .ptr pb 0), (5, .int .i64 k), (6, .int .i64 p)] H)
    (hF : (¬ ∀ (p : Nat) rc, m.sy[k][p]? = some rc → ShpP m k p rc) → ∀ r, look r 2 = some (.bool false) → Q .ret r H) :
    ∀ r, restrict r [1, 5, 6] = [(1, .ptr pb 0), (5, .int .i64 k), (6, .int .i64 0)] → Runs E none w53_3 r H Q := by
  intro r hr
  have hgk : m.out.getD k [] = m.out[k] := by rw [List.getD_eq_getElem?_getD, List.getElem?_eq_getElem hko]; rfl
  obtain ⟨b, o1, cap, hsv, x, hc, hx2⟩ := hm.sy.at (List.getElem?_eq_getElem hltk)
  have hls2 := hx2.1
  refine Runs.loopS (σ := Nat) (fun p => [(1, .ptr pb 0), (5, .int .i64 k), (6, .int .i64 p)])
    (fun p H' => p ≤ m.sy[k].length ∧ H' = H ∧ ∀ (p' : Nat) rc, p' < p → m.sy[k][p']? = some rc → ShpP m k p' rc)
    (fun p => m.sy[k].length - p) ?_ 0 _ _ hr ⟨Nat.zero_le _, rfl, fun k' s h => by omega⟩
  rintro p H5 ⟨hp, rfl, hp3⟩
  refine Runs.seq (Runs.seq (Runs.reg (OpsR.op rfl (OpsR.op rfl (OpsR.op (step_ld1 rfl (hA.ld1.trans rfl)) (OpsR.op rfl (OpsR.nil ?_)))))))
  by_cases hltp : p < m.sy[k].length
  · have hxp : m.sy[k][p]? = some m.sy[k][p] := List.getElem?_eq_getElem hltp
    obtain ⟨b2, o2, cap2, rfl, y, hc2, hy2⟩ := hx2.at hxp
    refine Runs.condT rfl (by simp; omega) (Runs.skip ?_)
    subst hsv
    refine Runs.seq (Runs.block (Runs.seq (Runs.seq (Runs.dreg ?_))))
    refine DrR.op rfl (Nat.le_refl _) (DrR.op (step_ld1 rfl (hA.ld1.trans rfl)) (Nat.le_refl _) (DrR.op rfl (Nat.le_refl _) (DrR.op (step_ixS rfl rfl hltk) (Nat.le_refl _) (DrR.op (step_ld1 rfl hc) (Nat.le_refl _) (DrR.op rfl (Nat.le_refl _) (DrR.op (step_ixS rfl rfl hltp) (Nat.le_refl _) (DrR.op (step_ld1 rfl hc2) (Nat.le_refl _) (DrR.op (step_lenS rfl hy2.len) (Nat.le_refl _) (DrR.op rfl (Nat.le_refl _) (DrR.op (step_ld1 rfl (hA.ld1.trans rfl)) (Nat.le_refl _) (DrR.op rfl (Nat.le_refl _) (DrR.nil ?_))))))))))))
    cases hb : ((m.sy[k][p].length : Int) != m.n) with
    | true =>
      refine Runs.condT rfl rfl (Runs.seq (Runs.reg (OpsR.op rfl (OpsR.nil (Runs.ret ?_)))))
      exact hF (fun hs => by simp [(hs p _ hxp).1] at hb) _ rfl
    | false =>
      have hbp : (m.sy[k][p].length : Int) = m.n := by simpa using hb
      refine Runs.condF rfl rfl (Runs.skip ?_)
      refine Runs.seq (Runs.reg (OpsR.op rfl (OpsR.nil (Runs.block ?_))))
      have hpo : p < m.out[k].length := by omega
      have hgp : ((m.out.getD k []).getD p []).length = m.out[k][p].length := by rw [hgk, List.getD_eq_getElem?_getD, List.getElem?_eq_getElem hpo]; rfl
      refine l53_2 hA hm hltk hltp hko hpo hbp (fun hall a b c d q => ?_) (fun hn r hr => ?_) _ rfl
      · refine Runs.reg (OpsR.op rfl (OpsR.op rfl (OpsR.op rfl (OpsR.nil ?_))))
        refine ⟨p + 1, Nat.sub_lt_sub_left hltp (Nat.lt_succ_self p), ?_, by omega, rfl, ?_⟩
        · show [(1, _), (5, _), (6, V.int .i64 (IntKind.i64.wrap ((p : Int) + 1)))] = _
          rw [idx_succ hltp hls2]
        · intro p' rc hp' hrc
          by_cases e : p' = p
          · subst e
            rw [hxp] at hrc; cases hrc
            exact ⟨hbp, fun q' l hl => by rw [hgp]; exact hall q' l hl⟩
          · exact hp3 p' rc (by omega) hrc
      · refine hF (fun hs => hn fun q l hl => ?_) _ hr
        have := (hs p _ hxp).2 q l hl
        rwa [hgp] at this
  · refine Runs.condF rfl (by simp; omega) (Runs.exit ?_)
    exact hQ (fun p' rc hrc => hp3 p' rc (by have := (List.getElem?_eq_some_iff.1 hrc).1; omega) hrc) _ _ _ _ _

theorem l53_4 {Q : Out → Regs → Hp → Prop} {H : Hp} {m : Mach} {f sy st o : V} {pb : Nat} (hA : At H pb (.cells (mcells f sy st o m))) (hm : MachV E f sy st o m) (hO : (m.out.length : Int) = m.r + 1) (hS : (m.sy.length : Int) = m.r)
    (hoi : ∀ l ∈ m.out, (l.length : Int) = m.n)
    (hQ : (∀ (k : Nat) s, m.sy[k]? = some s → ShpK m k s) → ∀ r, Q (.exit 4) r H)
    (hF : (¬ ∀ (k : Nat) s, m.sy[k]? = some s → ShpK m k s) → ∀ r, look r 2 = some (.bool false) → Q .ret r H) :
    ∀ r, restrict r [1, 5] = [(1, .ptr pb 0), (5, .int .i64 0)] → Runs E none w53_4 r H Q := by
  intro r hr
  have hls := hm.sy.1
  refine Runs.loopS (σ := Nat) (fun k => [(1, .ptr pb 0), (5, .int .i64 k)])
    (fun k H' => k ≤ m.sy.length ∧ H' = H ∧ ∀ (k' : Nat) s, k' < k → m.sy[k']? = some s → ShpK m k' s)
    (fun k => m.sy.length - k) ?_ 0 _ _ hr ⟨Nat.zero_le _, rfl, fun k' s h => by omega⟩
  rintro k H4 ⟨hk, rfl, hk3⟩
  refine Runs.seq (Runs.seq (Runs.reg (OpsR.op rfl (OpsR.op rfl (OpsR.op (step_ld1 rfl (hA.ld1.trans rfl)) (OpsR.op rfl (OpsR.nil ?_)))))))
  by_cases hltk : k < m.sy.length
  · have hxk : m.sy[k]? = some m.sy[k] := List.getElem?_eq_getElem hltk
    obtain ⟨b, o1, cap, rfl, x, hc, hx2⟩ := hm.sy.at hxk
    refine Runs.condT rfl (by simp; omega) (Runs.skip ?_)
    refine Runs.seq (Runs.block (Runs.seq (Runs.seq (Runs.dreg ?_))))
    refine DrR.op rfl (Nat.le_refl _) (DrR.op (step_ld1 rfl (hA.ld1.trans rfl)) (Nat.le_refl _) (DrR.op rfl (Nat.le_refl _) (DrR.op (step_ixS rfl rfl hltk) (Nat.le_refl _) (DrR.op (step_ld1 rfl hc) (Nat.le_refl _) (DrR.op (step_lenS rfl hx2.len) (Nat.le_refl _) (DrR.op rfl (Nat.le_refl _) (DrR.op (step_ld1 rfl (hA.ld1.trans rfl)) (Nat.le_refl _) (DrR.op rfl (Nat.le_refl _) (DrR.nil ?_)))))))))
    cases hb : ((m.sy[k].length : Int) != m.n) with
    | true =>
      refine Runs.condT rfl rfl (Runs.seq (Runs.reg (OpsR.op rfl (OpsR.nil (Runs.ret ?_)))))
      exact hF (fun hs => by simp [(hs k _ hxk).1] at hb) _ rfl
    | false =>
      have hbk : (m.sy[k].length : Int) = m.n := by simpa using hb
      refine Runs.condF rfl rfl (Runs.skip ?_)
      refine Runs.seq (Runs.reg (OpsR.op rfl (OpsR.nil (Runs.block ?_))))
      have hko : k < m.out.length := by omega
      refine l53_3 hA hm hltk hko (hoi _ (List.getElem_mem hko)) hbk (fun hall a b c d p => ?_) (fun hn r hr => ?_) _ rfl
      · refine Runs.reg (OpsR.op rfl (OpsR.op rfl (OpsR.op rfl (OpsR.nil ?_))))
        refine ⟨k + 1, Nat.sub_lt_sub_left hltk (Nat.lt_succ_self k), ?_, by omega, rfl, ?_⟩
        · show [(1, _), (5, V.int .i64 (IntKind.i64.wrap ((k : Int) + 1)))] = _
          rw [idx_succ hltk hls]
        · intro k' s hk' hs
          by_cases e : k' = k
          · subst e
            rw [hxk] at hs; cases hs
            exact ⟨hbk, hall⟩
          · exact hk3 k' s (by omega) hs
      · exact hF (fun hs => hn (hs k _ hxk).2) _ hr
  · refine Runs.condF rfl (by simp; omega) (Runs.exit ?_)
    exact hQ (fun k' s hs => hk3 k' s (by have := (List.getElem?_eq_some_iff.1 hs).1; omega) hs) _

theorem s53 (h : E.prim 53 = none) (hf : E.funcs 53 = some c53) {f sy st o : V} {m : Mach} (hm : MachV E f sy st o m) (hr : 0 ≤ m.r ∧ m.r ≤ 6) (H : Hp) :
    CallR E 53 [.agg (mcells f sy st o m)] H (fun w H' => BoolR (Shp m) w ∧ Ext H H') := by
  refine CallR.of h hf rfl ?_
  refine Runs.seq (Runs.reg (OpsR.op rfl (OpsR.op rfl (OpsR.nil ?_))))
  have hA := At.new H (.cells (mcells f sy st o m))
  have hX := Ext.new H (.cells (mcells f sy st o m))
  generalize hH : H.new (.cells (mcells f sy st o m)) = H1 at hA hX
  have hH' : H.new (Ob.cells (V.cells (V.agg (mcells f sy st o m)))) = H1 := hH
  rw [hH']
  clear hH hH'
  refine Runs.seq (Runs.seq (Runs.reg (OpsR.op rfl (OpsR.op (step_ld1 rfl (hA.ld1.trans rfl)) (OpsR.op (step_lenS rfl hm.f.len) (OpsR.op rfl (OpsR.op (step_ld1 rfl (hA.ld1.trans rfl)) (OpsR.op rfl (OpsR.op rfl ?_)))))))))
  have hw : IntKind.i64.wrap (m.r + 1) = m.r + 1 := wrap_id (by omega) (by omega)
  have hret : ¬ Shp m → ∀ (r : Regs), look r 2 = some (.bool false) → (∀ i, Out.ret ≠ Out.exit i) ∧ ∃ vs, results E r H1 [.tmp 2] = some vs ∧ BoolR (Shp m) (retOf vs) ∧ Ext H H1 := fun hn r hr =>
    ⟨(fun i h => by cases h), [.bool false], by simp [results, result, hr], BoolR.f hn, hX⟩
  cases hb1 : ((m.fst.length : Int) != m.n) with
  | true =>
    repeat first
      | refine OpsR.opF rfl ?_
      | refine OpsR.op rfl ?_
    refine OpsR.nil (Runs.condT rfl rfl (Runs.seq (Runs.reg (OpsR.op rfl (OpsR.nil (Runs.ret ?_))))))
    exact hret (fun hs => by simp [hs.f] at hb1) _ rfl
  | false =>
    have hF : (m.fst.length : Int) = m.n := by simpa using hb1
    refine OpsR.opT rfl rfl (OpsR.opT rfl (step_ld1 rfl (hA.ld1.trans rfl)) (OpsR.opT rfl (step_lenS rfl hm.o.len) (OpsR.opT rfl rfl (OpsR.opT rfl (step_ld1 rfl (hA.ld1.trans rfl)) (OpsR.opT rfl rfl (OpsR.opT rfl rfl (OpsR.op rfl (OpsR.op rfl ?_))))))))
    have hadd : IntKind.i64.wrap (m.r + Int.ofNat 1) = m.r + 1 := hw
    rw [hadd]
    cases hb2 : ((m.out.length : Int) != m.r + 1) with
    | true =>
      repeat first
        | refine OpsR.opF rfl ?_
        | refine OpsR.op rfl ?_
      refine OpsR.nil (Runs.condT rfl rfl (Runs.seq (Runs.reg (OpsR.op rfl (OpsR.nil (Runs.ret ?_))))))
      exact hret (fun hs => by simp [hs.o] at hb2) _ rfl
    | false =>
      have hO : (m.out.length : Int) = m.r + 1 := by simpa using hb2
      refine OpsR.opT rfl rfl (OpsR.opT rfl (step_ld1 rfl (hA.ld1.trans rfl)) (OpsR.opT rfl (step_lenS rfl hm.sy.len) (OpsR.opT rfl rfl (OpsR.opT rfl (step_ld1 rfl (hA.ld1.trans rfl)) (OpsR.opT rfl rfl (OpsR.op rfl (OpsR.nil ?_)))))))
      cases hb3 : ((m.sy.length : Int) != m.r) with
      | true =>
        refine Runs.condT rfl rfl (Runs.seq (Runs.reg (OpsR.op rfl (OpsR.nil (Runs.ret ?_)))))
        exact hret (fun hs => by simp [hs.s] at hb3) _ rfl
      | false =>
        have hS : (m.sy.length : Int) = m.r := by simpa using hb3
        refine Runs.condF rfl rfl (Runs.skip ?_)
        refine Runs.seq (Runs.seq (Runs.reg (OpsR.op rfl (OpsR.nil (Runs.block ?_)))))
        have hlf := hm.f.1
        have hlo := hm.o.1
        have hls := hm.sy.1
        refine Runs.loopS (σ := Nat) (fun i => [(1, .ptr H.next 0), (3, .int .i64 i)]) (fun i H' => i ≤ m.fst.length ∧ H' = H1 ∧ ∀ l ∈ m.fst.take i, (l.length : Int) = m.ins) (fun i => m.fst.length - i) ?_ 0 _ _ rfl ⟨Nat.zero_le _, rfl, by simp⟩
        rintro i H2 ⟨hi, rfl, hall⟩
        refine Runs.seq (Runs.seq (Runs.reg (OpsR.op rfl (OpsR.op rfl (OpsR.op (step_ld1 rfl (hA.ld1.trans rfl)) (OpsR.op rfl (OpsR.nil ?_)))))))
        by_cases hlt : i < m.fst.length
        · have hx : m.fst[i]? = some m.fst[i] := List.getElem?_eq_getElem hlt
          obtain ⟨b, o', cap, rfl, x, hc, hx2⟩ := hm.f.at hx
          refine Runs.condT rfl (by simp; omega) (Runs.skip ?_)
          refine Runs.seq (Runs.block (Runs.seq (Runs.dreg ?_)))
          refine DrR.op rfl (Nat.le_refl _) (DrR.op (step_ld1 rfl (hA.ld1.trans rfl)) (Nat.le_refl _) (DrR.op rfl (Nat.le_refl _) (DrR.op (step_ixS rfl rfl hlt) (Nat.le_refl _) (DrR.op (step_ld1 rfl hc) (Nat.le_refl _) (DrR.op (step_lenS rfl hx2.len) (Nat.le_refl _) (DrR.op rfl (Nat.le_refl _) (DrR.op (step_ld1 rfl (hA.ld1.trans rfl)) (Nat.le_refl _) (DrR.op rfl (Nat.le_refl _) (DrR.nil ?_)))))))))
          cases hb : ((m.fst[i].length : Int) != m.ins) with
          | true =>
            refine Runs.condT rfl rfl (Runs.seq (Runs.reg (OpsR.op rfl (OpsR.nil (Runs.ret ?_)))))
            exact hret (fun hs => by simp [hs.fi _ (List.getElem_mem hlt)] at hb) _ rfl
          | false =>
            have hb' : (m.fst[i].length : Int) = m.ins := by simpa using hb
            refine Runs.condF rfl rfl (Runs.skip (Runs.reg (OpsR.op rfl (OpsR.op rfl (OpsR.op rfl (OpsR.nil ?_))))))
            refine ⟨i + 1, Nat.sub_lt_sub_left hlt (Nat.lt_succ_self i), ?_, by omega, rfl, ?_⟩
            · show [(1, _), (3, V.int .i64 (IntKind.i64.wrap ((i : Int) + 1)))] = _
              rw [idx_succ hlt hlf]
            · rw [List.take_add_one, hx]
              intro l hl
              rcases List.mem_append.1 hl with h | h
              · exact hall l h
              · simp at h; rw [h]; exact hb'
        · refine Runs.condF rfl (by simp; omega) (Runs.exit ?_)
          rw [show m.fst.take i = m.fst from List.take_of_length_le (by omega)] at hall
          refine Runs.seq (Runs.seq (Runs.reg (OpsR.op rfl (OpsR.nil (Runs.block ?_)))))
          refine Runs.loopS (σ := Nat) (fun i => [(1, .ptr H.next 0), (4, .int .i64 i)]) (fun i H' => i ≤ m.out.length ∧ H' = H2 ∧ ∀ l ∈ m.out.take i, (l.length : Int) = m.n) (fun i => m.out.length - i) ?_ 0 _ _ rfl ⟨Nat.zero_le _, rfl, by simp⟩
          clear hi hlt
          rintro i H3 ⟨hi, rfl, hall2⟩
          refine Runs.seq (Runs.seq (Runs.reg (OpsR.op rfl (OpsR.op rfl (OpsR.op (step_ld1 rfl (hA.ld1.trans rfl)) (OpsR.op rfl (OpsR.nil ?_)))))))
          by_cases hlt : i < m.out.length
          · have hx : m.out[i]? = some m.out[i] := List.getElem?_eq_getElem hlt
            obtain ⟨b, o', cap, rfl, x, hc, hx2⟩ := hm.o.at hx
            refine Runs.condT rfl (by simp; omega) (Runs.skip ?_)
            refine Runs.seq (Runs.block (Runs.seq (Runs.dreg ?_)))
            refine DrR.op rfl (Nat.le_refl _) (DrR.op (step_ld1 rfl (hA.ld1.trans rfl)) (Nat.le_refl _) (DrR.op rfl (Nat.le_refl _) (DrR.op (step_ixS rfl rfl hlt) (Nat.le_refl _) (DrR.op (step_ld1 rfl hc) (Nat.le_refl _) (DrR.op (step_lenS rfl hx2.len) (Nat.le_refl _) (DrR.op rfl (Nat.le_refl _) (DrR.op (step_ld1 rfl (hA.ld1.trans rfl)) (Nat.le_refl _) (DrR.op rfl (Nat.le_refl _) (DrR.nil ?_)))))))))
            cases hb : ((m.out[i].length : Int) != m.n) with
            | true =>
              refine Runs.condT rfl rfl (Runs.seq (Runs.reg (OpsR.op rfl (OpsR.nil (Runs.ret ?_)))))
              exact hret (fun hs => by simp [hs.oi _ (List.getElem_mem hlt)] at hb) _ rfl
            | false =>
              have hb' : (m.out[i].length : Int) = m.n := by simpa using hb
              refine Runs.condF rfl rfl (Runs.skip (Runs.reg (OpsR.op rfl (OpsR.op rfl (OpsR.op rfl (OpsR.nil ?_))))))
              refine ⟨i + 1, Nat.sub_lt_sub_left hlt (Nat.lt_succ_self i), ?_, by omega, rfl, ?_⟩
              · show [(1, _), (4, V.int .i64 (IntKind.i64.wrap ((i : Int) + 1)))] = _
                rw [idx_succ hlt hlo]
              · rw [List.take_add_one, hx]
                intro l hl
                rcases List.mem_append.1 hl with h | h
                · exact hall2 l h
                · simp at h; rw [h]; exact hb'
          · refine Runs.condF rfl (by simp; omega) (Runs.exit ?_)
            rw [show m.out.take i = m.out from List.take_of_length_le (by omega)] at hall2
            clear hi hlt
            refine Runs.seq (Runs.seq (Runs.reg (OpsR.op rfl (OpsR.nil (Runs.block ?_)))))
            refine l53_4 hA hm hO hS hall2 (fun hall3 r => ?_) (fun hn r hr => ?_) _ rfl
            · refine Runs.seq (Runs.reg (OpsR.op rfl (OpsR.nil (Runs.ret ?_))))
              exact ⟨(fun i h => by cases h), _, rfl, BoolR.t ⟨hF, hO, hS, hall, hall2, hall3⟩, hX⟩
            · exact hret (fun hs => hn hs.si) _ hr
end Go.Vm.Code

namespace Go.Vm.Code
open Go.Vm
variable {E : Env}
theorem s97 (F : Fs64 E) (hf : E.funcs 97 = some c97) {u : V} {l : List Int} (hl : L1 E u l) (H : Hp) : CallR E 97 [u] H (fun w H' => w = .bool (!l.all (inR 0 1048576)) ∧ Ext H H') := by
  refine CallR.of (F.prim 97 (by decide)) hf rfl ?_
  refine Runs.seq (Runs.reg (OpsR.op rfl (OpsR.nil ?_)))
  refine Runs.seq (Runs.reg (OpsR.op rfl (OpsR.call rfl rfl (ValR.fn (CallR.mono (s64 F hl 0 1048576 H) ?_)))))
  rintro _ H' ⟨rfl, hX⟩
  refine OpsR.op rfl (OpsR.op rfl (OpsR.nil (Runs.ret ?_)))
  exact ⟨(fun i h => by cases h), _, rfl, rfl, hX⟩

theorem s96 (F : Fs64 E) (hf : E.funcs 96 = some c96) {u : V} {l : List Int} (hl : L1 E u l) {H : Hp} {pb : Nat} {f sy st o : V} {m : Mach} (hA : At H pb (.cells (mcells f sy st o m))) (ho : 1 ≤ m.outs ∧ m.outs ≤ 8) :
    CallR E 96 [u, .ptr pb 0] H (fun w H' => w = .bool (!l.all (inR (-1) (m.outs - 1))) ∧ Ext H H') := by
  refine CallR.of (F.prim 96 (by decide)) hf rfl ?_
  refine Runs.seq (Runs.reg (OpsR.op rfl (OpsR.nil ?_)))
  have hw : IntKind.i64.wrap (m.outs - Int.ofNat 1) = m.outs - 1 := wrap_id (by show _ ≤ m.outs - (1 : Int); omega) (by show m.outs - (1 : Int) < _; omega)
  refine Runs.seq (Runs.reg (OpsR.op rfl (OpsR.op rfl (OpsR.op (step_ld1 rfl (hA.ld1.trans rfl)) (OpsR.op rfl ?_)))))
  rw [hw]
  refine OpsR.call rfl rfl (ValR.fn (CallR.mono (s64 F hl (-1) (m.outs - 1) H) ?_))
  rintro _ H' ⟨rfl, hX⟩
  refine OpsR.op rfl (OpsR.op rfl (OpsR.nil (Runs.ret ?_)))
  exact ⟨(fun i h => by cases h), _, rfl, rfl, hX⟩

/-- lists of lists whose elements lie as values -/
theorem L2.val {v : V} {l : List (List Int)} (h : L2 E v l) : SeqC 1 (ValC E (L1 E)) v l := h

structure FsR (E : Env) : Prop extends Fs64 E where
  f95 : E.funcs 95 = some c95
  f96 : E.funcs 96 = some c96
  f97 : E.funcs 97 = some c97
  f151 : E.funcs 151 = some c151

theorem any_not {α : Type} (l : List α) (p : α → Bool) : (l.any fun x => !p x) = !l.all p := by
  rw [List.not_all_eq_any_not]

/-- all numbers of all lists of a sender's row -/
theorem l49_2 {Q : Out → Regs → Hp → Prop} (F : FsR E) {v v44 : V} {l : List (List (List Int))} (hl : L3 E v l) {n45 n46 : Int} {H : Hp}
    (hQ : ∀ r H', Ext H H' → (∀ rc ∈ l, ∀ x ∈ rc, x.all (inR 0 1048576) = true) → look r 44 = some v44 → look r 45 = some (.int .i64 n45) → look r 46 = some (.int .i64 n46) → Q (.exit 6) r H')
    (hF : ∀ r H', Ext H H' → (¬ ∀ rc ∈ l, ∀ x ∈ rc, x.all (inR 0 1048576) = true) → look r 2 = some (.bool false) → Q .ret r H') :
    ∀ r, restrict r [44, 45, 46, 50, 51, 52] = [(44, v44), (45, .int .i64 n45), (46, .int .i64 n46), (50, v), (51, .int .i64 l.length), (52, .int .i64 0)] → Runs E none w49_2 r H Q := by
  intro r hr
  have hlen := hl.1
  refine Runs.loopS (σ := Nat) (fun i => [(44, v44), (45, .int .i64 n45), (46, .int .i64 n46), (50, v), (51, .int .i64 l.length), (52, .int .i64 i)])
    (fun i H' => i ≤ l.length ∧ Ext H H' ∧ ∀ rc ∈ l.take i, ∀ x ∈ rc, x.all (inR 0 1048576) = true) (fun i => l.length - i) ?_ 0 _ _ hr ⟨Nat.zero_le _, Ext.refl _, by simp⟩
  rintro i H1 ⟨hi, hX, hall⟩
  refine Runs.seq (Runs.reg (OpsR.op rfl (OpsR.nil ?_)))
  by_cases hlt : i < l.length
  · have hx : l[i]? = some l[i] := List.getElem?_eq_getElem hlt
    obtain ⟨b, o', cap, rfl, x, hc, hx2⟩ := hl.at hx
    refine Runs.seq (Runs.condT rfl (by simp; omega) (Runs.skip ?_))
    refine Runs.seq (Runs.block (Runs.seq (Runs.reg (OpsR.op (step_ixS rfl rfl hlt) (OpsR.op (step_ld1 rfl hc) (OpsR.op rfl (OpsR.nil ?_)))))))
    refine Runs.seq (Runs.reg (OpsR.op rfl (OpsR.call rfl rfl (ValR.fn (CallR.mono (s95 (F.prim 95 (by decide)) F.f95 (F.prim 151 (by decide)) F.f151 (L2.val hx2) (fun x => !x.all (inR 0 1048576)) H1 ?_) ?_)))))
    · rintro y u H2 _ hu hX2
      exact ValR.fn (s97 F.toFs64 F.f97 hu H2)
    · rintro _ H2 ⟨rfl, hX2⟩
      rw [any_not]
      cases hb : l[i].all (fun x => x.all (inR 0 1048576)) with
      | false =>
        refine OpsR.nil (Runs.condT rfl rfl (Runs.seq (Runs.reg (OpsR.op rfl (OpsR.nil (Runs.ret ?_))))))
        exact hF _ _ (hX.trans hX2) (fun h => by rw [List.all_eq_true.2 (fun x hx => h l[i] (List.getElem_mem hlt) x hx)] at hb; cases hb) rfl
      | true =>
        refine OpsR.nil (Runs.condF rfl rfl (Runs.skip (Runs.reg (OpsR.op rfl (OpsR.op rfl (OpsR.nil ?_))))))
        refine ⟨i + 1, Nat.sub_lt_sub_left hlt (Nat.lt_succ_self i), ?_, by omega, hX.trans hX2, ?_⟩
        · show [(44, _), (45, _), (46, _), (50, _), (51, _), (52, V.int .i64 (IntKind.i64.wrap ((i : Int) + 1)))] = _
          rw [idx_succ hlt hlen]
        · rw [List.take_add_one, hx]
          intro rc hrc
          rcases List.mem_append.1 hrc with h | h
          · exact hall rc h
          · simp at h; rw [h]; exact List.all_eq_true.1 hb
  · refine Runs.seq (Runs.condF rfl (by simp; omega) (Runs.exit ?_))
    rw [show l.take i = l from List.take_of_length_le (by omega)] at hall
    exact hQ _ _ hX hall rfl rfl rfl

theorem l49_3 {Q : Out → Regs → Hp → Prop} (F : FsR E) {v : V} {l : List (List (List (List Int)))} (hl : L4 E v l) {H : Hp}
    (hQ : ∀ r H', Ext H H' → (∀ s ∈ l, ∀ rc ∈ s, ∀ x ∈ rc, x.all (inR 0 1048576) = true) → Q (.exit 4) r H')
    (hF : ∀ r H', Ext H H' → (¬ ∀ s ∈ l, ∀ rc ∈ s, ∀ x ∈ rc, x.all (inR 0 1048576) = true) → look r 2 = some (.bool false) → Q .ret r H') :
    ∀ r, restrict r [44, 45, 46] = [(44, v), (45, .int .i64 l.length), (46, .int .i64 0)] → Runs E none w49_3 r H Q := by
  intro r hr
  have hlen := hl.1
  refine Runs.loopS (σ := Nat) (fun i => [(44, v), (45, .int .i64 l.length), (46, .int .i64 i)])
    (fun i H' => i ≤ l.length ∧ Ext H H' ∧ ∀ s ∈ l.take i, ∀ rc ∈ s, ∀ x ∈ rc, x.all (inR 0 1048576) = true) (fun i => l.length - i) ?_ 0 _ _ hr ⟨Nat.zero_le _, Ext.refl _, by simp⟩
  rintro i H1 ⟨hi, hX, hall⟩
  refine Runs.seq (Runs.reg (OpsR.op rfl (OpsR.nil ?_)))
  by_cases hlt : i < l.length
  · have hx : l[i]? = some l[i] := List.getElem?_eq_getElem hlt
    obtain ⟨b, o', cap, rfl, x, hc, hx2⟩ := hl.at hx
    refine Runs.seq (Runs.condT rfl (by simp; omega) (Runs.skip ?_))
    refine Runs.seq (Runs.block (Runs.seq (Runs.reg (OpsR.op (step_ixS rfl rfl hlt) (OpsR.op (step_ld1 rfl hc) (OpsR.op rfl (OpsR.nil ?_)))))))
    refine Runs.seq (Runs.reg (OpsR.op rfl (OpsR.op (step_lenS rfl hx2.len) (OpsR.op rfl (OpsR.nil (Runs.block ?_))))))
    refine l49_2 F hx2 (v44 := .xslc b o' l.length cap) (n45 := l.length) (n46 := i) (fun r' H2 hX2 h1 g1 g2 g3 => ?_) (fun r' H2 hX2 h1 g1 => ?_) _ rfl
    · refine Runs.reg (OpsR.op (v := .int .i64 (IntKind.i64.wrap ((i : Int) + 1))) (H1 := H2) (by simp only [stepOp, AOp.kind, pureOp, ev, g3, Option.bind_some]; rfl) (OpsR.op rfl (OpsR.nil ?_)))
      refine ⟨i + 1, Nat.sub_lt_sub_left hlt (Nat.lt_succ_self i), ?_, by omega, hX.trans hX2, ?_⟩
      · show restrict ((46, V.int .i64 (IntKind.i64.wrap ((i : Int) + 1))) :: (59, V.int .i64 (IntKind.i64.wrap ((i : Int) + 1))) :: r') [44, 45, 46] = _
        rw [idx_succ hlt hlen]
        simp [restrict, look_cons, g1, g2]
      · rw [List.take_add_one, hx]
        intro s hs
        rcases List.mem_append.1 hs with h | h
        · exact hall s h
        · simp at h; rw [h]; exact h1
    · exact hF _ _ (hX.trans hX2) (fun h => h1 (h l[i] (List.getElem_mem hlt))) g1
  · refine Runs.seq (Runs.condF rfl (by simp; omega) (Runs.exit ?_))
    rw [show l.take i = l from List.take_of_length_le (by omega)] at hall
    exact hQ _ _ hX hall

theorem l49_1 {Q : Out → Regs → Hp → Prop} (F : FsR E) {f sy st o v : V} {m : Mach} {l : List (List (List Int))} (hl : L3 E v l) {H : Hp} {pb : Nat} (hA : At H pb (.cells (mcells f sy st o m))) (ho : 1 ≤ m.outs ∧ m.outs ≤ 8)
    (hQ : ∀ r H', Ext H H' → (∀ s ∈ l, ∀ x ∈ s, x.all (inR (-1) (m.outs - 1)) = true) → look r 1 = some (.ptr pb 0) → Q (.exit 2) r H')
    (hF : ∀ r H', Ext H H' → (¬ ∀ s ∈ l, ∀ x ∈ s, x.all (inR (-1) (m.outs - 1)) = true) → look r 2 = some (.bool false) → Q .ret r H') :
    ∀ r, restrict r [1, 33, 34, 35] = [(1, .ptr pb 0), (33, v), (34, .int .i64 l.length), (35, .int .i64 0)] → Runs E none w49_1 r H Q := by
  intro r hr
  have hlen := hl.1
  refine Runs.loopS (σ := Nat) (fun i => [(1, .ptr pb 0), (33, v), (34, .int .i64 l.length), (35, .int .i64 i)])
    (fun i H' => i ≤ l.length ∧ Ext H H' ∧ ∀ s ∈ l.take i, ∀ x ∈ s, x.all (inR (-1) (m.outs - 1)) = true) (fun i => l.length - i) ?_ 0 _ _ hr ⟨Nat.zero_le _, Ext.refl _, by simp⟩
  rintro i H1 ⟨hi, hX, hall⟩
  refine Runs.seq (Runs.reg (OpsR.op rfl (OpsR.nil ?_)))
  by_cases hlt : i < l.length
  · have hx : l[i]? = some l[i] := List.getElem?_eq_getElem hlt
    obtain ⟨b, o', cap, rfl, x, hc, hx2⟩ := hl.at hx
    refine Runs.seq (Runs.condT rfl (by simp; omega) (Runs.skip ?_))
    refine Runs.seq (Runs.block (Runs.seq (Runs.reg (OpsR.op (step_ixS rfl rfl hlt) (OpsR.op (step_ld1 rfl hc) (OpsR.op rfl (OpsR.nil ?_)))))))
    refine Runs.seq (Runs.reg (OpsR.op rfl (OpsR.op rfl (OpsR.call rfl rfl (ValR.fn (CallR.mono (s95 (F.prim 95 (by decide)) F.f95 (F.prim 151 (by decide)) F.f151 (L2.val hx2) (fun x => !x.all (inR (-1) (m.outs - 1))) H1 ?_) ?_))))))
    · rintro y u H2 _ hu hX2
      exact ValR.fn (s96 F.toFs64 F.f96 hu ((hX.trans hX2).at hA) ho)
    · rintro _ H2 ⟨rfl, hX2⟩
      rw [any_not]
      cases hb : l[i].all (fun x => x.all (inR (-1) (m.outs - 1))) with
      | false =>
        refine OpsR.nil (Runs.condT rfl rfl (Runs.seq (Runs.reg (OpsR.op rfl (OpsR.nil (Runs.ret ?_))))))
        exact hF _ _ (hX.trans hX2) (fun h => by rw [List.all_eq_true.2 (fun x hx => h l[i] (List.getElem_mem hlt) x hx)] at hb; cases hb) rfl
      | true =>
        refine OpsR.nil (Runs.condF rfl rfl (Runs.skip (Runs.reg (OpsR.op rfl (OpsR.op rfl (OpsR.nil ?_))))))
        refine ⟨i + 1, Nat.sub_lt_sub_left hlt (Nat.lt_succ_self i), ?_, by omega, hX.trans hX2, ?_⟩
        · show [(1, _), (33, _), (34, _), (35, V.int .i64 (IntKind.i64.wrap ((i : Int) + 1)))] = _
          rw [idx_succ hlt hlen]
        · rw [List.take_add_one, hx]
          intro rc hrc
          rcases List.mem_append.1 hrc with h | h
          · exact hall rc h
          · simp at h; rw [h]; exact List.all_eq_true.1 hb
  · refine Runs.seq (Runs.condF rfl (by simp; omega) (Runs.exit ?_))
    rw [show l.take i = l from List.take_of_length_le (by omega)] at hall
    exact hQ _ _ hX hall rfl

/-- the first states are states of their process -/
def RngF (m : Mach) : Prop := ∀ (p : Nat) l, m.fst[p]? = some l → l.all (inR (-1) ((((m.out.getD 0 []).getD p []).length : Int) - 1)) = true

theorem l49_0 {Q : Out → Regs → Hp → Prop} (F : FsR E) {f sy st o : V} {m : Mach} (hm : MachV E f sy st o m) {H : Hp} {pb : Nat} (hA : At H pb (.cells (mcells f sy st o m))) (h0 : 0 < m.out.length) (h1 : m.out[0].length = m.fst.length)
    (hQ : ∀ r H', Ext H H' → RngF m → look r 1 = some (.ptr pb 0) → Q (.exit 0) r H')
    (hF : ∀ r H', Ext H H' → ¬ RngF m → look r 2 = some (.bool false) → Q .ret r H') :
    ∀ r, restrict r [1, 12, 13, 14] = [(1, .ptr pb 0), (12, f), (13, .int .i64 m.fst.length), (14, .int .i64 0)] → Runs E none w49_0 r H Q := by
  intro r hr
  have hlen := hm.f.1
  have hg0 : m.out.getD 0 [] = m.out[0] := by rw [List.getD_eq_getElem?_getD, List.getElem?_eq_getElem h0]; rfl
  obtain ⟨bo, oo, capo, hov, xo, hco, hxo2⟩ := hm.o.at (List.getElem?_eq_getElem h0)
  refine Runs.loopS (σ := Nat) (fun i => [(1, .ptr pb 0), (12, f), (13, .int .i64 m.fst.length), (14, .int .i64 i)])
    (fun i H' => i ≤ m.fst.length ∧ Ext H H' ∧ ∀ (p : Nat) l, p < i → m.fst[p]? = some l → l.all (inR (-1) ((((m.out.getD 0 []).getD p []).length : Int) - 1)) = true) (fun i => m.fst.length - i) ?_ 0 _ _ hr ⟨Nat.zero_le _, Ext.refl _, fun p l h => by omega⟩
  rintro i H1 ⟨hi, hX, hall⟩
  refine Runs.seq (Runs.reg (OpsR.op rfl (OpsR.nil ?_)))
  by_cases hlt : i < m.fst.length
  · have hx : m.fst[i]? = some m.fst[i] := List.getElem?_eq_getElem hlt
    obtain ⟨b, o', cap, rfl, x, hc, hx2⟩ := hm.f.at hx
    have hio : i < m.out[0].length := by omega
    obtain ⟨bp, opp, capp, rfl, y, hcp, hyp⟩ := hxo2.at (List.getElem?_eq_getElem hio)
    have hgi : ((m.out.getD 0 []).getD i []).length = m.out[0][i].length := by rw [hg0, List.getD_eq_getElem?_getD, List.getElem?_eq_getElem hio]; rfl
    subst hov
    have hA1 := hX.at hA
    refine Runs.seq (Runs.condT rfl (by simp; omega) (Runs.skip ?_))
    refine Runs.seq (Runs.block (Runs.seq (Runs.reg (OpsR.op rfl (OpsR.op (step_ixS rfl rfl hlt) (OpsR.op (step_ld1 rfl hc) (OpsR.op rfl (OpsR.op rfl (OpsR.nil ?_)))))))))
    have hyl := hyp.1
    have hw : IntKind.i64.wrap ((m.out[0][i].length : Int) - Int.ofNat 1) = (m.out[0][i].length : Int) - 1 := wrap_id (by show _ ≤ (m.out[0][i].length : Int) - (1 : Int); omega) (by show (m.out[0][i].length : Int) - (1 : Int) < _; omega)
    refine Runs.seq (Runs.reg (OpsR.op rfl (OpsR.op rfl (OpsR.op (step_ld1 rfl (hA1.ld1.trans rfl)) (OpsR.op (step_ixS (n := 0) rfl rfl h0) (OpsR.op (step_ld1 rfl hco) (OpsR.op rfl (OpsR.op (step_ixS rfl rfl hio) (OpsR.op (step_ld1 rfl hcp) (OpsR.op (step_lenS rfl hyp.len) (OpsR.op rfl ?_)))))))))))
    rw [hw]
    refine OpsR.call rfl rfl (ValR.fn (CallR.mono (s64 F.toFs64 hx2 (-1) ((m.out[0][i].length : Int) - 1) H1) ?_))
    rintro _ H2 ⟨rfl, hX2⟩
    refine OpsR.op rfl (OpsR.nil ?_)
    cases hb : m.fst[i].all (inR (-1) ((m.out[0][i].length : Int) - 1)) with
    | false =>
      refine Runs.condT rfl rfl (Runs.seq (Runs.reg (OpsR.op rfl (OpsR.nil (Runs.ret ?_)))))
      exact hF _ _ (hX.trans hX2) (fun h => by have := h i _ hx; rw [hgi, hb] at this; cases this) rfl
    | true =>
      refine Runs.condF rfl rfl (Runs.skip (Runs.reg (OpsR.op rfl (OpsR.op rfl (OpsR.nil ?_)))))
      refine ⟨i + 1, Nat.sub_lt_sub_left hlt (Nat.lt_succ_self i), ?_, by omega, hX.trans hX2, ?_⟩
      · show [(1, _), (12, _), (13, _), (14, V.int .i64 (IntKind.i64.wrap ((i : Int) + 1)))] = _
        rw [idx_succ hlt hlen]
      · intro p l hp hl
        by_cases e : p = i
        · subst e
          rw [hx] at hl; cases hl
          rw [hgi]; exact hb
        · exact hall p l (by omega) hl
  · refine Runs.seq (Runs.condF rfl (by simp; omega) (Runs.exit ?_))
    exact hQ _ _ hX (fun p l hl => hall p l (by have := (List.getElem?_eq_some_iff.1 hl).1; omega) hl) rfl

/-- all numbers are in their ranges -/
structure Rng (m : Mach) : Prop where
  f : RngF m
  o : ∀ s ∈ m.out, ∀ x ∈ s, x.all (inR (-1) (m.outs - 1)) = true
  s : ∀ s ∈ m.sy, ∀ rc ∈ s, ∀ x ∈ rc, x.all (inR 0 1048576) = true

theorem s49 (F : FsR E) (hf : E.funcs 49 = some c49) {f sy st o : V} {m : Mach} (hm : MachV E f sy st o m) (ho : 1 ≤ m.outs ∧ m.outs ≤ 8) (h0 : 0 < m.out.length) (h1 : m.out[0].length = m.fst.length) (H : Hp) :
    CallR E 49 [.agg (mcells f sy st o m)] H (fun w H' => BoolR (Rng m) w ∧ Ext H H') := by
  refine CallR.of (F.prim 49 (by decide)) hf rfl ?_
  refine Runs.seq (Runs.reg (OpsR.op rfl (OpsR.op rfl (OpsR.nil ?_))))
  have hA := At.new H (.cells (mcells f sy st o m))
  have hX := Ext.new H (.cells (mcells f sy st o m))
  generalize hH : H.new (.cells (mcells f sy st o m)) = H1 at hA hX
  have hH' : H.new (Ob.cells (V.cells (V.agg (mcells f sy st o m)))) = H1 := hH
  rw [hH']
  clear hH hH'
  have hret : ¬ Rng m → ∀ (r : Regs) (H' : Hp), Ext H H' → look r 2 = some (.bool false) → (∀ i, Out.ret ≠ Out.exit i) ∧ ∃ vs, results E r H' [.tmp 2] = some vs ∧ BoolR (Rng m) (retOf vs) ∧ Ext H H' := fun hn r H' hX' hr =>
    ⟨(fun i h => by cases h), [.bool false], by simp [results, result, hr], BoolR.f hn, hX'⟩
  refine Runs.seq (Runs.seq (Runs.reg (OpsR.op rfl (OpsR.op (step_ld1 rfl (hA.ld1.trans rfl)) (OpsR.op (step_lenS rfl hm.f.len) (OpsR.op rfl (OpsR.nil (Runs.block ?_))))))))
  refine l49_0 F hm hA h0 h1 (fun r H2 hX2 g1 hr1 => ?_) (fun r H2 hX2 g1 hr => hret (fun h => g1 h.f) r H2 (hX.trans hX2) hr) _ rfl
  have hA2 := hX2.at hA
  refine Runs.seq (Runs.seq (Runs.reg (OpsR.op (v := .ptr H.next (0 + 7)) (H1 := H2) (by simp only [stepOp, AOp.kind, pureOp, ev, hr1, Option.bind_some]) (OpsR.op (step_ld1 rfl (hA2.ld1.trans rfl)) (OpsR.op (step_lenS rfl hm.o.len) (OpsR.op rfl (OpsR.nil (Runs.block ?_))))))))
  refine l49_1 F hm.o hA2 ho (fun r3 H3 hX3 g2 hr3 => ?_) (fun r3 H3 hX3 g2 hr => hret (fun h => g2 h.o) r3 H3 ((hX.trans hX2).trans hX3) hr) _ (by simp [restrict, put, look_cons, hr1]; rfl)
  have hA3 := hX3.at hA2
  refine Runs.seq (Runs.seq (Runs.reg (OpsR.op (v := .ptr H.next (0 + 5)) (H1 := H3) (by simp only [stepOp, AOp.kind, pureOp, ev, hr3, Option.bind_some]) (OpsR.op (step_ld1 rfl (hA3.ld1.trans rfl)) (OpsR.op (step_lenS rfl hm.sy.len) (OpsR.op rfl (OpsR.nil (Runs.block ?_))))))))
  refine l49_3 F hm.sy (fun r4 H4 hX4 g3 => ?_) (fun r4 H4 hX4 g3 hr => hret (fun h => g3 h.s) r4 H4 (((hX.trans hX2).trans hX3).trans hX4) hr) _ rfl
  refine Runs.seq (Runs.reg (OpsR.op rfl (OpsR.nil (Runs.ret ?_))))
  exact ⟨(fun i h => by cases h), _, rfl, BoolR.t ⟨g1, g2, g3⟩, ((hX.trans hX2).trans hX3).trans hX4⟩
end Go.Vm.Code

namespace Go.Vm.Code
open Go.Vm
variable {E : Env}
/-- the numbers of one row of symbols -/
def RngS (m : Mach) (k p : Nat) : Prop := ∀ s rc, m.sy[k]? = some s → s[p]? = some rc → ∀ x ∈ rc, x.all (inR 0 1048576) = true

structure FsQ (E : Env) : Prop where
  prim : ∀ f, f ≠ 12 → E.prim f = none
  f52 : E.funcs 52 = some c52
  f68 : E.funcs 68 = some c68

theorem t68 (F : FsQ E) {v : V} {l : List Int} (hl : L1 E v l) (lo hi : Int) (H : Hp) : CallR E 68 [v, .int .i64 lo, .int .i64 hi] H (fun u H' => u = .bool (l.all (inR lo hi)) ∧ H' = H) := s68 F.prim F.f68 F.f52 hl lo hi H

theorem l54_0 {Q : Out → Regs → Hp → Prop} (F : FsQ E) {f sy st o : V} {m : Mach} (hm : MachV E f sy st o m) (hsh : Shp m) {H : Hp} {pb k p : Nat} (hA : At H pb (.cells (mcells f sy st o m))) (hp : (p : Int) < m.n)
    (hQ : RngS m k p → ∀ r, look r 1 = some (.ptr pb 0) → look r 3 = some (.int .i64 p) → look r 4 = some (.int .i64 k) → Q (.exit 4) r H)
    (hF : ¬ RngS m k p → ∀ r, look r 2 = some (.bool false) → Q .ret r H) :
    ∀ r, restrict r [1, 3, 4, 5] = [(1, .ptr pb 0), (3, .int .i64 p), (4, .int .i64 k), (5, .int .i64 0)] → Runs E none w54_0 r H Q := by
  intro r hr
  have hS := hsh.s
  refine Runs.loopS (σ := Nat) (fun q => [(1, .ptr pb 0), (3, .int .i64 p), (4, .int .i64 k), (5, .int .i64 q)])
    (fun q H' => (q : Int) ≤ m.n ∧ H' = H ∧ ∀ s rc, m.sy[k]? = some s → s[p]? = some rc → ∀ (q' : Nat) x, q' < q → rc[q']? = some x → x.all (inR 0 1048576) = true) (fun q => m.n.toNat - q) ?_ 0 _ _ hr ⟨by omega, rfl, fun s rc _ _ q' x h => by omega⟩
  rintro q H1 ⟨hq, rfl, hall⟩
  refine Runs.seq (Runs.seq (Runs.reg (OpsR.op rfl (OpsR.op rfl (OpsR.op (step_ld1 rfl (hA.ld1.trans rfl)) (OpsR.op rfl (OpsR.op rfl ?_)))))))
  have fin : (∀ s rc, m.sy[k]? = some s → s[p]? = some rc → (rc.length : Int) ≤ q) → RngS m k p := by
    intro hle s rc hs hrc x hx
    obtain ⟨j, hj⟩ := List.getElem?_of_mem hx
    have := (List.getElem?_eq_some_iff.1 hj).1
    have := hle s rc hs hrc
    exact hall s rc hs hrc j x (by omega) hj
  cases hq1 : decide ((q : Int) < m.n) with
  | false =>
    have hq2 : ¬ (q : Int) < m.n := of_decide_eq_false hq1
    repeat first
      | refine OpsR.opF rfl ?_
      | refine OpsR.op rfl ?_
    refine OpsR.nil (Runs.condF rfl rfl (Runs.exit ?_))
    exact hQ (fin fun s rc hs hrc => by rw [((hsh.si k s hs).2 p rc hrc).1]; omega) _ rfl rfl rfl
  | true =>
    have hq2 : (q : Int) < m.n := of_decide_eq_true hq1
    refine OpsR.opT rfl rfl (OpsR.opT rfl rfl (OpsR.opT rfl (step_ld1 rfl (hA.ld1.trans rfl)) (OpsR.opT rfl rfl (OpsR.op rfl (OpsR.nil ?_)))))
    cases hk1 : decide ((k : Int) < m.r) with
    | false =>
      have hk2 : ¬ (k : Int) < m.r := of_decide_eq_false hk1
      refine Runs.condF rfl rfl (Runs.exit ?_)
      exact hQ (fun s rc hs => by have := (List.getElem?_eq_some_iff.1 hs).1; omega) _ rfl rfl rfl
    | true =>
      have hk2 : (k : Int) < m.r := of_decide_eq_true hk1
      refine Runs.condT rfl rfl (Runs.skip ?_)
      have hltk : k < m.sy.length := by omega
      have hxk : m.sy[k]? = some m.sy[k] := List.getElem?_eq_getElem hltk
      have hlk := (hsh.si k _ hxk).1
      have hltp : p < m.sy[k].length := by omega
      have hxp : m.sy[k][p]? = some m.sy[k][p] := List.getElem?_eq_getElem hltp
      have hlp := ((hsh.si k _ hxk).2 p _ hxp).1
      have hltq : q < m.sy[k][p].length := by omega
      have hxq : m.sy[k][p][q]? = some m.sy[k][p][q] := List.getElem?_eq_getElem hltq
      obtain ⟨b, o1, cap, rfl, x, hc, hx2⟩ := hm.sy.at hxk
      obtain ⟨b2, o2, cap2, rfl, y, hc2, hy2⟩ := hx2.at hxp
      obtain ⟨b3, o3, cap3, rfl, z, hc3, hz2⟩ := hy2.at hxq
      have hls := hy2.1
      refine Runs.seq (Runs.block (Runs.seq (Runs.reg (OpsR.op rfl (OpsR.op (step_ld1 rfl (hA.ld1.trans rfl)) (OpsR.op rfl (OpsR.op (step_ixS rfl rfl hltk) (OpsR.op (step_ld1 rfl hc) (OpsR.op rfl (OpsR.op (step_ixS rfl rfl hltp) (OpsR.op (step_ld1 rfl hc2) (OpsR.op rfl (OpsR.op (step_ixS rfl rfl hltq) (OpsR.op (step_ld1 rfl hc3) ?_))))))))))))))
      refine OpsR.call rfl rfl (ValR.fn (CallR.mono (t68 F hz2 0 1048576 H1) ?_))
      rintro _ _ ⟨rfl, rfl⟩
      refine OpsR.op rfl (OpsR.nil ?_)
      cases hb : m.sy[k][p][q].all (inR 0 1048576) with
      | false =>
        refine Runs.condT rfl rfl (Runs.seq (Runs.reg (OpsR.op rfl (OpsR.nil (Runs.ret ?_)))))
        exact hF (fun h => by rw [h _ _ hxk hxp _ (List.getElem_mem hltq)] at hb; cases hb) _ rfl
      | true =>
        refine Runs.condF rfl rfl (Runs.skip (Runs.reg (OpsR.op rfl (OpsR.op rfl (OpsR.op rfl (OpsR.nil ?_))))))
        refine ⟨q + 1, by simp only; omega, ?_, by omega, rfl, ?_⟩
        · show [(1, _), (3, _), (4, _), (5, V.int .i64 (IntKind.i64.wrap ((q : Int) + 1)))] = _
          rw [idx_succ hltq hls]
        · intro s rc hs hrc q' x hq' hx
          by_cases e : q' = q
          · subst e
            rw [hxk] at hs; cases hs
            rw [hxp] at hrc; cases hrc
            rw [hxq] at hx; cases hx
            exact hb
          · exact hall s rc hs hrc q' x (by omega) hx
end Go.Vm.Code

namespace Go.Vm.Code
open Go.Vm
variable {E : Env}
/-- the decisions of one row -/
def RngO (m : Mach) (k p : Nat) : Prop := ∀ s x, m.out[k]? = some s → s[p]? = some x → x.all (inR (-1) (m.outs - 1)) = true

theorem l54_1 {Q : Out → Regs → Hp → Prop} (F : FsQ E) {f sy st o : V} {m : Mach} (hm : MachV E f sy st o m) (hsh : Shp m) (hr : 0 ≤ m.r ∧ m.r ≤ 6) (ho : 1 ≤ m.outs ∧ m.outs ≤ 8) {H : Hp} {pb p : Nat} (hA : At H pb (.cells (mcells f sy st o m))) (hp : (p : Int) < m.n)
    (hQ : (∀ k, RngO m k p ∧ RngS m k p) → ∀ r, look r 1 = some (.ptr pb 0) → look r 3 = some (.int .i64 p) → Q (.exit 2) r H)
    (hF : (¬ ∀ k, RngO m k p ∧ RngS m k p) → ∀ r, look r 2 = some (.bool false) → Q .ret r H) :
    ∀ r, restrict r [1, 3, 4] = [(1, .ptr pb 0), (3, .int .i64 p), (4, .int .i64 0)] → Runs E none w54_1 r H Q := by
  intro r hr'
  have hO := hsh.o
  have hS := hsh.s
  refine Runs.loopS (σ := Nat) (fun k => [(1, .ptr pb 0), (3, .int .i64 p), (4, .int .i64 k)])
    (fun k H' => (k : Int) ≤ m.r + 1 ∧ H' = H ∧ ∀ k', k' < k → RngO m k' p ∧ RngS m k' p) (fun k => (m.r + 1).toNat - k) ?_ 0 _ _ hr' ⟨by omega, rfl, fun k h => by omega⟩
  rintro k H1 ⟨hk, rfl, hall⟩
  refine Sq <| Sq <| Rg <| O1 rfl <| O1 rfl <| O1 (ldA rfl ‹_› (by rfl)) <| O1 rfl <| On <| ?_
  refine Runs.cond rfl (fun hc => ?_) (fun hc => ?_)
  · have hc : (k : Int) ≤ m.r := of_decide_eq_true hc
    have hltk : k < m.out.length := by omega
    have hxk : m.out[k]? = some m.out[k] := List.getElem?_eq_getElem hltk
    have hltp : p < m.out[k].length := by have := hsh.oi _ (List.getElem_mem hltk); omega
    have hxp : m.out[k][p]? = some m.out[k][p] := List.getElem?_eq_getElem hltp
    obtain ⟨b, o1, cap, rfl, x, hc1, hx2⟩ := hm.o.at hxk
    obtain ⟨b2, o2, cap2, rfl, y, hc2, hy2⟩ := hx2.at hxp
    refine Sk <| Sq <| Bk <| Sq <| Sq <| Dg <| D1 rfl <| D1 (ldA rfl ‹_› (by rfl)) <| D1 rfl <| D1 (step_ixS rfl rfl ‹_›) <| D1 (step_ld1 rfl ‹_›) <| D1 rfl <| D1 (step_ixS rfl rfl ‹_›) <|
      D1 (step_ld1 rfl ‹_›) <| D1 rfl <| D1 (ldA rfl ‹_› (by rfl)) <| D1 (subL rfl rfl (by omega)) <| ?_
    refine DrR.call rfl rfl (ValR.fn (CallR.mono (t68 F hy2 (-1) (m.outs - 1) H1) ?_))
    rintro _ H' ⟨rfl, e⟩
    subst e
    refine ⟨Nat.le_refl _, ?_⟩
    refine D1 rfl <| Dn <| ?_
    cases hb : m.out[k][p].all (inR (-1) (m.outs - 1)) with
    | false =>
      refine CT rfl <| Sq <| Rg <| O1 rfl <| On <| Rt <| ?_
      exact hF (fun h => by have := (h k).1 _ _ hxk hxp; rw [hb] at this; cases this) _ rfl
    | true =>
      refine CF rfl <| Sk <| Sq <| Rg <| O1 rfl <| On <| Bk <| ?_
      have hRO : RngO m k p := fun s x hs hx => by rw [hxk] at hs; cases hs; rw [hxp] at hx; cases hx; exact hb
      refine l54_0 F hm hsh hA hp (k := k) ?_ ?_ _ rfl
      · intro hRS r' g1 g3 g4
        refine Rg <| O1 (step_mv ‹_›) <| O1 (addN rfl rfl (by omega)) <| O1 rfl <| On <| ?_
        refine ⟨k + 1, by simp only; omega, ?_, by omega, rfl, fun k' hk' => ?_⟩
        · simp [restrict, put, look_cons, g1, g3]
        · by_cases e : k' = k
          · subst e; exact ⟨hRO, hRS⟩
          · exact hall k' (by omega)
      · exact fun hRS r' g => hF (fun h => hRS (h k).2) r' g
  · have hc : ¬ (k : Int) ≤ m.r := of_decide_eq_false hc
    refine Xt <| ?_
    refine hQ (fun k' => ?_) _ rfl rfl
    by_cases e : k' < k
    · exact hall k' e
    · refine ⟨fun s x hs => ?_, fun s x hs => ?_⟩
      · have := (List.getElem?_eq_some_iff.1 hs).1; omega
      · have := (List.getElem?_eq_some_iff.1 hs).1; omega
end Go.Vm.Code

namespace Go.Vm.Code
open Go.Vm
variable {E : Env}
/-- the first states of a process -/
def RngF1 (m : Mach) (p : Nat) : Prop := ∀ l, m.fst[p]? = some l → l.all (inR (-1) ((((m.out.getD 0 []).getD p []).length : Int) - 1)) = true

theorem l54_2 {Q : Out → Regs → Hp → Prop} (F : FsQ E) {f sy st o : V} {m : Mach} (hm : MachV E f sy st o m) (hsh : Shp m) (hr : 0 ≤ m.r ∧ m.r ≤ 6) (ho : 1 ≤ m.outs ∧ m.outs ≤ 8) {H : Hp} {pb : Nat} (hA : At H pb (.cells (mcells f sy st o m)))
    (hQ : (∀ p, RngF1 m p ∧ ∀ k, RngO m k p ∧ RngS m k p) → ∀ r, Q (.exit 0) r H)
    (hF : (¬ ∀ p, RngF1 m p ∧ ∀ k, RngO m k p ∧ RngS m k p) → ∀ r, look r 2 = some (.bool false) → Q .ret r H) :
    ∀ r, restrict r [1, 3] = [(1, .ptr pb 0), (3, .int .i64 0)] → Runs E none w54_2 r H Q := by
  intro r hr'
  have hFl := hsh.f
  have hO := hsh.o
  have h0 : 0 < m.out.length := by omega
  have hx0 : m.out[0]? = some m.out[0] := List.getElem?_eq_getElem h0
  have hg0 : m.out.getD 0 [] = m.out[0] := by rw [List.getD_eq_getElem?_getD, hx0]; rfl
  obtain ⟨bo, oo, capo, hov, xo, hco, hxo2⟩ := hm.o.at hx0
  subst hov
  refine Runs.loopS (σ := Nat) (fun p => [(1, .ptr pb 0), (3, .int .i64 p)])
    (fun p H' => (p : Int) ≤ m.n ∧ H' = H ∧ ∀ p', p' < p → RngF1 m p' ∧ ∀ k, RngO m k p' ∧ RngS m k p') (fun p => m.n.toNat - p) ?_ 0 _ _ hr' ⟨by omega, rfl, fun p h => by omega⟩
  rintro p H1 ⟨hp, rfl, hall⟩
  refine Sq <| Sq <| Rg <| O1 rfl <| O1 rfl <| O1 (ldA rfl ‹_› (by rfl)) <| O1 rfl <| On <| ?_
  refine Runs.cond rfl (fun hc => ?_) (fun hc => ?_)
  · have hc : (p : Int) < m.n := of_decide_eq_true hc
    have hltp : p < m.fst.length := by omega
    have hxp : m.fst[p]? = some m.fst[p] := List.getElem?_eq_getElem hltp
    have hltq : p < m.out[0].length := by have := hsh.oi _ (List.getElem_mem h0); omega
    have hxq : m.out[0][p]? = some m.out[0][p] := List.getElem?_eq_getElem hltq
    have hgi : ((m.out.getD 0 []).getD p []).length = m.out[0][p].length := by rw [hg0, List.getD_eq_getElem?_getD, hxq]; rfl
    obtain ⟨b, o1, cap, rfl, x, hc1, hx2⟩ := hm.f.at hxp
    obtain ⟨b2, o2, cap2, rfl, y, hc2, hy2⟩ := hxo2.at hxq
    refine Sk <| Sq <| Bk <| Sq <| Sq <| Dg <| D1 rfl <| D1 (ldA rfl ‹_› (by rfl)) <| D1 rfl <| D1 (step_ixS rfl rfl ‹_›) <| D1 (step_ld1 rfl ‹_›) <| D1 rfl <| D1 (ldA rfl ‹_› (by rfl)) <|
      D1 (ix0 rfl ‹_›) <| D1 (step_ld1 rfl ‹_›) <| D1 rfl <| D1 (step_ixS rfl rfl ‹_›) <| D1 (step_ld1 rfl ‹_›) <| D1 (lnS rfl ‹_›) <| D1 rfl <| ?_
    have hyl := hy2.1
    have hw : IntKind.i64.wrap ((m.out[0][p].length : Int) - Int.ofNat 1) = (m.out[0][p].length : Int) - 1 := wrap_id (by show _ ≤ (m.out[0][p].length : Int) - (1 : Int); omega) (by show (m.out[0][p].length : Int) - (1 : Int) < _; omega)
    rw [hw]
    refine DrR.call rfl rfl (ValR.fn (CallR.mono (t68 F hx2 (-1) ((m.out[0][p].length : Int) - 1) H1) ?_))
    rintro _ H' ⟨rfl, e⟩
    subst e
    refine ⟨Nat.le_refl _, ?_⟩
    refine D1 rfl <| Dn <| ?_
    cases hb : m.fst[p].all (inR (-1) ((m.out[0][p].length : Int) - 1)) with
    | false =>
      refine CT rfl <| Sq <| Rg <| O1 rfl <| On <| Rt <| ?_
      exact hF (fun h => by have := (h p).1 _ hxp; rw [hgi, hb] at this; cases this) _ rfl
    | true =>
      refine CF rfl <| Sk <| Sq <| Rg <| O1 rfl <| On <| Bk <| ?_
      have hRF : RngF1 m p := fun l hl => by rw [hxp] at hl; cases hl; rw [hgi]; exact hb
      refine l54_1 F hm hsh hr ho hA hc ?_ ?_ _ rfl
      · intro hRO r' g1 g3
        refine Rg <| O1 (step_mv ‹_›) <| O1 rfl <| O1 rfl <| On <| ?_
        refine ⟨p + 1, by simp only; omega, ?_, by omega, rfl, fun k' hk' => ?_⟩
        · simp [restrict, put, look_cons, g1]
          exact idx_succ hltp hm.f.1
        · by_cases e : k' = p
          · subst e; exact ⟨hRF, hRO⟩
          · exact hall k' (by omega)
      · exact fun hRS r' g => hF (fun h => hRS (h p).2) r' g
  · have hc : ¬ (p : Int) < m.n := of_decide_eq_false hc
    refine Xt <| ?_
    refine hQ (fun p' => ?_) _
    by_cases e : p' < p
    · exact hall p' e
    · refine ⟨fun l hl => ?_, fun k => ⟨fun s x hs hx => ?_, fun s x hs hx => ?_⟩⟩
      · have := (List.getElem?_eq_some_iff.1 hl).1; omega
      · have := (List.getElem?_eq_some_iff.1 hx).1
        have := hsh.oi _ (List.mem_of_getElem? hs); omega
      · have := (List.getElem?_eq_some_iff.1 hx).1
        have := (hsh.si _ _ hs).1; omega

theorem rng_iff {m : Mach} : (∀ p, RngF1 m p ∧ ∀ k, RngO m k p ∧ RngS m k p) ↔ Rng m := by
  constructor
  · intro h
    refine ⟨fun p l hl => (h p).1 l hl, fun s hs x hx => ?_, fun s hs rc hrc x hx => ?_⟩
    · obtain ⟨k, hk⟩ := List.getElem?_of_mem hs
      obtain ⟨p, hp⟩ := List.getElem?_of_mem hx
      exact ((h p).2 k).1 s x hk hp
    · obtain ⟨k, hk⟩ := List.getElem?_of_mem hs
      obtain ⟨p, hp⟩ := List.getElem?_of_mem hrc
      exact ((h p).2 k).2 s rc hk hp x hx
  · intro h p
    exact ⟨fun l hl => h.f p l hl, fun k => ⟨fun s x hs hx => h.o s (List.mem_of_getElem? hs) x (List.mem_of_getElem? hx), fun s rc hs hrc x hx => h.s s (List.mem_of_getElem? hs) rc (List.mem_of_getElem? hrc) x hx⟩⟩

theorem s54 (F : FsQ E) (hf : E.funcs 54 = some c54) {f sy st o : V} {m : Mach} (hm : MachV E f sy st o m) (hsh : Shp m) (hr : 0 ≤ m.r ∧ m.r ≤ 6) (ho : 1 ≤ m.outs ∧ m.outs ≤ 8) (H : Hp) :
    CallR E 54 [.agg (mcells f sy st o m)] H (fun w H' => BoolR (Rng m) w ∧ Ext H H') := by
  refine CallR.of (F.prim 54 (by decide)) hf rfl ?_
  have hA := At.new H (.cells (mcells f sy st o m))
  have hX := Ext.new H (.cells (mcells f sy st o m))
  refine Sq <| Rg <| O1 rfl <| O1 rfl <| On <| Sq <| Sq <| Rg <| O1 rfl <| On <| Bk <| ?_
  refine l54_2 F hm hsh hr ho hA ?_ ?_ _ rfl
  · intro h r
    refine Sq <| Rg <| O1 rfl <| On <| Rt <| ?_
    exact ⟨(fun i h => by cases h), _, rfl, BoolR.t (rng_iff.1 h), hX⟩
  · intro h r hr
    exact ⟨(fun i h => by cases h), [.bool false], by simp [results, result, hr], BoolR.f (fun g => h (rng_iff.2 g)), hX⟩
end Go.Vm.Code
