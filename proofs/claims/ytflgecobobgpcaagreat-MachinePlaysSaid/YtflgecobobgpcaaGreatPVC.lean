/-
  Operations of the abstract machine that leave the heap alone are sound. Conditions: none beyond those that each statement names.
-/
import Derived.Test.YtflgecobobgpcaaGreatPVB
import Derived.Laws.Tables
import Derived.Laws.Cover3
namespace Go.Vm

section
variable {P : Program} {M : LM} {r : Regs} {a : Act}

theorem bool_of {o : Opd} {b : Bool} {x : Operand} (h : chkO x o = true) (e : ev r o = some (.bool b)) (hr : RR M r a.tmps) : a.eval x = .bool b := ev_sound h e hr
theorem int_of {o : Opd} {k : IntKind} {n : Int} {x : Operand} (h : chkO x o = true) (e : ev r o = some (.int k n)) (hr : RR M r a.tmps) : a.eval x = .int k n := ev_sound h e hr

theorem eqGuard_int (op : BinOp) (t : TypeId) (x y : Operand) (k k' : IntKind) (m n : Int) (w : World) : (eqGuard op t x y (.int k m) (.int k' n)).run P w = .ok () w := by
  cases op <;> simp [eqGuard]

theorem binInt_sound {op : BinOp} {k k' : IntKind} {m n : Int} {v : V} (t : TypeId) (h : binInt op k m k' n = some v) (w : World) :
    ∃ x, (binOp op t (.int k m) (.int k' n)).run P w = .ok x w ∧ VR M v x := by
  by_cases hk : k = k'
  · subst hk
    cases op <;> simp only [binInt, if_true, bitsOf] at h <;> first
      | (cases h; exact ⟨_, by simp [binOp, Op.intArith, Op.intCmp, Op.intBits], rfl⟩)
      | (split at h <;> first | (cases h; done) | skip
         rename_i hy; cases h; exact ⟨_, by simp [binOp, Op.intDiv, Op.shift, hy], rfl⟩)
  · cases op <;> simp only [binInt, if_neg hk] at h <;> first
      | (cases h; done)
      | (split at h <;> first | (cases h; done) | skip
         rename_i hy; cases h; exact ⟨_, by simp [binOp, Op.shift, hy], rfl⟩)

theorem eqInts_spec : ∀ {n : Nat} {xs ys : List V} {e : Bool}, eqInts n xs ys = some e →
    xs.length = n ∧ ys.length = n ∧ ∃ (ks : List (IntKind × Int × Int)), xs = ks.map (fun k => .int k.1 k.2.1) ∧ ys = ks.map (fun k => .int k.1 k.2.2) ∧ e = ks.all fun k => k.2.1 == k.2.2
  | 0, [], [], e, h => by simp [eqInts] at h; subst h; exact ⟨rfl, rfl, [], rfl, rfl, rfl⟩
  | 0, _ :: _, _, _, h => by simp [eqInts] at h
  | 0, [], _ :: _, _, h => by simp [eqInts] at h
  | n + 1, [], _, _, h => by simp [eqInts] at h
  | n + 1, x :: xs, [], _, h => by cases x <;> simp [eqInts] at h
  | n + 1, x :: xs, y :: ys, e, h => by
    cases x <;> try (simp [eqInts] at h; done)
    cases y <;> try (simp [eqInts] at h; done)
    rename_i k a k' b
    simp only [eqInts] at h
    split at h
    · rename_i hk
      subst hk
      simp only [Option.bind_eq_some_iff] at h
      obtain ⟨e', h', he⟩ := h
      cases he
      obtain ⟨h1, h2, ks, rfl, rfl, rfl⟩ := eqInts_spec h'
      exact ⟨by simp at h1 ⊢; exact h1, by simp at h2 ⊢; exact h2, (k, a, b) :: ks, rfl, rfl, by simp⟩
    · cases h

/-- a row of numbers, as the model's values -/
def cellsL (f : IntKind × Int × Int → Int) (ks : List (IntKind × Int × Int)) : List Value := ks.map fun k => .int k.1 (f k)

/-- '==' of a flat type, on the cells from off on -/
def FlatEq (P : Program) (D : Nat) (t : TypeId) (n : Nat) : Prop :=
  ∀ (w : World) (ks : List (IntKind × Int × Int)) (pre suf pre' suf' : List Value), ks.length = n → pre.length = pre'.length →
    ∃ x y, (part t (pre ++ cellsL (·.2.1) ks ++ suf).toArray pre.length).run P w = .ok x w ∧ (part t (pre' ++ cellsL (·.2.2) ks ++ suf').toArray pre.length).run P w = .ok y w ∧
      (Op.equalIn D t x y).run P w = .ok (ks.all fun k => k.2.1 == k.2.2) w

theorem run_isAgg {t : TypeId} {d : TypeDesc} (h : P.underlying t = some d) (w : World) : (isAgg t).run P w = .ok (isAggB P t) w := by
  simp only [isAgg, Sem.run_bind, run_underlying h, Result.andThen_ok, isAggB, h]
  cases d <;> rfl

theorem part_agg {t : TypeId} {d : TypeDesc} (h : P.underlying t = some d) (ha : isAggB P t = true) {n : Nat} (hn : P.cellsOf t = n) (w : World) (pre mid suf : List Value) (hl : mid.length = n) :
    (part t (pre ++ mid ++ suf).toArray pre.length).run P w = .ok (.agg mid.toArray) w := by
  obtain ⟨i, hi⟩ := info_of_underlying h
  simp only [part, Sem.run_bind, run_isAgg h, Result.andThen_ok, ha, if_true, run_sizeOf w hi, Sem.run_pure, hn]
  congr 2
  apply Array.ext'
  simp [hl]

theorem part_cell {t : TypeId} {d : TypeDesc} (h : P.underlying t = some d) (ha : isAggB P t = false) (w : World) (pre suf : List Value) (x : Value) :
    (part t (pre ++ [x] ++ suf).toArray pre.length).run P w = .ok x w := by
  simp [part, run_isAgg h, ha]

theorem flat_cellsOf {d t n : Nat} (h : flatT P d t = some n) : (P.underlying t).isSome = true := by
  cases d with
  | zero => simp [flatT] at h
  | succ d =>
    simp only [flatT] at h
    split at h <;> simp_all

theorem split_at (n m : Nat) {α : Type} (l : List α) (h : l.length = n + m) : ∃ a b, l = a ++ b ∧ a.length = n ∧ b.length = m :=
  ⟨l.take n, l.drop n, by simp, by simp [h], by simp [h]⟩

theorem flat_items (D : Nat) (e : TypeId) (m : Nat) (hm : P.cellsOf e = m) (IH : FlatEq P D e m) : ∀ (n j : Nat) (w : World) (ks : List (IntKind × Int × Int)) (pre pre' : List Value), ks.length = n * m → pre.length = j * m → pre'.length = j * m →
    (Op.eqItems D e m (pre ++ cellsL (·.2.1) ks).toArray (pre' ++ cellsL (·.2.2) ks).toArray (List.range' j n)).run P w = .ok (ks.all fun k => k.2.1 == k.2.2) w
  | 0, j, w, ks, pre, pre', hk, _, _ => by
    have : ks = [] := by simpa using hk
    subst this; simp [Op.eqItems]
  | n + 1, j, w, ks, pre, pre', hk, hp, hp' => by
    obtain ⟨a, b, rfl, ha, hb⟩ := split_at m (n * m) ks (by rw [hk, Nat.succ_mul]; omega)
    obtain ⟨x, y, hx, hy, he⟩ := IH w a pre (cellsL (·.2.1) b) pre' (cellsL (·.2.2) b) ha (by omega)
    rw [List.range'_succ]
    simp only [Op.eqItems, Sem.run_bind]
    have e1 : pre ++ cellsL (·.2.1) (a ++ b) = pre ++ cellsL (·.2.1) a ++ cellsL (·.2.1) b := by simp [cellsL]
    have e2 : pre' ++ cellsL (·.2.2) (a ++ b) = pre' ++ cellsL (·.2.2) a ++ cellsL (·.2.2) b := by simp [cellsL]
    rw [e1, e2, ← hp, hx, Result.andThen_ok, hy, Result.andThen_ok, he, Result.andThen_ok]
    have ih := flat_items D e m hm IH n (j + 1) w b (pre ++ cellsL (·.2.1) a) (pre' ++ cellsL (·.2.2) a) hb (by simp [cellsL, ha, hp, Nat.succ_mul]) (by simp [cellsL, ha, hp', Nat.succ_mul])
    cases hall : a.all fun k => k.2.1 == k.2.2 with
    | false => simp [List.all_append, hall]
    | true =>
      simp only [Bool.not_true, Bool.false_eq_true, if_false, List.all_append, hall, Bool.true_and]
      exact ih

theorem flat_fields (D : Nat) (IH : ∀ t m, flatT P D t = some m → P.cellsOf t = m → FlatEq P (D + 9970) t m) : ∀ (fs : List Field) (off n : Nat) (w : World) (ks : List (IntKind × Int × Int)) (pre pre' : List Value),
    fs.foldl (fun acc f => acc.bind fun off =>
          if f.name != "_" && Nat.beq f.offset off then (flatT P D f.type).bind fun m => if (P.info? f.type).isSome && Nat.beq (P.cellsOf f.type) m then some (off + m) else none else none) (some off) = some n →
    pre.length = off → pre'.length = off → off + ks.length = n →
    (Op.eqFields (D + 9970) (pre ++ cellsL (·.2.1) ks).toArray (pre' ++ cellsL (·.2.2) ks).toArray fs).run P w = .ok (ks.all fun k => k.2.1 == k.2.2) w
  | [], off, n, w, ks, pre, pre', h, _, _, hk => by
    simp at h
    have : ks = [] := by apply List.eq_nil_of_length_eq_zero; omega
    subst this; simp [Op.eqFields]
  | f :: fs, off, n, w, ks, pre, pre', h, hp, hp', hk => by
    have hnone : ∀ fs : List Field, fs.foldl (fun acc f => acc.bind fun off =>
          if f.name != "_" && Nat.beq f.offset off then (flatT P D f.type).bind fun m => if (P.info? f.type).isSome && Nat.beq (P.cellsOf f.type) m then some (off + m) else none else none) (none : Option Nat) = none := by
      intro fs; induction fs with
      | nil => rfl
      | cons g gs ih => simpa using ih
    have hmono : ∀ (fs : List Field) (off n : Nat), fs.foldl (fun acc f => acc.bind fun off =>
          if f.name != "_" && Nat.beq f.offset off then (flatT P D f.type).bind fun m => if (P.info? f.type).isSome && Nat.beq (P.cellsOf f.type) m then some (off + m) else none else none) (some off) = some n → off ≤ n := by
      intro fs; induction fs with
      | nil => intro off n h; simp at h; omega
      | cons g gs ih =>
        intro off n h
        simp only [List.foldl_cons, Option.bind_some] at h
        split at h
        · cases hg : flatT P D g.type with
          | none => rw [hg, Option.bind_none, hnone] at h; cases h
          | some m =>
            rw [hg, Option.bind_some] at h
            split at h
            · have := ih _ _ h; omega
            · rw [hnone] at h; cases h
        · rw [hnone] at h; cases h
    simp only [List.foldl_cons, Option.bind_some] at h
    split at h
    · rename_i hcond
      simp only [Bool.and_eq_true, bne_iff_ne, ne_eq, Nat.beq_eq] at hcond
      cases hg : flatT P D f.type with
      | none => rw [hg, Option.bind_none, hnone] at h; cases h
      | some m =>
        rw [hg, Option.bind_some] at h
        split at h
        · rename_i hi
          simp only [Bool.and_eq_true, Nat.beq_eq] at hi
          have hle := hmono _ _ _ h
          obtain ⟨a, b, rfl, ha, hb⟩ := split_at m (n - (off + m)) ks (by omega)
          obtain ⟨x, y, hx, hy, he⟩ := IH _ _ hg hi.2 w a pre (cellsL (·.2.1) b) pre' (cellsL (·.2.2) b) ha (by omega)
          have e1 : pre ++ cellsL (·.2.1) (a ++ b) = pre ++ cellsL (·.2.1) a ++ cellsL (·.2.1) b := by simp [cellsL]
          have e2 : pre' ++ cellsL (·.2.2) (a ++ b) = pre' ++ cellsL (·.2.2) a ++ cellsL (·.2.2) b := by simp [cellsL]
          simp only [Op.eqFields, hcond.1, ne_eq, not_false_eq_true, if_true, Sem.run_bind]
          rw [e1, e2, hcond.2, ← hp, hx, Result.andThen_ok, hy, Result.andThen_ok, he, Result.andThen_ok]
          have ih := flat_fields D IH fs (off + m) n w b (pre ++ cellsL (·.2.1) a) (pre' ++ cellsL (·.2.2) a) h (by simp [cellsL, ha, hp]) (by simp [cellsL, ha, hp']) (by omega)
          cases hall : a.all fun k => k.2.1 == k.2.2 with
          | false => simp [List.all_append, hall]
          | true =>
            simp only [Bool.not_true, Bool.false_eq_true, if_false, List.all_append, hall, Bool.true_and]
            exact ih
        · rw [hnone] at h; cases h
    · rw [hnone] at h; cases h

theorem flatEq : ∀ (d : Nat) (t n : Nat), flatT P d t = some n → P.cellsOf t = n → FlatEq P (d + 9970) t n
  | 0, t, n, h, _ => by simp [flatT] at h
  | d + 1, t, n, h, hn => by
    have hu := flat_cellsOf h
    obtain ⟨dsc, hd⟩ := Option.isSome_iff_exists.1 hu
    intro w ks pre suf pre' suf' hk hp
    cases dsc <;> simp only [flatT, hd] at h <;> try (cases h; done)
    case int k =>
      cases h
      obtain ⟨x, rfl⟩ : ∃ x, ks = [x] := by cases ks with | nil => simp at hk | cons x xs => cases xs with | nil => exact ⟨x, rfl⟩ | cons => simp at hk
      have ha : isAggB P t = false := by simp [isAggB, hd]
      refine ⟨.int x.1 x.2.1, .int x.1 x.2.2, part_cell hd ha w pre suf _, ?_, ?_⟩
      · rw [hp]; exact part_cell hd ha w pre' suf' _
      · rw [show d + 1 + 9970 = (d + 9970) + 1 from by omega, run_equalIn_int w _ _ _ _ _ _ hd]; simp
    case array m e =>
      cases he : flatT P d e with
      | none => simp [he] at h
      | some c =>
        simp only [he, Option.bind_some] at h
        split at h
        · rename_i hi
          simp only [Bool.and_eq_true, Nat.beq_eq] at hi
          cases h
          obtain ⟨ie, hie⟩ := Option.isSome_iff_exists.1 hi.1
          have ha : isAggB P t = true := by simp [isAggB, hd]
          refine ⟨.agg (cellsL (·.2.1) ks).toArray, .agg (cellsL (·.2.2) ks).toArray, part_agg hd ha hn w pre _ suf (by simp [cellsL, hk]), ?_, ?_⟩
          · rw [hp]; exact part_agg hd ha hn w pre' _ suf' (by simp [cellsL, hk])
          · rw [show d + 1 + 9970 = (d + 9970) + 1 from by omega, run_equalIn_array w _ _ _ hd hie, hi.2, List.range_eq_range']
            have := flat_items (d + 9970) e c hi.2 (flatEq d e c he hi.2) m 0 w ks [] [] hk (by simp) (by simp)
            simpa using this
        · cases h
    case struct fs =>
      split at h
      · cases h
      · rename_i hst
        have ha : isAggB P t = true := by simp [isAggB, hd]
        have hf : P.fieldsOf t = fs := by simp [Program.fieldsOf, hd]
        refine ⟨.agg (cellsL (·.2.1) ks).toArray, .agg (cellsL (·.2.2) ks).toArray, part_agg hd ha hn w pre _ suf (by simp [cellsL, hk]), ?_, ?_⟩
        · rw [hp]; exact part_agg hd ha hn w pre' _ suf' (by simp [cellsL, hk])
        · rw [show d + 1 + 9970 = (d + 9970) + 1 from by omega, run_equalIn_struct w _ _ _ _ (by rw [hf]; exact hd) (by simpa using hst), hf]
          have := flat_fields d (fun t m h1 h2 => flatEq d t m h1 h2) fs.toList 0 n w ks [] [] h rfl rfl (by omega)
          simpa using this

theorem equal_flat {t n : Nat} (h : flatIs P t n = true) (w : World) (ks : List (IntKind × Int × Int)) (hk : ks.length = n) :
    (Op.equal t (.agg (cellsL (·.2.1) ks).toArray) (.agg (cellsL (·.2.2) ks).toArray)).run P w = .ok (ks.all fun k => k.2.1 == k.2.2) w := by
  simp only [flatIs, Bool.and_eq_true] at h
  obtain ⟨⟨⟨ha, hn⟩, _⟩, h⟩ := h
  simp only [Nat.beq_eq] at hn
  cases hf : flatT P 30 t with
  | none => simp [hf] at h
  | some m =>
    simp only [hf, Nat.beq_eq] at h
    subst h
    obtain ⟨dsc, hd⟩ := Option.isSome_iff_exists.1 (flat_cellsOf hf)
    obtain ⟨x, y, hx, hy, he⟩ := flatEq 30 t m hf hn w ks [] [] [] [] hk rfl
    rw [part_agg hd ha hn w [] _ [] (by simp [cellsL, hk])] at hx
    have hy' := part_agg hd ha hn w [] (cellsL (·.2.2) ks) [] (by simp [cellsL, hk])
    simp only [List.length_nil] at hy hy'
    rw [hy'] at hy
    cases hx; cases hy
    exact he



theorem VRL.ints {f : IntKind × Int × Int → Int} : ∀ {ks : List (IntKind × Int × Int)} {xs : List Value}, VRL M (ks.map fun k => .int k.1 (f k)) xs → xs = cellsL f ks
  | [], _, h => h
  | _ :: _, _, ⟨y, ys, h1, h2, e⟩ => by subst e; cases h1; rw [VRL.ints h2]; rfl

theorem addr_add (b o n : Nat) : (⟨b, o, none⟩ : Addr).add n = ⟨b, o + n, none⟩ := by
  unfold Addr.add; split
  · rename_i h; subst h; rfl
  · rfl

theorem run_sliceBound {k : IntKind} {i y : Nat} (h : i ≤ y) (code : BoundsCode) (w : World) : (Instr.sliceBound (.int k i) y code).run P w = .ok i w := by
  simp [Instr.sliceBound, asIntOf, h]

theorem run_sliceBounds {isS : Bool} {len cap : Nat} {lo hi mx : Option Operand} {lo' hi' mx' : Option Nat} {l h m : Nat} (hmx : !(mx.isSome && hi.isNone))
    (hl : (lo = none ∧ lo' = none) ∨ ∃ y n k, lo = some y ∧ lo' = some n ∧ a.eval y = .int k (n : Nat))
    (hh : (hi = none ∧ hi' = none) ∨ ∃ y n k, hi = some y ∧ hi' = some n ∧ a.eval y = .int k (n : Nat))
    (hm : (mx = none ∧ mx' = none) ∨ ∃ y n k, mx = some y ∧ mx' = some n ∧ a.eval y = .int k (n : Nat))
    (el : l = lo'.getD 0) (eh : h = hi'.getD len) (em : m = mx'.getD cap) (h1 : l ≤ h) (h2 : h ≤ m) (h3 : m ≤ cap) (w : World) :
    (Instr.sliceBounds isS len cap (lo.map a.eval) (hi.map a.eval) (mx.map a.eval)).run P w = .ok (l, h, m) w := by
  unfold Instr.sliceBounds
  rcases hm with ⟨rfl, rfl⟩ | ⟨ym, nm, km, rfl, rfl, evm⟩
  · simp only [Option.getD_none] at em
    subst em
    rcases hh with ⟨rfl, rfl⟩ | ⟨yh, nh, kh, rfl, rfl, evh⟩
    · simp only [Option.getD_none] at eh
      subst eh
      rcases hl with ⟨rfl, rfl⟩ | ⟨yl, nl, kl, rfl, rfl, evl⟩
      · simp only [Option.getD_none] at el; subst el; simp
      · simp only [Option.getD_some] at el; subst el; simp [evl, run_sliceBound h1]
    · simp only [Option.getD_some] at eh
      subst eh
      rcases hl with ⟨rfl, rfl⟩ | ⟨yl, nl, kl, rfl, rfl, evl⟩
      · simp only [Option.getD_none] at el; subst el; simp [evh, run_sliceBound h2]
      · simp only [Option.getD_some] at el; subst el; simp [evl, evh, run_sliceBound h1, run_sliceBound h2]
  · simp only [Option.getD_some] at em
    subst em
    rcases hh with ⟨rfl, rfl⟩ | ⟨yh, nh, kh, rfl, rfl, evh⟩
    · simp at hmx
    · simp only [Option.getD_some] at eh
      subst eh
      rcases hl with ⟨rfl, rfl⟩ | ⟨yl, nl, kl, rfl, rfl, evl⟩
      · simp only [Option.getD_none] at el; subst el; simp [evm, evh, run_sliceBound h2, run_sliceBound h3]
      · simp only [Option.getD_some] at el; subst el; simp [evm, evl, evh, run_sliceBound h1, run_sliceBound h2, run_sliceBound h3]

theorem bounds_spec {len cap : Nat} {lo hi mx : Option Nat} {l h m : Nat} (e : bounds len cap lo hi mx = some (l, h, m)) :
    l = lo.getD 0 ∧ h = hi.getD len ∧ m = mx.getD cap ∧ l ≤ h ∧ h ≤ m ∧ m ≤ cap := by
  unfold bounds at e
  simp only at e
  cases hc : (Nat.ble (lo.getD 0) (hi.getD len) && Nat.ble (hi.getD len) (mx.getD cap) && Nat.ble (mx.getD cap) cap) with
  | false => simp [hc] at e
  | true =>
    simp only [hc, cond_true, Option.some.injEq, Prod.mk.injEq] at e
    simp only [Bool.and_eq_true, Nat.ble_eq] at hc
    obtain ⟨rfl, rfl, rfl⟩ := e
    exact ⟨rfl, rfl, rfl, hc.1.1, hc.1.2, hc.2⟩

theorem cond_beq {m l : Nat} {α : Type} (x y : α) : cond (Nat.beq m l) x y = if m = l then x else y := by
  by_cases h : m = l
  · subst h; simp
  · have : Nat.beq m l = false := by
      cases h' : Nat.beq m l
      · rfl
      · exact absurd (Nat.eq_of_beq_eq_true h') h
    simp [this, h]

theorem run_sliceAt_slice {t e n : Nat} (ht : P.underlying t = some (.slice e)) (hs : sizeIs P e n = true) {base : Option Addr} {len cap l h m : Nat} {lo hi mx : Option Value} (w : World)
    (hb : (Instr.sliceBounds true len cap lo hi mx).run P w = .ok (l, h, m) w) :
    (Instr.sliceAt t (.slice base len cap) lo hi mx).run P w = .ok (.slice (if m = l then base else base.map (·.add (l * n))) (h - l) (m - l)) w := by
  unfold sizeIs at hs
  cases hi : P.info? e with
  | none => simp [hi] at hs
  | some i =>
    simp only [hi, Nat.beq_eq] at hs
    simp only [Instr.sliceAt, Instr.slice, Sem.run_bind, run_underlying ht, Result.andThen_ok, hb, run_sizeOf w hi, Sem.run_pure]
    simp [Program.cellsOf, hi, hs]

theorem run_sliceAt_array {t e n c : Nat} (ht : P.underlying t = some (.array c e)) (hs : sizeIs P e n = true) {ad : Addr} {l h m : Nat} {lo hi mx : Option Value} (w : World)
    (hb : (Instr.sliceBounds false c c lo hi mx).run P w = .ok (l, h, m) w) :
    (Instr.sliceAt t (.pointer (some ad)) lo hi mx).run P w = .ok (.slice (some (if m = l then ad else ad.add (l * n))) (h - l) (m - l)) w := by
  unfold sizeIs at hs
  cases hi : P.info? e with
  | none => simp [hi] at hs
  | some i =>
    simp only [hi, Nat.beq_eq] at hs
    simp only [Instr.sliceAt, Instr.sureAddr, Sem.run_bind, run_underlying ht, Result.andThen_ok, hb, run_sizeOf w hi, Sem.run_pure]
    simp [Program.cellsOf, hi, hs]

theorem sliceOf_some {t e : Nat} (h : sliceOf P t = some e) : P.underlying t = some (.slice e) := by
  unfold sliceOf at h; split at h <;> simp_all
theorem arrOf_some {t : Nat} {p : Nat × Nat} (h : arrOf P t = some p) : P.underlying t = some (.array p.1 p.2) := by
  unfold arrOf at h
  split at h
  · rename_i hu; cases h; exact hu
  · cases h
theorem structOf_some {t : Nat} {fs : Array Field} (h : structOf P t = some fs) : P.underlying t = some (.struct fs) := by
  unfold structOf at h; split at h <;> simp_all
theorem mapOf_some {t : Nat} {p : Nat × Nat} (h : mapOf P t = some p) : P.underlying t = some (.map p.1 p.2) := by
  unfold mapOf at h
  split at h
  · rename_i hu; cases h; exact hu
  · cases h

theorem div_sub {x l es : Nat} : x / es - l = (x - l * es) / es := by
  rw [Nat.mul_comm, Nat.sub_mul_div]

theorem run_indexAt_slice {t e n : Nat} (ht : P.underlying t = some (.slice e)) (hs : sizeIs P e n = true) {b o len cap i : Nat} {k : IntKind} (hi : i < len) (w : World) :
    (Instr.indexAt t (.slice (some ⟨b, o, none⟩) len cap) (.int k i)).run P w = .ok (.pointer (some ⟨b, o + i * n, none⟩)) w := by
  unfold sizeIs at hs
  cases hi' : P.info? e with
  | none => simp [hi'] at hs
  | some inf =>
    simp only [hi', Nat.beq_eq] at hs
    have e1 : P.cellsOf e = n := by simp [Program.cellsOf, hi', hs]
    simp [Instr.indexAt, asIntOf, run_underlying ht, hi, run_sizeOf w hi', e1, addr_add]

theorem run_indexAt_array {t e n c : Nat} (ht : P.underlying t = some (.array c e)) (hs : sizeIs P e n = true) {b o i : Nat} {k : IntKind} (hi : i < c) (w : World) :
    (Instr.indexAt t (.pointer (some ⟨b, o, none⟩)) (.int k i)).run P w = .ok (.pointer (some ⟨b, o + i * n, none⟩)) w := by
  unfold sizeIs at hs
  cases hi' : P.info? e with
  | none => simp [hi'] at hs
  | some inf =>
    simp only [hi', Nat.beq_eq] at hs
    have e1 : P.cellsOf e = n := by simp [Program.cellsOf, hi', hs]
    simp [Instr.indexAt, Instr.sureAddr, asIntOf, run_underlying ht, hi, run_sizeOf w hi', e1, addr_add]

theorem toList1 {α : Type} {a : Array α} {x : α} (h : a.toList = [x]) : a = #[x] := Array.ext' (by simpa using h)
theorem toList2 {α : Type} {a : Array α} {x y : α} (h : a.toList = [x, y]) : a = #[x, y] := Array.ext' (by simpa using h)

/-- an array's or a string's element, a composite value, and all that only computes -/
theorem pure_sound {o : Oper} {ao : AOp} {v : V} (hc : chkOp P o ao = true) (hk : ao.kind = .pure) (he : pureOp r ao = some v) (hr : RR M r a.tmps) (w : World) :
    ∃ x, (execOp a.eval o).run P w = .ok (.value x) w ∧ VR M v x := by
  cases ao <;> simp only [AOp.kind] at hk <;> try (cases hk; done)
  case mv y =>
    simp only [chkOp] at hc
    simp only [pureOp] at he
    split at hc <;> rename_i hop
    · exact ⟨_, by simp [execOp, hop], ev_sound hc he hr⟩
    · exact ⟨_, by simp [execOp, hop], ev_sound hc he hr⟩
    · cases hc
  case pick c' a' b' =>
    simp only [chkOp] at hc
    split at hc
    · rename_i c x y hop
      simp only [Bool.and_eq_true] at hc
      simp only [pureOp, Option.bind_eq_some_iff] at he
      obtain ⟨cv, hcv, he⟩ := he
      cases cv <;> try (cases he; done)
      rename_i b
      have hb := bool_of hc.1.1 hcv hr
      cases b
      · exact ⟨a.eval y, by simp [execOp, hop, asBool, hb], ev_sound hc.2 he hr⟩
      · exact ⟨a.eval x, by simp [execOp, hop, asBool, hb], ev_sound hc.1.2 he hr⟩
    · cases hc
  case build z qs =>
    simp only [chkOp] at hc
    split at hc
    · rename_i t ps hop
      simp only [Bool.and_eq_true] at hc
      obtain ⟨hz, hc⟩ := hc
      simp only [pureOp, Option.bind_eq_some_iff] at he
      obtain ⟨l, hl, he⟩ := he
      cases he
      unfold zeroIs at hz
      cases hi : P.info? t with
      | none => simp [hi] at hz
      | some i =>
        cases hiz : i.zero with
        | none => simp [hi, hiz] at hz
        | some zv =>
          simp only [hi, hiz] at hz
          have hzl : VRL M z zv.cells.toList := chkVs_sound M hz
          have done : ∀ cells, P.built t (ps.map fun (i, x) => (i, a.eval x)).toList = some cells → VRL M l cells.toList →
              ∃ x, (execOp a.eval o).run P w = .ok (.value x) w ∧ VR M (.agg l) x := fun cells hb hv =>
            ⟨.agg cells, by simp only [execOp, hop, Sem.run_bind, run_build w t _ cells hb, Result.andThen_ok, Sem.run_pure], ⟨cells.toList, hv, by simp⟩⟩
          cases hu : P.underlying t with
          | none => simp [hu] at hc
          | some d =>
            cases d <;> simp only [hu] at hc <;> try (cases hc; done)
            case struct fs =>
              simp only [Bool.and_eq_true] at hc
              obtain ⟨arr', hf, hv⟩ := fill_sound (M := M) (r := r) (a := a) (fun (i : Nat) => (fs[i]?).map fun (f : Field) => (f.offset, P.cellsOf f.type)) (chkPartsS P fs)
                (fun p ps => rfl) (fun q qs => by cases q; rfl)
                (fun i x ps off n y qs h => by
                  simp only [chkPartsS, Bool.and_eq_true] at h
                  obtain ⟨⟨h1, h2⟩, h3⟩ := h
                  cases hf : fs[i]? with
                  | none => simp [hf] at h1
                  | some f => simp only [hf, Bool.and_eq_true, Nat.beq_eq] at h1; exact ⟨by simp [h1.1, h1.2], h2, h3⟩)
                hc.2 hl hr hzl
              refine done arr' ?_ hv
              unfold Program.built
              have hp : fs.toList.mapM (fun f => (P.info? f.type).map fun i => (f.offset, i.size)) = some (fs.toList.map fun f => (f.offset, P.cellsOf f.type)) := by
                have : ∀ l : List Field, fieldsOk P l = true → l.mapM (fun f => (P.info? f.type).map fun i => (f.offset, i.size)) = some (l.map fun f => (f.offset, P.cellsOf f.type)) := by
                  intro l hl
                  induction l with
                  | nil => rfl
                  | cons f fs ih =>
                    simp only [fieldsOk, List.all_cons, Bool.and_eq_true] at hl
                    obtain ⟨j, hj⟩ := Option.isSome_iff_exists.1 hl.1
                    rw [List.mapM_cons, ih hl.2]
                    simp [hj, Program.cellsOf]
                exact this _ hc.1
              simp only [hi, hu, hiz, hp]
              have e : (fun (x : Nat) => (fs.toList.map fun (f : Field) => (f.offset, P.cellsOf f.type)).toArray[x]?) = (fun (i : Nat) => (fs[i]?).map fun (f : Field) => (f.offset, P.cellsOf f.type)) := by
                funext i; simp
              rw [e]
              simpa using hf
            case array n e =>
              simp only [Bool.and_eq_true] at hc
              obtain ⟨ie, hie⟩ := Option.isSome_iff_exists.1 hc.1
              obtain ⟨arr', hf, hv⟩ := fill_sound (M := M) (r := r) (a := a) (fun i => some (i * P.cellsOf e, P.cellsOf e)) (chkPartsA (P.cellsOf e))
                (fun p ps => rfl) (fun q qs => by cases q; rfl)
                (fun i x ps off n y qs h => by
                  simp only [chkPartsA, Bool.and_eq_true, Nat.beq_eq] at h
                  obtain ⟨⟨⟨h1, h2⟩, h3⟩, h4⟩ := h
                  exact ⟨by rw [h1, h2], h3, h4⟩)
                hc.2 hl hr hzl
              refine done arr' ?_ hv
              unfold Program.built
              simp only [hi, hu, hiz, hie]
              have e : (fun i => some (i * ie.size, ie.size)) = (fun i => some (i * P.cellsOf e, P.cellsOf e)) := by funext i; simp [Program.cellsOf, hie]
              rw [e]
              simpa using hf
    · cases hc

  case nilck y =>
    simp only [chkOp] at hc
    split at hc
    · rename_i x hop
      simp only [pureOp, Option.bind_eq_some_iff] at he
      obtain ⟨u, hu, he⟩ := he
      have hv := ev_sound hc hu hr
      cases u <;> simp only at he <;> try (cases he; done)
      · cases he; obtain ⟨L, hL, hx⟩ := hv; exact ⟨_, by simp [execOp, hop, hx], ⟨L, hL, rfl⟩⟩
      · cases he; exact ⟨_, by simp [execOp, hop, show a.eval x = _ from hv], rfl⟩
      · cases he; obtain ⟨L, hL, hx⟩ := hv; exact ⟨_, by simp [execOp, hop, hx], ⟨L, hL, rfl⟩⟩
      · cases he; obtain ⟨L, hL, hx⟩ := hv; exact ⟨_, by simp [execOp, hop, hx], ⟨L, hL, rfl⟩⟩
    · cases hc
  case bin op x' y' =>
    simp only [chkOp] at hc
    split at hc
    · rename_i op' t x y t' hop
      simp only [Bool.and_eq_true, decide_eq_true_eq] at hc
      obtain ⟨⟨rfl, hx⟩, hy⟩ := hc
      simp only [pureOp, Option.bind_eq_some_iff] at he
      obtain ⟨u, hu, v', hv', he⟩ := he
      cases u <;> cases v' <;> (try simp only at he) <;> try (cases he; done)
      rename_i k m k' n
      obtain ⟨z, hz, hvz⟩ := binInt_sound (P := P) (M := M) t he w
      exact ⟨z, by simp [execOp, hop, int_of hx hu hr, int_of hy hv' hr, eqGuard_int, hz], hvz⟩
    · cases hc
  case eqb neg x' y' =>
    simp only [chkOp] at hc
    split at hc
    · rename_i op t x y t' hop
      simp only [Bool.and_eq_true] at hc
      obtain ⟨⟨⟨hb, ho⟩, hx⟩, hy⟩ := hc
      simp only [pureOp, Option.bind_eq_some_iff] at he
      obtain ⟨u, hu, v', hv', he⟩ := he
      cases u <;> cases v' <;> (try simp only at he) <;> try (cases he; done)
      cases he
      rename_i m n
      have hd : P.underlying t = some .bool := by unfold boolB at hb; split at hb <;> simp_all
      cases op <;> simp only at ho <;> try (cases ho; done)
      · have : neg = false := by simpa using ho
        subst this
        exact ⟨.bool (m == n), by simp [execOp, hop, bool_of hx hu hr, bool_of hy hv' hr, eqGuard, binOp, run_equal_bool w t m n hd], by simp [VR]⟩
      · subst ho
        exact ⟨.bool (!(m == n)), by simp [execOp, hop, bool_of hx hu hr, bool_of hy hv' hr, eqGuard, binOp, run_equal_bool w t m n hd], by simp [VR]⟩
    · cases hc
  case eqf neg n x' y' =>
    simp only [chkOp] at hc
    split at hc
    · rename_i op t x y t' hop
      simp only [Bool.and_eq_true] at hc
      obtain ⟨⟨⟨hb, ho⟩, hx⟩, hy⟩ := hc
      simp only [pureOp, Option.bind_eq_some_iff] at he
      obtain ⟨u, hu, v', hv', he⟩ := he
      cases u <;> cases v' <;> (try simp only at he) <;> try (cases he; done)
      simp only [Option.bind_eq_some_iff] at he
      obtain ⟨e, hq, he⟩ := he
      cases he
      rename_i xs ys
      obtain ⟨hlx, hly, ks, rfl, rfl, rfl⟩ := eqInts_spec hq
      obtain ⟨xs', hx1, hx2⟩ := ev_sound hx hu hr
      obtain ⟨ys', hy1, hy2⟩ := ev_sound hy hv' hr
      have ex := VRL.ints (f := (·.2.1)) hx1
      have ey := VRL.ints (f := (·.2.2)) hy1
      subst ex; subst ey
      have hg : P.eqGuardType P.depth t = false := by simp only [flatIs, Bool.and_eq_true] at hb; simpa using hb.1.2
      have heq := equal_flat hb w ks (by simpa using hlx)
      cases op <;> simp only at ho <;> try (cases ho; done)
      · have : neg = false := by simpa using ho
        subst this
        exact ⟨.bool (ks.all fun k => k.2.1 == k.2.2), by simp [execOp, hop, hx2, hy2, run_eqGuard_agg w _ _ _ _ _ _ hg, binOp, heq], by simp [VR]⟩
      · subst ho
        exact ⟨.bool (!(ks.all fun k => k.2.1 == k.2.2)), by simp [execOp, hop, hx2, hy2, run_eqGuard_agg w _ _ _ _ _ _ hg, binOp, heq], by simp [VR]⟩
    · cases hc
  case isnil neg x' =>
    simp only [chkOp] at hc
    split at hc
    · rename_i op t x y t' hop
      simp only [Bool.and_eq_true] at hc
      obtain ⟨⟨⟨hb, ho⟩, hx⟩, hy⟩ := hc
      simp only [pureOp, Option.bind_eq_some_iff] at he
      obtain ⟨u, hu, b, hq, he⟩ := he
      cases he
      obtain ⟨e, hse⟩ := Option.isSome_iff_exists.1 hb
      have hd := sliceOf_some hse
      have hy' : a.eval y = .slice none 0 0 := by
        split at hy
        · rfl
        · cases hy
      have hsl : ∃ ba l c, a.eval x = .slice ba l c ∧ b = ba.isNone := by
        have hv := ev_sound hx hu hr
        cases u <;> simp only [nilQ] at hq <;> try (cases hq; done)
        · cases hq; exact ⟨none, 0, 0, hv, rfl⟩
        · cases hq
          rename_i id off len c
          cases c
          · obtain ⟨L, _, hx⟩ := hv; exact ⟨_, _, _, hx, rfl⟩
          · obtain ⟨L, o, c, _, hx, _⟩ := hv; exact ⟨_, _, _, hx, rfl⟩
        · cases hq; obtain ⟨_, hx, _⟩ := hv.xs; exact ⟨_, _, _, hx, rfl⟩
      obtain ⟨ba, l, c, hx', rfl⟩ := hsl
      have heq := run_equal_slice_nil w t e ba l c hd
      cases op <;> simp only at ho <;> try (cases ho; done)
      · have : neg = false := by simpa using ho
        subst this
        exact ⟨.bool ba.isNone, by simp [execOp, hop, hx', hy', eqGuard, binOp, heq], by simp [VR]⟩
      · subst ho
        exact ⟨.bool (!ba.isNone), by simp [execOp, hop, hx', hy', eqGuard, binOp, heq], by simp [VR]⟩
    · cases hc
  case un op x' =>
    simp only [chkOp] at hc
    split at hc
    · rename_i op' t x hop
      simp only [Bool.and_eq_true, decide_eq_true_eq] at hc
      obtain ⟨rfl, hx⟩ := hc
      simp only [pureOp, Option.bind_eq_some_iff] at he
      obtain ⟨u, hu, he⟩ := he
      cases op' <;> cases u <;> simp only at he <;> try (cases he; done)
      · cases he; exact ⟨_, by simp [execOp, hop, int_of hx hu hr, Op.unary, Op.intArith], rfl⟩
      · cases he; exact ⟨_, by simp [execOp, hop, bool_of hx hu hr, Op.unary], rfl⟩
    · cases hc
  case conv k x' =>
    simp only [chkOp] at hc
    split at hc
    · rename_i s d x hop
      simp only [Bool.and_eq_true] at hc
      obtain ⟨⟨hs, hd⟩, hx⟩ := hc
      simp only [pureOp, Option.bind_eq_some_iff] at he
      obtain ⟨u, hu, he⟩ := he
      cases u <;> simp only at he <;> try (cases he; done)
      cases he
      rename_i k1 n
      obtain ⟨k2, hs'⟩ : ∃ k2, P.underlying s = some (.int k2) := by unfold intB at hs; split at hs <;> simp_all
      have hd' : P.underlying d = some (.int k) := by split at hd <;> simp_all
      exact ⟨.int k (k.wrap n), by simp [execOp, hop, int_of hx hu hr, convert, run_underlying hs', run_underlying hd', Conv.intToInt], rfl⟩
    · cases hc
  case mkfn f cs =>
    simp only [chkOp] at hc
    split at hc
    · rename_i g b c hop
      simp only [Bool.and_eq_true, Nat.beq_eq] at hc
      obtain ⟨⟨rfl, hb⟩, hcs⟩ := hc
      simp only [pureOp, Option.bind_eq_some_iff] at he
      obtain ⟨vs, hvs, he⟩ := he
      cases he
      have hb' : b = #[] := by cases b; simp at hb; simp [hb]
      subst hb'
      exact ⟨.func (.func f) #[] (c.map a.eval), by simp [execOp, hop, Instr.makeFunc], ⟨c.toList.map a.eval, evs_sound hcs hvs hr, by congr 1; apply Array.ext'; simp⟩⟩
    · cases hc
  case slcS es x' lo' hi' mx' =>
    simp only [chkOp] at hc
    split at hc
    · rename_i t x lo hi mx hop
      simp only [Bool.and_eq_true] at hc
      obtain ⟨⟨⟨⟨⟨hs, hx⟩, hlo⟩, hhi⟩, hmx⟩, hno⟩ := hc
      cases hse : sliceOf P t with
      | none => simp [hse] at hs
      | some e =>
        simp only [hse] at hs
        have hd := sliceOf_some hse
        simp only [pureOp, Option.bind_eq_some_iff] at he
        obtain ⟨u, hu, l', hl', h', hh', m', hm', he⟩ := he
        have el := natO_sound hlo hl' hr
        have eh := natO_sound hhi hh' hr
        have em := natO_sound hmx hm' hr
        have hv := ev_sound hx hu hr
        have fin : ∀ {base : Option Addr} {len cap l h m : Nat} {v : V}, a.eval x = .slice base len cap → l = l'.getD 0 → h = h'.getD len → m = m'.getD cap → l ≤ h → h ≤ m → m ≤ cap →
            VR M v (.slice (if m = l then base else base.map (·.add (l * es))) (h - l) (m - l)) → ∃ x, (execOp a.eval o).run P w = .ok (.value x) w ∧ VR M v x := by
          intro base len cap l h m v hxe e1 e2 e3 h1 h2 h3 hvr
          refine ⟨_, ?_, hvr⟩
          have hb := run_sliceBounds (P := P) (isS := true) (len := len) (cap := cap) hno el eh em e1 e2 e3 h1 h2 h3 w
          simp only [execOp, hop, hxe, Sem.run_bind, run_sliceAt_slice hd hs w hb, Result.andThen_ok, Sem.run_pure]
        cases u <;> simp only [slcS] at he <;> try (cases he; done)
        case nils =>
          simp only [Option.bind_eq_some_iff] at he
          obtain ⟨⟨l, h, m⟩, hbd, he⟩ := he
          cases he
          obtain ⟨e1, e2, e3, h1, h2, h3⟩ := bounds_spec hbd
          refine fin (base := none) hv e1 e2 e3 h1 h2 h3 ?_
          have hm0 : m = 0 := by omega
          have hl0 : l = 0 := by omega
          have hh0 : h = 0 := by omega
          subst hm0; subst hl0; subst hh0
          simp [VR]
        case xslc b off len cap =>
          simp only [Option.bind_eq_some_iff] at he
          obtain ⟨⟨l, h, m⟩, hbd, he⟩ := he
          obtain ⟨e1, e2, e3, h1, h2, h3⟩ := bounds_spec hbd
          simp only [cond_beq, Option.some.injEq] at he
          obtain ⟨ad, hxe, hor⟩ := hv.xs
          refine fin hxe e1 e2 e3 h1 h2 h3 ?_
          rw [← he]
          rcases hor with rfl | ⟨hl0, hc0⟩
          · by_cases hml : m = l
            · simp [VR, hml]
            · simp [VR, hml, addr_add]
          · have hm0 : m = 0 := by omega
            have hh0 : h = 0 := by omega
            have hl0 : l = 0 := by omega
            subst hm0; subst hh0; subst hl0
            exact Or.inr ⟨rfl, rfl, ad, by simp⟩
        case slc id off len c =>
          cases c with
          | ex n =>
            simp only [Option.bind_eq_some_iff] at he
            obtain ⟨⟨l, h, m⟩, hbd, he⟩ := he
            obtain ⟨e1, e2, e3, h1, h2, h3⟩ := bounds_spec hbd
            simp only [cond_beq, Option.some.injEq] at he
            obtain ⟨L, hL, hxe⟩ := hv
            refine fin hxe e1 e2 e3 h1 h2 h3 ?_
            rw [← he]
            refine ⟨L, hL, ?_⟩
            by_cases hml : m = l
            · simp [hml]
            · simp [hml, addr_add, Nat.add_assoc]
          | up es' =>
            cases hq : (Nat.beq es es' && Nat.blt 0 es) with
            | false => simp [hq] at he
            | true =>
              simp only [hq, cond_true] at he
              simp only [Bool.and_eq_true, Nat.beq_eq, Nat.blt_eq] at hq
              obtain ⟨rfl, hpos⟩ := hq
              obtain ⟨L, oo, c, hL, hxe, hle, hor⟩ := hv
              cases m' with
              | none =>
                simp only [Option.bind_eq_some_iff] at he
                obtain ⟨⟨l, h, m⟩, hbd, he⟩ := he
                obtain ⟨e1, e2, e3, h1, h2, h3⟩ := bounds_spec hbd
                simp only [Option.some.injEq] at he
                rw [← he]
                have e3' : m = len := by simpa using e3
                have hlen : h ≤ c := by omega
                refine fin (m := c) hxe e1 e2 rfl h1 hlen (Nat.le_refl _) ?_
                by_cases hml : c = l
                · refine ⟨L, _, c - l, hL, by rw [if_pos hml], by omega, .inr ⟨by omega, by omega, ?_⟩⟩
                  rcases hor with ⟨ho, hcc⟩ | ⟨h0, h00, hlim⟩
                  · have h9 := Nat.lt_div_mul_add (a := L.lim - oo) hpos
                    rw [← hcc, hml] at h9
                    omega
                  · have : l = 0 := by omega
                    subst this; omega
                · refine ⟨L, oo + l * es, c - l, hL, by rw [if_neg hml]; simp only [Option.map_some, addr_add], by omega, .inl ?_⟩
                  rcases hor with ⟨ho, hcc⟩ | ⟨h0, h00, _⟩
                  · refine ⟨by omega, ?_⟩
                    rw [hcc, div_sub]
                    congr 1; omega
                  · omega
              | some mm =>
                cases hlt : Nat.blt 0 len with
                | false => simp [hlt] at he
                | true =>
                  simp only [hlt, cond_true, Option.bind_eq_some_iff] at he
                  simp only [Nat.blt_eq] at hlt
                  obtain ⟨⟨l, h, m⟩, hbd, he⟩ := he
                  obtain ⟨e1, e2, e3, h1, h2, h3⟩ := bounds_spec hbd
                  simp only [cond_beq, Option.some.injEq] at he
                  simp only [Option.getD_some] at e3
                  refine fin (m := m) hxe e1 e2 (by simpa using e3) h1 h2 (by omega) ?_
                  rw [← he]
                  refine ⟨L, hL, ?_⟩
                  have ho : oo = L.base + off := by omega
                  subst ho
                  by_cases hml : m = l
                  · simp [hml]
                  · simp [hml, addr_add, Nat.add_assoc]
    · cases hc

  case slcA n es x' lo' hi' mx' =>
    simp only [chkOp] at hc
    split at hc
    · rename_i t x lo hi mx hop
      simp only [Bool.and_eq_true] at hc
      obtain ⟨⟨⟨⟨⟨hs, hx⟩, hlo⟩, hhi⟩, hmx⟩, hno⟩ := hc
      cases hse : arrOf P t with
      | none => simp [hse] at hs
      | some p =>
        simp only [hse, Bool.and_eq_true, Nat.beq_eq] at hs
        obtain ⟨hn, hs⟩ := hs
        have hd := arrOf_some hse
        rw [hn] at hd
        simp only [pureOp, Option.bind_eq_some_iff] at he
        obtain ⟨u, hu, l', hl', h', hh', m', hm', he⟩ := he
        have el := natO_sound hlo hl' hr
        have eh := natO_sound hhi hh' hr
        have em := natO_sound hmx hm' hr
        have hv := ev_sound hx hu hr
        have fin : ∀ {b off l h m : Nat} {v : V}, a.eval x = .pointer (some ⟨b, off, none⟩) → l = l'.getD 0 → h = h'.getD n → m = m'.getD n → l ≤ h → h ≤ m → m ≤ n →
            VR M v (.slice (some (if m = l then ⟨b, off, none⟩ else (⟨b, off, none⟩ : Addr).add (l * es))) (h - l) (m - l)) → ∃ x, (execOp a.eval o).run P w = .ok (.value x) w ∧ VR M v x := by
          intro b off l h m v hxe e1 e2 e3 h1 h2 h3 hvr
          refine ⟨_, ?_, hvr⟩
          have hb := run_sliceBounds (P := P) (isS := false) (len := n) (cap := n) hno el eh em e1 e2 e3 h1 h2 h3 w
          simp only [execOp, hop, hxe, Sem.run_bind, run_sliceAt_array hd hs w hb, Result.andThen_ok, Sem.run_pure]
        cases u <;> simp only [slcA] at he <;> try (cases he; done)
        case xptr b off =>
          simp only [Option.bind_eq_some_iff] at he
          obtain ⟨⟨l, h, m⟩, hbd, he⟩ := he
          obtain ⟨e1, e2, e3, h1, h2, h3⟩ := bounds_spec hbd
          simp only [cond_beq, Option.some.injEq] at he
          refine fin hv e1 e2 e3 h1 h2 h3 ?_
          rw [← he]
          by_cases hml : m = l
          · simp [VR, hml]
          · simp [VR, hml, addr_add]
        case ptr id off =>
          simp only [Option.bind_eq_some_iff] at he
          obtain ⟨⟨l, h, m⟩, hbd, he⟩ := he
          obtain ⟨e1, e2, e3, h1, h2, h3⟩ := bounds_spec hbd
          simp only [cond_beq, Option.some.injEq] at he
          obtain ⟨L, hL, hxe⟩ := hv
          refine fin hxe e1 e2 e3 h1 h2 h3 ?_
          rw [← he]
          refine ⟨L, hL, ?_⟩
          by_cases hml : m = l
          · simp [hml]
          · simp [hml, addr_add, Nat.add_assoc]
    · cases hc
  case fa y off =>
    simp only [chkOp] at hc
    split at hc
    · rename_i t x i hop
      simp only [Bool.and_eq_true] at hc
      obtain ⟨hs, hx⟩ := hc
      cases hse : structOf P t with
      | none => simp [hse] at hs
      | some fs =>
        cases hf : fs[i]? with
        | none => simp [hse, hf] at hs
        | some f =>
          simp only [hse, hf, Bool.and_eq_true, Nat.beq_eq] at hs
          obtain ⟨⟨hoff, hi⟩, hz⟩ := hs
          obtain ⟨inf, hinf⟩ := Option.isSome_iff_exists.1 hi
          have hz' : P.cellsOf f.type ≠ 0 := by
            intro e; rw [e] at hz; simp at hz
          have hd := structOf_some hse
          simp only [pureOp, Option.bind_eq_some_iff] at he
          obtain ⟨u, hu, he⟩ := he
          have hv := ev_sound hx hu hr
          have run : ∀ b o', (Instr.fieldAt t (.pointer (some ⟨b, o', none⟩)) i).run P w = .ok (.pointer (some ⟨b, o' + off, none⟩)) w := by
            intro b o'
            simp [Instr.fieldAt, run_underlying hd, hf, Instr.sureAddr, fieldPlace, run_sizeOf w hinf, hz', addr_add, hoff]
          cases u <;> simp only at he <;> try (cases he; done)
          · cases he
            rename_i id o'
            obtain ⟨L, hL, hxe⟩ := hv
            exact ⟨.pointer (some ⟨L.block, L.base + o' + off, none⟩), by simp only [execOp, hop, hxe, Sem.run_bind, run, Result.andThen_ok, Sem.run_pure], ⟨L, hL, by rw [Nat.add_assoc]⟩⟩
          · cases he
            rename_i b o'
            exact ⟨.pointer (some ⟨b, o' + off, none⟩), by simp only [execOp, hop, show a.eval x = _ from hv, Sem.run_bind, run, Result.andThen_ok, Sem.run_pure], rfl⟩
    · cases hc
  case ixS es x' i' =>
    simp only [chkOp] at hc
    split at hc
    · rename_i t x i hop
      simp only [Bool.and_eq_true] at hc
      obtain ⟨⟨hs, hx⟩, hi⟩ := hc
      cases hse : sliceOf P t with
      | none => simp [hse] at hs
      | some e =>
        simp only [hse] at hs
        have hd := sliceOf_some hse
        simp only [pureOp, Option.bind_eq_some_iff] at he
        obtain ⟨u, hu, iv, hiv, n, hn, he⟩ := he
        obtain ⟨k, hk⟩ := natOf_int hn (ev_sound hi hiv hr)
        have hv := ev_sound hx hu hr
        cases u <;> simp only at he <;> try (cases he; done)
        · rename_i id off len c
          cases hlt : Nat.blt n len with
          | false => simp [hlt] at he
          | true =>
            simp only [hlt, cond_true, Option.some.injEq] at he
            simp only [Nat.blt_eq] at hlt
            subst he
            cases c with
            | ex m =>
              obtain ⟨L, hL, hxe⟩ := hv
              exact ⟨.pointer (some ⟨L.block, L.base + off + n * es, none⟩), by simp only [execOp, hop, hxe, hk, Sem.run_bind, run_indexAt_slice hd hs hlt, Result.andThen_ok, Sem.run_pure], ⟨L, hL, by rw [Nat.add_assoc]⟩⟩
            | up m =>
              obtain ⟨L, oo, c, hL, hxe, hle, hor⟩ := hv
              have ho : oo = L.base + off := by omega
              subst ho
              exact ⟨.pointer (some ⟨L.block, L.base + off + n * es, none⟩), by simp only [execOp, hop, hxe, hk, Sem.run_bind, run_indexAt_slice hd hs hlt, Result.andThen_ok, Sem.run_pure], ⟨L, hL, by rw [Nat.add_assoc]⟩⟩
        · rename_i b off len c
          cases hlt : Nat.blt n len with
          | false => simp [hlt] at he
          | true =>
            simp only [hlt, cond_true, Option.some.injEq] at he
            simp only [Nat.blt_eq] at hlt
            subst he
            exact ⟨.pointer (some ⟨b, off + n * es, none⟩), by simp only [execOp, hop, show a.eval x = _ from hv.xs1 (Or.inr (by omega)), hk, Sem.run_bind, run_indexAt_slice hd hs hlt, Result.andThen_ok, Sem.run_pure], rfl⟩
    · cases hc
  case ixA c es x' i' =>
    simp only [chkOp] at hc
    split at hc
    · rename_i t x i hop
      simp only [Bool.and_eq_true] at hc
      obtain ⟨⟨hs, hx⟩, hi⟩ := hc
      cases hse : arrOf P t with
      | none => simp [hse] at hs
      | some p =>
        simp only [hse, Bool.and_eq_true, Nat.beq_eq] at hs
        obtain ⟨hcn, hs⟩ := hs
        have hd := arrOf_some hse
        rw [hcn] at hd
        simp only [pureOp, Option.bind_eq_some_iff] at he
        obtain ⟨u, hu, iv, hiv, n, hn, he⟩ := he
        obtain ⟨k, hk⟩ := natOf_int hn (ev_sound hi hiv hr)
        have hv := ev_sound hx hu hr
        cases u <;> simp only at he <;> try (cases he; done)
        · rename_i id off
          cases hlt : Nat.blt n c with
          | false => simp [hlt] at he
          | true =>
            simp only [hlt, cond_true, Option.some.injEq] at he
            simp only [Nat.blt_eq] at hlt
            subst he
            obtain ⟨L, hL, hxe⟩ := hv
            exact ⟨.pointer (some ⟨L.block, L.base + off + n * es, none⟩), by simp only [execOp, hop, hxe, hk, Sem.run_bind, run_indexAt_array hd hs hlt, Result.andThen_ok, Sem.run_pure], ⟨L, hL, by rw [Nat.add_assoc]⟩⟩
        · rename_i b off
          cases hlt : Nat.blt n c with
          | false => simp [hlt] at he
          | true =>
            simp only [hlt, cond_true, Option.some.injEq] at he
            simp only [Nat.blt_eq] at hlt
            subst he
            exact ⟨.pointer (some ⟨b, off + n * es, none⟩), by simp only [execOp, hop, show a.eval x = _ from hv, hk, Sem.run_bind, run_indexAt_array hd hs hlt, Result.andThen_ok, Sem.run_pure], rfl⟩
    · cases hc
  case idx c es isA x' i' =>
    simp only [chkOp] at hc
    split at hc
    · rename_i t x i hop
      simp only [Bool.and_eq_true] at hc
      obtain ⟨⟨hs, hx⟩, hi⟩ := hc
      cases hse : arrOf P t with
      | none => simp [hse] at hs
      | some p =>
        simp only [hse, Bool.and_eq_true, Nat.beq_eq] at hs
        obtain ⟨⟨⟨hcn, hs⟩, hun⟩, hA⟩ := hs
        have hd := arrOf_some hse
        rw [hcn] at hd
        obtain ⟨de, hde⟩ := Option.isSome_iff_exists.1 hun
        obtain ⟨ie, hie⟩ := info_of_underlying hde
        have hes : P.cellsOf p.2 = es := by unfold sizeIs at hs; simp only [hie, Nat.beq_eq] at hs; simp [Program.cellsOf, hie, hs]
        simp only [pureOp, Option.bind_eq_some_iff] at he
        obtain ⟨u, hu, iv, hiv, n, hn, he⟩ := he
        obtain ⟨k, hk⟩ := natOf_int hn (ev_sound hi hiv hr)
        have hv := ev_sound hx hu hr
        cases u <;> simp only at he <;> try (cases he; done)
        rename_i l
        obtain ⟨xs, hxs, hxe⟩ := hv
        cases hlt : Nat.blt n c with
        | false => simp [hlt] at he
        | true =>
          simp only [hlt, cond_true] at he
          simp only [Nat.blt_eq] at hlt
          have red : ∀ y, (part p.2 xs.toArray (n * es)).run P w = .ok y w → (execOp a.eval o).run P w = .ok (.value y) w := by
            intro y hy
            simp [execOp, hop, hxe, hk, Instr.index, asIntOf, run_underlying hd, hlt, run_sizeOf w hie, hes, hy]
          cases isA with
          | true =>
            simp only [cond_true, Option.bind_eq_some_iff] at he
            obtain ⟨c', hc', he⟩ := he
            cases he
            have hag : isAggB P p.2 = true := by simpa using hA.symm
            refine ⟨.agg (xs.toArray.extract (n * es) (n * es + es)), red _ (by simp [part, run_isAgg hde, hag, run_sizeOf w hie, hes]), ⟨(xs.toArray.extract (n * es) (n * es + es)).toList, ?_, by simp⟩⟩
            have hlen := getAt_len hc'
            have hxl := hxs.length
            refine VRL.of_get ?_ fun j v hj => ?_
            · simp only [List.extract_toArray, List.extract_eq_take_drop, List.length_take, List.length_drop]
              by_cases h0 : es = 0
              · subst h0; simp at hlen; simp [hlen]
              · have := getAt_le hc' (by omega); omega
            · have hjl : j < es := by have := (List.getElem?_eq_some_iff.1 hj).1; omega
              rw [getAt_get hc' hjl] at hj
              obtain ⟨y, hy, hvy⟩ := hxs.get _ _ hj
              refine ⟨y, ?_, hvy⟩
              simp only [List.extract_toArray, List.extract_eq_take_drop, List.getElem?_take, List.getElem?_drop]
              rw [if_pos (by omega)]; exact hy
          | false =>
            simp only [cond_false, nth_eq] at he
            have hag : isAggB P p.2 = false := by simpa using hA.symm
            obtain ⟨y, hy, hvy⟩ := hxs.get _ _ he
            exact ⟨y, red _ (by simp [part, run_isAgg hde, hag, hy]), hvy⟩
    · cases hc
  case idxStr x' i' =>
    simp only [chkOp] at hc
    split at hc
    · rename_i t x i hop
      simp only [Bool.and_eq_true] at hc
      obtain ⟨⟨hs, hx⟩, hi⟩ := hc
      have hd : P.underlying t = some .string := by unfold strB at hs; split at hs <;> simp_all
      simp only [pureOp, Option.bind_eq_some_iff] at he
      obtain ⟨u, hu, iv, hiv, n, hn, he⟩ := he
      obtain ⟨k, hk⟩ := natOf_int hn (ev_sound hi hiv hr)
      have hv := ev_sound hx hu hr
      cases u <;> simp only at he <;> try (cases he; done)
      rename_i s
      split at he
      · rename_i b hb
        cases he
        exact ⟨.int .u8 b.toNat, by simp [execOp, hop, show a.eval x = _ from hv, hk, Instr.index, asIntOf, run_underlying hd, hb], rfl⟩
      · cases he
    · cases hc
  case lenS x' =>
    simp only [chkOp] at hc
    split at hc
    · rename_i c hop
      simp only [Bool.and_eq_true] at hc
      obtain ⟨hcal, hc⟩ := hc
      have hcal' : c.callee = .builtin .len := by split at hcal <;> simp_all
      split at hc
      · rename_i x t hargs htys
        simp only [Bool.and_eq_true] at hc
        obtain ⟨hs, hx⟩ := hc
        obtain ⟨e, hse⟩ := Option.isSome_iff_exists.1 hs
        have hd := sliceOf_some hse
        simp only [pureOp, Option.bind_eq_some_iff] at he
        obtain ⟨u, hu, n, hn, he⟩ := he
        cases he
        have hv := ev_sound hx hu hr
        have hsl : ∃ ba cc, a.eval x = .slice ba n cc := by
          cases u <;> simp only [lenOf] at hn <;> try (cases hn; done)
          · cases hn; exact ⟨none, 0, hv⟩
          · cases hn
            rename_i id off cc
            cases cc
            · obtain ⟨L, _, hx⟩ := hv; exact ⟨_, _, hx⟩
            · obtain ⟨L, o, c, _, hx, _⟩ := hv; exact ⟨_, _, hx⟩
          · cases hn; obtain ⟨_, hx, _⟩ := hv.xs; exact ⟨_, _, hx⟩
        obtain ⟨ba, cc, hxe⟩ := hsl
        obtain ⟨callee, args, tys⟩ := c
        simp only at hcal' hargs htys
        have ha := toList1 hargs
        have ht := toList1 htys
        subst hcal'; subst ha; subst ht
        exact ⟨.int .i64 n, by simp [execOp, hop, resolve, invoke, builtin, hxe, Builtin.len_, run_underlying hd, goInt], rfl⟩
      · cases hc
    · cases hc
  case minmax isMax x' y' =>
    simp only [chkOp] at hc
    split at hc
    · rename_i c hop
      simp only [Bool.and_eq_true] at hc
      obtain ⟨hcal, hc⟩ := hc
      split at hc
      · rename_i x y hargs
        simp only [Bool.and_eq_true] at hc
        obtain ⟨hx, hy⟩ := hc
        simp only [pureOp, Option.bind_eq_some_iff] at he
        obtain ⟨u, hu, v', hv', he⟩ := he
        cases u <;> cases v' <;> (try simp only at he) <;> try (cases he; done)
        rename_i k m k' n
        split at he
        · rename_i hk; subst hk
          cases he
          obtain ⟨callee, args, tys⟩ := c
          simp only at hcal hargs
          have ha := toList2 hargs
          subst ha
          split at hcal
          · subst hcal
            exact ⟨.int k (if n > m then n else m), by simp [execOp, hop, resolve, invoke, builtin, int_of hx hu hr, int_of hy hv' hr, Builtin.max_, Builtin.max2], by simp [VR]⟩
          · have : isMax = false := by simpa using hcal
            subst this
            exact ⟨.int k (if n < m then n else m), by simp [execOp, hop, resolve, invoke, builtin, int_of hx hu hr, int_of hy hv' hr, Builtin.min_, Builtin.min2], by simp [VR]⟩
          · cases hcal
        · cases he
      · cases hc
    · cases hc
  case ext x' i' =>
    simp only [chkOp] at hc
    split at hc
    · rename_i x i hop
      simp only [Bool.and_eq_true, Nat.beq_eq] at hc
      obtain ⟨hx, rfl⟩ := hc
      simp only [pureOp, Option.bind_eq_some_iff] at he
      obtain ⟨u, hu, he⟩ := he
      cases u <;> simp only at he <;> try (cases he; done)
      rename_i l
      obtain ⟨xs, hxs, hxe⟩ := ev_sound hx hu hr
      rw [nth_eq] at he
      obtain ⟨y, hy, hvy⟩ := hxs.get _ _ he
      exact ⟨y, by simp [execOp, hop, hxe, Instr.extract, hy], hvy⟩
    · cases hc
end
end Go.Vm
