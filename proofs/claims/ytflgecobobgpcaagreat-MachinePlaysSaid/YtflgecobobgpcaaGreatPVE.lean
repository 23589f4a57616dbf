/-
  All other operations of the abstract machine are sound. Conditions: none beyond those that each statement names.
-/
import Derived.Test.YtflgecobobgpcaaGreatPVD
namespace Go.Vm

section
variable {P : Program} {E : Env} {N0 : Nat} {M : LM} {g : Nat → Option Ob} {nx : Nat} {r : Regs} {a : Act}

theorem gset_self {g : Nat → Option Ob} {id : Nat} {o : Ob} (h : g id = some o) : gset g id (some o) = g := by
  funext i; unfold gset; split
  · rename_i e; rw [e, h]
  · rfl

theorem store_cells {w : World} {id off : Nat} {l l' vs : List V} {xs : List Value} {L : Loc} (hrel : Rel P E N0 M g nx w.heap) (hg : g id = some (.cells l)) (hL : M id = some L)
    (hs : setAt l off vs = some l') (hv : VRL M vs xs) (h1 : allOne vs = true) :
    ∃ w', (storeCells ⟨L.block, L.base + off, none⟩ xs).run P w = .ok () w' ∧ Rel P E N0 M (gset g id (some (.cells l'))) nx w'.heap ∧ TrW M g w M (gset g id (some (.cells l'))) w' := by
  obtain ⟨L', o, hL', ho, ⟨c, e, rfl, hlim, hle, hget⟩, _⟩ := hrel.obj _ _ hg
  rw [hL] at hL'; cases hL'
  have hlen := hv.length
  by_cases hnil : vs = []
  · subst hnil
    cases hv
    rw [setAt_nil] at hs; cases hs
    exact ⟨w, rfl, by rw [gset_self hg]; exact hrel, by rw [gset_self hg]; exact TrW.refl M g w⟩
  · obtain ⟨hl', hfit, hget'⟩ := setAt_spec hs
    have hfit' := hfit hnil
    have hrun := run_storeCells_at (P := P) L.block (L.base + off) e xs 0 c w ho (by omega) (hv.one h1)
    simp only [Nat.add_zero] at hrun
    refine ⟨_, hrun, ?_⟩
    refine And.imp_right (fun h => ⟨h, rfl, rfl⟩) (hrel.upd hg hL (setRow_size w _ _) (setRow_heap w _ _ _ _ _ ho) (fun b hb => setRow_other w _ _ _ hb) ?_)
    have hsz : (List.take (L.base + off) c.toList ++ xs ++ List.drop (L.base + off + xs.length) c.toList).length = c.size := by simp; omega
    refine ⟨_, e, rfl, by simp only [List.size_toArray, hsz]; exact hlim, by simp only [List.size_toArray, hsz]; omega, fun i v hi => ?_⟩
    rw [hget' i] at hi
    simp only [List.getElem?_toArray]
    by_cases hc : off ≤ i ∧ i < off + vs.length
    · rw [if_pos hc] at hi
      obtain ⟨x, hx, hvx⟩ := hv.get _ _ hi
      refine ⟨x, ?_, hvx⟩
      rw [List.getElem?_append_left (by simp; omega), List.getElem?_append_right (by simp; omega)]
      rw [← hx]; congr 1; simp; omega
    · rw [if_neg hc] at hi
      obtain ⟨x, hx, hvx⟩ := hget i v hi
      refine ⟨x, ?_, hvx⟩
      by_cases hlo : i < off
      · rw [List.getElem?_append_left (by simp; omega), List.getElem?_append_left (by simp; omega), List.getElem?_take, if_pos (by omega)]
        simpa using hx
      · rw [List.getElem?_append_right (by simp; omega), List.getElem?_drop]
        rw [← Array.getElem?_toList] at hx
        rw [← hx]; congr 1; simp; omega

/-- a slice's elements, read -/
theorem src_cells {w : World} {H : Hp} {es n : Nat} {v : V} {new : List V} {x : Value} (hrel : Rel P E N0 M H.get nx w.heap) (hl : lenOf v = some n) (hc : cellsOf E H es v = some new) (hv : VR M v x) :
    ∃ news base cap, x = .slice base n cap ∧ VRL M new news ∧ news.length = n * es ∧ ∀ (w1 : World), w1.heap = w.heap → ∀ m, m ≤ n → (Builtin.firstCells es m x).run P w1 = .ok (news.take (m * es)).toArray w1 := by
  have fin : ∀ (b o : Nat) (news : List Value) (cap : Nat), x = .slice (some ⟨b, o, none⟩) n cap → VRL M new news → news.length = n * es → (0 < n → ∀ (j : Nat) (y : Value), news[j]? = some y → w.cell? ⟨b, o + j, none⟩ = some y) →
      ∃ news base cap, x = .slice base n cap ∧ VRL M new news ∧ news.length = n * es ∧ ∀ (w1 : World), w1.heap = w.heap → ∀ m, m ≤ n → (Builtin.firstCells es m x).run P w1 = .ok (news.take (m * es)).toArray w1 := by
    intro b o news cap hx hvl hlen hget
    refine ⟨news, _, cap, hx, hvl, hlen, fun w1 hw1 m hm => ?_⟩
    subst hx
    simp only [Builtin.firstCells]
    have hle : m * es ≤ n * es := Nat.mul_le_mul_right _ hm
    refine run_loadCells_at (w := w1) ?_ (by simp; omega)
    intro j y hj
    have hjm : j < m * es := by have := (List.getElem?_eq_some_iff.1 hj).1; simp at this; omega
    rw [List.getElem?_take, if_pos hjm] at hj
    have hpos : 0 < n := by
      rcases Nat.eq_zero_or_pos n with h | h
      · subst h; simp at hle; omega
      · exact h
    have := hget hpos j y hj
    simpa [World.cell?, hw1] using this
  cases v <;> simp only [lenOf] at hl <;> try (cases hl; done)
  · cases hl
    simp only [cellsOf, Option.some.injEq] at hc; subst hc
    cases hv
    exact ⟨[], none, 0, rfl, rfl, by simp, fun w1 _ m hm => by simp [Builtin.firstCells]⟩
  · rename_i id off len c
    cases hl
    simp only [cellsOf] at hc
    cases hg : H.get id with
    | none => simp [hg] at hc
    | some ob =>
      cases ob <;> simp only [hg] at hc <;> try (cases hc; done)
      obtain ⟨L, xs, hL, h1, h2, h3⟩ := read_cells hrel hg hc
      cases c with
      | ex k =>
        obtain ⟨L', hL', hx⟩ := hv
        rw [hL] at hL'; cases hL'
        exact fin _ _ xs _ hx h1 h2 (fun _ => h3)
      | up k =>
        obtain ⟨L', oo, cc, hL', hx, hle, hor⟩ := hv
        rw [hL] at hL'; cases hL'
        refine fin _ _ xs _ hx h1 h2 (fun hpos => ?_)
        rcases hor with ⟨rfl, _⟩ | ⟨h0, _⟩
        · exact h3
        · omega
  · cases hl
    simp only [cellsOf] at hc
    obtain ⟨xs, h1, h2, h3⟩ := read_ext hrel hc
    obtain ⟨ad, hx, hor⟩ := hv.xs
    rcases hor with rfl | ⟨h0, hc0⟩
    · exact fin _ _ xs _ hx h1 h2 (fun _ => h3)
    · subst hx
      subst h0
      refine ⟨xs, some ad, _, rfl, h1, h2, fun w1 _ m hm => ?_⟩
      have hx0 : xs = [] := List.eq_nil_of_length_eq_zero (by omega)
      have hm0 : m = 0 := by omega
      subst hx0; subst hm0
      simp only [Builtin.firstCells]
      rw [Nat.zero_mul]
      exact run_loadCells_list w1 ad [] (fun j v hv => by simp at hv)

theorem lenOf_len {v : V} {n : Nat} {x : Value} (hl : lenOf v = some n) (hv : VR M v x) : ∃ base cap, x = .slice base n cap := by
  cases v <;> simp only [lenOf] at hl <;> try (cases hl; done)
  · cases hl; cases hv; exact ⟨none, 0, rfl⟩
  · cases hl
    rename_i id off c
    cases c with
    | ex k => obtain ⟨L, _, rfl⟩ := hv; exact ⟨_, _, rfl⟩
    | up k => obtain ⟨L, o, c, _, rfl, _⟩ := hv; exact ⟨_, _, rfl⟩
  · cases hl; obtain ⟨_, hx, _⟩ := hv.xs; exact ⟨_, _, hx⟩

theorem run_append_fit {w w' : World} {t u e e' ty : Nat} {i : TypeInfo} (ht : P.underlying t = some (.slice e)) (hu : P.underlying u = some (.slice e')) (hi : P.info? e = some i)
    {base : Option Addr} {sLen sCap n : Nat} {y : Value} {news : List Value} (hl : (Builtin.lenOf y).run P w = .ok n w) (hc : (Builtin.firstCells (P.cellsOf e) n y).run P w = .ok news.toArray w) (hfit : sLen + n ≤ sCap)
    (hst : ∀ ad, base = some ad → (storeCells (ad.add (sLen * P.cellsOf e)) news).run P w = .ok () w') (hnone : base = none → w' = w) :
    (Builtin.append_ #[t, u] ty #[.slice base sLen sCap, y]).run P w = .ok (.slice base (sLen + n) sCap) w' := by
  cases base with
  | none =>
    cases hnone rfl
    simp [Builtin.append_, run_underlying ht, run_underlying hu, run_sizeOf w hi, hl, hc, hfit]
  | some ad =>
    have h := hst ad rfl
    simp [Builtin.append_, run_underlying ht, run_underlying hu, run_sizeOf w hi, hl, hc, hfit, h]

theorem run_lenOf (base : Option Addr) (n cap : Nat) (w : World) : (Builtin.lenOf (.slice base n cap)).run P w = .ok n w := rfl

theorem room_spec {need bytes : Nat} (h : room need bytes = true) : need * bytes ≤ 140737488355328 ∧ need ≤ 2 ^ 40 := by
  unfold room at h
  simp only [Bool.and_eq_true, Nat.ble_eq] at h
  have : need * bytes ≤ (2 * need + 1024) * bytes := Nat.mul_le_mul_right _ (by omega)
  exact ⟨by omega, h.2⟩

/-- append into a new block -/
theorem grow_sound {w : World} {t u e e' ty es bytes n len cap : Nat} {i : TypeInfo} {zv : Value} {base : Option Addr} {y : Value} {new old : List V} {olds news : List Value}
    (ht : P.underlying t = some (.slice e)) (hu : P.underlying u = some (.slice e')) (hi : P.info? e = some i) (hes : P.cellsOf e = es) (hpos : 0 < es) (hb : i.bytes = bytes) (hz : i.zero = some zv) (hzs : zv.cells.size = es)
    (hy : ∃ b c, y = .slice b n c) (hnews : ∀ (w1 : World), w1.heap = w.heap → (Builtin.firstCells es n y).run P w1 = .ok news.toArray w1) (hnl : news.length = n * es) (hvn : VRL M new news) (hone : allOne new = true)
    (holds : ∀ (w1 : World), w1.heap = w.heap → (Builtin.firstCells es len (.slice base len cap)).run P w1 = .ok olds.toArray w1) (hol : olds.length = len * es) (hvo : VRL M old olds)
    (hg : cap < len + n) (hroom : room (len + n) bytes = true) :
    ∃ obj lim c', (Builtin.append_ #[t, u] ty #[.slice base len cap, y]).run P w = .ok (.slice (some ⟨w.heap.size, 0, none⟩) (len + n) c') (w.drew.alloc obj) ∧ len + n ≤ c' ∧ c' = lim / es ∧
      ∀ M', LM.le M M' → OR P M' (.cells (old ++ new)) ⟨w.heap.size, 0, lim⟩ obj := by
  obtain ⟨hr1, hr2⟩ := room_spec hroom
  obtain ⟨yb, yc, rfl⟩ := hy
  have hsz : i.size = es := by simpa [Program.cellsOf, hi] using hes
  have hsrc : Src P i.size u (.slice yb n yc) n news w := ⟨.inl ⟨e', hu⟩, fun _ => rfl, by rw [hsz]; exact hnews w rfl, by rw [hsz]; exact hnews w.drew rfl, by rw [hsz]; exact hnl, hvn.one hone⟩
  have hfit : Builtin.nextslicecap (len + n) cap * i.bytes ≤ 281474976710656 := growslice_fits hg (by rw [hb]; exact hr1)
  have hrun := run_append_grow_src (P := P) w t u ty e i zv ht hi hz base len cap olds (by rw [hsz]; exact holds w.drew rfl) (.slice yb n yc) n news hsrc hg (by omega) hfit
  have hge : len + n ≤ grownCap w (len + n) cap e := grownCap_ge w (len + n) cap e
  have hsize : ((olds ++ news).toArray ++ Builtin.zeroCells zv.cells (grownCap w (len + n) cap e - (len + n))).size = grownCap w (len + n) cap e * es := by
    rw [zeroCells_eq]
    simp [hol, hnl, hzs]
    rw [← Nat.add_mul, ← Nat.add_mul]; congr 1; omega
  refine ⟨_, grownCap w (len + n) cap e * es, _, hrun, hge, by rw [Nat.mul_div_cancel _ hpos], fun M' hle => ?_⟩
  have hvon := (hvo.append hvn).mono hle
  refine ⟨_, e, rfl, hsize.symm, ?_, fun j v hj => ?_⟩
  · rw [hsize]
    have := hvon.length
    have h3 : (old ++ new).length = (len + n) * es := by rw [← this]; simp [hol, hnl, Nat.add_mul]
    rw [h3]; simp only [Nat.zero_add]; exact Nat.mul_le_mul_right _ hge
  · obtain ⟨x, hx, hvx⟩ := hvon.get j v hj
    refine ⟨x, ?_, hvx⟩
    have hlt := (List.getElem?_eq_some_iff.1 hx).1
    rw [Array.getElem?_append_left (by simpa using hlt)]
    simpa using hx

end
end Go.Vm

namespace Go.Vm

section
variable {P : Program} {E : Env} {N0 : Nat} {M : LM} {r : Regs} {a : Act}

/-- what is shown of an operation that acts -/
def ActOk (P : Program) (E : Env) (N0 : Nat) (M : LM) (H : Hp) (w : World) (o : Oper) (a : Act) (v : V) (H' : Hp) : Prop :=
  ∃ nxt w' M' x, (execOp a.eval o).run P w = .ok nxt w' ∧ (nxt = .value x ∨ (nxt = .skip ∧ x = undef)) ∧ VR M' v x ∧ Rel P E N0 M' H'.get H'.next w'.heap ∧ TrW M H.get w M' H'.get w'

theorem next_put (H : Hp) (id : Nat) (o : Ob) : (H.put id o).next = H.next := rfl
theorem next_new (H : Hp) (o : Ob) : (H.new o).next = H.next + 1 := rfl

theorem app_sound {w : World} {H H' : Hp} {t u e e' ty es bytes n : Nat} {i : TypeInfo} {zv : Value} {x y : Value} {av bv v : V} {new : List V} (hrel : Rel P E N0 M H.get H.next w.heap)
    (ht : P.underlying t = some (.slice e)) (hu : P.underlying u = some (.slice e')) (hi : P.info? e = some i) (hes : P.cellsOf e = es) (hpos : 0 < es) (hb : i.bytes = bytes) (hz : i.zero = some zv) (hzs : zv.cells.size = es)
    (hx : VR M av x) (hy : VR M bv y) (hn : lenOf bv = some n) (hnew : cellsOf E H es bv = some new) (h : app E H es bytes av n new = some (v, H')) :
    ∃ x' w' M', (Builtin.append_ #[t, u] ty #[x, y]).run P w = .ok x' w' ∧ VR M' v x' ∧ Rel P E N0 M' H'.get H'.next w'.heap ∧ TrW M H.get w M' H'.get w' := by
  obtain ⟨news, yb, yc, rfl, hvn, hnl, hfc⟩ := src_cells hrel hn hnew hy
  have hfc' : ∀ (w1 : World), w1.heap = w.heap → (Builtin.firstCells es n (.slice yb n yc)).run P w1 = .ok news.toArray w1 := fun w1 hw => by
    have := hfc w1 hw n (Nat.le_refl _)
    rwa [List.take_of_length_le (by omega)] at this
  unfold app at h
  by_cases h0 : n = 0
  · subst h0
    simp only [beq_self, cond_true] at h
    have hnil : news = [] := List.eq_nil_of_length_eq_zero (by simpa using hnl)
    subst hnil
    have key : ∀ (base : Option Addr) (l c : Nat), l ≤ c → (Builtin.append_ #[t, u] ty #[.slice base l c, .slice yb 0 yc]).run P w = .ok (.slice base (l + 0) c) w := fun base l c hlc =>
      run_append_fit (w' := w) ht hu hi (run_lenOf yb 0 yc w) (by rw [hes]; exact hfc' w rfl) (by omega) (fun _ _ => rfl) (fun _ => rfl)
    have fin : ∀ (base : Option Addr) (l c : Nat), x = .slice base l c → l ≤ c → v = av → H' = H →
        ∃ x' w' M', (Builtin.append_ #[t, u] ty #[x, .slice yb 0 yc]).run P w = .ok x' w' ∧ VR M' v x' ∧ Rel P E N0 M' H'.get H'.next w'.heap ∧ TrW M H.get w M' H'.get w' := by
      intro base l c hxe hlc e1 e2
      subst e1; subst e2; subst hxe
      exact ⟨_, w, M, key base l c hlc, hx, hrel, TrW.refl _ _ _⟩
    cases av <;> (try simp only [cond_false] at h) <;> try (cases h; done)
    · simp only [cond_true, Option.some.injEq, Prod.mk.injEq] at h
      exact fin none 0 0 hx (Nat.le_refl _) h.1.symm h.2.symm
    · rename_i id off len c
      cases c with
      | ex c =>
        cases hb : Nat.ble len c with
        | false => simp [hb] at h
        | true =>
          simp only [hb, cond_true, Option.some.injEq, Prod.mk.injEq] at h
          obtain ⟨L, hL, hxe⟩ := hx
          exact fin _ _ _ hxe (Nat.le_of_ble_eq_true hb) h.1.symm h.2.symm
      | up es' =>
        simp only [cond_true, Option.some.injEq, Prod.mk.injEq] at h
        obtain ⟨L, o, c, hL, hxe, hle, _⟩ := hx
        exact fin _ _ _ hxe hle h.1.symm h.2.symm
    · rename_i b off len c
      cases hb : Nat.ble len c with
      | false => simp [hb] at h
      | true =>
        simp only [hb, cond_true, Option.some.injEq, Prod.mk.injEq] at h
        obtain ⟨_, hxe, _⟩ := hx.xs
        exact fin _ _ _ hxe (Nat.le_of_ble_eq_true hb) h.1.symm h.2.symm
  · rw [beq_false h0, cond_false] at h
    cases hone : allOne new with
    | false => simp [hone] at h
    | true =>
      simp only [hone, cond_true] at h
      -- a new block
      have grow : ∀ (base : Option Addr) (len cap : Nat) (old : List V) (olds : List Value) (Hk : Hp), x = .slice base len cap → cap < len + n → room (len + n) bytes = true →
          (∀ (w1 : World), w1.heap = w.heap → (Builtin.firstCells es len (.slice base len cap)).run P w1 = .ok olds.toArray w1) → olds.length = len * es → VRL M old olds →
          (∀ id ob, Hk.get id = some ob → H.get id = some ob) → Hk.next = H.next → v = .slc H.next 0 (len + n) (.up es) → H' = Hk.new (.cells (old ++ new)) →
          ∃ x' w' M', (Builtin.append_ #[t, u] ty #[x, .slice yb n yc]).run P w = .ok x' w' ∧ VR M' v x' ∧ Rel P E N0 M' H'.get H'.next w'.heap ∧ TrW M H.get w M' H'.get w' := by
        intro base len cap old olds Hk hxe hg hroom holds hol hvo hsub hnk hv' hH'
        obtain ⟨obj, lim, c', hrun, hle, hc', hor⟩ := grow_sound ht hu hi hes hpos hb hz hzs ⟨yb, yc, rfl⟩ hfc' hnl hvn hone holds hol hvo hg hroom
        subst hxe; subst hv'; subst hH'
        have hdom : M H.next = none := by
          cases hM : M H.next with
          | none => rfl
          | some L => have := hrel.dom _ _ hM; omega
        have hle' := mset1_le hdom ⟨w.heap.size, 0, lim⟩
        obtain ⟨r1, r2⟩ := (hrel.sub hsub).new (nx' := H.next + 1) (o := obj) (ob := .cells (old ++ new)) (base := 0) (lim := lim) hdom (by omega) (by omega) (hor _ hle')
        refine ⟨_, _, mset1 M H.next ⟨w.heap.size, 0, lim⟩, hrun, ⟨_, 0, c', mset1_self _ _, rfl, hle, .inl ⟨rfl, by simpa using hc'⟩⟩, ?_, ?_⟩
        · rw [get_new, next_new, hnk]; exact r1
        · rw [get_new, hnk]
          exact ⟨⟨r2.le, r2.sz, fun b hb hn => r2.keep b hb (fun ⟨i, ob, L, h1, h2, h3⟩ => hn ⟨i, ob, L, hsub _ _ h1, h2, h3⟩), fun b hb ho => let ⟨i, ob, L, h1, h2, h3⟩ := r2.own b hb ho; ⟨i, ob, L, hsub _ _ h1, h2, h3⟩, r2.nf⟩, rfl, rfl⟩
      cases av <;> simp only at h <;> try (cases h; done)
      · -- nil
        cases hroom : room n bytes with
        | false => simp [hroom] at h
        | true =>
          simp only [hroom, cond_true, Option.some.injEq, Prod.mk.injEq] at h
          obtain ⟨rfl, rfl⟩ := h
          have := grow none 0 0 [] [] H hx (by omega) (by simpa using hroom) (fun w1 _ => by simp [Builtin.firstCells]) (by simp) rfl (fun _ _ h => h) rfl
          simp only [Nat.zero_add, List.nil_append] at this
          exact this trivial trivial
      · rename_i id off len c
        cases hgid : H.get id with
        | none => simp [hgid] at h
        | some ob =>
          cases ob <;> simp only [hgid] at h <;> try (cases h; done)
          rename_i l
          -- the old elements
          have olds : ∀ {base : Option Addr} {cap : Nat} {L : Loc} {o : Nat} {old : List V}, M id = some L → base = some ⟨L.block, o, none⟩ → (o = L.base + off ∨ len = 0) → getAt l off (len * es) = some old →
              ∃ olds, (∀ (w1 : World), w1.heap = w.heap → (Builtin.firstCells es len (.slice base len cap)).run P w1 = .ok olds.toArray w1) ∧ olds.length = len * es ∧ VRL M old olds := by
            intro base cap L o old hL hbase ho hold
            obtain ⟨L', xs, hL', h1, h2, h3⟩ := read_cells hrel hgid hold
            rw [hL] at hL'; cases hL'
            refine ⟨xs, fun w1 hw1 => ?_, h2, h1⟩
            subst hbase
            simp only [Builtin.firstCells]
            refine run_loadCells_at (w := w1) ?_ h2
            intro j y hj
            rcases ho with rfl | h0
            · have := h3 j y hj; simpa [World.cell?, hw1] using this
            · have := (List.getElem?_eq_some_iff.1 hj).1; rw [h2, h0] at this; simp at this
          -- in place
          have inplace : ∀ {base : Option Addr} {cap : Nat} {L : Loc} {l' : List V}, M id = some L → x = .slice base len cap → base = some ⟨L.block, L.base + off, none⟩ → len + n ≤ cap → setAt l (off + len * es) new = some l' →
              ∃ w', (Builtin.append_ #[t, u] ty #[x, .slice yb n yc]).run P w = .ok (.slice base (len + n) cap) w' ∧ Rel P E N0 M (H.put id (.cells l')).get (H.put id (.cells l')).next w'.heap ∧ TrW M H.get w M (H.put id (.cells l')).get w' := by
            intro base cap L l' hL hxe hbase hfit hset
            obtain ⟨w', hst, r1, r2⟩ := store_cells (P := P) hrel hgid hL hset hvn hone
            refine ⟨w', ?_, by rw [get_put, next_put]; exact r1, by rw [get_put]; exact r2⟩
            subst hxe
            refine run_append_fit ht hu hi (run_lenOf yb n yc w) (by rw [hes]; exact hfc' w rfl) hfit (fun ad had => ?_) (fun hn => by rw [hbase] at hn; cases hn)
            rw [hbase] at had; cases had
            rw [hes, addr_add, Nat.add_assoc]; exact hst
          cases c with
          | ex cap =>
            obtain ⟨L, hL, hxe⟩ := hx
            simp only at h
            cases hfit : Nat.ble (len + n) cap with
            | true =>
              simp only [hfit, cond_true, Option.bind_eq_some_iff] at h
              obtain ⟨l', hset, h⟩ := h
              simp only [Option.some.injEq, Prod.mk.injEq] at h
              obtain ⟨rfl, rfl⟩ := h
              obtain ⟨w', r1, r2, r3⟩ := inplace hL hxe rfl (Nat.le_of_ble_eq_true hfit) hset
              exact ⟨_, w', M, r1, ⟨L, hL, rfl⟩, r2, r3⟩
            | false =>
              simp only [hfit, cond_false] at h
              cases hroom : room (len + n) bytes with
              | false => simp [hroom] at h
              | true =>
                simp only [hroom, cond_true, Option.bind_eq_some_iff] at h
                obtain ⟨old, hold, h⟩ := h
                simp only [Option.some.injEq, Prod.mk.injEq] at h
                obtain ⟨os, h1, h2, h3⟩ := olds (cap := cap) hL rfl (.inl rfl) hold
                refine grow _ len cap old os H hxe ?_ hroom h1 h2 h3 (fun _ _ h => h) rfl h.1.symm h.2.symm
                have : ¬ (len + n ≤ cap) := fun hle => by rw [Nat.ble_eq_true_of_le hle] at hfit; cases hfit
                omega
          | up es' =>
            obtain ⟨L, o, c, hL, hxe, hlec, hor⟩ := hx
            simp only at h
            cases hq : (Nat.beq es es' && Nat.blt 0 es) with
            | false => simp [hq] at h
            | true =>
              simp only [hq, cond_true] at h
              simp only [Bool.and_eq_true, Nat.beq_eq] at hq
              obtain ⟨rfl, _⟩ := hq
              obtain ⟨L', obj, hL', hobj, ⟨cc, ee, rfl, hlim, hlel, hget⟩, _⟩ := hrel.obj _ _ hgid
              rw [hL] at hL'; cases hL'
              cases hfit : Nat.ble (off + (len + n) * es) l.length with
              | true =>
                have hfit' := Nat.le_of_ble_eq_true hfit
                simp only [hfit, cond_true, Option.bind_eq_some_iff] at h
                obtain ⟨l', hset, h⟩ := h
                simp only [Option.some.injEq, Prod.mk.injEq] at h
                obtain ⟨rfl, rfl⟩ := h
                rcases hor with ⟨ho, hc⟩ | ⟨hl0, hc0, hex⟩
                · subst ho
                  have hcap : len + n ≤ c := by
                    rw [hc]; refine (Nat.le_div_iff_mul_le hpos).2 ?_
                    omega
                  obtain ⟨w', r1, r2, r3⟩ := inplace hL hxe rfl hcap hset
                  exact ⟨_, w', M, r1, ⟨L, _, c, hL, rfl, hcap, .inl ⟨rfl, hc⟩⟩, r2, r3⟩
                · -- an empty slice at the block's end: then nothing more would fit
                  have : es ≤ (len + n) * es := Nat.le_mul_of_pos_left _ (by omega)
                  omega
              | false =>
                simp only [hfit, cond_false] at h
                cases hcond : (Nat.beq (off + len * es) l.length && room (len + n) bytes) with
                | false => simp [hcond] at h
                | true =>
                  simp only [hcond, cond_true, Option.bind_eq_some_iff] at h
                  simp only [Bool.and_eq_true, Nat.beq_eq] at hcond
                  obtain ⟨hend, hroom⟩ := hcond
                  obtain ⟨old, hold, h⟩ := h
                  simp only [Option.some.injEq, Prod.mk.injEq] at h
                  obtain ⟨hv', hH'⟩ := h
                  obtain ⟨os, h1, h2, h3⟩ := olds (cap := c) hL rfl (hor.elim (fun h => .inl h.1) (fun h => .inr h.1)) hold
                  have hsubk : ∀ i ob, (H.kill id).get i = some ob → H.get i = some ob := fun i ob hi => by
                    rw [get_kill] at hi
                    simp only [gset] at hi
                    split at hi
                    · cases hi
                    · exact hi
                  by_cases hcap : c < len + n
                  · exact grow _ len c old os (H.kill id) hxe hcap hroom h1 h2 h3 hsubk rfl hv'.symm hH'.symm
                  · -- in place, in the block of the old object
                    rcases hor with ⟨ho, hc⟩ | ⟨hl0, hc0, _⟩
                    · subst ho
                      have hfits : L.base + off + (len + n) * es ≤ cc.size := by
                        have hle : len + n ≤ (L.lim - (L.base + off)) / es := by omega
                        have := (Nat.le_div_iff_mul_le hpos).1 hle
                        have hp : 0 < (len + n) * es := Nat.mul_pos (by omega) hpos
                        omega
                      have hst := run_storeCells_at (P := P) L.block (L.base + off + len * es) ee news 0 cc w hobj (by rw [hnl]; rw [Nat.add_mul] at hfits; omega) (hvn.one hone)
                      simp only [Nat.add_zero] at hst
                      have hdom : M H.next = none := by
                        cases hM : M H.next with
                        | none => rfl
                        | some L => have := hrel.dom _ _ hM; omega
                      have hvo : VRL M old (List.map (fun j => (cc[L.base + off + j]?).getD undef) (List.range (len * es))) := by
                        refine VRL.of_get (by simp [getAt_len hold]) fun j v hj => ?_
                        have hjl : j < len * es := by have := (List.getElem?_eq_some_iff.1 hj).1; rw [getAt_len hold] at this; exact this
                        rw [getAt_get hold hjl] at hj
                        obtain ⟨z, hz, hvz⟩ := hget _ _ hj
                        refine ⟨z, ?_, hvz⟩
                        simp only [List.getElem?_map, List.getElem?_range hjl, Option.map_some, Nat.add_assoc, hz, Option.getD_some]
                      have hsz : (List.take (L.base + off + len * es) cc.toList ++ news ++ List.drop (L.base + off + len * es + news.length) cc.toList).length = cc.size := by
                        simp [hnl]; rw [Nat.add_mul] at hfits; omega
                      obtain ⟨r1, r2⟩ := hrel.take (hp' := (w.setRow L.block (List.take (L.base + off + len * es) cc.toList ++ news ++ List.drop (L.base + off + len * es + news.length) cc.toList).toArray).heap) (id := id) (id' := H.next) (nx' := H.next + 1) (L := L) (L' := ⟨L.block, L.base + off, L.lim⟩) (ob := .cells (old ++ new)) hgid hL hdom (by omega) (by omega) rfl
                        (setRow_size w _ _) (setRow_heap w _ _ _ _ _ hobj) (fun b hb => setRow_other w _ _ _ hb)
                        ⟨(List.take (L.base + off + len * es) cc.toList ++ news ++ List.drop (L.base + off + len * es + news.length) cc.toList).toArray, ee, rfl, by simp only [List.size_toArray, hsz]; exact hlim, by
                          simp only [List.size_toArray, hsz, List.length_append, getAt_len hold]
                          have := hvn.length
                          rw [← this, hnl, ← Nat.add_mul]; exact hfits, fun j v hj => by
                          simp only [List.getElem?_toArray]
                          by_cases hjl : j < len * es
                          · rw [List.getElem?_append_left (by rw [getAt_len hold]; exact hjl), getAt_get hold hjl] at hj
                            obtain ⟨z, hz, hvz⟩ := hget _ _ hj
                            refine ⟨z, ?_, hvz.mono (mset1_le hdom _)⟩
                            have hlt : L.base + off + j < cc.size := by rw [Nat.add_mul] at hfits; omega
                            rw [List.getElem?_append_left (by simp; omega), List.getElem?_append_left (by simp; omega), List.getElem?_take, if_pos (by omega)]
                            rw [Array.getElem?_toList, Nat.add_assoc]; exact hz
                          · rw [List.getElem?_append_right (by rw [getAt_len hold]; omega), getAt_len hold] at hj
                            obtain ⟨z, hz, hvz⟩ := hvn.get _ _ hj
                            have hlt2 := (List.getElem?_eq_some_iff.1 hz).1
                            refine ⟨z, ?_, hvz.mono (mset1_le hdom _)⟩
                            have hlt : L.base + off + len * es ≤ cc.size := by rw [Nat.add_mul] at hfits; omega
                            rw [List.getElem?_append_left (by simp; omega), List.getElem?_append_right (by simp; omega)]
                            rw [← hz]; congr 1; simp; omega⟩
                      subst hv'; subst hH'
                      refine ⟨.slice (some ⟨L.block, L.base + off, none⟩) (len + n) c, w.setRow L.block (List.take (L.base + off + len * es) cc.toList ++ news ++ List.drop (L.base + off + len * es + news.length) cc.toList).toArray, mset1 M H.next ⟨L.block, L.base + off, L.lim⟩, ?_, ⟨⟨L.block, L.base + off, L.lim⟩, L.base + off, c, mset1_self _ _, rfl, by omega, .inl ⟨rfl, hc⟩⟩, ?_, ?_⟩
                      · subst hxe
                        refine run_append_fit ht hu hi (run_lenOf yb n yc w) (by rw [hes]; exact hfc' w rfl) (by omega) (fun ad had => ?_) (fun hn => by cases hn)
                        cases had
                        rw [hes, addr_add]; exact hst
                      · rw [get_new, get_kill]; exact r1
                      · rw [get_new, get_kill]; exact ⟨r2, rfl, rfl⟩
                    · omega
      · rename_i b off len cap
        cases hfit : Nat.ble (len + n) cap with
        | true => simp [hfit] at h
        | false =>
          simp only [hfit, cond_false] at h
          cases hroom : room (len + n) bytes with
          | false => simp [hroom] at h
          | true =>
            simp only [hroom, cond_true, Option.bind_eq_some_iff] at h
            obtain ⟨old, hold, h⟩ := h
            simp only [Option.some.injEq, Prod.mk.injEq] at h
            obtain ⟨xs, h1, h2, h3⟩ := read_ext hrel hold
            obtain ⟨ad, hxe, hor⟩ := hx.xs
            refine grow _ len cap old xs H hxe ?_ hroom (fun w1 hw1 => ?_) h2 h1 (fun _ _ h => h) rfl h.1.symm h.2.symm
            · have : ¬ (len + n ≤ cap) := fun hle => by rw [Nat.ble_eq_true_of_le hle] at hfit; cases hfit
              omega
            · simp only [Builtin.firstCells]
              rcases hor with rfl | ⟨hl0, hc0⟩
              · refine run_loadCells_at (w := w1) ?_ h2
                intro j y hj
                have := h3 j y hj; simpa [World.cell?, hw1] using this
              · subst hl0
                rw [Nat.zero_mul] at h2 ⊢
                have hx0 : xs = [] := List.eq_nil_of_length_eq_zero h2
                subst hx0
                exact run_loadCells_list w1 ad [] (fun j v hv => by simp at hv)

theorem mset_sound {kt n : Nat} {kv vv : V} {k x : Value} {w : World} (hk : chkKey P kt n = true) (hv : VR M kv k) (hvv : VR M vv x) : ∀ {es es' : List (V × V)} {ces : List MapEntry} (i : Nat), MR M es ces → mset n kv vv es = some es' →
    ∃ res, (n ≠ 0 → (Instr.findAsking kt k ces i).run P w = .ok res w) ∧ (n = 0 → ∀ q, P.underlying kt = some (.int q) → Instr.findNow (.int q) k ces i = some res) ∧
      (match res with
       | none => ∀ b, MR M es' (ces ++ [{ key := k, val := x, born := b }])
       | some (j, _) => ∃ e, i ≤ j ∧ ces[j - i]? = some e ∧ (∃ kv', VR M kv' e.key ∧ eqKey n kv kv' = some true) ∧ MR M es' (ces.set (j - i) { e with key := k, val := x }))
  | [], es', ces, i, hm, h => by
    cases hm
    simp only [mset, Option.some.injEq] at h; subst h
    exact ⟨none, fun _ => rfl, fun _ _ _ => rfl, fun b => ⟨_, _, rfl, hv, hvv, rfl⟩⟩
  | (k', v') :: es, es', ces, i, hm, h => by
    obtain ⟨e, ces', rfl, hke, hve, hrest⟩ := hm
    simp only [mset, Option.bind_eq_some_iff] at h
    obtain ⟨b, hb, h⟩ := h
    obtain ⟨h1, h2⟩ := run_eqKey hk hb hv hke w
    cases b with
    | true =>
      simp only [cond_true, Option.some.injEq] at h; subst h
      refine ⟨some (i, e.val), fun hn => by simp [Instr.findAsking, h1 hn], fun hn q hq => ?_, e, Nat.le_refl _, by simp, ⟨k', hke, hb⟩, ?_⟩
      · obtain ⟨q', hq', hs⟩ := h2 hn
        rw [hq] at hq'; cases hq'
        simp [Instr.findNow, hs]
      · simp only [Nat.sub_self, List.set_cons_zero]
        exact ⟨_, _, rfl, hv, hvv, hrest⟩
    | false =>
      simp only [cond_false, Option.bind_eq_some_iff] at h
      obtain ⟨es2, hes2, h⟩ := h
      simp only [Option.some.injEq] at h; subst h
      obtain ⟨res', r1, r2, r3⟩ := mset_sound (w := w) hk hv hvv (i + 1) hrest hes2
      refine ⟨res', fun hn => by simp [Instr.findAsking, h1 hn, r1 hn], fun hn q hq => ?_, ?_⟩
      · obtain ⟨q', hq', hs⟩ := h2 hn
        rw [hq] at hq'; cases hq'
        simp [Instr.findNow, hs, r2 hn q hq]
      · cases res' with
        | none => exact fun b => ⟨e, _, rfl, hke, hve, r3 b⟩
        | some p =>
          obtain ⟨j, y⟩ := p
          obtain ⟨e2, hle, hget, hkey, hmr⟩ := r3
          refine ⟨e2, by omega, ?_, hkey, ?_⟩
          · rw [show j - i = (j - (i + 1)) + 1 from by omega]; simpa using hget
          · rw [show j - i = (j - (i + 1)) + 1 from by omega, List.set_cons_succ]
            exact ⟨e, _, rfl, hke, hve, hmr⟩

theorem sameBits_ints : ∀ (m : Nat) (ks : List (IntKind × Int × Int)), (ks.all fun k => k.2.1 == k.2.2) = true → ((cellsL (·.2.1) ks).zip (cellsL (·.2.2) ks)).all (fun (x, y) => Instr.sameBits m x y) = true
  | _, [], _ => rfl
  | m, k :: ks, h => by
    simp only [List.all_cons, Bool.and_eq_true, beq_iff_eq] at h
    have ih := sameBits_ints m ks h.2
    simp only [cellsL, List.map_cons, List.zip_cons_cons, List.all_cons, Bool.and_eq_true]
    refine ⟨?_, ih⟩
    rw [h.1]
    cases m <;> simp [Instr.sameBits]

theorem sameBits_of_eqKey {n : Nat} {kv kv' : V} {k k' : Value} (h : eqKey n kv kv' = some true) (hv : VR M kv k) (hv' : VR M kv' k') : Instr.sameBits 10000 k' k = true := by
  cases kv <;> cases kv' <;> simp only [eqKey] at h <;> try (cases h; done)
  · split at h
    · split at h
      · rename_i hq; subst hq
        simp only [Option.some.injEq, beq_iff_eq] at h; subst h
        cases hv; cases hv'
        simp [Instr.sameBits]
      · cases h
    · cases h
  · split at h
    · cases h
    · obtain ⟨hlx, hly, ks, rfl, rfl, hall⟩ := eqInts_spec h
      obtain ⟨xs, hxs, rfl⟩ := hv
      obtain ⟨ys, hys, rfl⟩ := hv'
      have e1 := VRL.ints (f := (·.2.1)) hxs
      have e2 := VRL.ints (f := (·.2.2)) hys
      subst e1; subst e2
      have hsame : cellsL (·.2.1) ks = cellsL (·.2.2) ks := by
        have : ∀ ks : List (IntKind × Int × Int), (ks.all fun k => k.2.1 == k.2.2) = true → cellsL (·.2.1) ks = cellsL (·.2.2) ks := by
          intro ks
          induction ks with
          | nil => intro _; rfl
          | cons k ks ih =>
            intro h
            simp only [List.all_cons, Bool.and_eq_true, beq_iff_eq] at h
            simp only [cellsL, List.map_cons, h.1]
            congr 1
            exact ih h.2
        exact this ks hall.symm
      have := sameBits_ints 9999 ks hall.symm
      rw [hsame] at this ⊢
      rw [show (10000 : Nat) = 9999 + 1 from rfl, Instr.sameBits]
      simpa using this

theorem act_sound {w : World} {call : CallF} {H H' : Hp} {o : Oper} {ao : AOp} {v : V} (hc : chkOp P o ao = true) (hk : ao.kind = .act) (hcall : ∀ f as, ao ≠ .call f as) (he : actOp E call r H ao = some (v, H')) (hr : RR M r a.tmps)
    (hrel : Rel P E N0 M H.get H.next w.heap) : ActOk P E N0 M H w o a v H' := by
  cases ao <;> simp only [AOp.kind] at hk <;> try (cases hk; done)
  case st n y v' =>
    simp only [chkOp] at hc
    split at hc
    · rename_i t x u hop
      simp only [Bool.and_eq_true] at hc
      obtain ⟨⟨hs, hx⟩, hu⟩ := hc
      obtain ⟨hcell, i, hi⟩ := sizeIs_cells hs
      simp only [actOp, Option.bind_eq_some_iff] at he
      obtain ⟨p, hp, z, hz, H1, hst, he⟩ := he
      simp only [Option.some.injEq, Prod.mk.injEq] at he
      obtain ⟨rfl, rfl⟩ := he
      have hpx := ev_sound hx hp hr
      have hzx := ev_sound hu hz hr
      unfold stN at hst
      cases p <;> simp only at hst <;> try (cases hst; done)
      rename_i id off
      cases hg : H.get id with
      | none => simp [hg] at hst
      | some ob =>
        cases ob <;> simp only [hg] at hst <;> try (cases hst; done)
        rename_i l
        cases hcond : (Nat.beq z.cells.length n && allOne z.cells) with
        | false => simp [hcond] at hst
        | true =>
          simp only [hcond, cond_true, Option.bind_eq_some_iff] at hst
          obtain ⟨l', hset, hst⟩ := hst
          simp only [Option.some.injEq] at hst; subst hst
          simp only [Bool.and_eq_true, Nat.beq_eq] at hcond
          obtain ⟨L, hL, hxe⟩ := hpx
          obtain ⟨w', hrun, r1, r2⟩ := store_cells (P := P) hrel hg hL hset hzx.cells hcond.2
          have hsz : (a.eval u).cells.size = n := by have := hzx.cells.length; rw [hcond.1] at this; simpa using this
          refine ⟨.skip, w', M, undef, ?_, .inr ⟨rfl, rfl⟩, ⟨[], rfl, rfl⟩, by rw [get_put, next_put]; exact r1, by rw [get_put]; exact r2⟩
          have hrun' : (storeCells ⟨L.block, L.base + off, none⟩ (a.eval u).cells.toList).run P w = .ok () w' := hrun
          simp [execOp, hop, hxe, Instr.storeAt, Instr.sureAddr, storeVar, run_sizeOf w hi, hcell, hsz, hrun']
    · cases hc
  case mput n m' k' v' =>
    simp only [chkOp] at hc
    split at hc
    · rename_i t m k u hop
      simp only [Bool.and_eq_true] at hc
      obtain ⟨⟨⟨hm, hx⟩, hkk⟩, hu⟩ := hc
      cases hmo : mapOf P t with
      | none => simp [hmo] at hm
      | some p =>
        simp only [hmo] at hm
        have hd := mapOf_some hmo
        simp only [actOp, Option.bind_eq_some_iff] at he
        obtain ⟨mv, hmv, kv, hkv, vv, hvv, he⟩ := he
        cases mv <;> simp only at he <;> try (cases he; done)
        rename_i id
        cases hg : H.get id with
        | none => simp [hg] at he
        | some ob =>
          cases ob <;> simp only [hg] at he <;> try (cases he; done)
          rename_i es
          cases hok : keyOk n kv with
          | false => simp [hok] at he
          | true =>
            simp only [hok, cond_true, Option.bind_eq_some_iff] at he
            obtain ⟨es', hes, he⟩ := he
            simp only [Option.some.injEq, Prod.mk.injEq] at he
            obtain ⟨rfl, rfl⟩ := he
            obtain ⟨L, o', hL, ho, ⟨ces, clk, rfl, hmr⟩, _⟩ := hrel.obj _ _ hg
            obtain ⟨L', hL', hxe⟩ := ev_sound hx hmv hr
            rw [hL] at hL'; cases hL'
            have hkx := ev_sound hkk hkv hr
            have hux := ev_sound hu hvv hr
            obtain ⟨res, h1, h2, h3⟩ := mset_sound (P := P) (w := w) hm hkx hux 0 hmr hes
            have hfind := run_findKey_of hm h1 h2
            have hget : (getObj L.block).run P w = .ok (.map ces clk) w := by simp [getObj, Sem.run, ho]
            have hset : ∀ ob : Obj, (setObj L.block ob).run P w = .ok () (w.putObj L.block ob) := fun ob => by simp [setObj, Sem.run, ho, World.putObj]
            have hkey := run_checkKey_ok hm hok hkx false w
            have hlt := (Array.getElem?_eq_some_iff.1 ho).1
            have fin : ∀ (ces' : Array MapEntry) (clk' : Nat), MR M es' ces'.toList → (execOp a.eval o).run P w = .ok .skip (w.putObj L.block (.map ces' clk')) → ActOk P E N0 M H w o a (.tup []) (H.put id (.map es')) := by
              intro ces' clk' hmr' hrun
              obtain ⟨r1, r2⟩ := hrel.upd (hp' := (w.putObj L.block (.map ces' clk')).heap) (o := .map ces' clk') (ob := .map es') hg hL (by simp [World.putObj]) (World.putObj_heap_same hlt) (fun b hb => World.putObj_heap_other hb) ⟨ces', clk', rfl, hmr'⟩
              exact ⟨.skip, _, M, undef, hrun, .inr ⟨rfl, rfl⟩, ⟨[], rfl, rfl⟩, by rw [get_put, next_put]; exact r1, by rw [get_put]; exact ⟨r2, rfl, rfl⟩⟩
            cases res with
            | none =>
              simp only at h3
              refine fin (ces.push { key := a.eval k, val := a.eval u, born := clk }) (clk + 1) (by simpa using h3 clk) ?_
              simp [execOp, hop, hxe, Instr.mapUpdate, run_underlying hd, hget, hkey, hfind, hset]
            | some q =>
              obtain ⟨j, y⟩ := q
              simp only [Nat.sub_zero] at h3
              obtain ⟨e, _, hej, ⟨kv', hke, heq⟩, hmr'⟩ := h3
              have hej' : ces[j]? = some e := by simpa using hej
              have hsb := sameBits_of_eqKey heq hkx hke
              refine fin (ces.modify j fun e => { e with key := a.eval k, val := a.eval u }) clk ?_ ?_
              · have : (ces.modify j fun e => { e with key := a.eval k, val := a.eval u }).toList = ces.toList.set j { e with key := a.eval k, val := a.eval u } := by
                  apply List.ext_getElem?
                  intro i'
                  simp only [Array.getElem?_toList, Array.getElem?_modify, List.getElem?_set]
                  by_cases hij : j = i'
                  · subst hij
                    have hl := (List.getElem?_eq_some_iff.1 hej).1
                    simp only [if_true, hej', Option.map_some, hl]
                  · simp [hij]
                rw [this]; exact hmr'
              · simp [execOp, hop, hxe, Instr.mapUpdate, run_underlying hd, hget, hkey, hfind, hset, hej', Instr.keyThatStays, hsb]
    · cases hc
  case app es bytes x' y' =>
    simp only [chkOp] at hc
    split at hc
    · rename_i c hop
      simp only [Bool.and_eq_true] at hc
      obtain ⟨hcal, hc⟩ := hc
      have hcal' : c.callee = .builtin .append := by split at hcal <;> simp_all
      split at hc
      · rename_i x y t u hargs htys
        simp only [Bool.and_eq_true] at hc
        obtain ⟨⟨⟨hs, hsu⟩, hx⟩, hy⟩ := hc
        cases hse : sliceOf P t with
        | none => simp [hse] at hs
        | some e =>
          simp only [hse, Bool.and_eq_true, Nat.blt_eq] at hs
          obtain ⟨⟨⟨hs1, hs2⟩, hpos⟩, hs3⟩ := hs
          obtain ⟨hcell, i, hi⟩ := sizeIs_cells hs1
          have hb : i.bytes = bytes := by unfold bytesIs at hs2; simpa [hi] using hs2
          obtain ⟨zv, hz, hzs⟩ : ∃ zv, i.zero = some zv ∧ zv.cells.size = es := by
            simp only [hi] at hs3
            split at hs3
            · rename_i zv hz; exact ⟨zv, hz, by simpa using hs3⟩
            · cases hs3
          obtain ⟨e', hse'⟩ := Option.isSome_iff_exists.1 hsu
          simp only [actOp, Option.bind_eq_some_iff] at he
          obtain ⟨av, hav, bv, hbv, n, hn, new, hnew, he⟩ := he
          obtain ⟨x1, w', M', hrun, hvr, r1, r2⟩ := app_sound (ty := o.type) hrel (sliceOf_some hse) (sliceOf_some hse') hi hcell hpos hb hz hzs (ev_sound hx hav hr) (ev_sound hy hbv hr) hn hnew he
          obtain ⟨callee, args, tys⟩ := c
          simp only at hcal' hargs htys
          have ha := toList2 hargs
          have ht := toList2 htys
          subst hcal'; subst ha; subst ht
          refine ⟨.value x1, w', M', x1, ?_, .inl rfl, hvr, r1, r2⟩
          simp [execOp, hop, resolve, invoke, builtin, hrun]
      · cases hc
    · cases hc
  case copy es x' y' =>
    simp only [chkOp] at hc
    split at hc
    · rename_i c hop
      simp only [Bool.and_eq_true] at hc
      obtain ⟨hcal, hc⟩ := hc
      have hcal' : c.callee = .builtin .copy := by split at hcal <;> simp_all
      split at hc
      · rename_i x y t tl hargs htys
        simp only [Bool.and_eq_true] at hc
        obtain ⟨⟨hs, hx⟩, hy⟩ := hc
        cases hse : sliceOf P t with
        | none => simp [hse] at hs
        | some e =>
          simp only [hse] at hs
          obtain ⟨hcell, i, hi⟩ := sizeIs_cells hs
          have hd := sliceOf_some hse
          simp only [actOp, Option.bind_eq_some_iff] at he
          obtain ⟨av, hav, bv, hbv, he⟩ := he
          unfold copyTo at he
          simp only [Option.bind_eq_some_iff] at he
          obtain ⟨lx, hlx, ly, hly, cs, hcs, he⟩ := he
          obtain ⟨news, yb, yc, hye, hvn, hnl, hfc⟩ := src_cells hrel hly hcs (ev_sound hy hbv hr)
          obtain ⟨xb, xc, hxe⟩ := lenOf_len hlx (ev_sound hx hav hr)
          obtain ⟨callee, args, tys⟩ := c
          simp only at hcal' hargs htys
          have ha := toList2 hargs
          have ht : tys[0]? = some t := by rw [← Array.getElem?_toList, htys]; rfl
          subst hcal'; subst ha
          have hmin : Nat.min ly lx = min ly lx := rfl
          have hfc' := hfc w rfl (min ly lx) (Nat.min_le_left _ _)
          rw [hye] at hfc'
          have run : ∀ w', (∀ ad, xb = some ad → (storeCells ad (news.take (min ly lx * es))).run P w = .ok () w') → (xb = none → w' = w) →
              (execOp a.eval o).run P w = .ok (.value (.int .i64 (min ly lx : Nat))) w' := by
            intro w' hst hno
            cases xb with
            | none =>
              cases hno rfl
              simp [execOp, hop, resolve, invoke, builtin, Builtin.copy_, ht, hxe, hye, run_underlying hd, run_lenOf, hmin, run_sizeOf w hi, hcell, hfc', goInt]
            | some ad =>
              have := hst ad rfl
              simp [execOp, hop, resolve, invoke, builtin, Builtin.copy_, ht, hxe, hye, run_underlying hd, run_lenOf, hmin, run_sizeOf w hi, hcell, hfc', this, goInt]
          by_cases h0 : min ly lx = 0
          · simp only [h0, beq_self, cond_true, Option.some.injEq, Prod.mk.injEq] at he
            obtain ⟨rfl, rfl⟩ := he
            refine ⟨_, w, M, .int .i64 (min ly lx : Nat), run w (fun ad _ => by rw [h0]; simp [storeCells]) (fun _ => rfl), .inl rfl, by rw [h0]; rfl, hrel, TrW.refl _ _ _⟩
          · rw [beq_false h0, cond_false] at he
            cases hone : allOne (cs.take (min ly lx * es)) with
            | false => simp [hone] at he
            | true =>
              simp only [hone, cond_true] at he
              cases av <;> simp only at he <;> try (cases he; done)
              rename_i id off len c
              cases hg : H.get id with
              | none => simp [hg] at he
              | some ob =>
                cases ob <;> simp only [hg] at he <;> try (cases he; done)
                rename_i l
                simp only [Option.bind_eq_some_iff] at he
                obtain ⟨l', hset, he⟩ := he
                simp only [Option.some.injEq, Prod.mk.injEq] at he
                obtain ⟨rfl, rfl⟩ := he
                simp only [lenOf, Option.some.injEq] at hlx
                subst hlx
                have hloc : ∃ L, M id = some L ∧ xb = some ⟨L.block, L.base + off, none⟩ := by
                  have hv := ev_sound hx hav hr
                  cases c with
                  | ex k => obtain ⟨L, hL, hx2⟩ := hv; rw [hxe] at hx2; cases hx2; exact ⟨L, hL, rfl⟩
                  | up k =>
                    obtain ⟨L, oo, cc, hL, hx2, _, hor⟩ := hv
                    rw [hxe] at hx2; cases hx2
                    rcases hor with ⟨rfl, _⟩ | ⟨hz, _⟩
                    · exact ⟨L, hL, rfl⟩
                    · rw [hz] at h0; simp at h0
                obtain ⟨L, hL, rfl⟩ := hloc
                obtain ⟨w', hst, r1, r2⟩ := store_cells (P := P) hrel hg hL hset (hvn.take (min ly len * es)) hone
                refine ⟨_, w', M, _, run w' (fun ad had => by cases had; exact hst) (fun hn => by cases hn), .inl rfl, rfl, by rw [get_put, next_put]; exact r1, by rw [get_put]; exact r2⟩
      · cases hc
    · cases hc
  case clr z x' =>
    simp only [chkOp] at hc
    split at hc
    · rename_i c hop
      simp only [Bool.and_eq_true] at hc
      obtain ⟨hcal, hc⟩ := hc
      have hcal' : c.callee = .builtin .clear := by split at hcal <;> simp_all
      split at hc
      · rename_i x t hargs htys
        simp only [Bool.and_eq_true] at hc
        obtain ⟨hs, hx⟩ := hc
        cases hse : sliceOf P t with
        | none => simp [hse] at hs
        | some e =>
          simp only [hse] at hs
          unfold oneZero at hs
          simp only [Bool.and_eq_true] at hs
          obtain ⟨i, zv, hi, hiz, hck⟩ := zeroIs_spec hs.1
          have hd := sliceOf_some hse
          simp only [actOp, Option.bind_eq_some_iff] at he
          obtain ⟨av, hav, he⟩ := he
          have hv := ev_sound hx hav hr
          obtain ⟨callee, args, tys⟩ := c
          simp only at hcal' hargs htys
          have ha := toList1 hargs
          have ht := toList1 htys
          subst hcal'; subst ha; subst ht
          unfold clrTo at he
          cases av <;> simp only at he <;> try (cases he; done)
          · simp only [Option.some.injEq, Prod.mk.injEq] at he
            obtain ⟨rfl, rfl⟩ := he
            have hxe : a.eval x = .slice none 0 0 := hv
            exact ⟨.value (.tuple #[]), w, M, .tuple #[], by simp [execOp, hop, resolve, invoke, builtin, Builtin.clear_, hxe, run_underlying hd], .inl rfl, ⟨[], rfl, rfl⟩, hrel, TrW.refl _ _ _⟩
          · rename_i id off len c
            by_cases h0 : len = 0
            · subst h0
              simp only [beq_self, cond_true, Option.some.injEq, Prod.mk.injEq] at he
              obtain ⟨rfl, rfl⟩ := he
              have hxe : ∃ ad cp, a.eval x = .slice (some ad) 0 cp := by
                cases c with
                | ex k => obtain ⟨L, _, h⟩ := hv; exact ⟨_, _, h⟩
                | up k => obtain ⟨L, oo, cc, _, h, _⟩ := hv; exact ⟨_, _, h⟩
              obtain ⟨ad, cp, hxe⟩ := hxe
              exact ⟨.value (.tuple #[]), w, M, .tuple #[], by simp [execOp, hop, resolve, invoke, builtin, Builtin.clear_, hxe, run_underlying hd], .inl rfl, ⟨[], rfl, rfl⟩, hrel, TrW.refl _ _ _⟩
            · rw [beq_false h0, cond_false] at he
              cases hg : H.get id with
              | none => simp [hg] at he
              | some ob =>
                cases ob <;> simp only [hg] at he <;> try (cases he; done)
                rename_i l
                cases hz1 : allOne (List.replicate len z).flatten with
                | false => simp [hz1] at he
                | true =>
                simp only [hz1, cond_true, Option.bind_eq_some_iff] at he
                obtain ⟨l', hset, he⟩ := he
                simp only [Option.some.injEq, Prod.mk.injEq] at he
                obtain ⟨rfl, rfl⟩ := he
                have hxe : ∃ L cp, M id = some L ∧ a.eval x = .slice (some ⟨L.block, L.base + off, none⟩) len cp := by
                  cases c with
                  | ex k => obtain ⟨L, hL, h⟩ := hv; exact ⟨_, _, hL, h⟩
                  | up k =>
                    obtain ⟨L, oo, cc, hL, h, _, hor⟩ := hv
                    rcases hor with ⟨rfl, _⟩ | ⟨hz, _⟩
                    · exact ⟨_, _, hL, h⟩
                    · exact absurd hz h0
                obtain ⟨L, cp, hL, hxe⟩ := hxe
                have hzl := (chkVs_sound M hck).flatten len
                obtain ⟨w', hst, r1, r2⟩ := store_cells (P := P) hrel hg hL hset hzl hz1
                have hzv : (zeroValue e).run P w = .ok zv w := by simp [zeroValue, run_typeInfo w hi, hiz]
                refine ⟨.value (.tuple #[]), w', M, .tuple #[], ?_, .inl rfl, ⟨[], rfl, rfl⟩, by rw [get_put, next_put]; exact r1, by rw [get_put]; exact r2⟩
                have hst' : (storeCells ⟨L.block, L.base + off, none⟩ (Builtin.zeroCells zv.cells len).toList).run P w = .ok () w' := by rw [zeroCells_eq]; exact hst
                simp [execOp, hop, resolve, invoke, builtin, Builtin.clear_, hxe, run_underlying hd, h0, hzv, hst']
      · cases hc
    · cases hc
  case call f as => exact absurd rfl (hcall f as)
  case bad => simp [actOp] at he
end
end Go.Vm

namespace Go.Vm

def fen : Option Nat → Fence
  | none => Fence.wide
  | some l => Fence.wide.inRound l
theorem fen_fn (l : Option Nat) (f : FuncId) : (fen l).fn f := by cases l <;> trivial
theorem fen_depth (l : Option Nat) : (fen l).depth = none := by cases l <;> rfl
theorem fen_round (l : Option Nat) : (fen l).round = l := by cases l <;> rfl
theorem fen_in (l : Option Nat) (k : Nat) : (fen l).inRound k = fen (some k) := by cases l <;> rfl

section
variable (P : Program) (E : Env) (N0 : Nat)

def rdR (M : LM) : Option Nat → Option Nat → Prop
  | none, none => True
  | some id, some l => ∃ L, M id = some L ∧ L.block = l
  | _, _ => False

/-- the marks of outermost loops over functions among a frame's deferred calls -/
def Marks (M : LM) (g : Nat → Option Ob) (hp : Array Obj) (Nf : Nat) : List Deferred → Prop
  | [] => True
  | d :: ds => (∃ b, d = { target := .collected b, args := #[] } ∧ hp[b]? = some (.deferred (some [])) ∧ ¬ Own M g b ∧ Nf ≤ b ∧ ∀ d' ∈ ds, d'.target ≠ .collected b) ∧ Marks M g hp Nf ds

theorem Marks.step {M M' : LM} {g g' : Nat → Option Ob} {hp hp' : Array Obj} {Nf : Nat} (t : Tr1 M g hp M' g' hp') : ∀ {ds : List Deferred}, Marks M g hp Nf ds → Marks M' g' hp' Nf ds
  | [], _ => trivial
  | _ :: _, ⟨⟨b, e, h1, h2, h3, h4⟩, hr⟩ => by
    have hlt := (Array.getElem?_eq_some_iff.1 h1).1
    exact ⟨⟨b, e, by rw [t.keep b hlt h2]; exact h1, fun ho => h2 (t.own b hlt ho), h3, h4⟩, Marks.step t hr⟩

def outR : Out → Exit → Prop
  | .normal, e => e = .normal
  | .exit id, e => e = .exit id
  | .ret, e => e = .ret

/-- what stands when code is left -/
def PostC (M : LM) (H : Hp) (w : World) (nt Nf : Nat) (out : Out) (r' : Regs) (H' : Hp) : Exit → Act → World → Prop := fun e a' w' =>
  outR out e ∧ ∃ M', Rel P E N0 M' H'.get H'.next w'.heap ∧ TrW M H.get w M' H'.get w' ∧ RR M' r' a'.tmps ∧ a'.tmps.size = nt ∧ Marks M' H'.get w'.heap Nf a'.defers

def SimEx (ex : Ex) : Prop := ∀ rd ac c r H out r' H', ex rd ac r H = some (out, r', H') → ∀ nt, chkC P nt c ac = true → ∀ M (a : Act) (w : World) l Nf m,
  Rel P E N0 M H.get H.next w.heap → RR M r a.tmps → a.tmps.size = nt → rdR M rd l → Marks M H.get w.heap Nf a.defers → Nf ≤ w.heap.size →
  c.wpIn (fen l) m P (PostC P E N0 M H w nt Nf out r' H') a w

/-- how a call ends -/
def CallPost (M : LM) (H : Hp) (w : World) (v : V) (H' : Hp) : Ending → World → Prop := fun e w' =>
  ∃ x M', e = .returned x ∧ VR M' v x ∧ Rel P E N0 M' H'.get H'.next w'.heap ∧ TrW M H.get w M' H'.get w'

def SimFn (call : CallF) : Prop := ∀ f cs args H v H', call (.fn f cs) args H = some (v, H') → ∀ M (w : World) xs l m, Rel P E N0 M H.get H.next w.heap → VRL M (args ++ cs) xs →
  (∀ as, (callFunc f as).run P w = .ok (.enter f as) w) ∧ CallsIn (fen l) m P f xs.toArray w (CallPost P E N0 M H w v H')

def SimYld (call : CallF) : Prop := ∀ id args H v H', call (.yld id) args H = some (v, H') → ∀ M (w : World) xs L l m, Rel P E N0 M H.get H.next w.heap → VRL M args xs → M id = some L →
  ∃ f tmps assign body, (Instr.yield L.block xs.toArray).run P w = .ok (.round L.block f tmps assign body) w ∧ RoundIn (fen l) m P L.block f tmps assign body w (CallPost P E N0 M H w v H')

def SimNo (call : CallF) : Prop := ∀ fv args H, (∀ f cs, fv ≠ .fn f cs) → (∀ id, fv ≠ .yld id) → call fv args H = none

/-- all that is asked of the functions that are known by what they do -/
def SimPrim : Prop := ∀ f g, E.prim f = some g → ∀ args H v H', g args H = some (v, H') → ∀ M (w : World) xs l m, Rel P E N0 M H.get H.next w.heap → VRL M args xs →
  (∀ as, (callFunc f as).run P w = .ok (.enter f as) w) ∧ CallsIn (fen l) m P f xs.toArray w (CallPost P E N0 M H w v H')

/-- all that is asked of the functions -/
def Funcs : Prop := ∀ f A, E.funcs f = some A → chkF P f A = true
end

section
variable {P : Program} {E : Env} {N0 : Nat}

theorem Marks.stepW {M M' : LM} {g g' : Nat → Option Ob} {w w' : World} {Nf : Nat} (t : TrW M g w M' g' w') {ds : List Deferred} (h : Marks M g w.heap Nf ds) : Marks M' g' w'.heap Nf ds := h.step t.tr

theorem Rel.push {M : LM} {g : Nat → Option Ob} {nx : Nat} {hp : Array Obj} (hrel : Rel P E N0 M g nx hp) (o : Obj) (hno : ∀ c e fr, o ≠ .cells c e fr) : Rel P E N0 M g nx (hp.push o) ∧ Tr1 M g hp M g (hp.push o) :=
  ⟨⟨hrel.dom, fun id ob h => let ⟨L, o', a, b, c, d⟩ := hrel.obj id ob h; ⟨L, o', a, push_old b, c, d⟩, hrel.inj,
    fun b off v h => let ⟨h1, c, e, fr, x, h2, h3⟩ := hrel.ext b off v h; ⟨h1, c, e, fr, x, push_old h2, h3⟩, by simp; have := hrel.n0; omega⟩,
   ⟨LM.le.refl M, by simp, fun b hb _ => by rw [Array.getElem?_push, if_neg (by omega)], fun _ _ h => h, fun b hu c e fr hc => by
      rw [Array.getElem?_push] at hc
      split at hc
      · cases hc; exact absurd rfl (hno _ _ _)
      · exact hu c e fr hc⟩⟩

theorem Rel.other {M : LM} {g : Nat → Option Ob} {nx : Nat} {hp hp' : Array Obj} (hrel : Rel P E N0 M g nx hp) {k : Nat} (hk : ¬ Own M g k) (hn : N0 ≤ k) (hsz : hp'.size = hp.size) (h : ∀ b, b ≠ k → hp'[b]? = hp[b]?) : Rel P E N0 M g nx hp' :=
  ⟨hrel.dom, fun id ob hg => let ⟨L, o', a, b, c, d⟩ := hrel.obj id ob hg; ⟨L, o', a, by rw [h _ (fun e => hk ⟨id, ob, L, hg, a, e⟩)]; exact b, c, d⟩, hrel.inj,
    fun b off v hb => let ⟨h1, c, e, fr, x, h2, h3⟩ := hrel.ext b off v hb; ⟨h1, c, e, fr, x, by rw [h b (by omega)]; exact h2, h3⟩, by rw [hsz]; exact hrel.n0⟩

theorem Rel.dom_none {M : LM} {g : Nat → Option Ob} {nx : Nat} {hp : Array Obj} (hrel : Rel P E N0 M g nx hp) : M nx = none := by
  cases hM : M nx with
  | none => rfl
  | some L => have := hrel.dom _ _ hM; omega

theorem put_size (a : Act) (dst : Option Nat) (x : Value) : (a.put dst x).tmps.size = a.tmps.size := by cases dst <;> simp [Act.put]
theorem put_defers (a : Act) (dst : Option Nat) (x : Value) : (a.put dst x).defers = a.defers := by cases dst <;> rfl

theorem chkD_lt {nt : Nat} {d d' : Option Nat} (h : chkD nt d d' = true) : d = d' ∧ ∀ k, d' = some k → k < nt := by
  cases d <;> cases d' <;> simp [chkD] at h
  · exact ⟨rfl, fun k e => by cases e⟩
  · exact ⟨by rw [h.1], fun k e => by cases e; rw [← h.1]; exact h.2⟩

theorem wanted_sound {M : LM} {r : Regs} {a : Act} {ops : Array Oper} {o : Oper} {g : Option (Nat × Bool)} {b : Bool} (hc : chkG ops o.guard g = true) (h : wanted r g = some b) (hr : RR M r a.tmps) :
    Region.wanted o (yielded ops a.tmps) = b := by
  cases hg : o.guard with
  | none => cases g with
    | none => simp only [wanted, Option.some.injEq] at h; subst h; simp [Region.wanted, hg]
    | some p => simp [chkG, hg] at hc
  | some q => cases g with
    | none => simp [chkG, hg] at hc
    | some p =>
      obtain ⟨j, bb⟩ := q
      obtain ⟨t, b'⟩ := p
      simp only [chkG, hg, Bool.and_eq_true, beq_iff_eq] at hc
      obtain ⟨rfl, hc⟩ := hc
      cases hd : (ops[j]?).bind (·.dst) with
      | none => simp [hd] at hc
      | some d =>
        simp only [hd, Nat.beq_eq] at hc
        subst hc
        simp only [wanted, Option.bind_eq_some_iff] at h
        obtain ⟨v, hv, h⟩ := h
        obtain ⟨x, hx, hvx⟩ := hr d v hv
        split at h
        · simp only [Option.some.injEq] at h; subst h
          cases hvx
          simp [Region.wanted, hg, yielded, hd, hx]
        · simp only [Option.some.injEq] at h; subst h
          obtain ⟨xs, hxs, rfl⟩ := hvx
          simp [Region.wanted, hg, yielded, hd, hx]
        · cases h

theorem semAt_of_chk {o : Oper} {ao : AOp} (h : chkOp P o ao = true) (hb : ao ≠ .bad) (ro : Option Nat) (ρ : Operand → Value) : o.semAt ro ρ = execOp ρ o := by
  refine Oper.semAt_eq ro ρ o fun c hc => ?_
  cases ao <;> simp [chkOp, hc] at h hb

/-- one operation: a pure one, a read, a new object, a write, a call -/
theorem oper_wp {call : CallF} (hf : SimFn P E N0 call) (hy : SimYld P E N0 call) (hno : SimNo call) {M : LM} {r : Regs} {a : Act} {w : World} {H H' : Hp} {o : Oper} {ao : AOp} {v : V} {l : Option Nat} {m : Nat} {Q : Exit → Act → World → Prop} {next : Act → World → Prop}
    (hc : chkOp P o ao = true) (he : stepOp E call r H ao = some (v, H')) (hr : RR M r a.tmps) (hrel : Rel P E N0 M H.get H.next w.heap)
    (hK : ∀ x M' w', VR M' v x → Rel P E N0 M' H'.get H'.next w'.heap → TrW M H.get w M' H'.get w' → next (a.put o.dst x) w') :
    o.wpIn (fen l) m P a w next Q := by
  refine ⟨fun f _ => fen_fn l f, ?_⟩
  have hbad : ao ≠ .bad := by intro e; subst e; simp [stepOp, AOp.kind, actOp] at he
  rw [semAt_of_chk hc hbad]
  unfold stepOp at he
  cases hk : ao.kind with
  | pure =>
    simp only [hk, Option.bind_eq_some_iff] at he
    obtain ⟨u, hu, he⟩ := he
    simp only [Option.some.injEq, Prod.mk.injEq] at he
    obtain ⟨rfl, rfl⟩ := he
    obtain ⟨x, hx, hv⟩ := pure_sound hc hk hu hr w
    rw [hx, Oper.uponIn_value]
    exact hK x M w hv hrel (TrW.refl _ _ _)
  | read =>
    simp only [hk, Option.bind_eq_some_iff] at he
    obtain ⟨u, hu, he⟩ := he
    simp only [Option.some.injEq, Prod.mk.injEq] at he
    obtain ⟨rfl, rfl⟩ := he
    obtain ⟨x, hx, hv⟩ := read_sound hc hk hu hr hrel (fun _ _ h => h)
    rw [hx, Oper.uponIn_value]
    exact hK x M w hv hrel (TrW.refl _ _ _)
  | new =>
    simp only [hk, Option.bind_eq_some_iff] at he
    obtain ⟨⟨f, ob⟩, hu, he⟩ := he
    simp only [Option.some.injEq, Prod.mk.injEq] at he
    obtain ⟨rfl, rfl⟩ := he
    obtain ⟨obj, x, lim, hx, hall⟩ := new_sound (w := w) hc hk hu hr
    rw [hx, Oper.uponIn_value]
    have hdom := hrel.dom_none
    obtain ⟨h1, h2⟩ := hall (mset1 M H.next ⟨w.heap.size, 0, lim⟩) H.next (mset1_le hdom _) (mset1_self _ _)
    obtain ⟨r1, r2⟩ := hrel.new (nx' := H.next + 1) (o := obj) (ob := ob) (base := 0) (lim := lim) hdom (by omega) (by omega) h2
    exact hK x _ _ h1 (by rw [get_new, next_new]; exact r1) (by rw [get_new]; exact ⟨r2, rfl, rfl⟩)
  | act =>
    simp only [hk] at he
    by_cases hcall : ∃ f as, ao = .call f as
    · obtain ⟨f', as', rfl⟩ := hcall
      simp only [chkOp] at hc
      split at hc
      · rename_i c hop
        simp only [Bool.and_eq_true] at hc
        obtain ⟨hcal, has⟩ := hc
        split at hcal
        · rename_i fo hfo
          simp only [actOp, Option.bind_eq_some_iff] at he
          obtain ⟨fv, hfv, vs, hvs, he⟩ := he
          have hfx := ev_sound hcal hfv hr
          have hasx := evs_sound has hvs hr
          obtain ⟨callee, args, tys⟩ := c
          simp only at hfo has hasx
          subst hfo
          have hmap : args.map a.eval = (args.toList.map a.eval).toArray := by apply Array.ext'; simp
          cases fv <;> try (simp only [callV] at he)
          case fn f cs =>
            obtain ⟨xs, hxs, hfe⟩ := hfx
            obtain ⟨he1, he2⟩ := hf f cs vs H v H' he M w _ l (m - 1) hrel (hasx.append hxs)
            have hrun : (execOp a.eval o).run P w = .ok (.enter f (args.toList.map a.eval ++ xs).toArray) w := by
              simp only [execOp, hop, Sem.run_bind, resolve, hfe, Deferred.ofValue, invoke, Sem.run_pure, Result.andThen_ok, hmap]
              rw [he1]; simp
            rw [hrun, Oper.uponIn_enter]
            refine ⟨(fun h => absurd h (by rw [fen_depth]; simp)), he2.mono ?_⟩
            rintro e w' ⟨x, M', rfl, h1, h2, h3⟩
            exact hK x M' w' h1 h2 h3
          case yld id =>
            obtain ⟨L, hL, hfe⟩ := hfx
            obtain ⟨f, tmps, assign, body, hyr, hri⟩ := hy id vs H v H' he M w _ L l (m - 1) hrel hasx hL
            have hrun : (execOp a.eval o).run P w = .ok (.round L.block f tmps assign body) w := by
              simp only [execOp, hop, Sem.run_bind, resolve, hfe, Deferred.ofValue, invoke, Sem.run_pure, Result.andThen_ok, hmap]
              simpa using hyr
            rw [hrun, Oper.uponIn_round]
            refine ⟨(fun h => absurd h (by rw [fen_depth]; simp)), hri.mono ?_⟩
            rintro e w' ⟨x, M', rfl, h1, h2, h3⟩
            exact hK x M' w' h1 h2 h3
          all_goals (rw [hno _ _ _ (fun _ _ e => by cases e) (fun _ e => by cases e)] at he; cases he)
        · cases hcal
      · cases hc
    · obtain ⟨nxt, w', M', x, hx, hnxt, h1, h2, h3⟩ := act_sound hc hk (fun f as e => hcall ⟨f, as, e⟩) he hr hrel
      rw [hx]
      rcases hnxt with rfl | ⟨rfl, rfl⟩
      · rw [Oper.uponIn_value]; exact hK x M' w' h1 h2 h3
      · rw [Oper.uponIn_skip]; exact hK _ M' w' h1 h2 h3

/-- a list of operations, one after another -/
theorem ops_wp {call : CallF} (hf : SimFn P E N0 call) (hy : SimYld P E N0 call) (hno : SimNo call) {ops : Array Oper} {nt : Nat} {l : Option Nat} {m : Nat} {Q : Exit → Act → World → Prop} :
    ∀ (os : List Oper) (as : List AOper) (i : Nat), chkRegion P nt ops os as = true → (∀ j, j < os.length → ops[i + j]? = os[j]?) →
    ∀ {M : LM} {r r' : Regs} {a : Act} {w : World} {H H' : Hp}, runOps E call as r H = some (r', H') → RR M r a.tmps → a.tmps.size = nt → Rel P E N0 M H.get H.next w.heap →
      (∀ M' a' w', RR M' r' a'.tmps → a'.tmps.size = nt → a'.defers = a.defers → Rel P E N0 M' H'.get H'.next w'.heap → TrW M H.get w M' H'.get w' → Q .normal a' w') →
      wpOpsIn (fen l) m P ops Q (List.range' i os.length) a w
  | [], [], i, _, _, M, r, r', a, w, H, H', he, hr, hs, hrel, hQ => by
    simp only [runOps, Option.some.injEq, Prod.mk.injEq] at he
    obtain ⟨rfl, rfl⟩ := he
    exact hQ M a w hr hs rfl hrel (TrW.refl _ _ _)
  | [], _ :: _, i, hc, _, _, _, _, _, _, _, _, _, _, _, _, _ => by simp [chkRegion] at hc
  | _ :: _, [], i, hc, _, _, _, _, _, _, _, _, _, _, _, _, _ => by simp [chkRegion] at hc
  | o :: os, ao :: as, i, hc, hidx, M, r, r', a, w, H, H', he, hr, hs, hrel, hQ => by
    simp only [chkRegion, chkOper, Bool.and_eq_true] at hc
    obtain ⟨⟨⟨hd, hg⟩, hop⟩, hrest⟩ := hc
    obtain ⟨hdst, hlt⟩ := chkD_lt hd
    have hlt' : ∀ d, ao.dst = some d → d < a.tmps.size := fun d h => by rw [hs]; exact hlt d h
    have hi : ops[i]? = some o := by have := hidx 0 (by simp); simpa using this
    have hidx' : ∀ j, j < os.length → ops[i + 1 + j]? = os[j]? := fun j hj => by
      have := hidx (j + 1) (by simp; omega)
      rw [show i + 1 + j = i + (j + 1) from by omega]; simpa using this
    simp only [runOps, Option.bind_eq_some_iff] at he
    obtain ⟨b, hb, he⟩ := he
    have hw := wanted_sound hg hb hr
    simp only [List.length_cons, List.range'_succ, wpOpsIn, hi]
    cases b with
    | true =>
      simp only [hw, if_true]
      simp only [cond_true, Option.bind_eq_some_iff] at he
      obtain ⟨⟨v, H1⟩, hst, he⟩ := he
      refine oper_wp hf hy hno hop hst hr hrel (fun x M1 w1 hv hrel1 ht1 => ?_)
      rw [hdst]
      refine ops_wp hf hy hno os as (i + 1) hrest hidx' he ((hr.mono ht1.le).put hv hlt') (by rw [put_size]; exact hs) hrel1 (fun M2 a2 w2 h1 h2 h3 h4 h5 => ?_)
      exact hQ M2 a2 w2 h1 h2 (by rw [h3, put_defers]) h4 (ht1.trans h5)
    | false =>
      simp only [hw, Bool.false_eq_true, if_false]
      simp only [cond_false] at he
      refine ⟨fun f _ => fen_fn l f, ?_⟩
      rw [hdst]
      refine ops_wp hf hy hno os as (i + 1) hrest hidx' he (hr.put RR.undef hlt') (by rw [put_size]; exact hs) hrel (fun M2 a2 w2 h1 h2 h3 h4 h5 => ?_)
      exact hQ M2 a2 w2 h1 h2 (by rw [h3, put_defers]) h4 h5

/-! results; the way out of a function -/
theorem results_sound {M : LM} {r : Regs} {tmps : Array Value} {w : World} {H : Hp} (hr : RR M r tmps) (hrel : Rel P E N0 M H.get H.next w.heap) : ∀ {rs : List ResultVar} {as : List RV} {vs : List V}, chkR P rs as = true → Vm.results E r H as = some vs →
    ∃ xs, VRL M vs xs ∧ (rs.mapM fun
      | ResultVar.tmp t => (pure (tmps.getD t undef) : Sem Value)
      | .cell a t => do loadVar t (← asAddr (tmps.getD a undef))).run P w = .ok xs w
  | [], [], vs, _, h => by simp only [Vm.results, Option.some.injEq] at h; subst h; exact ⟨[], rfl, rfl⟩
  | [], _ :: _, _, hc, _ => by simp [chkR] at hc
  | x :: _, [], _, hc, _ => by cases x <;> simp [chkR] at hc
  | x :: rs, y :: as, vs, hc, h => by
    simp only [Vm.results, Option.bind_eq_some_iff] at h
    obtain ⟨v, hv, vs', hvs, h⟩ := h
    simp only [Option.some.injEq] at h; subst h
    have key : ∃ z, VR M v z ∧ (match x with
      | ResultVar.tmp t => (pure (tmps.getD t undef) : Sem Value)
      | .cell a t => do loadVar t (← asAddr (tmps.getD a undef))).run P w = .ok z w ∧ chkR P rs as = true := by
      cases x with
      | tmp t => cases y with
        | tmp t' =>
          simp only [chkR, Bool.and_eq_true, Nat.beq_eq] at hc
          obtain ⟨rfl, hc⟩ := hc
          obtain ⟨z, hz, hvz⟩ := hr t v hv
          exact ⟨z, hvz, by simp [hz], hc⟩
        | _ => simp [chkR] at hc
      | cell ad t => cases y with
        | tmp t' => simp [chkR] at hc
        | cell1 a' =>
          simp only [chkR, Bool.and_eq_true, Nat.beq_eq, Bool.not_eq_true'] at hc
          obtain ⟨⟨⟨rfl, hu⟩, ha⟩, hc⟩ := hc
          simp only [result, Option.bind_eq_some_iff] at hv
          obtain ⟨p, hp, hv⟩ := hv
          obtain ⟨px, hpx, hvp⟩ := hr ad p hp
          obtain ⟨b, off, z, rfl, hvz, hz⟩ := ld1_sound hrel (fun _ _ h => h) hv hvp
          exact ⟨z, hvz, by simp [hpx, asAddr, run_loadVar_one hu ha hz], hc⟩
        | cellN a' n =>
          simp only [chkR, Bool.and_eq_true, Nat.beq_eq] at hc
          obtain ⟨⟨⟨⟨rfl, hu⟩, ha⟩, hsz⟩, hc⟩ := hc
          simp only [result, Option.bind_eq_some_iff] at hv
          obtain ⟨p, hp, l, hl, hv⟩ := hv
          simp only [Option.some.injEq] at hv; subst hv
          obtain ⟨px, hpx, hvp⟩ := hr ad p hp
          obtain ⟨b, off, xs, rfl, hvl, hlen, hget⟩ := ldN_sound hrel (fun _ _ h => h) hl hvp
          exact ⟨.agg xs.toArray, ⟨xs, hvl, rfl⟩, by simp [hpx, asAddr, run_loadVar_agg hu ha hsz hget hlen], hc⟩
    obtain ⟨z, hvz, hz, hc'⟩ := key
    obtain ⟨zs, hvzs, hzs⟩ := results_sound hr hrel hc' hvs
    refine ⟨z :: zs, VRL.cons hvz hvzs, ?_⟩
    simp only [List.mapM_cons, Sem.run_bind]
    rw [hz, Result.andThen_ok, hzs, Result.andThen_ok, Sem.run_pure]

theorem ret_sound {M : LM} {vs : List V} {xs : List Value} (h : VRL M vs xs) : VR M (retOf vs) (if h : xs.toArray.size = 1 then xs.toArray[0] else .tuple xs.toArray) := by
  cases vs with
  | nil => cases h; exact ⟨[], rfl, rfl⟩
  | cons v vs =>
    obtain ⟨y, ys, h1, h2, rfl⟩ := h
    cases vs with
    | nil => cases h2; simpa [retOf] using h1
    | cons v2 vs =>
      obtain ⟨y2, ys2, h3, h4, rfl⟩ := h2
      have : ¬ ((y :: y2 :: ys2).toArray.size = 1) := by simp
      rw [dif_neg this]
      exact ⟨_, VRL.cons h1 (VRL.cons h3 h4), rfl⟩

/-- what else is as it was -/
def Wk (w w' : World) : Prop := (∀ b, UF w.heap b → UF w'.heap b) ∧ w'.os = w.os ∧ w'.output = w.output

theorem leaves_marks {fn : Func} {A : AFunc} {l : Option Nat} {m Nf : Nat} {r : Regs} {tmps : Array Value} {H : Hp} {vs : List V} (hc : chkR P fn.results.toList A.res = true) (hv : Vm.results E r H A.res = some vs)
    {R : Ending → World → Prop} {M : LM} (hr : RR M r tmps) (hN : N0 ≤ Nf) : ∀ (ds : List Deferred) (w : World), Marks M H.get w.heap Nf ds → Rel P E N0 M H.get H.next w.heap →
    (∀ x w', VR M (retOf vs) x → Rel P E N0 M H.get H.next w'.heap → w'.heap.size = w.heap.size → (∀ b, b < Nf → w'.heap[b]? = w.heap[b]?) → Wk w w' → R (.returned x) w') →
    LeavesInM (fen l) m P fn tmps R ds .returning w
  | [], w, _, hrel, hR => by
    obtain ⟨xs, hxs, hrun⟩ := results_sound hr hrel hc hv
    refine ⟨_, ?_, hR _ w (ret_sound hxs) hrel rfl (fun _ _ => rfl) ⟨fun _ h => h, rfl, rfl⟩⟩
    simp only [Go.results, Sem.run_bind, Array.mapM_eq_mapM_toList, Functor.map, Sem.run_bind]
    rw [show ∀ (m : Sem (List Value)), (Sem.bind m (Sem.pure ∘ List.toArray)) = m >>= (fun l => (pure l.toArray : Sem (Array Value))) from fun _ => rfl, Sem.run_bind]
    refine (congrArg (fun z => (Result.andThen z fun (a : List Value) w' => Sem.run P (pure a.toArray : Sem (Array Value)) w').andThen fun a w' => Sem.run P (pure (if h : a.size = 1 then a[0] else Value.tuple a)) w') hrun).trans ?_
    simp only [Result.andThen_ok, Sem.run_pure]
  | d :: ds, w, ⟨⟨b, hd, hb, hno, hNf, hdist⟩, hrest⟩, hrel, hR => by
    have hlt := (Array.getElem?_eq_some_iff.1 hb).1
    refine ⟨by simp, .inl ⟨b, w.putObj b (.deferred none), by rw [hd], run_takeDeferred hb, ?_⟩⟩
    have hother : ∀ k, k ≠ b → (w.putObj b (.deferred none)).heap[k]? = w.heap[k]? := fun k hk => World.putObj_heap_other hk
    have hmarks : ∀ ds, (∀ d' ∈ ds, d'.target ≠ .collected b) → Marks M H.get w.heap Nf ds → Marks M H.get (w.putObj b (.deferred none)).heap Nf ds := by
      intro ds
      induction ds with
      | nil => intro _ _; trivial
      | cons d' ds ih =>
        rintro hne ⟨⟨b', e1, e2, e3, e4, e5⟩, hr'⟩
        have hbb : b' ≠ b := by intro e; subst e; exact hne d' (by simp) (by rw [e1])
        exact ⟨⟨b', e1, by rw [hother b' hbb]; exact e2, e3, e4, e5⟩, ih (fun x hx => hne x (by simp [hx])) hr'⟩
    refine leaves_marks hc hv hr hN ds _ (hmarks ds hdist hrest) (hrel.other hno (by omega) (by simp) hother) (fun x w' h1 h2 h3 h4 h5 => hR x w' h1 h2 (by rw [h3]; simp) (fun k hk => by rw [h4 k hk]; exact hother k (by omega)) ⟨fun k hu => h5.1 k (fun c e fr hc => by
      by_cases hkb : k = b
      · subst hkb; rw [World.putObj_heap_same hlt] at hc; cases hc
      · rw [hother k hkb] at hc; exact hu c e fr hc), h5.2.1, h5.2.2⟩)
end
end Go.Vm
