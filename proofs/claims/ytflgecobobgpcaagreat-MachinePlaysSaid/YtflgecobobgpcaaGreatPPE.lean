/-
  Contracts of the runs of a machine. Conditions: none beyond those that each statement names.
-/
import Derived.Test.YtflgecobobgpcaaGreatPPD
import Derived.Test.YtflgecobobgpcaaGreatPVI
namespace Go.Vm.Code
open Go.Vm
variable {E : Env}
def firstAt (m : Mach) (inp : List Int) (p : Nat) : Int := (m.fst.getD p []).getD (inp.getD p 0).toNat 0
def firstL (m : Mach) (inp : List Int) : List Int := (List.range m.n.toNat).map (firstAt m inp)
def toAt (m : Mach) (k p : Nat) (now : List Int) (r : Rnd) : Option Int := (findT m ((k : Int) :: (p : Int) :: hearL m k p now (r.hs.getD p 0))).map Stp.t
def nextU (m : Mach) (k : Nat) (now : List Int) (r : Rnd) : Nat → Option (List Int)
  | 0 => some []
  | u + 1 => (nextU m k now r u).bind fun l => (toAt m k u now r).map fun t => l ++ [t]
def runS (m : Mach) : Nat → List Rnd → List Int → Option (List (List Int))
  | _, [], _ => some []
  | k, r :: w, now => (nextU m k now r m.n.toNat).bind fun nx => (runS m (k + 1) w nx).map fun l => nx :: l
/-- the states behind each round -/
def runE (m : Mach) (inp : List Int) (w : List Rnd) : Option (List (List Int)) :=
  if (firstL m inp).any (fun s => decide (s < 0)) then none else (runS m 0 w (firstL m inp)).map fun l => firstL m inp :: l
/-- inputs of a machine -/
structure OkI (m : Mach) (inp : List Int) : Prop where
  len : (inp.length : Int) = m.n
  rng : ∀ p, p < inp.length → 0 ≤ inp.getD p 0 ∧ inp.getD p 0 < m.ins
theorem MachV.first {f sy st o : V} {m : Mach} (hm : MachV E f sy st o m) (hsh : Shp m) {inp : List Int} (hi : OkI m inp) {p : Nat} (hp : (p : Int) < m.n) :
    ∃ b o1 cap, f = .xslc b o1 m.fst.length cap ∧ p < m.fst.length ∧ ∃ b2 o2 cap2 len2, E.ext b (o1 + p * 1) = some (.xslc b2 o2 len2 cap2) ∧ inp.getD p 0 < (len2 : Int) ∧ E.ext b2 (o2 + (inp.getD p 0).toNat * 1) = some (.int .i64 (firstAt m inp p)) := by
  have h1 := hsh.f
  have hl := hi.len
  have hltp : p < m.fst.length := by omega
  have hxp : m.fst[p]? = some m.fst[p] := List.getElem?_eq_getElem hltp
  have hin := hsh.fi _ (List.getElem_mem hltp)
  have hr := hi.rng p (by omega)
  have hlt2 : (inp.getD p 0).toNat < m.fst[p].length := by omega
  have hx2 : m.fst[p][(inp.getD p 0).toNat]? = some m.fst[p][(inp.getD p 0).toNat] := List.getElem?_eq_getElem hlt2
  obtain ⟨b, o1, cap, rfl, x, hc, hx3⟩ := hm.f.at hxp
  obtain ⟨b2, o2, cap2, rfl, hc2⟩ := hx3.at hx2
  refine ⟨b, o1, cap, rfl, hltp, b2, o2, cap2, _, hc, by omega, ?_⟩
  have : firstAt m inp p = m.fst[p][(inp.getD p 0).toNat] := by
    have e1 : m.fst.getD p [] = m.fst[p] := by rw [List.getD_eq_getElem?_getD, hxp]; rfl
    rw [firstAt, e1]
    generalize (inp.getD p 0).toNat = j at hlt2 hx2
    rw [List.getD_eq_getElem?_getD, hx2]; rfl
  rw [this]; exact hc2
theorem firstL_take (m : Mach) (inp : List Int) {p : Nat} (hp : p < m.n.toNat) : (firstL m inp).take p ++ [firstAt m inp p] = (firstL m inp).take (p + 1) := by
  rw [List.take_add_one]
  congr 1
  simp [firstL, List.getElem?_map, List.getElem?_range hp]
theorem firstL_get (m : Mach) (inp : List Int) {p : Nat} (hp : p < m.n.toNat) : (firstL m inp)[p]? = some (firstAt m inp p) := by
  simp [firstL, List.getElem?_map, List.getElem?_range hp]

theorem l70_0 {Q : Out → Regs → Hp → Prop} {f sy st o vi vw : V} {m : Mach} (hm : MachV E f sy st o m) (hh : Hdr m) (hsh : Shp m) {inp : List Int} (hi : OkI m inp) {Hb : Hp} {pb : Nat} (hA : At Hb pb (.cells (mcells f sy st o m))) (hI : I1 E Hb vi inp)
    (hQ : ∀ rg H' v, Ext Hb H' → Buf Hb H' 1 v m.n.toNat ((firstL m inp).map (.int .i64)) → (firstL m inp).any (fun s => decide (s < 0)) = false → look rg 2 = some vw → look rg 3 = some (.ptr pb 0) → look rg 8 = some v → Q (.exit 0) rg H')
    (hF : ∀ rg H', Ext Hb H' → (firstL m inp).any (fun s => decide (s < 0)) = true → look rg 6 = some .nils → look rg 7 = some (.int .i64 20) → Q .ret rg H') :
    ∀ rg, restrict rg [1, 2, 3, 8, 9] = [(1, vi), (2, vw), (3, .ptr pb 0), (8, .nils), (9, .int .i64 0)] → Runs E none w70_0 rg Hb Q := by
  intro rg hr
  have hn5 := hh.n
  refine Runs.loopS (σ := Nat × V) (fun s => [(1, vi), (2, vw), (3, .ptr pb 0), (8, s.2), (9, .int .i64 s.1)])
    (fun s H' => s.1 ≤ m.n.toNat ∧ Ext Hb H' ∧ Buf Hb H' 1 s.2 s.1 (((firstL m inp).take s.1).map (.int .i64)) ∧ ((firstL m inp).take s.1).any (fun s => decide (s < 0)) = false) (fun s => m.n.toNat - s.1) ?_ (0, .nils) _ _ hr ⟨Nat.zero_le _, Ext.refl _, ⟨rfl, Or.inl ⟨rfl, rfl⟩⟩, rfl⟩
  rintro ⟨p, v⟩ H1 ⟨hp, hX, hB, hno⟩
  simp only at hp hX hB hno ⊢
  have hA1 := hX.at hA
  have hI1 := hI.mono hX
  refine Sq <| Sq <| Rg <| O1 rfl <| O1 rfl <| O1 (ldA rfl ‹_› (by rfl)) <| O1 rfl <| On <| ?_
  refine Runs.cond rfl (fun hc => ?_) (fun hc => ?_)
  · have hlt : (p : Int) < m.n := of_decide_eq_true hc
    have hlt' : p < m.n.toNat := by omega
    have hil := hi.len
    have hpl : p < inp.length := by omega
    have hg : inp[p] = inp.getD p 0 := by rw [List.getD_eq_getElem?_getD, List.getElem?_eq_getElem hpl]; rfl
    have hr0 := (hi.rng p hpl).1
    obtain ⟨b, o1, cap, rfl, hltk, b2, o2, cap2, len2, hc1, hlt2, hc2⟩ := hm.first hsh hi hlt
    have hz : (0 + p * 1) = p := by omega
    refine Sk <| Sq <| Bk <| Sq <| Dg <| D1 rfl <| D1 rfl <| D1 (ldA rfl ‹_› (by rfl)) <| D1 rfl <| D1 (step_ixS rfl rfl ‹_›) <| D1 (step_ld1 rfl ‹_›) <| D1 rfl <| D1 rfl <|
      D1 (ixL rfl rfl ‹_› ‹_›) <| D1 (ldI rfl ‹_› ‹_›) <| D1 (ixI rfl rfl (by omega)) <| ?_
    rw [hg]
    refine D1 (step_ld1 rfl ‹_›) <| Dw rfl (Nat.le_succ _) <| ?_
    refine Dw (push1 rfl rfl hB (by omega) (by omega) rfl) (by rw [push1_next]; exact Nat.le_succ _) ?_
    refine D1 rfl <| Dn <| Sq <| Rg <| O1 rfl <| O1 rfl <| O1 (step_ixO rfl rfl (by omega)) <| ?_
    have hX2 := push1_ext (z := .int .i64 (firstAt m inp p)) hB hX
    have hB2 := push1_buf (z := .int .i64 (firstAt m inp p)) hB hX
    have hA2 := push1_at (z := .int .i64 (firstAt m inp p)) hB hX
    have e1 : ((firstL m inp).take p).map (V.int .i64) ++ [.int .i64 (firstAt m inp p)] = ((firstL m inp).take (p + 1)).map (.int .i64) := by rw [← firstL_take m inp hlt', List.map_append]; rfl
    rw [e1] at hX2 hB2 hA2
    have hnth : nth (((firstL m inp).take (p + 1)).map (V.int .i64)) (0 + p * 1) = some (.int .i64 (firstAt m inp p)) := by
      rw [hz, nth_eq, List.getElem?_map, List.getElem?_take, if_pos (by omega), firstL_get m inp hlt']; rfl
    have hany : ((firstL m inp).take (p + 1)).any (fun s => decide (s < 0)) = decide (firstAt m inp p < 0) := by rw [← firstL_take m inp hlt', List.any_append, hno]; simp
    rw [e1]
    refine O1 (ldA rfl hA2 hnth) ?_
    refine O1 rfl <| On <| ?_
    refine Runs.cond rfl (fun hd => ?_) (fun hd => ?_)
    · have hd : firstAt m inp p < 0 := of_decide_eq_true hd
      refine Sq <| Rg <| O1 rfl <| O1 rfl <| On <| Rt <| ?_
      refine hF _ _ hX2 ?_ rfl rfl
      rw [List.any_eq_true]
      exact ⟨firstAt m inp p, List.mem_of_getElem? (firstL_get m inp hlt'), decide_eq_true hd⟩
    · have hd : ¬ firstAt m inp p < 0 := of_decide_eq_false hd
      refine Sk <| Rg <| O1 rfl <| O1 (addN rfl rfl (by omega)) <| O1 rfl <| On <| ?_
      exact ⟨(p + 1, _), by simp only; omega, rfl, hlt', hX2, hB2, by rw [hany]; exact decide_eq_false hd⟩
  · have hlt : ¬ (p : Int) < m.n := of_decide_eq_false hc
    refine Xt <| ?_
    have e : p = m.n.toNat := by omega
    subst e
    have e2 : (firstL m inp).take m.n.toNat = firstL m inp := List.take_of_length_le (by simp [firstL])
    rw [e2] at hB hno
    exact hQ _ _ _ hX hB hno rfl rfl rfl
end Go.Vm.Code

namespace Go.Vm.Code
open Go.Vm
variable {E : Env}
theorem seqC_beq {α : Type} {es : Nat} {R : Nat → Nat → α → Prop} {v : V} {l : List α} (h : SeqC es R v l) : V.beq v v = true := by
  obtain ⟨_, ⟨rfl, _⟩ | ⟨b, o, cap, rfl, _⟩⟩ := h
  · rfl
  · simp [V.beq]
theorem mcells_beq {f sy st o : V} {m : Mach} (hm : MachV E f sy st o m) : V.beqs (mcells f sy st o m) (mcells f sy st o m) = true := by
  simp [mcells, V.beqs, V.beq, seqC_beq hm.f, seqC_beq hm.sy, seqC_beq hm.st, seqC_beq hm.o]
theorem againB {r : Regs} {H : Hp} {all : List AOper} {i d p off n : Nat} {a : Opd} {re is : List Nat} {l u : List V} (h1 : all[i]? = some ⟨some d, .ldN n a, none, re⟩) (h2 : ev r a = some (.ptr p off)) (h3 : At H p (.cells l)) (h4 : getAt l off n = some u)
    (h5 : look r d = some (.agg u)) (hb : V.beqs u u = true) (h6 : again E all r H is = true) : again E all r H (i :: is) = true := by
  have h7 : ldN E H n (.ptr p off) = some u := h3.ldN.trans h4
  simp only [again, h1, wanted, readOp, h2, Option.bind_some, h7, h5, V.beq, hb, h6, Bool.and_true]
/-- rounds that fit a machine -/
def OkW (m : Mach) (w : List Rnd) : Prop := (w.length : Int) = m.r ∧ ∀ r ∈ w, ∀ p : Nat, (p : Int) < m.n → 0 ≤ r.hs.getD p 0 ∧ r.hs.getD p 0 < 32
theorem nextU_none {m : Mach} {k : Nat} {now : List Int} {r : Rnd} {u : Nat} (h : nextU m k now r u = none) : ∀ d, nextU m k now r (u + d) = none
  | 0 => h
  | d + 1 => by rw [← Nat.add_assoc, nextU, nextU_none h d]; rfl
theorem nextU_len {m : Mach} {k : Nat} {now : List Int} {r : Rnd} : ∀ {u : Nat} {l : List Int}, nextU m k now r u = some l → l.length = u
  | 0, l, h => by cases h; rfl
  | u + 1, l, h => by
    rw [nextU] at h
    simp only [Option.bind_eq_some_iff, Option.map_eq_some_iff] at h
    obtain ⟨l', h1, t, _, rfl⟩ := h
    rw [List.length_append, nextU_len h1]; rfl
theorem findT_key {m : Mach} {k : List Int} {x : Stp} (h : findT m k = some x) : x ∈ m.st ∧ k = x.key := by
  refine ⟨List.mem_of_find?_eq_some h, ?_⟩
  have := List.find?_some h
  simpa using this
theorem toAt_ok {m : Mach} (hst : stsE m none m.st = 0) {k p : Nat} {now : List Int} {r : Rnd} {t : Int} (h : toAt m k p now r = some t) : 0 ≤ t ∧ t < oLen m (k + 1) p := by
  simp only [toAt, Option.map_eq_some_iff] at h
  obtain ⟨x, hx, rfl⟩ := h
  obtain ⟨hm, hk⟩ := findT_key hx
  have h0 := (ordd_of _ _ hst).1 x hm
  have hout : outE m x = false := by
    cases hq : outE m x with
    | false => rfl
    | true => rw [stepE, hq] at h0; cases h0
  simp only [Stp.key, List.cons.injEq] at hk
  simp only [outE, Bool.or_eq_false_iff, Bool.not_eq_false', inR_iff] at hout
  rw [← hk.1, ← hk.2.1] at hout
  simp only [Int.toNat_natCast] at hout
  omega
theorem nextU_ok {m : Mach} (hst : stsE m none m.st = 0) {k : Nat} {now : List Int} {r : Rnd} : ∀ {u : Nat} {l : List Int}, nextU m k now r u = some l → ∀ q, q < u → 0 ≤ l.getD q 0 ∧ l.getD q 0 < oLen m (k + 1) q
  | 0, l, h, q, hq => by omega
  | u + 1, l, h, q, hq => by
    rw [nextU] at h
    simp only [Option.bind_eq_some_iff, Option.map_eq_some_iff] at h
    obtain ⟨l', h1, t, ht, rfl⟩ := h
    have hl := nextU_len h1
    by_cases e : q < u
    · have := nextU_ok hst h1 q e
      rwa [List.getD_eq_getElem?_getD, List.getElem?_append_left (by omega), ← List.getD_eq_getElem?_getD]
    · have : q = u := by omega
      subst this
      rw [List.getD_eq_getElem?_getD, List.getElem?_append_right (by omega), hl, Nat.sub_self]
      exact toAt_ok hst ht

theorem l70_1 (S : Std E) {Q : Out → Regs → Hp → Prop} {f sy st o v8 v10 vw : V} {m : Mach} (hm : MachV E f sy st o m) (hh : Hdr m) (hsh : Shp m) (hst : stsE m none m.st = 0) {w : List Rnd} (hw : WordV E vw w) (hW : OkW m w) {k : Nat} (hk : k < w.length) {now : List Int} (hN : OkN m k now)
    {Hk : Hp} {pb : Nat} (hA : At Hk pb (.cells (mcells f sy st o m))) (hI : I1 E Hk v8 now)
    (hQ : ∀ rg H' v l, Ext Hk H' → Buf Hk H' 1 v m.n.toNat (l.map (.int .i64)) → nextU m k now w[k] m.n.toNat = some l → look rg 2 = some vw → look rg 3 = some (.ptr pb 0) → look rg 8 = some v8 → look rg 10 = some v10 → look rg 11 = some (.int .i64 k) → look rg 12 = some v → Q (.exit 4) rg H')
    (hF : ∀ rg H', Ext Hk H' → nextU m k now w[k] m.n.toNat = none → look rg 6 = some .nils → look rg 7 = some (.int .i64 20) → Q .ret rg H') :
    ∀ rg, restrict rg [2, 3, 8, 10, 11, 12, 13] = [(2, vw), (3, .ptr pb 0), (8, v8), (10, v10), (11, .int .i64 k), (12, .nils), (13, .int .i64 0)] → Runs E none w70_1 rg Hk Q := by
  intro rg hr
  have hn5 := hh.n
  have hkr : (k : Int) < m.r := by have := hW.1; omega
  have hx : w[k]? = some w[k] := List.getElem?_eq_getElem hk
  obtain ⟨b, o1, cap, hvw, hcell⟩ := hw.at hx
  have hall : extN E b (o1 + k * 7 + 0) 6 = some (w[k]).gv := by
    have : (w[k]).gv.length = 6 := rfl
    rw [← this]
    refine extN_of fun i x hi => ?_
    simp only [Rnd.gv, List.getElem?_map, Option.map_eq_some_iff] at hi
    obtain ⟨n, hn, rfl⟩ := hi
    refine hcell i n ?_
    rcases i with _ | _ | _ | _ | _ | _ | i <;> first | exact hn | (simp [Rnd.gs, Rnd.hs] at hn)
  subst hvw
  refine Runs.loopS (σ := Nat × V × List Int) (fun s => [(2, .xslc b o1 w.length cap), (3, .ptr pb 0), (8, v8), (10, v10), (11, .int .i64 k), (12, s.2.1), (13, .int .i64 s.1)])
    (fun s H' => s.1 ≤ m.n.toNat ∧ Ext Hk H' ∧ Buf Hk H' 1 s.2.1 s.1 (s.2.2.map (.int .i64)) ∧ nextU m k now w[k] s.1 = some s.2.2) (fun s => m.n.toNat - s.1) ?_ (0, .nils, []) _ _ hr ⟨Nat.zero_le _, Ext.refl _, ⟨rfl, Or.inl ⟨rfl, rfl⟩⟩, rfl⟩
  rintro ⟨p, v, l⟩ H1 ⟨hp, hX, hB, hno⟩
  simp only at hp hX hB hno ⊢
  have hA1 := hX.at hA
  have hI1 := hI.mono hX
  refine Sq <| Sq <| Rg <| O1 rfl <| O1 rfl <| O1 (ldA rfl ‹_› (by rfl)) <| O1 rfl <| On <| ?_
  refine Runs.cond rfl (fun hc => ?_) (fun hc => ?_)
  · have hlt : (p : Int) < m.n := of_decide_eq_true hc
    have hlt' : p < m.n.toNat := by omega
    have hset := hW.2 w[k] (List.getElem_mem hk) p hlt
    refine Sk <| Sq <| Bk <| Sq <| Dg <| D1 (ldNA rfl ‹_› (by rfl)) <| D1 rfl <| D1 rfl <| D1 (ldNA rfl ‹_› (by rfl)) <| D1 rfl <| D1 rfl <| D1 rfl <| D1 rfl <| D1 rfl <|
      D1 (step_ixS rfl rfl ‹_›) <| D1 rfl <| D1 (ldNX rfl ‹_›) <| ?_
    refine DGr rfl rfl (s116 S hm hh hsh (r := w[k]) hI1 hkr hlt hN hset) fun hv H2 hhv hX2 => ⟨?_, ?_⟩
    · exact againB rfl rfl (hX2.at hA1) rfl rfl (mcells_beq hm) rfl
    subst hhv
    have hA2 := hX2.at hA1
    have hX12 := hX.trans hX2
    have tt := s63 S hm k p (hearQ m k p now (w[k].hs.getD p 0) 0) (hearQ m k p now (w[k].hs.getD p 0) 1) (hearQ m k p now (w[k].hs.getD p 0) 2) (hearQ m k p now (w[k].hs.getD p 0) 3) (hearQ m k p now (w[k].hs.getD p 0) 4) H2
    refine DE rfl rfl tt fun H3 hX3 => ?_
    clear tt
    refine D1 rfl <| Dn <| Sq <| Sq <| Rg <| O1 rfl <| O1 rfl <| On <| ?_
    have hX13 := hX12.trans hX3
    have hto : toAt m k p now w[k] = (findT m [(k : Int), p, hearQ m k p now (w[k].hs.getD p 0) 0, hearQ m k p now (w[k].hs.getD p 0) 1, hearQ m k p now (w[k].hs.getD p 0) 2, hearQ m k p now (w[k].hs.getD p 0) 3, hearQ m k p now (w[k].hs.getD p 0) 4]).map Stp.t := rfl
    cases hf : findT m [(k : Int), p, hearQ m k p now (w[k].hs.getD p 0) 0, hearQ m k p now (w[k].hs.getD p 0) 1, hearQ m k p now (w[k].hs.getD p 0) 2, hearQ m k p now (w[k].hs.getD p 0) 3, hearQ m k p now (w[k].hs.getD p 0) 4] with
    | none =>
      rw [hf] at hto
      refine CT rfl <| Sq <| Rg <| O1 rfl <| O1 rfl <| On <| Rt <| ?_
      refine hF _ _ hX13 ?_ rfl rfl
      have : nextU m k now w[k] (p + 1) = none := by rw [nextU, hno, hto]; rfl
      have := nextU_none this (m.n.toNat - (p + 1))
      rwa [show p + 1 + (m.n.toNat - (p + 1)) = m.n.toNat from by omega] at this
    | some x =>
      rw [hf] at hto
      have hnn := toAt_ok hst (k := k) (p := p) (now := now) (r := w[k]) (t := x.t) hto
      have hnext : nextU m k now w[k] (p + 1) = some (l ++ [x.t]) := by rw [nextU, hno, hto]; rfl
      refine Runs.cond rfl (fun hd => ?_) (fun hd => ?_)
      · have hd : x.t < 0 := of_decide_eq_true hd
        omega
      · have hB3 := hB.mono (hX2.trans hX3)
        refine Sk <| Rg <| O1 rfl <| O1 rfl <| O1 rfl <| ?_
        refine O1 (push1 rfl rfl hB3 (by omega) (by omega) rfl) ?_
        refine O1 rfl <| On <| Rg <| O1 rfl <| O1 (addN rfl rfl (by omega)) <| O1 rfl <| On <| ?_
        refine ⟨(p + 1, _, l ++ [x.t]), by simp only; omega, rfl, hlt', push1_ext hB3 hX13, ?_, hnext⟩
        have := push1_buf (z := .int .i64 x.t) hB3 hX13
        rw [List.map_append]; exact this
  · have hlt : ¬ (p : Int) < m.n := of_decide_eq_false hc
    refine Xt <| ?_
    have e : p = m.n.toNat := by omega
    subst e
    exact hQ _ _ _ _ hX hB hno rfl rfl rfl rfl rfl rfl
end Go.Vm.Code

namespace Go.Vm.Code
open Go.Vm
variable {E : Env}
theorem l70_2 (S : Std E) {Q : Out → Regs → Hp → Prop} {f sy st o v8 v10 vw : V} {m : Mach} (hm : MachV E f sy st o m) (hh : Hdr m) (hsh : Shp m) (hst : stsE m none m.st = 0) {w : List Rnd} (hw : WordV E vw w) (hW : OkW m w) {first : List Int} (hN : OkN m 0 first)
    {Hb H : Hp} {pb : Nat} (hA : At Hb pb (.cells (mcells f sy st o m))) (hX : Ext Hb H) (h8 : Buf Hb H 1 v8 first.length (first.map (.int .i64))) (hR : Rows Hb H v10 [v8] [first])
    (hQ : ∀ rg H' v vs L, Ext Hb H' → runS m 0 w first = some L → Rows Hb H' v vs (first :: L) → look rg 10 = some v → Q (.exit 2) rg H')
    (hF : ∀ rg H', Ext Hb H' → runS m 0 w first = none → look rg 6 = some .nils → look rg 7 = some (.int .i64 20) → Q .ret rg H') :
    ∀ rg, restrict rg [2, 3, 8, 10, 11] = [(2, vw), (3, .ptr pb 0), (8, v8), (10, v10), (11, .int .i64 0)] → Runs E none w70_2 rg H Q := by
  intro rg hr
  have hn5 := hh.n
  have hrr := hh.r
  have hwl := hW.1
  refine Runs.loopS (σ := Nat × V × V × List Int × List V × List (List Int)) (fun s => [(2, vw), (3, .ptr pb 0), (8, s.2.1), (10, s.2.2.1), (11, .int .i64 s.1)])
    (fun s H' => s.1 ≤ w.length ∧ Ext Hb H' ∧ Buf Hb H' 1 s.2.1 s.2.2.2.1.length (s.2.2.2.1.map (.int .i64)) ∧ Rows Hb H' s.2.2.1 s.2.2.2.2.1 (first :: s.2.2.2.2.2) ∧ OkN m s.1 s.2.2.2.1 ∧ s.2.2.2.2.1.length = s.1 + 1 ∧
      runS m 0 w first = (runS m s.1 (w.drop s.1) s.2.2.2.1).map fun l => s.2.2.2.2.2 ++ l) (fun s => w.length - s.1) ?_ (0, v8, v10, first, [v8], []) _ _ hr ⟨Nat.zero_le _, hX, h8, hR, hN, rfl, by simp⟩
  rintro ⟨k, v, vo, now, vs, Ls⟩ H1 ⟨hk, hX1, hv, hRo, hNk, hvl, hrun⟩
  simp only at hk hX1 hv hRo hNk hvl hrun ⊢
  have hA1 := hX1.at hA
  refine Sq <| Sq <| Rg <| O1 rfl <| O1 rfl <| O1 (ldA rfl ‹_› (by rfl)) <| O1 rfl <| On <| ?_
  refine Runs.cond rfl (fun hc => ?_) (fun hc => ?_)
  · have hc : (k : Int) < m.r := of_decide_eq_true hc
    have hlt : k < w.length := by omega
    rw [List.drop_eq_getElem_cons hlt, runS] at hrun
    have hnl : now.length < 2 ^ 63 := by have := hNk.1; omega
    refine Sk <| Sq <| Bk <| Sq <| Rg <| O1 rfl <| On <| Sq <| Sq <| Rg <| O1 rfl <| On <| Bk <| ?_
    refine l70_1 S hm hh hsh hst hw hW hlt hNk hA1 (hv.i1 hnl) ?_ ?_ _ rfl
    · intro rg H2 v12 nx hX2 hB12 hnx g2 g3 g8 g10 g11 g12
      rw [hnx] at hrun
      have hnxl := nextU_len hnx
      have hB12' : Buf Hb H2 1 v12 nx.length (nx.map (.int .i64)) := by rw [hnxl]; exact hB12.base hX1.1
      have hR2 := hRo.mono hX2
      have hd : Dj vo v12 := hRo.b.djOld hB12 (Nat.le_refl _)
      have hX12 := hX1.trans hX2
      have hone : v12.one = true := by
        obtain ⟨id, c, rfl⟩ := hB12.slc (by omega)
        rfl
      have hB12c := hB12
      obtain ⟨id12, c12, rfl⟩ := hB12c.slc (by omega)
      refine Rg <| ?_
      refine O1 (step_mv g10) <| O1 (step_mv g12) <| O1 rfl <| ?_
      refine O1 (push1 rfl rfl hR2.b (by omega) (by omega) hone) ?_
      refine O1 (step_mv g12) ?_
      refine O1 rfl <| O1 rfl <| On <| Rg <| O1 (step_mv ‹_›) <| O1 (addN rfl rfl (by omega)) <| O1 rfl <| On <| ?_
      refine ⟨(k + 1, .slc id12 0 m.n.toNat c12, .slc (H2.next + 1) 0 (vs.length + 1) (.up 1), nx, vs ++ [.slc id12 0 m.n.toNat c12], Ls ++ [nx]), by simp only; omega, ?_, hlt, push1_ext hR2.b hX12, push1_keep hR2.b hB12' hd, ?_, ?_, by simp [hvl], ?_⟩
      · simp [restrict, put, look_cons, g2, g3]
      · exact hR2.push hX12 hB12' hd (by omega)
      · exact ⟨by show (nx.length : Int) = m.n; omega, fun q hq => nextU_ok hst hnx q (by have hq : q < nx.length := hq; omega)⟩
      · rw [hrun]
        simp only [Option.bind_some, Option.map_map]
        congr 1
        funext l
        simp
    · intro rg H2 hX2 hnx g6 g7
      exact hF _ _ (hX1.trans hX2) (by rw [hrun, hnx]; rfl) g6 g7
  · have hc : ¬ (k : Int) < m.r := of_decide_eq_false hc
    refine Xt <| ?_
    have e : k = w.length := by omega
    subst e
    rw [List.drop_eq_nil_of_le (Nat.le_refl _)] at hrun
    exact hQ _ _ _ _ Ls hX1 (by rw [hrun]; simp [runS]) hRo rfl

/-- what a run answers -/
def PostR (E : Env) (m : Mach) (inp : List Int) (w : List Rnd) (u : V) (H : Hp) : Prop := match runE m inp w with
  | none => u = .tup [.nils, .int .i64 20]
  | some L => ∃ v, u = .tup [v, .int .i64 0] ∧ I2 E H v L
theorem runS_len {m : Mach} : ∀ {w : List Rnd} {k : Nat} {now : List Int} {L : List (List Int)}, runS m k w now = some L → L.length = w.length
  | [], _, _, _, h => by cases h; rfl
  | r :: w, k, now, L, h => by
    rw [runS] at h
    simp only [Option.bind_eq_some_iff, Option.map_eq_some_iff] at h
    obtain ⟨nx, _, l, h2, rfl⟩ := h
    rw [List.length_cons, List.length_cons, runS_len h2]
theorem firstOk {m : Mach} (hh : Hdr m) (hsh : Shp m) (hr : Rng m) {inp : List Int} (hi : OkI m inp) (h : (firstL m inp).any (fun s => decide (s < 0)) = false) : OkN m 0 (firstL m inp) := by
  have hn := hh.n
  have hlen : (firstL m inp).length = m.n.toNat := by simp [firstL]
  refine ⟨by omega, fun q hq => ?_⟩
  have hq' : q < m.n.toNat := by omega
  have hg : (firstL m inp).getD q 0 = firstAt m inp q := by rw [List.getD_eq_getElem?_getD, firstL_get m inp hq']; rfl
  rw [hg]
  have h0 : ¬ firstAt m inp q < 0 := fun hneg => by
    have : (firstL m inp).any (fun s => decide (s < 0)) = true := List.any_eq_true.2 ⟨_, List.mem_of_getElem? (firstL_get m inp hq'), decide_eq_true hneg⟩
    rw [h] at this; cases this
  refine ⟨by omega, ?_⟩
  have hf := hsh.f
  have hltp : q < m.fst.length := by omega
  have hxp : m.fst[q]? = some m.fst[q] := List.getElem?_eq_getElem hltp
  have hin := hsh.fi _ (List.getElem_mem hltp)
  have hri := hi.rng q (by have := hi.len; omega)
  have hlt2 : (inp.getD q 0).toNat < m.fst[q].length := by omega
  have e1 : m.fst.getD q [] = m.fst[q] := by rw [List.getD_eq_getElem?_getD, hxp]; rfl
  have hmem : firstAt m inp q ∈ m.fst[q] := by
    rw [firstAt, e1]
    generalize (inp.getD q 0).toNat = j at hlt2
    rw [List.getD_eq_getElem?_getD, List.getElem?_eq_getElem hlt2]
    exact List.getElem_mem hlt2
  have := inR_iff.1 (List.all_eq_true.1 (hr.f q _ hxp) _ hmem)
  simp only [oLen]
  omega

theorem s70 (S : Std E) {f sy st o vi vw : V} {m : Mach} (hm : MachV E f sy st o m) (hh : Hdr m) (hsh : Shp m) (hrng : Rng m) (hst : stsE m none m.st = 0) {inp : List Int} {w : List Rnd} (hw : WordV E vw w) (hW : OkW m w) (hi : OkI m inp) {H : Hp} (hI : I1 E H vi inp) :
    CallR E 70 [MM f sy st o m, vi, vw] H (fun u H' => PostR E m inp w u H' ∧ Ext H H') := by
  have hn5 := hh.n
  have hrr := hh.r
  refine S.call (f := 70) (by decide) rfl rfl ?_
  have hA := At.new H (.cells (mcells f sy st o m))
  have hX := Ext.new H (.cells (mcells f sy st o m))
  refine Sq <| Rg <| O1 rfl <| O1 rfl <| O1 rfl <| On <| Sq <| Rg <| O1 rfl <| On <| Sq <| Sq <| Rg <| O1 rfl <| On <| Bk <| ?_
  refine l70_0 hm hh hsh hi (vw := vw) hA (hI.mono hX) ?_ ?_ _ rfl
  · intro rg H2 v8 hX2 hB hpos g2 g3 g8
    have hlen : (firstL m inp).length = m.n.toNat := by simp [firstL]
    have hN := firstOk hh hsh hrng hi hpos
    have hBc := hB
    obtain ⟨id8, c8, rfl⟩ := hBc.slc (by omega)
    have hX3 := Ext.new H2 (.cells [.slc id8 0 m.n.toNat c8])
    have hB8 : Buf (H.new (.cells (mcells f sy st o m))) H2 1 (.slc id8 0 m.n.toNat c8) (firstL m inp).length ((firstL m inp).map (.int .i64)) := by rw [hlen]; exact hB
    have hR : Rows (H.new (.cells (mcells f sy st o m))) (H2.new (.cells [.slc id8 0 m.n.toNat c8])) (.slc H2.next 0 1 (.ex 1)) [.slc id8 0 m.n.toNat c8] [firstL m inp] := by
      refine ⟨⟨rfl, Or.inr ⟨_, _, rfl, hX2.1, At.new H2 _, Or.inr rfl⟩⟩, rfl, fun i s l h1 h2 => ?_⟩
      rcases i with _ | i
      · cases h1; cases h2
        exact ⟨hB8.mono hX3, (hB8.old (Nat.le_refl _)).symm, by omega⟩
      · simp at h1
    refine Sq <| Rg <| O1 (step_mv g8) <| ?_
    refine O1 rfl <| O1 rfl <| On <| Sq <| Sq <| Rg <| O1 rfl <| On <| Bk <| ?_
    refine l70_2 S hm hh hsh hst hw hW hN hA (hX2.trans hX3) (hB8.mono hX3) hR ?_ ?_ _ ?_
    · intro rg H3 v vs L hX4 hrun hRows g10
      refine Sq <| Rg <| O1 (step_mv ‹_›) <| O1 rfl <| O1 rfl <| On <| Rt <| ?_
      refine ⟨nr, _, rfl, ?_, hX.trans hX4⟩
      have hE : runE m inp w = some (firstL m inp :: L) := by rw [runE, hpos, hrun]; rfl
      simp only [PostR, hE]
      refine ⟨v, rfl, hRows.i2 ?_⟩
      have := runS_len hrun
      have := hW.1
      simp only [List.length_cons]
      omega
    · intro rg H3 hX4 hrun g6 g7
      refine ⟨nr, [.nils, .int .i64 20], by simp only [results, result, g6, g7, Option.bind_some], ?_, hX.trans hX4⟩
      have hE : runE m inp w = none := by rw [runE, hpos, hrun]; rfl
      simp only [PostR, hE]; rfl
    · simp [restrict, put, look_cons, g2, g3, g8]; rfl
  · intro rg H2 hX2 hneg g6 g7
    refine ⟨nr, [.nils, .int .i64 20], by simp only [results, result, g6, g7, Option.bind_some], ?_, hX.trans hX2⟩
    have hE : runE m inp w = none := by rw [runE, hneg]; rfl
    simp only [PostR, hE]; rfl
end Go.Vm.Code

namespace Go.Vm.Code
open Go.Vm
variable {E : Env}
theorem g158 (S : Std E) {v : V} {l : List Int} {H : Hp} (hl : I1 E H v l) (z : Int) : CallR E 158 [v, .int .i64 z] H (fun w H' => (∃ m : Int, w = .int .i64 m ∧ decide (m ≥ 0) = l.any (fun x => z == x)) ∧ H' = H) := by
  refine S.call (f := 158) (by decide) rfl rfl ?_
  have hlen := hl.1
  refine Sq <| Rg <| O1 rfl <| On <| Sq <| Sq <| Rg <| O1 rfl <| O1 (lnL rfl ‹_›) <| O1 rfl <| On <| Bk <| ?_
  refine Runs.loopS (σ := Nat) (fun i => [(0, v), (1, .int .i64 z), (7, .int .i64 l.length), (8, .int .i64 i)]) (fun i H' => i ≤ l.length ∧ H' = H ∧ (l.take i).any (fun x => z == x) = false) (fun i => l.length - i) ?_ 0 _ _ rfl ⟨Nat.zero_le _, rfl, rfl⟩
  rintro i H1 ⟨hi, rfl, hno⟩
  refine Sq <| Rg <| O1 rfl <| On <| Sq <| ?_
  refine Runs.cond rfl (fun hc => ?_) (fun hc => ?_)
  · have hlt : i < l.length := by simpa using hc
    have hx : l[i]? = some l[i] := List.getElem?_eq_getElem hlt
    have htk : (l.take (i + 1)).any (fun x => z == x) = (z == l[i]) := by rw [List.take_add_one, hx, List.any_append, hno]; simp
    refine Sk <| Sq <| Bk <| Sq <| Rg <| O1 rfl <| O1 rfl <| On <| Sq <| Rg <| O1 rfl <| O1 rfl <| O1 rfl <| O1 (ixL rfl rfl ‹_› ‹_›) <| O1 (ldI rfl ‹_› ‹_›) <| O1 rfl <| On <| ?_
    refine Runs.cond rfl (fun hb => ?_) (fun hb => ?_)
    · refine Sq <| Rg <| O1 rfl <| O1 rfl <| On <| Rt <| ?_
      exact ⟨nr, _, rfl, ⟨_, rfl, by rw [List.any_eq_true.2 ⟨l[i], List.getElem_mem hlt, hb⟩]; simp⟩, rfl⟩
    · refine Sk <| Rg <| O1 (addN rfl rfl (by omega)) <| O1 rfl <| On <| ?_
      exact ⟨i + 1, Nat.sub_lt_sub_left hlt (Nat.lt_succ_self i), rfl, by omega, rfl, by rw [htk]; exact hb⟩
  · have hlt : ¬ i < l.length := by simpa using hc
    refine Xt <| Sq <| Rg <| O1 rfl <| On <| Rt <| ?_
    rw [show l.take i = l from List.take_of_length_le (by omega)] at hno
    exact ⟨nr, _, rfl, ⟨_, rfl, by rw [hno]; rfl⟩, rfl⟩
theorem g112 (S : Std E) {v : V} {l : List Int} {H : Hp} (hl : I1 E H v l) (z : Int) : CallR E 112 [v, .int .i64 z] H (fun w H' => w = .bool (l.any (fun x => z == x)) ∧ H' = H) := by
  refine S.call (f := 112) (by decide) rfl rfl ?_
  refine Sq <| Rg <| O1 rfl <| On <| Sq <| Rg <| O1 rfl <| O1 rfl <| ?_
  refine CG rfl rfl (g158 S hl z) fun w H1 hw => ?_
  obtain ⟨⟨mm, rfl, hm⟩, rfl⟩ := hw
  refine O1 rfl <| O1 rfl <| On <| Rt <| ?_
  exact ⟨nr, _, rfl, by rw [← hm]; rfl, rfl⟩

/-- the first states are written -/
theorem l111_0 {Q : Out → Regs → Hp → Prop} {f sy st o vi y : V} {m : Mach} (hm : MachV E f sy st o m) (hh : Hdr m) (hsh : Shp m) {inp : List Int} (hi : OkI m inp) {Hb H : Hp} {pm id pw : Nat} {c : Cap} (hA : At Hb pm (.cells (mcells f sy st o m))) (hI : I1 E Hb vi inp)
    (hX : Ext Hb H) (hid : Hb.next ≤ id) (hN : At H id (.cells (partN m.n.toNat (firstL m inp) 0)))
    (hQ : ∀ rg H', Ext Hb H' → At H' id (.cells ((firstL m inp).map (.int .i64))) → look rg 0 = some y → look rg 1 = some (.ptr pm 0) → look rg 3 = some (.ptr pw 0) → look rg 5 = some (.slc id 0 m.n.toNat c) → Q (.exit 0) rg H') :
    ∀ rg, restrict rg [0, 1, 3, 5, 18, 19, 20] = [(0, y), (1, .ptr pm 0), (3, .ptr pw 0), (5, .slc id 0 m.n.toNat c), (18, vi), (19, .int .i64 inp.length), (20, .int .i64 0)] → Runs E none w111_0 rg H Q := by
  intro rg hr
  have hn5 := hh.n
  have hil := hi.len
  have hfl : (firstL m inp).length = m.n.toNat := by simp [firstL]
  refine Runs.loopS (σ := Nat) (fun p => [(0, y), (1, .ptr pm 0), (3, .ptr pw 0), (5, .slc id 0 m.n.toNat c), (18, vi), (19, .int .i64 inp.length), (20, .int .i64 p)])
    (fun p H' => p ≤ inp.length ∧ Ext Hb H' ∧ At H' id (.cells (partN m.n.toNat (firstL m inp) p))) (fun p => inp.length - p) ?_ 0 _ _ hr ⟨Nat.zero_le _, hX, hN⟩
  clear hX hN
  rintro p H1 ⟨hp, hX, hN⟩
  have hA1 := hX.at hA
  have hI1 := hI.mono hX
  refine Sq <| Rg <| O1 rfl <| On <| Sq <| ?_
  refine Runs.cond rfl (fun hc => ?_) (fun hc => ?_)
  · have hlt : p < inp.length := by simpa using hc
    have hlt' : p < m.n.toNat := by omega
    have hltn : (p : Int) < m.n := by omega
    have hg : inp[p] = inp.getD p 0 := by rw [List.getD_eq_getElem?_getD, List.getElem?_eq_getElem hlt]; rfl
    have hr0 := (hi.rng p hlt).1
    obtain ⟨b, o1, cap, rfl, hltk, b2, o2, cap2, len2, hc1, hlt2, hc2⟩ := hm.first hsh hi hltn
    refine Sk <| Sq <| Bk <| Sq <| Rg <| O1 rfl <| O1 (ixL rfl rfl ‹_› ‹_›) <| O1 (ldI rfl ‹_› ‹_›) <| O1 rfl <| O1 rfl <| On <| Rg <| O1 rfl <| O1 rfl <| O1 rfl <|
      O1 (ldA rfl ‹_› (by rfl)) <| O1 rfl <| O1 (step_ixS rfl rfl ‹_›) <| O1 (step_ld1 rfl ‹_›) <| O1 rfl <| O1 (ixI rfl rfl (by omega)) <| ?_
    rw [hg]
    refine O1 (step_ld1 rfl ‹_›) <| O1 (step_ixO rfl rfl ‹_›) <| ?_
    refine O1 (step_st rfl rfl hN rfl (partN_set hlt' (firstL_get m inp hlt'))) ?_
    refine On <| Rg <| O1 (addN rfl rfl (by omega)) <| O1 rfl <| On <| ?_
    exact ⟨p + 1, by simp only; omega, rfl, hlt, hX.put hid, hN.put⟩
  · have hlt : ¬ p < inp.length := by simpa using hc
    refine Xt <| ?_
    have e : p = m.n.toNat := by omega
    subst e
    rw [partN_full hfl] at hN
    exact hQ _ _ hX hN rfl rfl rfl rfl
end Go.Vm.Code

namespace Go.Vm.Code
open Go.Vm
variable {E : Env}
theorem l111_1 (S : Std E) {Q : Out → Regs → Hp → Prop} {f sy st o v5 vw y : V} {m : Mach} (hm : MachV E f sy st o m) (hh : Hdr m) (hsh : Shp m) {w : List Rnd} (hW : OkW m w) {k : Nat} (hk : k < w.length) {now : List Int} (hN : OkN m k now)
    {Hk H : Hp} {pm idM pr idn : Nat} {c : Cap} (hA : At Hk pm (.cells (mcells f sy st o m))) (hI : I1 E Hk v5 now) (hM : At Hk idM (.map (m.st.map ent))) (hR : At Hk pr (.cells w[k].vs)) (hX : Ext Hk H) (hid : Hk.next ≤ idn) (hC : At H idn (.cells (partN m.n.toNat [] 0)))
    (hQ : ∀ rg H' l, Ext Hk H' → At H' idn (.cells (l.map (.int .i64))) → nextU m k now w[k] m.n.toNat = some l → look rg 0 = some y → look rg 1 = some (.ptr pm 0) → look rg 8 = some (.map idM) → look rg 11 = some (.slc idn 0 m.n.toNat c) → look rg 47 = some vw → look rg 48 = some (.int .i64 w.length) → look rg 49 = some (.int .i64 k) → Q (.exit 4) rg H')
    (hF : ∀ rg H', Ext Hk H' → nextU m k now w[k] m.n.toNat = none → Q .ret rg H') :
    ∀ rg, restrict rg [0, 1, 5, 8, 9, 10, 11, 47, 48, 49, 58, 59] = [(0, y), (1, .ptr pm 0), (5, v5), (8, .map idM), (9, .int .i64 k), (10, .ptr pr 0), (11, .slc idn 0 m.n.toNat c), (47, vw), (48, .int .i64 w.length), (49, .int .i64 k), (58, .int .i64 m.n.toNat), (59, .int .i64 0)] → Runs E none w111_1 rg H Q := by
  intro rg hr
  have hn5 := hh.n
  have hkr : (k : Int) < m.r := by have := hW.1; omega
  refine Runs.loopS (σ := Nat × List Int) (fun s => [(0, y), (1, .ptr pm 0), (5, v5), (8, .map idM), (9, .int .i64 k), (10, .ptr pr 0), (11, .slc idn 0 m.n.toNat c), (47, vw), (48, .int .i64 w.length), (49, .int .i64 k), (58, .int .i64 m.n.toNat), (59, .int .i64 s.1)])
    (fun s H' => s.1 ≤ m.n.toNat ∧ Ext Hk H' ∧ At H' idn (.cells (partN m.n.toNat s.2 s.1)) ∧ nextU m k now w[k] s.1 = some s.2) (fun s => m.n.toNat - s.1) ?_ (0, []) _ _ hr ⟨Nat.zero_le _, hX, hC, rfl⟩
  clear hX hC
  rintro ⟨p, l⟩ H1 ⟨hp, hX, hC, hno⟩
  simp only at hp hX hC hno ⊢
  have hA1 := hX.at hA
  have hI1 := hI.mono hX
  have hR1 := hX.at hR
  refine Sq <| Rg <| O1 rfl <| On <| Sq <| ?_
  refine Runs.cond rfl (fun hc => ?_) (fun hc => ?_)
  · have hlt' : p < m.n.toNat := by have : (p : Int) < ((m.n.toNat : Nat) : Int) := of_decide_eq_true hc; omega
    have hlt : (p : Int) < m.n := by omega
    have hset := hW.2 w[k] (List.getElem_mem hk) p hlt
    have hp5 : p < 5 := by omega
    have hnth : nth w[k].vs (0 + 0 + 1 + p * 1) = some (.int .i64 (w[k].hs.getD p 0)) := by
      rw [nth_eq]
      rcases p with _ | _ | _ | _ | _ | p <;> first | rfl | omega
    refine Sk <| Sq <| Bk <| Sq <| Rg <| O1 rfl <| O1 rfl <| On <| Sq <| Dg <| D1 rfl <| D1 rfl <| D1 rfl <| D1 (ldNA rfl ‹_› (by rfl)) <| D1 rfl <| D1 rfl <| D1 rfl <| D1 rfl <| D1 rfl <|
      D1 rfl <| D1 (ixA rfl rfl (by omega)) <| ?_
    refine D1 (ldA rfl hR1 hnth) ?_
    have tt := s78 S hm hh hsh (k := k) (p := p) (set := w[k].hs.getD p 0) hI1 hkr hlt hN
    refine DE rfl rfl tt fun H2 hX2 => ?_
    clear tt
    refine D1 rfl <| ?_
    have hX12 := hX.trans hX2
    have hM2 := hX12.at hM
    have hC2 := hX2.at hC
    have hto : toAt m k p now w[k] = (findT m ((k : Int) :: (p : Int) :: hearL m k p now (w[k].hs.getD p 0))).map Stp.t := rfl
    have hmf : mfind 7 (kv ((k : Int) :: (p : Int) :: hearL m k p now (w[k].hs.getD p 0))) (m.st.map ent) = some ((findT m ((k : Int) :: (p : Int) :: hearL m k p now (w[k].hs.getD p 0))).map fun x => .int .i64 x.t) := mfind_st (by simp [hearL]) _
    cases hf : findT m ((k : Int) :: (p : Int) :: hearL m k p now (w[k].hs.getD p 0)) with
    | none =>
      rw [hf] at hto hmf
      refine D1 (step_look (k := kv ((k : Int) :: (p : Int) :: hearL m k p now (w[k].hs.getD p 0))) (u := none) rfl rfl hM2 (keyOk7 (by simp [hearL])) hmf) ?_
      refine D1 rfl <| D1 rfl <| D1 rfl <| D1 rfl <| D1 rfl <| Dn <| Sq <| Sq <| Rg <| O1 rfl <| O1 rfl <| On <| CT rfl <| Rt <| ?_
      refine hF _ _ hX12 ?_
      have : nextU m k now w[k] (p + 1) = none := by rw [nextU, hno, hto]; rfl
      have := nextU_none this (m.n.toNat - (p + 1))
      rwa [show p + 1 + (m.n.toNat - (p + 1)) = m.n.toNat from by omega] at this
    | some x =>
      rw [hf] at hto hmf
      have hnext : nextU m k now w[k] (p + 1) = some (l ++ [x.t]) := by rw [nextU, hno, hto]; rfl
      have hll := nextU_len hno
      refine D1 (step_look (k := kv ((k : Int) :: (p : Int) :: hearL m k p now (w[k].hs.getD p 0))) (u := some (.int .i64 x.t)) rfl rfl hM2 (keyOk7 (by simp [hearL])) hmf) ?_
      refine D1 rfl <| D1 rfl <| D1 rfl <| D1 rfl <| D1 rfl <| Dn <| Sq <| Sq <| Rg <| O1 rfl <| O1 rfl <| On <| CF rfl <| Sk <| Rg <| O1 rfl <| O1 rfl <| O1 rfl <|
        O1 (step_ixO rfl rfl ‹_›) <| ?_
      have hC3 : At H2 idn (.cells (partN m.n.toNat (l ++ [x.t]) p)) := by
        have e := partN_app (n := m.n.toNat) (l := l) x.t
        rw [hll] at e
        rw [e]; exact hC2
      have hget : (l ++ [x.t])[p]? = some x.t := by rw [List.getElem?_append_right (by omega), hll, Nat.sub_self]; rfl
      refine O1 (step_st rfl rfl hC3 rfl (partN_set hlt' hget)) ?_
      refine On <| Rg <| O1 (addN rfl rfl (by omega)) <| O1 rfl <| On <| ?_
      exact ⟨(p + 1, l ++ [x.t]), by simp only; omega, rfl, hlt', hX12.put hid, hC3.put, hnext⟩
  · have hlt : ¬ p < m.n.toNat := by have : ¬ (p : Int) < ((m.n.toNat : Nat) : Int) := of_decide_eq_false hc; omega
    refine Xt <| ?_
    have e : p = m.n.toNat := by omega
    subst e
    rw [partN_full (nextU_len hno)] at hC
    exact hQ _ _ _ hX hC hno rfl rfl rfl rfl rfl rfl rfl
end Go.Vm.Code

namespace Go.Vm.Code
open Go.Vm
variable {E : Env}
/-- what a client of the iterator promises -/
structure ItC (E : Env) (bx : Hp → Prop) (I : List (List Int) → Hp → Prop) (J : Hp → Prop) (C : Hp → Nat → Prop) (N : Nat) (y : V) (B : Nat) : Prop where
  st : ∀ s H1 H2, I s H1 → Ext H1 H2 → I s H2
  bx : ∀ s H1, I s H1 → bx H1
  nx : ∀ s H1, I s H1 → N ≤ H1.next
  cb : ∀ s H1 p, I s H1 → C H1 p → p < H1.next
  ce : ∀ s H1 H2 p, I s H1 → Ext H1 H2 → C H2 p → C H1 p
  hy : ∀ s H1 p l, s.length ≤ B → I s H1 → At H1 p (.cells (l.map (.int .i64))) → N ≤ p → ¬ C H1 p → l.length < 2 ^ 63 →
    ValR E y [.slc p 0 l.length (.ex l.length)] H1 (fun u H2 => FC C N H1 H2 ∧ ((u = .bool true ∧ I (s ++ [l]) H2) ∨ (u = .bool false ∧ J H2)))
def FinS (m : Mach) (inp : List Int) (w : List Rnd) (s : List (List Int)) : Prop := runE m inp w = some s ∨ (runE m inp w = none ∧ s.length ≤ w.length)
structure I111 (m : Mach) (w : List Rnd) (first : List Int) (C : Hp → Nat → Prop) (I : List (List Int) → Hp → Prop) (N idM : Nat) (k idw : Nat) (now : List Int) (Ls : List (List Int)) (H : Hp) : Prop where
  kk : k ≤ w.length
  ii : I (first :: Ls) H
  am : At H idM (.map (m.st.map ent))
  mn : N ≤ idM
  mc : ¬ C H idM
  aw : At H idw (.cells (now.map (.int .i64)))
  wn : N ≤ idw
  wc : ¬ C H idw
  okk : OkN m k now
  ll : Ls.length = k
  rn : runS m 0 w first = (runS m k (w.drop k) now).map fun l => Ls ++ l

theorem l111_2 (S : Std E) {Q : Out → Regs → Hp → Prop} {f sy st o vi vw y : V} {m : Mach} (hm : MachV E f sy st o m) (hh : Hdr m) (hsh : Shp m) (hst : stsE m none m.st = 0) {w : List Rnd} (hw : WordV E vw w) (hW : OkW m w) {first : List Int}
    {pm pi pw N idM : Nat} {I : List (List Int) → Hp → Prop} {J : Hp → Prop} {C : Hp → Nat → Prop} (hC : ItC E (fun H => At H pm (.cells (mcells f sy st o m)) ∧ At H pi (.cells [vi]) ∧ At H pw (.cells [vw])) I J C N y w.length)
    {H : Hp} {idw : Nat} (h0 : I111 m w first C I N idM 0 idw first [] H)
    (hQ : ∀ rg H' L, runS m 0 w first = some L → I (first :: L) H' → Q (.exit 2) rg H') (hS : ∀ rg H' Ls, runS m 0 w first = none → Ls.length < w.length → I (first :: Ls) H' → Q .ret rg H') (hJ : ∀ rg H', J H' → Q .ret rg H') :
    ∀ rg, restrict rg [0, 1, 5, 8, 47, 48, 49] = [(0, y), (1, .ptr pm 0), (5, .slc idw 0 first.length (.ex first.length)), (8, .map idM), (47, vw), (48, .int .i64 w.length), (49, .int .i64 0)] → Runs E none w111_2 rg H Q := by
  intro rg hr
  have hn5 := hh.n
  have hrr := hh.r
  have hwl := hW.1
  refine Runs.loopS (σ := Nat × Nat × List Int × List (List Int)) (fun s => [(0, y), (1, .ptr pm 0), (5, .slc s.2.1 0 s.2.2.1.length (.ex s.2.2.1.length)), (8, .map idM), (47, vw), (48, .int .i64 w.length), (49, .int .i64 s.1)])
    (fun s H' => I111 m w first C I N idM s.1 s.2.1 s.2.2.1 s.2.2.2 H') (fun s => w.length - s.1) ?_ (0, idw, first, []) _ _ hr h0
  clear h0
  rintro ⟨k, idw, now, Ls⟩ H1 hI
  simp only at hI ⊢
  have hk := hI.kk
  refine Sq <| Rg <| O1 rfl <| On <| Sq <| ?_
  refine Runs.cond rfl (fun hc => ?_) (fun hc => ?_)
  · have hlt : k < w.length := by simpa using hc
    have hx : w[k]? = some w[k] := List.getElem?_eq_getElem hlt
    obtain ⟨b, o1, cap, hvw, hcell⟩ := hw.at hx
    have hall := hcell.all
    have hrun := hI.rn
    rw [List.drop_eq_getElem_cons hlt, runS] at hrun
    have hnl : (now.length : Int) = m.n := hI.okk.1
    have hnl2 : now.length = m.n.toNat := by omega
    have hNr := At.new H1 (.cells (List.replicate 7 (.int .i64 0)))
    have hNr2 : At ((H1.new (.cells (List.replicate 7 (.int .i64 0)))).put H1.next (.cells w[k].vs)) H1.next (.cells w[k].vs) := hNr.put
    have hXr : Ext H1 ((H1.new (.cells (List.replicate 7 (.int .i64 0)))).put H1.next (.cells w[k].vs)) := (Ext.new H1 _).put (Nat.le_refl _)
    have hbx := (hC.bx _ _ hI.ii).1
    have hA1 := hXr.at hbx
    subst hvw
    refine Sk <| Sq <| Bk <| Sq <| Rg <| O1 rfl <| O1 (step_ixS rfl rfl ‹_›) <| O1 (ldNX rfl ‹_›) <| O1 rfl <| O1 rfl <| O1 (step_st rfl rfl ‹_› rfl rfl) <| On <| Sq <| Rg <| O1 rfl <|
      O1 (ldA rfl ‹_› (by rfl)) <| ?_
    refine O1 (step_mks (n := m.n.toNat) rfl rfl (by omega) (by omega) (by omega)) ?_
    refine O1 rfl <| On <| Sq <| Sq <| Rg <| O1 rfl <| O1 rfl <| O1 rfl <| On <| Bk <| ?_
    have hIw : I1 E ((H1.new (.cells (List.replicate 7 (.int .i64 0)))).put H1.next (.cells w[k].vs)) (.slc idw 0 now.length (.ex now.length)) now := I1.own (hXr.at hI.aw) (by omega) (by intro i z hz; rw [nth_eq, Nat.zero_add, List.getElem?_map, hz]; rfl)
    have hXn := Ext.new ((H1.new (.cells (List.replicate 7 (.int .i64 0)))).put H1.next (.cells w[k].vs)) (.cells (List.replicate m.n.toNat (.int .i64 0)))
    have hNn := At.new ((H1.new (.cells (List.replicate 7 (.int .i64 0)))).put H1.next (.cells w[k].vs)) (.cells (List.replicate m.n.toNat (.int .i64 0)))
    have hz : partN m.n.toNat [] 0 = List.replicate m.n.toNat (.int .i64 0) := by simp [partN]
    rw [← hz] at hNn hXn
    have hK : H1.next < ((H1.new (.cells (List.replicate 7 (.int .i64 0)))).put H1.next (.cells w[k].vs)).next := Nat.lt_succ_self _
    refine l111_1 S hm hh hsh hW hlt hI.okk (c := .ex m.n.toNat) (Hk := (H1.new (.cells (List.replicate 7 (.int .i64 0)))).put H1.next (.cells w[k].vs)) hA1 hIw (hXr.at hI.am) hNr2 hXn (Nat.le_refl _) hNn ?_ ?_ _ rfl
    · intro rg H2 nx hX2 hC2 hnx g0 g1 g8 g11 g47 g48 g49
      rw [hnx] at hrun
      have hnxl := nextU_len hnx
      have hX12 := hXr.trans hX2
      have hI2 := hC.st _ _ _ hI.ii hX12
      have hidN : H1.next < ((H1.new (.cells (List.replicate 7 (.int .i64 0)))).put H1.next (.cells w[k].vs)).next := hK
      have hnc : ¬ C H2 ((H1.new (.cells (List.replicate 7 (.int .i64 0)))).put H1.next (.cells w[k].vs)).next := fun hcc => by
        have := hC.cb _ _ _ hI.ii (hC.ce _ _ _ _ hI.ii hX12 hcc)
        omega
      have hN1 := hC.nx _ _ hI.ii
      have hNi : N ≤ ((H1.new (.cells (List.replicate 7 (.int .i64 0)))).put H1.next (.cells w[k].vs)).next := by omega
      have hyy := hC.hy _ _ _ _ (by simp only [List.length_cons, hI.ll]; omega) hI2 hC2 (by omega) hnc (by omega)
      rw [hnxl] at hyy
      have hmc : ¬ C H2 idM := fun hcc => hI.mc (hC.ce _ _ _ _ hI.ii hX12 hcc)
      refine Sq <| Rg <| O1 (step_mv g11) <| O1 rfl <| On <| Sq <| Rg <| O1 (step_mv g0) <| O1 rfl <| ?_
      refine OpsR.call rfl rfl (ValR.mono hyy ?_)
      rintro u H3 ⟨hfc, hu⟩
      rcases hu with ⟨rfl, hI3⟩ | ⟨rfl, hJ3⟩
      · refine O1 rfl <| On <| CF rfl <| Sk <| Rg <| ?_
        refine O1 (addN (n := k) (m := 1) g49 rfl (by omega)) ?_
        refine O1 rfl <| On <| ?_
        refine ⟨(k + 1, ((H1.new (.cells (List.replicate 7 (.int .i64 0)))).put H1.next (.cells w[k].vs)).next, nx, Ls ++ [nx]), by simp only; omega, ?_, ?_⟩
        · simp [restrict, put, look_cons, g0, g1, g8, g47, g48, hnxl]
        · refine ⟨hlt, hI3, hfc.at hI.mn hmc (hX12.at hI.am), hI.mn, fun hcc => hmc (hfc.2.2 _ (hX12.at hI.am).1 hcc), hfc.at hNi hnc hC2, hNi, fun hcc => hnc (hfc.2.2 _ hC2.1 hcc), ⟨by show (nx.length : Int) = m.n; omega, fun q hq => nextU_ok hst hnx q (by have hq : q < nx.length := hq; omega)⟩, by simp [hI.ll], ?_⟩
          rw [hrun]
          simp only [Option.bind_some, Option.map_map]
          congr 1
          funext l
          simp
      · refine O1 rfl <| On <| CT rfl <| Rt <| ?_
        exact hJ _ _ hJ3
    · intro rg H2 hX2 hnx
      exact hS _ _ Ls (by rw [hrun, hnx]; rfl) (by rw [hI.ll]; exact hlt) (hC.st _ _ _ hI.ii (hXr.trans hX2))
  · have hlt : ¬ k < w.length := by simpa using hc
    refine Xt <| ?_
    have hrun := hI.rn
    rw [List.drop_eq_nil_of_le (by omega)] at hrun
    exact hQ _ _ Ls (by rw [hrun]; simp [runS]) hI.ii
end Go.Vm.Code

namespace Go.Vm.Code
open Go.Vm
variable {E : Env}
theorem first_neg {m : Mach} (hh : Hdr m) (hsh : Shp m) (hr : Rng m) {inp : List Int} (hi : OkI m inp) : (firstL m inp).any (fun x => Int.negSucc 0 == x) = (firstL m inp).any (fun s => decide (s < 0)) := by
  have hn := hh.n
  have hall : ∀ x ∈ firstL m inp, -1 ≤ x := by
    intro x hx
    obtain ⟨q, hq⟩ := List.getElem?_of_mem hx
    have hqn : q < m.n.toNat := by have := (List.getElem?_eq_some_iff.1 hq).1; simpa [firstL] using this
    rw [firstL_get m inp hqn] at hq
    cases hq
    have hf := hsh.f
    have hltp : q < m.fst.length := by omega
    have hxp : m.fst[q]? = some m.fst[q] := List.getElem?_eq_getElem hltp
    have hin := hsh.fi _ (List.getElem_mem hltp)
    have hri := hi.rng q (by have := hi.len; omega)
    have hlt2 : (inp.getD q 0).toNat < m.fst[q].length := by omega
    have e1 : m.fst.getD q [] = m.fst[q] := by rw [List.getD_eq_getElem?_getD, hxp]; rfl
    have hmem : firstAt m inp q ∈ m.fst[q] := by
      rw [firstAt, e1]
      generalize (inp.getD q 0).toNat = j at hlt2
      rw [List.getD_eq_getElem?_getD, List.getElem?_eq_getElem hlt2]
      exact List.getElem_mem hlt2
    exact (inR_iff.1 (List.all_eq_true.1 (hr.f q _ hxp) _ hmem)).1
  rw [Bool.eq_iff_iff, List.any_eq_true, List.any_eq_true]
  constructor
  · rintro ⟨x, hx, h⟩
    have : Int.negSucc 0 = x := by simpa using h
    exact ⟨x, hx, by subst this; decide⟩
  · rintro ⟨x, hx, h⟩
    have h1 : x < 0 := of_decide_eq_true h
    have := hall x hx
    have : x = -1 := by omega
    subst this
    exact ⟨_, hx, by decide⟩

theorem it111 (S : Std E) {f sy st o vi vw y : V} {m : Mach} (hm : MachV E f sy st o m) (hh : Hdr m) (hsh : Shp m) (hrng : Rng m) (hst : stsE m none m.st = 0) {inp : List Int} {w : List Rnd} (hw : WordV E vw w) (hW : OkW m w) (hi : OkI m inp) (hvi : L1 E vi inp)
    {pm pi pw N : Nat} {I : List (List Int) → Hp → Prop} {J : Hp → Prop} {C : Hp → Nat → Prop} (hC : ItC E (fun H => At H pm (.cells (mcells f sy st o m)) ∧ At H pi (.cells [vi]) ∧ At H pw (.cells [vw])) I J C N y w.length) {H : Hp} (h0 : I [] H) :
    CallR E 111 [y, .ptr pm 0, .ptr pi 0, .ptr pw 0] H (fun _ H' => (∃ s, FinS m inp w s ∧ I s H') ∨ J H') := by
  have hn5 := hh.n
  refine S.call (f := 111) (by decide) rfl rfl ?_
  obtain ⟨hA, hPi, hPw⟩ := hC.bx _ _ h0
  have hfl : (firstL m inp).length = m.n.toNat := by simp [firstL]
  have hN0 := hC.nx _ _ h0
  refine Sq <| Rg <| O1 rfl <| O1 (ldA rfl ‹_› (by rfl)) <| ?_
  refine O1 (step_mks (n := m.n.toNat) rfl rfl (by omega) (by omega) (by omega)) ?_
  have hXn := Ext.new H (.cells (List.replicate m.n.toNat (.int .i64 0)))
  have hNn := At.new H (.cells (List.replicate m.n.toNat (.int .i64 0)))
  have hPi1 := hXn.at hPi
  have hlenI := hvi.len
  refine O1 rfl <| On <| Sq <| Sq <| Rg <| O1 (ldA rfl ‹_› (by rfl)) <| O1 (lnS rfl ‹_›) <| O1 rfl <| On <| Bk <| ?_
  have hz : partN m.n.toNat (firstL m inp) 0 = List.replicate m.n.toNat (.int .i64 0) := by simp [partN]
  rw [← hz] at hNn
  refine l111_0 hm hh hsh hi (c := .ex m.n.toNat) (Hb := H) (id := H.next) hA hvi.i hXn (Nat.le_refl _) hNn ?_ _ rfl
  intro rg H2 hX2 hC2 g0 g1 g3 g5
  have hI2 : I1 E H2 (.slc H.next 0 (firstL m inp).length (.ex m.n.toNat)) (firstL m inp) := I1.own hC2 (by omega) (by intro i z hz; rw [nth_eq, Nat.zero_add, List.getElem?_map, hz]; rfl)
  rw [hfl] at hI2
  have hst2 := hC.st _ _ _ h0 hX2
  have hnc2 : ¬ C H2 H.next := fun hcc => by have := hC.cb _ _ _ h0 (hC.ce _ _ _ _ h0 hX2 hcc); omega
  refine Sq <| Sq <| Rg <| O1 (step_mv g5) <| ?_
  have tt := g112 S hI2 (Int.negSucc 0)
  refine CQ rfl rfl tt ?_
  clear tt
  refine O1 rfl <| ?_
  rw [first_neg hh hsh hrng hi]
  cases hneg : (firstL m inp).any (fun s => decide (s < 0)) with
  | true =>
    refine ON rfl <| ON rfl <| ON rfl <| ON rfl <| O1 rfl <| On <| CT rfl <| Rt <| ?_
    exact ⟨nr, _, rfl, Or.inl ⟨[], Or.inr ⟨by rw [runE, hneg]; rfl, Nat.zero_le _⟩, hst2⟩⟩
  | false =>
    have hN := firstOk hh hsh hrng hi hneg
    have hyy := hC.hy _ _ _ _ (Nat.zero_le _) hst2 hC2 hN0 hnc2 (by omega)
    rw [hfl] at hyy
    refine OY rfl (step_mv g0) <| OY rfl (step_mv g5) <| ?_
    refine OpsR.callT rfl rfl rfl (ValR.mono hyy ?_)
    rintro u H3 ⟨hfc, hu⟩
    rcases hu with ⟨rfl, hI3⟩ | ⟨rfl, hJ3⟩
    · obtain ⟨hA3, hPi3, hPw3⟩ := hC.bx _ _ hI3
      refine OY rfl rfl <| O1 rfl <| On <| CF rfl <| Sk <| Sq <| Rg <| ?_
      refine O1 (ldNA (off := 0) g1 hA3 (by rfl)) <| ?_
      obtain ⟨_, hs2, _⟩ := ordd_of _ _ hst
      have tt := s62 S hm hs2 H3
      refine CX rfl rfl tt fun wM H4 hM hX4 => ?_
      clear tt
      refine O1 rfl <| On <| Sq <| Rg <| ?_
      obtain ⟨idM, rfl, hidM, hM4⟩ := hM
      have hPw4 := hX4.at hPw3
      have hst4 := hC.st _ _ _ hI3 hX4
      have hN3 := hC.nx _ _ hI3
      have hcw : ¬ C H3 H.next := fun hcc => hnc2 (hfc.2.2 _ hC2.1 hcc)
      have hlenW := hw.len
      refine O1 (ldA (off := 0) g3 hPw4 (by rfl)) ?_
      refine O1 (lnS rfl ‹_›) <| O1 rfl <| On <| Bk <| ?_
      refine l111_2 S hm hh hsh hst hw hW hC (first := firstL m inp) (idw := H.next) (idM := idM) ?_ ?_ ?_ ?_ _ ?_
      · refine ⟨Nat.zero_le _, hst4, hM4, by omega, fun hcc => ?_, hX4.at (hfc.at hN0 hnc2 hC2), hN0, fun hcc => hcw (hC.ce _ _ _ _ hI3 hX4 hcc), hN, rfl, by simp⟩
        have := hC.cb _ _ _ hI3 (hC.ce _ _ _ _ hI3 hX4 hcc)
        omega
      · intro rg5 H5 L hrun hI5
        exact ⟨(fun i h => by cases h), _, rfl, Or.inl ⟨_, Or.inl (by rw [runE, hneg, hrun]; rfl), hI5⟩⟩
      · intro rg5 H5 Ls hrun hlt hI5
        exact ⟨nr, _, rfl, Or.inl ⟨_, Or.inr ⟨by rw [runE, hneg, hrun]; rfl, by simp only [List.length_cons]; omega⟩, hI5⟩⟩
      · intro rg5 H5 hJ5
        exact ⟨nr, _, rfl, Or.inr hJ5⟩
      · simp [restrict, put, look_cons, g0, g1, g5, hfl]
        rfl
    · refine OY rfl rfl <| O1 rfl <| On <| CT rfl <| Rt <| ?_
      exact ⟨nr, _, rfl, Or.inr hJ3⟩
end Go.Vm.Code
