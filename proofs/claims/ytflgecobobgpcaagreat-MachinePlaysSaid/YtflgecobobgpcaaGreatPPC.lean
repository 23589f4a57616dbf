/-
  Contracts of functions on machines, third part. Conditions: none beyond those that each statement names.
-/
import Derived.Test.YtflgecobobgpcaaGreatPPB
namespace Go.Vm.Code
open Go.Vm
variable {E : Env}
def hdrB (m : Mach) : Bool := inR 1 5 m.n && (inR 0 6 m.r && (inR 1 8 m.ins && inR 1 8 m.outs))
theorem hdr_of {m : Mach} (h : hdrB m = true) : Hdr m := by
  simp only [hdrB, Bool.and_eq_true, inR_iff] at h
  exact ⟨h.1, h.2.1, h.2.2.1, h.2.2.2⟩
open Classical in
/-- the error of a machine -/
noncomputable def chkE (m : Mach) : Int :=
  if hdrB m = false then 2 else if ¬ Shp m then 15 else if cnt m.out > 8192 ∨ m.st.length > 65536 then 5 else if ¬ Rng m then 2 else stsE m none m.st
theorem chk1 {m : Mach} (h : hdrB m = false) : chkE m = 2 := by rw [chkE, if_pos h]
theorem chk2 {m : Mach} (h : hdrB m = true) (h2 : ¬ Shp m) : chkE m = 15 := by rw [chkE, if_neg (by simp [h]), if_pos h2]
theorem chk3 {m : Mach} (h : hdrB m = true) (h2 : Shp m) (h3 : cnt m.out > 8192 ∨ m.st.length > 65536) : chkE m = 5 := by rw [chkE, if_neg (by simp [h]), if_neg (by simpa using h2), if_pos h3]
theorem chk4 {m : Mach} (h : hdrB m = true) (h2 : Shp m) (h3 : ¬ (cnt m.out > 8192 ∨ m.st.length > 65536)) (h4 : ¬ Rng m) : chkE m = 2 := by rw [chkE, if_neg (by simp [h]), if_neg (by simpa using h2), if_neg h3, if_pos h4]
theorem chk5 {m : Mach} (h : hdrB m = true) (h2 : Shp m) (h3 : ¬ (cnt m.out > 8192 ∨ m.st.length > 65536)) (h4 : Rng m) : chkE m = stsE m none m.st := by rw [chkE, if_neg (by simp [h]), if_neg (by simpa using h2), if_neg h3, if_neg (by simpa using h4)]
def MM (f sy st o : V) (m : Mach) : V := .agg (mcells f sy st o m)

theorem t45 (S : Std E) {f sy st o : V} {m : Mach} (hm : MachV E f sy st o m) (H : Hp) : CallR E 45 [MM f sy st o m] H (fun w H' => w = .int .i64 (cnt m.out) ∧ Ext H H') :=
  s45 (S.prim 45 (by decide)) (S.fn rfl) (n := .int .i64 m.n) (r := .int .i64 m.r) (k := .int .i64 m.ins) (u := .int .i64 m.outs) (f := f) (sy := sy) (st := st) hm.o H
theorem t36 (S : Std E) {f sy st o : V} {m : Mach} (hm : MachV E f sy st o m) (H : Hp) : CallR E 36 [MM f sy st o m] H (fun w H' => w = .int .i64 (cnt m.out) ∧ Ext H H') :=
  s36 (S.prim 36 (by decide)) (S.fn rfl) (n := .int .i64 m.n) (r := .int .i64 m.r) (k := .int .i64 m.ins) (u := .int .i64 m.outs) (f := f) (sy := sy) (st := st) hm.o H

theorem s15 (S : Std E) {f sy st o : V} {m : Mach} (hm : MachV E f sy st o m) (H : Hp) : CallR E 15 [MM f sy st o m] H (fun w H' => w = .int .i64 (chkE m) ∧ Ext H H') := by
  refine S.call (f := 15) (by decide) rfl rfl ?_
  have hA := At.new H (.cells (mcells f sy st o m))
  have hX := Ext.new H (.cells (mcells f sy st o m))
  have hret : ∀ (e : Int) (r : Regs) (H' : Hp), Ext H H' → look r 2 = some (.int .i64 e) → chkE m = e → (∀ i, Out.ret ≠ Out.exit i) ∧ ∃ vs, results E r H' [.tmp 2] = some vs ∧ retOf vs = .int .i64 (chkE m) ∧ Ext H H' := fun e r H' hX hr h =>
    ⟨nr, [.int .i64 e], by simp [results, result, hr], by rw [h]; rfl, hX⟩
  have hst := hm.st
  have c47 := fun a b c => s47 (E := E) (S.prim 47 (by decide)) (S.fn rfl) a b c (H.new (.cells (mcells f sy st o m)))
  have hd : hdrB m = (inR 1 5 m.n && (inR 0 6 m.r && (inR 1 8 m.ins && inR 1 8 m.outs))) := rfl
  refine Sq <| Rg <| O1 rfl <| O1 rfl <| On <| Sq <| Bk <| Sq <| Rg <| O1 rfl <| O1 (ldA rfl ‹_› (by rfl)) <| ?_
  have tt := c47 m.n 1 5
  refine CQ rfl rfl tt ?_
  clear tt
  refine O1 rfl <| O1 rfl <| ?_
  cases h1 : inR 1 5 m.n with
  | false =>
    refine ON rfl <| ON rfl <| ON rfl <| ON rfl <| O1 rfl <| O1 rfl <| ON rfl <| ON rfl <| ON rfl <| ON rfl <| O1 rfl <| O1 rfl <| ON rfl <| ON rfl <| ON rfl <| ON rfl <| O1 rfl <|
      O1 rfl <| On <| CT rfl <| Sq <| Rg <| O1 rfl <| On <| Rt <| ?_
    exact hret 2 _ _ hX rfl (chk1 (by rw [hd, h1]; rfl))
  | true =>
    refine OY rfl rfl <| OY rfl (ldA rfl ‹_› (by rfl)) <| ?_
    have tt := c47 m.r 0 6
    refine CQT rfl rfl rfl tt ?_
    clear tt
    refine OY rfl rfl <| O1 rfl <| O1 rfl <| ?_
    cases h2 : inR 0 6 m.r with
    | false =>
      refine ON rfl <| ON rfl <| ON rfl <| ON rfl <| O1 rfl <| O1 rfl <| ON rfl <| ON rfl <| ON rfl <| ON rfl <| O1 rfl <| O1 rfl <| On <| CT rfl <| Sq <| Rg <| O1 rfl <| On <| Rt <| ?_
      exact hret 2 _ _ hX rfl (chk1 (by rw [hd, h1, h2]; rfl))
    | true =>
      refine OY rfl rfl <| OY rfl (ldA rfl ‹_› (by rfl)) <| ?_
      have tt := c47 m.ins 1 8
      refine CQT rfl rfl rfl tt ?_
      clear tt
      refine OY rfl rfl <| O1 rfl <| O1 rfl <| ?_
      cases h3 : inR 1 8 m.ins with
      | false =>
        refine ON rfl <| ON rfl <| ON rfl <| ON rfl <| O1 rfl <| O1 rfl <| On <| CT rfl <| Sq <| Rg <| O1 rfl <| On <| Rt <| ?_
        exact hret 2 _ _ hX rfl (chk1 (by rw [hd, h1, h2, h3]; rfl))
      | true =>
        refine OY rfl rfl <| OY rfl (ldA rfl ‹_› (by rfl)) <| ?_
        have tt := c47 m.outs 1 8
        refine CQT rfl rfl rfl tt ?_
        clear tt
        refine OY rfl rfl <| O1 rfl <| O1 rfl <| On <| ?_
        cases h4 : inR 1 8 m.outs with
        | false =>
          refine CT rfl <| Sq <| Rg <| O1 rfl <| On <| Rt <| ?_
          exact hret 2 _ _ hX rfl (chk1 (by rw [hd, h1, h2, h3, h4]; rfl))
        | true =>
          have hdt : hdrB m = true := by rw [hd, h1, h2, h3, h4]; rfl
          have hh := hdr_of hdt
          refine CF rfl <| Sq <| Rg <| O1 (ldNA rfl ‹_› (by rfl)) <| ?_
          have tt := s48 (S.prim 48 (by decide)) (S.fn rfl) hm hh.r (H.new (.cells (mcells f sy st o m)))
          refine CX rfl rfl tt fun w H2 hw hX2 => ?_
          clear tt
          obtain ⟨b, rfl, hb⟩ := hw
          have hA2 := hX2.at hA
          cases b with
          | false =>
            refine O1 rfl <| O1 rfl <| On <| CT rfl <| Sq <| Rg <| O1 rfl <| On <| Rt <| ?_
            exact hret 15 _ _ (hX.trans hX2) rfl (chk2 hdt (fun h => by have := hb.2 h; cases this))
          | true =>
            have hsh := hb.1 rfl
            refine O1 rfl <| O1 rfl <| On <| CF rfl <| Sq <| Rg <| O1 (ldNA rfl ‹_› (by rfl)) <| ?_
            have tt := t45 S hm H2
            refine CE rfl rfl tt fun H3 hX3 => ?_
            clear tt
            refine O1 rfl <| O1 rfl <| ?_
            have hA3 := hX3.at hA2
            have hXX := (hX.trans hX2).trans hX3
            have h0 : 0 < m.out.length := by have := hsh.o; have := hh.r; omega
            have hlen0 : m.out[0].length = m.fst.length := by have := hsh.oi _ (List.getElem_mem h0); have := hsh.f; omega
            cases h5 : decide (cnt m.out > Int.ofNat 8192) with
            | true =>
              refine ON rfl <| ON rfl <| ON rfl <| ON rfl <| O1 rfl <| O1 rfl <| On <| CT rfl <| Sq <| Rg <| O1 rfl <| On <| Rt <| ?_
              exact hret 5 _ _ hXX rfl (chk3 hdt hsh (Or.inl (of_decide_eq_true h5)))
            | false =>
              refine OY rfl rfl <| OY rfl (ldA rfl ‹_› (by rfl)) <| OY rfl (lnS rfl ‹_›) <| OY rfl rfl <| O1 rfl <| O1 rfl <| On <| ?_
              refine Runs.cond rfl (fun he => ?_) (fun he => ?_)
              · have he : (m.st.length : Int) > ((65536 : Nat) : Int) := of_decide_eq_true he
                refine Sq <| Rg <| O1 rfl <| On <| Rt <| ?_
                exact hret 5 _ _ hXX rfl (chk3 hdt hsh (Or.inr (by omega)))
              · have he : ¬ (m.st.length : Int) > ((65536 : Nat) : Int) := of_decide_eq_false he
                have h6 : ¬ (cnt m.out > 8192 ∨ m.st.length > 65536) := by rintro (h | h); exact of_decide_eq_false h5 h; omega
                refine Sq <| Rg <| O1 (ldNA rfl ‹_› (by rfl)) <| ?_
                have tt := s49 S.r (S.fn rfl) hm hh.o h0 hlen0 H3
                refine CX rfl rfl tt fun w H4 hw hX4 => ?_
                clear tt
                obtain ⟨b, rfl, hb⟩ := hw
                have hA4 := hX4.at hA3
                have hX5 := hXX.trans hX4
                cases b with
                | false =>
                  refine O1 rfl <| O1 rfl <| On <| CT rfl <| Sq <| Rg <| O1 rfl <| On <| Rt <| ?_
                  exact hret 2 _ _ hX5 rfl (chk4 hdt hsh h6 (fun h => by have := hb.2 h; cases this))
                | true =>
                  have hr := chk5 hdt hsh h6 (hb.1 rfl)
                  refine O1 rfl <| O1 rfl <| On <| CF rfl <| Sk <| Sq <| Sq <| Rg <| O1 rfl <| O1 (ldA rfl ‹_› (by rfl)) <| O1 (lnS rfl ‹_›) <| O1 rfl <| On <| Bk <| ?_
                  refine l15_0 S hm hh hsh hA4 (Ext.refl _) ?_ ?_ _ rfl
                  · intro r H' hX6 h0
                    refine Sq <| Rg <| O1 rfl <| On <| Rt <| ?_
                    exact hret 0 _ _ (hX5.trans hX6) rfl (hr.trans h0)
                  · intro r H' hX6 hr6
                    exact hret _ _ _ (hX5.trans hX6) hr6 hr
end Go.Vm.Code

namespace Go.Vm.Code
open Go.Vm
variable {E : Env}
theorem l16_0 (S : Std E) {Q : Out → Regs → Hp → Prop} {f sy st o : V} {m : Mach} (hm : MachV E f sy st o m) (hh : Hdr m) (hsh : Shp m) {Hb : Hp} {pb : Nat} (hA : At Hb pb (.cells (mcells f sy st o m))) {H : Hp} (hX : Ext Hb H)
    (hQ : ∀ r H', Ext Hb H' → stsE m none m.st = 0 → Q (.exit 1) r H')
    (hF : ∀ r H', Ext Hb H' → look r 2 = some (.int .i64 (stsE m none m.st)) → Q .ret r H') :
    ∀ r, restrict r [1, 3] = [(1, .ptr pb 0), (3, .int .i64 0)] → Runs E none w16_0 r H Q := by
  intro r hr
  have hlen := hm.st.1
  refine Runs.loopS (σ := Nat) (fun i => [(1, .ptr pb 0), (3, .int .i64 i)])
    (fun i H' => i ≤ m.st.length ∧ Ext Hb H' ∧ stsE m none m.st = stsE m (prevS m.st i) (m.st.drop i)) (fun i => m.st.length - i) ?_ 0 _ _ hr ⟨Nat.zero_le _, hX, rfl⟩
  clear hX
  rintro i H1 ⟨hi, hX, hno⟩
  have hA1 := hX.at hA
  have hms := hm.st
  refine Sq <| Sq <| Rg <| O1 rfl <| O1 rfl <| O1 (ldA rfl ‹_› (by rfl)) <| O1 (lnS rfl ‹_›) <| O1 rfl <| On <| ?_
  refine Runs.cond rfl (fun hc => ?_) (fun hc => ?_)
  · have hlt : i < m.st.length := by simpa using hc
    obtain ⟨b, o1, cap, rfl, hst⟩ := hm.stepAt hlt
    have hsi := hst i hlt
    rw [List.drop_eq_getElem_cons hlt, stsE] at hno
    refine Sk <| Sq <| Bk <| Sq <| Sq <| Dg <| D1 (ldNA rfl ‹_› (by rfl)) <| D1 rfl <| D1 (ldA rfl ‹_› (by rfl)) <| D1 rfl <| D1 (step_ixS rfl rfl ‹_›) <| D1 (ldNX rfl ‹_›) <| ?_
    have tt := s55 S hm hh hsh m.st[i] H1
    refine DE rfl rfl tt fun H3 hX3 => ?_
    clear tt
    refine D1 rfl <| Dn <| Sq <| Rg <| O1 rfl <| O1 rfl <| On <| ?_
    have hA3 := hX3.at hA1
    have hX23 := hX.trans hX3
    refine Runs.cond rfl (fun hd => ?_) (fun hd => ?_)
    · have hd : stepE m m.st[i] ≠ 0 := by simpa using hd
      refine Sq <| Rg <| O1 rfl <| O1 rfl <| On <| Rt <| ?_
      exact hF _ _ hX23 (by rw [hno, if_pos hd]; rfl)
    · have hd : ¬ stepE m m.st[i] ≠ 0 := by simpa using hd
      rw [if_neg hd] at hno
      refine Sk <| Sq <| Dg <| D1 rfl <| D1 rfl <| D1 rfl <| ?_
      rcases i with _ | i
      · refine DN rfl <| DN rfl <| DN rfl <| DN rfl <| DN rfl <| DN rfl <| DN rfl <| DN rfl <| DN rfl <| DN rfl <| DN rfl <| DN rfl <| DN rfl <| D1 rfl <| Dn <| CF rfl <| Sk <| Rg <|
          O1 rfl <| O1 (addN rfl rfl (by omega)) <| O1 rfl <| On <| ?_
        exact ⟨1, by simp only; omega, rfl, hlt, hX23, by rw [hno]; simp [afterS, prevS, List.getElem?_eq_getElem hlt]⟩
      · have hpos : decide ((((i + 1 : Nat) : Int)) > Int.ofNat 0) = true := by simp
        have hlt' : i < m.st.length := by omega
        have haf : afterS (prevS m.st (i + 1)) m.st[i + 1] = decide (ordS m.st[i] m.st[i + 1] ≥ 0) := by simp only [afterS, prevS, List.getElem?_eq_getElem hlt']
        rw [haf] at hno
        have hti : ((((i + 1 : Nat) : Int) - ((1 : Nat) : Int))).toNat = i := by omega
        have hsi2 : extN E b (o1 + ((((i + 1 : Nat) : Int) - ((1 : Nat) : Int))).toNat * 8) 8 = some m.st[i].vs := by rw [hti]; exact hst i hlt'
        rw [hpos]
        refine DY rfl rfl <| DY rfl (ldA rfl ‹_› (by rfl)) <| DY rfl rfl <| DY rfl (subL rfl rfl (by omega)) <| DY rfl (ixI rfl rfl (by omega)) <| DY rfl (ldNX rfl ‹_›) <| DY rfl rfl <|
          DY rfl (ldA rfl ‹_› (by rfl)) <| DY rfl rfl <| DY rfl (step_ixS rfl rfl ‹_›) <| DY rfl (ldNX rfl ‹_›) <| ?_
        have tt := s34 S m.st[i] m.st[i + 1] H3
        refine DET rfl rfl rfl tt fun H4 hX4 => ?_
        clear tt
        refine DY rfl rfl <| D1 rfl <| Dn <| ?_
        have hX34 := hX23.trans hX4
        refine Runs.cond rfl (fun he => ?_) (fun he => ?_)
        · have he : decide (ordS m.st[i] m.st[i + 1] ≥ 0) = true := he
          refine Sq <| Rg <| O1 rfl <| On <| Rt <| ?_
          exact hF _ _ hX34 (by rw [hno, if_pos he]; rfl)
        · have he : decide (ordS m.st[i] m.st[i + 1] ≥ 0) = false := he
          refine Sk <| Rg <| O1 rfl <| O1 (addN rfl rfl (by omega)) <| O1 rfl <| On <| ?_
          exact ⟨i + 1 + 1, by simp only; omega, rfl, by omega, hX34, by rw [hno, he]; simp [prevS, List.getElem?_eq_getElem hlt]⟩
  · have hlt : ¬ i < m.st.length := by simpa using hc
    refine Xt <| ?_
    exact hQ _ _ hX (by rw [hno, List.drop_eq_nil_of_le (by omega)]; rfl)

theorem s16 (S : Std E) {f sy st o : V} {m : Mach} (hm : MachV E f sy st o m) (H : Hp) : CallR E 16 [MM f sy st o m] H (fun w H' => w = .int .i64 (chkE m) ∧ Ext H H') := by
  refine S.call (f := 16) (by decide) rfl rfl ?_
  have hA := At.new H (.cells (mcells f sy st o m))
  have hX := Ext.new H (.cells (mcells f sy st o m))
  have hret : ∀ (e : Int) (r : Regs) (H' : Hp), Ext H H' → look r 2 = some (.int .i64 e) → chkE m = e → (∀ i, Out.ret ≠ Out.exit i) ∧ ∃ vs, results E r H' [.tmp 2] = some vs ∧ retOf vs = .int .i64 (chkE m) ∧ Ext H H' := fun e r H' hX hr h =>
    ⟨nr, [.int .i64 e], by simp [results, result, hr], by rw [h]; rfl, hX⟩
  have hst := hm.st
  have c52 := fun a b c => s52 (E := E) (S.prim 52 (by decide)) (S.fn rfl) a b c (H.new (.cells (mcells f sy st o m)))
  have hd : hdrB m = (inR 1 5 m.n && (inR 0 6 m.r && (inR 1 8 m.ins && inR 1 8 m.outs))) := rfl
  refine Sq <| Rg <| O1 rfl <| O1 rfl <| On <| Sq <| Bk <| Sq <| Rg <| O1 rfl <| O1 (ldA rfl ‹_› (by rfl)) <| ?_
  have tt := c52 m.n 1 5
  refine CQ rfl rfl tt ?_
  clear tt
  refine O1 rfl <| O1 rfl <| ?_
  cases h1 : inR 1 5 m.n with
  | false =>
    refine ON rfl <| ON rfl <| ON rfl <| ON rfl <| O1 rfl <| O1 rfl <| ON rfl <| ON rfl <| ON rfl <| ON rfl <| O1 rfl <| O1 rfl <| ON rfl <| ON rfl <| ON rfl <| ON rfl <| O1 rfl <|
      O1 rfl <| On <| CT rfl <| Sq <| Rg <| O1 rfl <| On <| Rt <| ?_
    exact hret 2 _ _ hX rfl (chk1 (by rw [hd, h1]; rfl))
  | true =>
    refine OY rfl rfl <| OY rfl (ldA rfl ‹_› (by rfl)) <| ?_
    have tt := c52 m.r 0 6
    refine CQT rfl rfl rfl tt ?_
    clear tt
    refine OY rfl rfl <| O1 rfl <| O1 rfl <| ?_
    cases h2 : inR 0 6 m.r with
    | false =>
      refine ON rfl <| ON rfl <| ON rfl <| ON rfl <| O1 rfl <| O1 rfl <| ON rfl <| ON rfl <| ON rfl <| ON rfl <| O1 rfl <| O1 rfl <| On <| CT rfl <| Sq <| Rg <| O1 rfl <| On <| Rt <| ?_
      exact hret 2 _ _ hX rfl (chk1 (by rw [hd, h1, h2]; rfl))
    | true =>
      refine OY rfl rfl <| OY rfl (ldA rfl ‹_› (by rfl)) <| ?_
      have tt := c52 m.ins 1 8
      refine CQT rfl rfl rfl tt ?_
      clear tt
      refine OY rfl rfl <| O1 rfl <| O1 rfl <| ?_
      cases h3 : inR 1 8 m.ins with
      | false =>
        refine ON rfl <| ON rfl <| ON rfl <| ON rfl <| O1 rfl <| O1 rfl <| On <| CT rfl <| Sq <| Rg <| O1 rfl <| On <| Rt <| ?_
        exact hret 2 _ _ hX rfl (chk1 (by rw [hd, h1, h2, h3]; rfl))
      | true =>
        refine OY rfl rfl <| OY rfl (ldA rfl ‹_› (by rfl)) <| ?_
        have tt := c52 m.outs 1 8
        refine CQT rfl rfl rfl tt ?_
        clear tt
        refine OY rfl rfl <| O1 rfl <| O1 rfl <| On <| ?_
        cases h4 : inR 1 8 m.outs with
        | false =>
          refine CT rfl <| Sq <| Rg <| O1 rfl <| On <| Rt <| ?_
          exact hret 2 _ _ hX rfl (chk1 (by rw [hd, h1, h2, h3, h4]; rfl))
        | true =>
          have hdt : hdrB m = true := by rw [hd, h1, h2, h3, h4]; rfl
          have hh := hdr_of hdt
          refine CF rfl <| Sq <| Rg <| O1 (ldNA rfl ‹_› (by rfl)) <| ?_
          have tt := s53 (S.prim 53 (by decide)) (S.fn rfl) hm hh.r (H.new (.cells (mcells f sy st o m)))
          refine CX rfl rfl tt fun w H2 hw hX2 => ?_
          clear tt
          obtain ⟨b, rfl, hb⟩ := hw
          have hA2 := hX2.at hA
          cases b with
          | false =>
            refine O1 rfl <| O1 rfl <| On <| CT rfl <| Sq <| Rg <| O1 rfl <| On <| Rt <| ?_
            exact hret 15 _ _ (hX.trans hX2) rfl (chk2 hdt (fun h => by have := hb.2 h; cases this))
          | true =>
            have hsh := hb.1 rfl
            refine O1 rfl <| O1 rfl <| On <| CF rfl <| Sq <| Rg <| O1 (ldNA rfl ‹_› (by rfl)) <| ?_
            have tt := t36 S hm H2
            refine CE rfl rfl tt fun H3 hX3 => ?_
            clear tt
            refine O1 rfl <| O1 rfl <| ?_
            have hA3 := hX3.at hA2
            have hXX := (hX.trans hX2).trans hX3
            have h0 : 0 < m.out.length := by have := hsh.o; have := hh.r; omega
            have hlen0 : m.out[0].length = m.fst.length := by have := hsh.oi _ (List.getElem_mem h0); have := hsh.f; omega
            cases h5 : decide (cnt m.out > Int.ofNat 8192) with
            | true =>
              refine ON rfl <| ON rfl <| ON rfl <| ON rfl <| O1 rfl <| O1 rfl <| On <| CT rfl <| Sq <| Rg <| O1 rfl <| On <| Rt <| ?_
              exact hret 5 _ _ hXX rfl (chk3 hdt hsh (Or.inl (of_decide_eq_true h5)))
            | false =>
              refine OY rfl rfl <| OY rfl (ldA rfl ‹_› (by rfl)) <| OY rfl (lnS rfl ‹_›) <| OY rfl rfl <| O1 rfl <| O1 rfl <| On <| ?_
              refine Runs.cond rfl (fun he => ?_) (fun he => ?_)
              · have he : (m.st.length : Int) > ((65536 : Nat) : Int) := of_decide_eq_true he
                refine Sq <| Rg <| O1 rfl <| On <| Rt <| ?_
                exact hret 5 _ _ hXX rfl (chk3 hdt hsh (Or.inr (by omega)))
              · have he : ¬ (m.st.length : Int) > ((65536 : Nat) : Int) := of_decide_eq_false he
                have h6 : ¬ (cnt m.out > 8192 ∨ m.st.length > 65536) := by rintro (h | h); exact of_decide_eq_false h5 h; omega
                refine Sq <| Rg <| O1 (ldNA rfl ‹_› (by rfl)) <| ?_
                have tt := s54 S.q (S.fn rfl) hm hsh hh.r hh.o H3
                refine CX rfl rfl tt fun w H4 hw hX4 => ?_
                clear tt
                obtain ⟨b, rfl, hb⟩ := hw
                have hA4 := hX4.at hA3
                have hX5 := hXX.trans hX4
                cases b with
                | false =>
                  refine O1 rfl <| O1 rfl <| On <| CT rfl <| Sq <| Rg <| O1 rfl <| On <| Rt <| ?_
                  exact hret 2 _ _ hX5 rfl (chk4 hdt hsh h6 (fun h => by have := hb.2 h; cases this))
                | true =>
                  have hr := chk5 hdt hsh h6 (hb.1 rfl)
                  refine O1 rfl <| O1 rfl <| On <| CF rfl <| Sk <| Sq <| Sq <| Rg <| O1 rfl <| On <| Bk <| ?_
                  refine l16_0 S hm hh hsh hA4 (Ext.refl _) ?_ ?_ _ rfl
                  · intro r H' hX6 h0
                    refine Sq <| Rg <| O1 rfl <| On <| Rt <| ?_
                    exact hret 0 _ _ (hX5.trans hX6) rfl (hr.trans h0)
                  · intro r H' hX6 hr6
                    exact hret _ _ _ (hX5.trans hX6) hr6 hr
end Go.Vm.Code

namespace Go.Vm.Code
open Go.Vm
variable {E : Env}
theorem cmpI_neg {a b : Int} : cmpI a b < 0 ↔ a < b := by
  unfold cmpI; split
  · exact ⟨fun _ => ‹_›, fun _ => by decide⟩
  · split <;> constructor <;> intro h <;> first | omega | exact absurd h (by decide)
theorem cmpI_zero {a b : Int} : cmpI a b = 0 ↔ a = b := by
  unfold cmpI; split
  · exact ⟨fun h => by omega, fun h => by omega⟩
  · split
    · exact ⟨fun h => by omega, fun h => by omega⟩
    · exact ⟨fun _ => by omega, fun _ => rfl⟩
theorem cmpL_self : ∀ l : List Int, cmpL l l = 0
  | [] => rfl
  | a :: l => by rw [cmpL, if_neg (by simp [cmpI_zero]), cmpL_self l]
theorem cmpL_trans : ∀ a b c : List Int, cmpL a b < 0 → cmpL b c < 0 → cmpL a c < 0
  | [], [], c, h, _ => by simp [cmpL] at h
  | [], _ :: _, [], _, h => by simp [cmpL] at h
  | [], _ :: _, _ :: _, _, _ => by simp [cmpL]
  | _ :: _, [], _, h, _ => by simp [cmpL] at h
  | _ :: _, _ :: _, [], _, h => by simp [cmpL] at h
  | a :: as, b :: bs, c :: cs, h, g => by
    simp only [cmpL] at h g ⊢
    by_cases h1 : cmpI a b ≠ 0
    · rw [if_pos h1] at h
      have h2 := cmpI_neg.1 h
      by_cases g1 : cmpI b c ≠ 0
      · rw [if_pos g1] at g
        have g2 := cmpI_neg.1 g
        have : cmpI a c < 0 := cmpI_neg.2 (by omega)
        rw [if_pos (by omega)]; exact this
      · have g2 := cmpI_zero.1 (by simpa using g1)
        have : cmpI a c < 0 := cmpI_neg.2 (by omega)
        rw [if_pos (by omega)]; exact this
    · have h2 := cmpI_zero.1 (by simpa using h1)
      rw [if_neg h1] at h
      subst h2
      by_cases g1 : cmpI a c ≠ 0
      · rw [if_pos g1] at g ⊢; exact g
      · rw [if_neg g1] at g ⊢; exact cmpL_trans _ _ _ h g
/-- steps in order: each one well-formed by itself, and behind all before it -/
def Ordd : List Stp → Prop
  | [] => True
  | x :: l => (∀ y ∈ l, ordS x y < 0) ∧ Ordd l
theorem ordd_of {m : Mach} : ∀ (l : List Stp) (p : Option Stp), stsE m p l = 0 → (∀ x ∈ l, stepE m x = 0) ∧ Ordd l ∧ ∀ y, p = some y → ∀ x ∈ l, ordS y x < 0
  | [], p, _ => ⟨fun x h => absurd h (List.not_mem_nil), trivial, fun y _ x h => absurd h (List.not_mem_nil)⟩
  | x :: l, p, h => by
    rw [stsE] at h
    by_cases h1 : stepE m x ≠ 0
    · rw [if_pos h1] at h; exact absurd h h1
    · rw [if_neg h1] at h
      split at h
      · cases h
      · rename_i ha
        obtain ⟨i1, i2, i3⟩ := ordd_of l (some x) h
        have hx := i3 x rfl
        refine ⟨fun y hy => ?_, ⟨hx, i2⟩, fun y hp z hz => ?_⟩
        · rcases List.mem_cons.1 hy with rfl | hy
          · simpa using h1
          · exact i1 y hy
        · subst hp
          have hyx : ordS y x < 0 := by simpa [afterS] using ha
          rcases List.mem_cons.1 hz with rfl | hz
          · exact hyx
          · exact cmpL_trans _ _ _ hyx (hx z hz)

def kv (k : List Int) : V := .agg (k.map (.int .i64))
theorem eqInts_eq : ∀ (a b : List Int), a.length = b.length → eqInts a.length (a.map (.int .i64)) (b.map (.int .i64)) = some (decide (a = b))
  | [], [], _ => rfl
  | [], _ :: _, h => by cases h
  | _ :: _, [], h => by cases h
  | a :: as, b :: bs, h => by
    have ih := eqInts_eq as bs (by simpa using h)
    simp only [List.length_cons, List.map_cons, eqInts, if_true, ih, Option.bind_some, List.cons.injEq, Bool.decide_and, Option.some.injEq]
    congr 1
theorem eqKey7 {a b : List Int} (ha : a.length = 7) (hb : b.length = 7) : eqKey 7 (kv a) (kv b) = some (decide (a = b)) := by
  have := eqInts_eq a b (by omega)
  rw [ha] at this
  exact this
theorem keyOk7 {a : List Int} (ha : a.length = 7) : keyOk 7 (kv a) = true := by
  have h1 : Nat.beq (a.map (V.int .i64)).length 7 = true := by rw [List.length_map, ha]; rfl
  have h2 : allInt (a.map (V.int .i64)) = true := by simp [allInt]
  show (Nat.blt 0 7 && (Nat.beq (a.map (V.int .i64)).length 7 && allInt (a.map (V.int .i64)))) = true
  rw [h1, h2]; rfl
def ent (x : Stp) : V × V := (kv x.key, .int .i64 x.t)
theorem mset_new {k : List Int} (hk : k.length = 7) {v : V} : ∀ l : List Stp, (∀ x ∈ l, x.key ≠ k) → mset 7 (kv k) v (l.map ent) = some (l.map ent ++ [(kv k, v)])
  | [], _ => rfl
  | x :: l, h => by
    have ih := mset_new hk (v := v) l (fun y hy => h y (List.mem_cons_of_mem _ hy))
    have hx : decide (k = x.key) = false := decide_eq_false fun e => h x List.mem_cons_self e.symm
    have he : eqKey 7 (kv k) (kv x.key) = some false := by rw [eqKey7 hk rfl, hx]
    show (eqKey 7 (kv k) (kv x.key)).bind _ = _
    simp only [he, Option.bind_some, cond_false]
    rw [show List.map (fun x => ent x) l = l.map ent from rfl] at *
    rw [ih]; rfl
theorem mfind_st {k : List Int} (hk : k.length = 7) : ∀ l : List Stp, mfind 7 (kv k) (l.map ent) = some ((l.find? (fun x => decide (k = x.key))).map fun x => .int .i64 x.t)
  | [] => rfl
  | x :: l => by
    have ih := mfind_st hk l
    have he : eqKey 7 (kv k) (kv x.key) = some (decide (k = x.key)) := eqKey7 hk rfl
    show (eqKey 7 (kv k) (kv x.key)).bind _ = _
    simp only [he, Option.bind_some, List.find?_cons]
    cases decide (k = x.key) with
    | true => rfl
    | false => exact ih
theorem ordd_ne {l : List Stp} (h : Ordd l) {i : Nat} (hi : i < l.length) : ∀ x ∈ l.take i, x.key ≠ l[i].key := by
  intro x hx e
  induction l generalizing i with
  | nil => simp at hx
  | cons y l ih =>
    cases i with
    | zero => simp at hx
    | succ i =>
      rw [List.take_succ_cons] at hx
      rcases List.mem_cons.1 hx with rfl | hx
      · have := h.1 (l[i]'(by simpa using hi)) (List.getElem_mem _)
        have e' : x.key = (l[i]'(by simpa using hi)).key := by simpa using e
        rw [ordS, ← e', cmpL_self] at this
        omega
      · exact ih h.2 (i := i) (by simpa using hi) hx (by simpa using e)
theorem step_mput {r : Regs} {H : Hp} {n id : Nat} {mo ko vo : Opd} {es es' : List (V × V)} {k v : V} (hm : ev r mo = some (.map id)) (hk : ev r ko = some k) (hv : ev r vo = some v) (h : At H id (.map es)) (hok : keyOk n k = true) (hs : mset n k v es = some es') :
    stepOp E noCall r H (.mput n mo ko vo) = some (.tup [], H.put id (.map es')) := by
  simp only [stepOp, AOp.kind, actOp, hm, hk, hv, Option.bind_some, h.2, hok, cond_true, hs]
theorem step_look {r : Regs} {H : Hp} {n id : Nat} {z : V} {mo ko : Opd} {es : List (V × V)} {k : V} {u : Option V} (hm : ev r mo = some (.map id)) (hk : ev r ko = some k) (h : At H id (.map es)) (hok : keyOk n k = true) (hs : mfind n k es = some u) :
    stepOp E noCall r H (.look n z mo ko) = some (match u with | some v => .tup [v, .bool true] | none => .tup [z, .bool false], H) := by
  simp only [stepOp, AOp.kind, readOp, hm, hk, Option.bind_some, h.2, hok, cond_true, hs]
  cases u <;> rfl
end Go.Vm.Code

namespace Go.Vm.Code
open Go.Vm
variable {E : Env}
theorem s62 (S : Std E) {f sy st o : V} {m : Mach} (hm : MachV E f sy st o m) (hO : Ordd m.st) (H : Hp) :
    CallR E 62 [MM f sy st o m] H (fun w H' => (∃ id, w = .map id ∧ H.next ≤ id ∧ At H' id (.map (m.st.map ent))) ∧ Ext H H') := by
  refine S.call (f := 62) (by decide) rfl rfl ?_
  have hA0 := At.new H (.cells (mcells f sy st o m))
  have hX0 := Ext.new H (.cells (mcells f sy st o m))
  have hM0 := At.new (H.new (.cells (mcells f sy st o m))) (.map [])
  have hX1 := Ext.new (H.new (.cells (mcells f sy st o m))) (.map [])
  have hA := hX1.at hA0
  have hX := hX0.trans hX1
  have hst := hm.st
  have hlen := hm.st.1
  refine Sq <| Rg <| O1 rfl <| O1 rfl <| On <| Sq <| Rg <| O1 rfl <| O1 rfl <| On <| Sq <| Sq <| Rg <| O1 rfl <| O1 (ldA rfl ‹_› (by rfl)) <| O1 (lnS rfl ‹_›) <| O1 rfl <| On <| Bk <| ?_
  refine Runs.loopS (σ := Nat) (fun i => [(3, .map (H.new (.cells (mcells f sy st o m))).next), (8, st), (9, .int .i64 m.st.length), (10, .int .i64 i)])
    (fun i H' => i ≤ m.st.length ∧ Ext H H' ∧ At H' (H.new (.cells (mcells f sy st o m))).next (.map ((m.st.take i).map ent))) (fun i => m.st.length - i) ?_ 0 _ _ rfl ⟨Nat.zero_le _, hX, hM0⟩
  clear hA0 hX0 hM0 hX1 hA hX
  have hid : H.next ≤ (H.new (.cells (mcells f sy st o m))).next := Nat.le_succ _
  generalize (H.new (.cells (mcells f sy st o m))).next = idm at hid
  rintro i H1 ⟨hi, hX, hM⟩
  refine Sq <| Rg <| O1 rfl <| On <| Sq <| ?_
  refine Runs.cond rfl (fun hc => ?_) (fun hc => ?_)
  · have hlt : i < m.st.length := by simpa using hc
    obtain ⟨b, o1, cap, rfl, hsx⟩ := hm.stepAt hlt
    have hsi := hsx i hlt
    have hN := At.new H1 (.cells (List.replicate 8 (.int .i64 0)))
    have hN2 : At ((H1.new (.cells (List.replicate 8 (.int .i64 0)))).put H1.next (.cells m.st[i].vs)) H1.next (.cells m.st[i].vs) := hN.put
    have hX2 : Ext H ((H1.new (.cells (List.replicate 8 (.int .i64 0)))).put H1.next (.cells m.st[i].vs)) := (hX.trans (Ext.new _ _)).put hX.1
    have hM2 : At ((H1.new (.cells (List.replicate 8 (.int .i64 0)))).put H1.next (.cells m.st[i].vs)) idm (.map ((m.st.take i).map ent)) := ((Ext.new _ _).at hM).put_ne (Nat.ne_of_lt hM.1)
    refine Sk <| Sq <| Bk <| Sq <| Rg <| O1 (step_ixS rfl rfl ‹_›) <| O1 (ldNX rfl ‹_›) <| O1 rfl <| O1 (step_st rfl rfl ‹_› rfl rfl) <| On <| Rg <| O1 rfl <| O1 rfl <|
      O1 (ldA rfl ‹_› (by rfl)) <| O1 rfl <| O1 (ldA rfl ‹_› (by rfl)) <| O1 rfl <| O1 (ldNA rfl ‹_› (by rfl)) <| O1 rfl <| O1 rfl <| O1 (ldA rfl ‹_› (by rfl)) <| ?_
    refine O1 (step_mput (k := kv m.st[i].key) rfl rfl rfl hM2 (keyOk7 rfl) (mset_new rfl _ (ordd_ne hO hlt))) ?_
    refine On <| Rg <| O1 (addN rfl rfl (by omega)) <| O1 rfl <| On <| ?_
    refine ⟨i + 1, by simp only; omega, rfl, hlt, hX2.put hid, ?_⟩
    have hM3 := hM2.put (o := .map ((m.st.take i).map ent ++ [(kv m.st[i].key, .int .i64 m.st[i].t)]))
    rw [List.take_add_one, List.getElem?_eq_getElem hlt, List.map_append]
    exact hM3
  · have hlt : ¬ i < m.st.length := by simpa using hc
    refine Xt <| Sq <| Rg <| O1 rfl <| O1 rfl <| On <| Rt <| ?_
    rw [List.take_of_length_le (by omega)] at hM
    exact ⟨nr, _, rfl, ⟨idm, rfl, hid, hM⟩, hX⟩

def findT (m : Mach) (k : List Int) : Option Stp := m.st.find? fun x => decide (k = x.key)

theorem s63 (S : Std E) {f sy st o : V} {m : Mach} (hm : MachV E f sy st o m) (rd p a b c d e : Int) (H : Hp) :
    CallR E 63 [MM f sy st o m, .int .i64 rd, .int .i64 p, .agg ([a, b, c, d, e].map (.int .i64))] H (fun w H' => w = .int .i64 (match findT m [rd, p, a, b, c, d, e] with | some x => x.t | none => -1) ∧ Ext H H') := by
  refine S.call (f := 63) (by decide) rfl rfl ?_
  have hA0 := At.new H (.cells (mcells f sy st o m))
  have hX0 := Ext.new H (.cells (mcells f sy st o m))
  have hB0 := At.new (H.new (.cells (mcells f sy st o m))) (.cells ([a, b, c, d, e].map (.int .i64)))
  have hX1 := Ext.new (H.new (.cells (mcells f sy st o m))) (.cells ([a, b, c, d, e].map (.int .i64)))
  have hA := hX1.at hA0
  have hX := hX0.trans hX1
  have hst := hm.st
  have hlen := hm.st.1
  refine Sq <| Rg <| O1 rfl <| O1 rfl <| O1 rfl <| On <| Sq <| Sq <| Rg <| O1 rfl <| On <| Bk <| ?_
  refine Runs.loopS (σ := Nat) (fun i => [(1, .int .i64 rd), (2, .int .i64 p), (4, .ptr H.next 0), (7, .ptr (H.new (.cells (mcells f sy st o m))).next 0), (9, .int .i64 i)])
    (fun i H' => i ≤ m.st.length ∧ Ext ((H.new (.cells (mcells f sy st o m))).new (.cells ([a, b, c, d, e].map (.int .i64)))) H' ∧ findT m [rd, p, a, b, c, d, e] = (m.st.drop i).find? fun x => decide ([rd, p, a, b, c, d, e] = x.key)) (fun i => m.st.length - i) ?_ 0 _ _ rfl ⟨Nat.zero_le _, Ext.refl _, rfl⟩
  rintro i H1 ⟨hi, hXi, hno⟩
  have hA1 := hXi.at hA
  have hB1 := hXi.at hB0
  refine Sq <| Sq <| Rg <| O1 rfl <| O1 rfl <| O1 (ldA rfl ‹_› (by rfl)) <| O1 (lnS rfl ‹_›) <| O1 rfl <| On <| ?_
  refine Runs.cond rfl (fun hc => ?_) (fun hc => ?_)
  · have hlt : i < m.st.length := by simpa using hc
    obtain ⟨b', o1, cap, rfl, hsx⟩ := hm.stepAt hlt
    have hsi := hsx i hlt
    rw [List.drop_eq_getElem_cons hlt, List.find?_cons] at hno
    have hN := At.new H1 (.cells (List.replicate 8 (.int .i64 0)))
    have hN2 : At ((H1.new (.cells (List.replicate 8 (.int .i64 0)))).put H1.next (.cells m.st[i].vs)) H1.next (.cells m.st[i].vs) := hN.put
    have hX2 : Ext ((H.new (.cells (mcells f sy (.xslc b' o1 m.st.length cap) o m))).new (.cells ([a, b, c, d, e].map (.int .i64)))) ((H1.new (.cells (List.replicate 8 (.int .i64 0)))).put H1.next (.cells m.st[i].vs)) := (hXi.trans (Ext.new _ _)).put hXi.1
    have hB2 := hX2.at hB0
    refine Sk <| Sq <| Bk <| Sq <| Rg <| O1 rfl <| O1 (ldA rfl ‹_› (by rfl)) <| O1 rfl <| O1 (step_ixS rfl rfl ‹_›) <| O1 (ldNX rfl ‹_›) <| O1 rfl <| O1 (step_st rfl rfl ‹_› rfl rfl) <|
      On <| Sq <| Rg <| O1 rfl <| O1 (ldA rfl ‹_› (by rfl)) <| O1 rfl <| O1 rfl <| O1 rfl <| ?_
    have hgo : decide ([rd, p, a, b, c, d, e] = m.st[i].key) = false → findT m [rd, p, a, b, c, d, e] = (m.st.drop (i + 1)).find? fun x => decide ([rd, p, a, b, c, d, e] = x.key) := fun h => by rw [hno, h]
    have hkey : [rd, p, a, b, c, d, e] = m.st[i].key ↔ rd = m.st[i].r ∧ p = m.st[i].p ∧ a = m.st[i].h0 ∧ b = m.st[i].h1 ∧ c = m.st[i].h2 ∧ d = m.st[i].h3 ∧ e = m.st[i].h4 := by simp [Stp.key, Stp.hs]
    cases h1 : (m.st[i].r == rd) with
    | false =>
      have h1' : ¬ m.st[i].r = rd := by simpa using h1
      refine ON rfl <| ON rfl <| ON rfl <| ON rfl <| O1 rfl <| O1 rfl <| ON rfl <| ON rfl <| ON rfl <| ON rfl <| O1 rfl <| On <| CF rfl <| Sk <| Rg <| O1 rfl <|
        O1 (addN rfl rfl (by omega)) <| O1 rfl <| On <| ?_
      exact ⟨i + 1, by simp only; omega, rfl, hlt, hX2, hgo (decide_eq_false fun h => h1' (hkey.1 h).1.symm)⟩
    | true =>
      have h1' : m.st[i].r = rd := by simpa using h1
      refine OY rfl rfl <| OY rfl (ldA rfl ‹_› (by rfl)) <| OY rfl rfl <| OY rfl rfl <| O1 rfl <| O1 rfl <| ?_
      cases h2 : (m.st[i].p == p) with
      | false =>
        have h2' : ¬ m.st[i].p = p := by simpa using h2
        refine ON rfl <| ON rfl <| ON rfl <| ON rfl <| O1 rfl <| On <| CF rfl <| Sk <| Rg <| O1 rfl <| O1 (addN rfl rfl (by omega)) <| O1 rfl <| On <| ?_
        exact ⟨i + 1, by simp only; omega, rfl, hlt, hX2, hgo (decide_eq_false fun h => h2' (hkey.1 h).2.1.symm)⟩
      | true =>
        have h2' : m.st[i].p = p := by simpa using h2
        refine OY rfl rfl <| OY rfl (ldNA rfl ‹_› (by rfl)) <| OY rfl (ldNA rfl ‹_› (by rfl)) <| OY rfl rfl <| O1 rfl <| On <| ?_
        refine Runs.cond rfl (fun hd => ?_) (fun hd => ?_)
        · have hd : (false ^^ (m.st[i].h0 == a && (m.st[i].h1 == b && (m.st[i].h2 == c && (m.st[i].h3 == d && (m.st[i].h4 == e && true)))))) = true := hd
          simp at hd
          obtain ⟨e1, e2, e3, e4, e5⟩ := hd
          refine Sq <| Rg <| O1 rfl <| O1 (ldA rfl ‹_› (by rfl)) <| O1 rfl <| On <| Rt <| ?_
          have hk : decide ([rd, p, a, b, c, d, e] = m.st[i].key) = true := decide_eq_true (hkey.2 ⟨h1'.symm, h2'.symm, e1.symm, e2.symm, e3.symm, e4.symm, e5.symm⟩)
          rw [hk] at hno
          exact ⟨nr, _, rfl, by rw [hno]; rfl, hX.trans hX2⟩
        · have hd : (false ^^ (m.st[i].h0 == a && (m.st[i].h1 == b && (m.st[i].h2 == c && (m.st[i].h3 == d && (m.st[i].h4 == e && true)))))) = false := hd
          simp at hd
          refine Sk <| Rg <| O1 rfl <| O1 (addN rfl rfl (by omega)) <| O1 rfl <| On <| ?_
          refine ⟨i + 1, by simp only; omega, rfl, hlt, hX2, hgo (decide_eq_false fun h => ?_)⟩
          obtain ⟨_, _, f1, f2, f3, f4, f5⟩ := hkey.1 h
          exact hd f1.symm f2.symm f3.symm f4.symm f5.symm
  · have hlt : ¬ i < m.st.length := by simpa using hc
    refine Xt <| Sq <| Rg <| O1 rfl <| On <| Rt <| ?_
    rw [List.drop_eq_nil_of_le (by omega)] at hno
    exact ⟨nr, _, rfl, by rw [hno]; rfl, hX.trans hXi⟩
end Go.Vm.Code

namespace Go.Vm.Code
open Go.Vm
variable {E : Env}
theorem beqs_int : ∀ l : List Int, V.beqs (l.map (.int .i64)) (l.map (.int .i64)) = true
  | [] => rfl
  | a :: l => by simp [V.beqs, V.beq, beqs_int l]
theorem againN {r : Regs} {H : Hp} {all : List AOper} {i d p off n : Nat} {a : Opd} {re is : List Nat} {l : List V} {u : List Int} (h1 : all[i]? = some ⟨some d, .ldN n a, none, re⟩) (h2 : ev r a = some (.ptr p off)) (h3 : At H p (.cells l)) (h4 : getAt l off n = some (u.map (.int .i64)))
    (h5 : look r d = some (.agg (u.map (.int .i64)))) (h6 : again E all r H is = true) : again E all r H (i :: is) = true := by
  have h7 : ldN E H n (.ptr p off) = some (u.map (.int .i64)) := h3.ldN.trans h4
  simp only [again, h1, wanted, readOp, h2, Option.bind_some, h7, h5, V.beq, beqs_int, h6, Bool.and_true]

theorem chk_zero {m : Mach} (h : chkE m = 0) : Hdr m ∧ Shp m ∧ Rng m ∧ stsE m none m.st = 0 ∧ ¬ (cnt m.out > 8192 ∨ m.st.length > 65536) := by
  cases h1 : hdrB m with
  | false => rw [chk1 h1] at h; cases h
  | true =>
    by_cases h2 : Shp m
    · by_cases h3 : cnt m.out > 8192 ∨ m.st.length > 65536
      · rw [chk3 h1 h2 h3] at h; cases h
      · by_cases h4 : Rng m
        · rw [chk5 h1 h2 h3 h4] at h; exact ⟨hdr_of h1, h2, h4, h, h3⟩
        · rw [chk4 h1 h2 h3 h4] at h; cases h
    · rw [chk2 h1 h2] at h; cases h

noncomputable def nextE (m : Mach) (rd p : Int) (k : List Int) : Int × Int :=
  if chkE m ≠ 0 then (0, chkE m) else if (!inR 0 (m.r - 1) rd || !inR 0 (m.n - 1) p) then (0, 2) else match findT m k with
  | some x => (x.t, 0)
  | none => (0, 20)
def pairV (x : Int × Int) : V := .tup [.int .i64 x.1, .int .i64 x.2]

theorem s19 (S : Std E) {f sy st o : V} {m : Mach} (hm : MachV E f sy st o m) (rd p a b c d e : Int) (H : Hp) :
    CallR E 19 [MM f sy st o m, .int .i64 rd, .int .i64 p, .agg ([a, b, c, d, e].map (.int .i64))] H (fun w H' => w = pairV (nextE m rd p [rd, p, a, b, c, d, e]) ∧ Ext H H') := by
  refine S.call (f := 19) (by decide) rfl rfl ?_
  have hA0 := At.new H (.cells (mcells f sy st o m))
  have hX0 := Ext.new H (.cells (mcells f sy st o m))
  have hB := At.new (H.new (.cells (mcells f sy st o m))) (.cells ([a, b, c, d, e].map (.int .i64)))
  have hX1 := Ext.new (H.new (.cells (mcells f sy st o m))) (.cells ([a, b, c, d, e].map (.int .i64)))
  have hA := hX1.at hA0
  have hX := hX0.trans hX1
  refine Sq <| Rg <| O1 rfl <| O1 rfl <| O1 rfl <| O1 rfl <| On <| Sq <| Sq <| Rg <| O1 (ldNA rfl ‹_› (by rfl)) <| ?_
  have tt := s15 S hm ((H.new (.cells (mcells f sy st o m))).new (.cells ([a, b, c, d, e].map (.int .i64))))
  refine CE rfl rfl tt fun H2 hX2 => ?_
  clear tt
  refine O1 rfl <| On <| Sq <| Rg <| O1 rfl <| O1 rfl <| On <| ?_
  have hA2 := hX2.at hA
  have hB2 := hX2.at hB
  have hXX := hX.trans hX2
  refine Runs.cond rfl (fun h1 => ?_) (fun h1 => ?_)
  · have h1 : chkE m ≠ 0 := by simpa using h1
    refine Sq <| Rg <| O1 rfl <| O1 rfl <| O1 rfl <| On <| Rt <| ?_
    exact ⟨nr, _, rfl, by rw [nextE, if_pos h1]; rfl, hXX⟩
  · have h1 : ¬ chkE m ≠ 0 := by simpa using h1
    obtain ⟨hh, hsh, hrng, hst, _⟩ := chk_zero (by simpa using h1)
    have hn := hh.n
    have hr := hh.r
    obtain ⟨hs1, hs2, _⟩ := ordd_of _ _ hst
    refine Sk <| Sq <| Sq <| Rg <| O1 rfl <| O1 rfl <| O1 (ldA rfl ‹_› (by rfl)) <| O1 (subL rfl rfl (by omega)) <| ?_
    have tt := s47 (S.prim 47 (by decide)) (S.fn rfl) rd 0 (m.r - 1) H2
    refine CQ rfl rfl tt ?_
    clear tt
    refine O1 rfl <| O1 rfl <| ?_
    cases h2 : inR 0 (m.r - 1) rd with
    | false =>
      refine ON rfl <| ON rfl <| ON rfl <| ON rfl <| ON rfl <| ON rfl <| O1 rfl <| On <| CT rfl <| Sq <| Rg <| O1 rfl <| O1 rfl <| On <| Rt <| ?_
      exact ⟨nr, _, rfl, by rw [nextE, if_neg h1, h2]; rfl, hXX⟩
    | true =>
      refine OY rfl rfl <| OY rfl rfl <| OY rfl (ldA rfl ‹_› (by rfl)) <| OY rfl (subL rfl rfl (by omega)) <| ?_
      have tt := s47 (S.prim 47 (by decide)) (S.fn rfl) p 0 (m.n - 1) H2
      refine CQT rfl rfl rfl tt ?_
      clear tt
      refine OY rfl rfl <| O1 rfl <| On <| ?_
      cases h3 : inR 0 (m.n - 1) p with
      | false =>
        refine CT rfl <| Sq <| Rg <| O1 rfl <| O1 rfl <| On <| Rt <| ?_
        exact ⟨nr, _, rfl, by rw [nextE, if_neg h1, h2, h3]; rfl, hXX⟩
      | true =>
        refine CF rfl <| Sk <| Sq <| Dg <| D1 (ldNA rfl ‹_› (by rfl)) <| D1 rfl <| D1 rfl <| D1 (ldNA rfl ‹_› (by rfl)) <| D1 rfl <| ?_
        have tt := s62 S hm hs2 H2
        refine DGr rfl rfl tt fun w H3 hw hX3 => ⟨?_, ?_⟩
        · exact againN (u := [a, b, c, d, e]) rfl rfl (hX3.at hB2) rfl rfl rfl
        obtain ⟨id, rfl, _, hM⟩ := hw
        have hne : nextE m rd p [rd, p, a, b, c, d, e] = match findT m [rd, p, a, b, c, d, e] with | some x => (x.t, 0) | none => (0, 20) := by rw [nextE, if_neg h1, h2, h3]; rfl
        have hmf : mfind 7 (kv [rd, p, a, b, c, d, e]) (m.st.map ent) = some ((findT m [rd, p, a, b, c, d, e]).map fun x => .int .i64 x.t) := mfind_st rfl _
        cases hf : findT m [rd, p, a, b, c, d, e] with
        | none =>
          rw [hf] at hmf
          refine D1 (step_look (k := kv [rd, p, a, b, c, d, e]) (u := none) rfl rfl hM (keyOk7 rfl) hmf) ?_
          refine D1 rfl <| D1 rfl <| D1 rfl <| D1 rfl <| D1 rfl <| Dn <| Sq <| Sq <| Rg <| O1 rfl <| O1 rfl <| On <| CT rfl <| Sq <| Rg <| O1 rfl <| O1 rfl <| On <| Rt <| ?_
          exact ⟨nr, _, rfl, by rw [hne, hf]; rfl, hXX.trans hX3⟩
        | some x =>
          rw [hf] at hmf
          refine D1 (step_look (k := kv [rd, p, a, b, c, d, e]) (u := some (.int .i64 x.t)) rfl rfl hM (keyOk7 rfl) hmf) ?_
          refine D1 rfl <| D1 rfl <| D1 rfl <| D1 rfl <| D1 rfl <| Dn <| Sq <| Sq <| Rg <| O1 rfl <| O1 rfl <| On <| CF rfl <| Sk <| Sq <| Rg <| O1 rfl <| O1 rfl <| O1 rfl <| On <| Rt <| ?_
          exact ⟨nr, _, rfl, by rw [hne, hf]; rfl, hXX.trans hX3⟩

theorem s20 (S : Std E) {f sy st o : V} {m : Mach} (hm : MachV E f sy st o m) (rd p a b c d e : Int) (H : Hp) :
    CallR E 20 [MM f sy st o m, .int .i64 rd, .int .i64 p, .agg ([a, b, c, d, e].map (.int .i64))] H (fun w H' => w = pairV (nextE m rd p [rd, p, a, b, c, d, e]) ∧ Ext H H') := by
  refine S.call (f := 20) (by decide) rfl rfl ?_
  have hA0 := At.new H (.cells (mcells f sy st o m))
  have hX0 := Ext.new H (.cells (mcells f sy st o m))
  have hB := At.new (H.new (.cells (mcells f sy st o m))) (.cells ([a, b, c, d, e].map (.int .i64)))
  have hX1 := Ext.new (H.new (.cells (mcells f sy st o m))) (.cells ([a, b, c, d, e].map (.int .i64)))
  have hA := hX1.at hA0
  have hX := hX0.trans hX1
  refine Sq <| Rg <| O1 rfl <| O1 rfl <| O1 rfl <| O1 rfl <| On <| Sq <| Sq <| Rg <| O1 (ldNA rfl ‹_› (by rfl)) <| ?_
  have tt := s16 S hm ((H.new (.cells (mcells f sy st o m))).new (.cells ([a, b, c, d, e].map (.int .i64))))
  refine CE rfl rfl tt fun H2 hX2 => ?_
  clear tt
  refine O1 rfl <| On <| Sq <| Rg <| O1 rfl <| O1 rfl <| On <| ?_
  have hA2 := hX2.at hA
  have hB2 := hX2.at hB
  have hXX := hX.trans hX2
  refine Runs.cond rfl (fun h1 => ?_) (fun h1 => ?_)
  · have h1 : chkE m ≠ 0 := by simpa using h1
    refine Sq <| Rg <| O1 rfl <| O1 rfl <| O1 rfl <| On <| Rt <| ?_
    exact ⟨nr, _, rfl, by rw [nextE, if_pos h1]; rfl, hXX⟩
  · have h1 : ¬ chkE m ≠ 0 := by simpa using h1
    obtain ⟨hh, hsh, hrng, hst, _⟩ := chk_zero (by simpa using h1)
    have hn := hh.n
    have hr := hh.r
    obtain ⟨hs1, hs2, _⟩ := ordd_of _ _ hst
    refine Sk <| Sq <| Sq <| Rg <| O1 rfl <| O1 rfl <| O1 (ldA rfl ‹_› (by rfl)) <| O1 (subL rfl rfl (by omega)) <| ?_
    have tt := s52 (S.prim 52 (by decide)) (S.fn rfl) rd 0 (m.r - 1) H2
    refine CQ rfl rfl tt ?_
    clear tt
    refine O1 rfl <| O1 rfl <| ?_
    cases h2 : inR 0 (m.r - 1) rd with
    | false =>
      refine ON rfl <| ON rfl <| ON rfl <| ON rfl <| ON rfl <| ON rfl <| O1 rfl <| On <| CT rfl <| Sq <| Rg <| O1 rfl <| O1 rfl <| On <| Rt <| ?_
      exact ⟨nr, _, rfl, by rw [nextE, if_neg h1, h2]; rfl, hXX⟩
    | true =>
      refine OY rfl rfl <| OY rfl rfl <| OY rfl (ldA rfl ‹_› (by rfl)) <| OY rfl (subL rfl rfl (by omega)) <| ?_
      have tt := s52 (S.prim 52 (by decide)) (S.fn rfl) p 0 (m.n - 1) H2
      refine CQT rfl rfl rfl tt ?_
      clear tt
      refine OY rfl rfl <| O1 rfl <| On <| ?_
      cases h3 : inR 0 (m.n - 1) p with
      | false =>
        refine CT rfl <| Sq <| Rg <| O1 rfl <| O1 rfl <| On <| Rt <| ?_
        exact ⟨nr, _, rfl, by rw [nextE, if_neg h1, h2, h3]; rfl, hXX⟩
      | true =>
        refine CF rfl <| Sk <| Sq <| Rg <| O1 (ldNA rfl ‹_› (by rfl)) <| O1 rfl <| O1 rfl <| O1 (ldNA rfl ‹_› (by rfl)) <| ?_
        have tt := s63 S hm rd p a b c d e H2
        refine CE rfl rfl tt fun H3 hX3 => ?_
        clear tt
        refine O1 rfl <| On <| Sq <| Sq <| Rg <| O1 rfl <| O1 rfl <| On <| ?_
        have hne : nextE m rd p [rd, p, a, b, c, d, e] = match findT m [rd, p, a, b, c, d, e] with | some x => (x.t, 0) | none => (0, 20) := by rw [nextE, if_neg h1, h2, h3]; rfl
        cases hf : findT m [rd, p, a, b, c, d, e] with
        | none =>
          refine CT rfl <| Sq <| Rg <| O1 rfl <| O1 rfl <| On <| Rt <| ?_
          exact ⟨nr, _, rfl, by rw [hne, hf]; rfl, hXX.trans hX3⟩
        | some x =>
          have hx : x ∈ m.st := List.mem_of_find?_eq_some hf
          have h0 := hs1 x hx
          have hpos : ¬ x.t < 0 := by
            have : outE m x = false := by
              cases hq : outE m x with
              | false => rfl
              | true => rw [stepE, hq] at h0; cases h0
            simp only [outE, Bool.or_eq_false_iff, Bool.not_eq_false', inR_iff] at this
            omega
          have hpd : decide (x.t < Int.ofNat 0) = false := decide_eq_false hpos
          refine Runs.cond rfl (fun hc => ?_) (fun hc => ?_)
          · exact absurd (of_decide_eq_true hc) hpos
          · refine Sk <| Sq <| Rg <| O1 rfl <| O1 rfl <| O1 rfl <| On <| Rt <| ?_
            exact ⟨nr, _, rfl, by rw [hne, hf]; rfl, hXX.trans hX3⟩
end Go.Vm.Code

namespace Go.Vm.Code
open Go.Vm
variable {E : Env}
structure FewP (m : Mach) : Prop where
  f : m.fst.length ≤ 20
  o : m.out.length ≤ 20
  s : m.sy.length ≤ 20
  t : m.st.length ≤ 400
  c : cnt m.out ≤ 400
  s1 : ∀ s ∈ m.sy, s.length ≤ 20
  s2 : ∀ s ∈ m.sy, ∀ rc ∈ s, rc.length ≤ 20

theorem l11_0 {Q : Out → Regs → Hp → Prop} {f sy st o : V} {m : Mach} (hm : MachV E f sy st o m) {H : Hp} {pb k : Nat} (hA : At H pb (.cells (mcells f sy st o m))) (hk : k < m.sy.length) (hs : m.sy[k].length ≤ 20)
    (hQ : (∀ rc ∈ m.sy[k], rc.length ≤ 20) → ∀ r, look r 1 = some (.ptr pb 0) → look r 3 = some (.int .i64 k) → Q (.exit 2) r H)
    (hF : ∀ r, look r 2 = some (.bool false) → Q .ret r H) :
    ∀ r, restrict r [1, 3, 4] = [(1, .ptr pb 0), (3, .int .i64 k), (4, .int .i64 0)] → Runs E none w11_0 r H Q := by
  intro r hr
  have hxk : m.sy[k]? = some m.sy[k] := List.getElem?_eq_getElem hk
  obtain ⟨b, o1, cap, rfl, x, hc, hx2⟩ := hm.sy.at hxk
  have hlen := hx2.1
  refine Runs.loopS (σ := Nat) (fun p => [(1, .ptr pb 0), (3, .int .i64 k), (4, .int .i64 p)])
    (fun p H' => p ≤ m.sy[k].length ∧ H' = H ∧ ∀ rc ∈ m.sy[k].take p, rc.length ≤ 20) (fun p => m.sy[k].length - p) ?_ 0 _ _ hr ⟨Nat.zero_le _, rfl, by simp⟩
  rintro p H1 ⟨hp, rfl, hall⟩
  refine Sq <| Sq <| Rg <| O1 rfl <| O1 rfl <| O1 (ldA rfl ‹_› (by rfl)) <| O1 rfl <| O1 (step_ixS rfl rfl ‹_›) <| O1 (step_ld1 rfl ‹_›) <| O1 (lnS rfl ‹_›) <| O1 rfl <| On <| ?_
  refine Runs.cond rfl (fun hd => ?_) (fun hd => ?_)
  · have hlt : p < m.sy[k].length := by simpa using hd
    have hxp : m.sy[k][p]? = some m.sy[k][p] := List.getElem?_eq_getElem hlt
    obtain ⟨b2, o2, cap2, rfl, y, hc2, hy2⟩ := hx2.at hxp
    refine Sk <| Sq <| Bk <| Sq <| Rg <| O1 rfl <| O1 (ldA rfl ‹_› (by rfl)) <| O1 rfl <| O1 (step_ixS rfl rfl ‹_›) <| O1 (step_ld1 rfl ‹_›) <| O1 rfl <| O1 (step_ixS rfl rfl ‹_›) <|
      O1 (step_ld1 rfl ‹_›) <| O1 (lnS rfl ‹_›) <| O1 rfl <| On <| ?_
    refine Runs.cond rfl (fun he => ?_) (fun he => ?_)
    · refine Sq <| Rg <| O1 rfl <| On <| Rt <| ?_
      exact hF _ rfl
    · have he : ¬ (m.sy[k][p].length : Int) > ((20 : Nat) : Int) := of_decide_eq_false he
      refine Sk <| Rg <| O1 rfl <| O1 (addN rfl rfl (by omega)) <| O1 rfl <| On <| ?_
      refine ⟨p + 1, by simp only; omega, rfl, hlt, rfl, ?_⟩
      rw [List.take_add_one, hxp]
      intro rc hrc
      rcases List.mem_append.1 hrc with h | h
      · exact hall rc h
      · simp at h; subst h; omega
  · have hlt : ¬ p < m.sy[k].length := by simpa using hd
    refine Xt <| ?_
    rw [List.take_of_length_le (by omega)] at hall
    exact hQ hall _ rfl rfl

theorem l11_1 {Q : Out → Regs → Hp → Prop} {f sy st o : V} {m : Mach} (hm : MachV E f sy st o m) {H : Hp} {pb : Nat} (hA : At H pb (.cells (mcells f sy st o m)))
    (hQ : (∀ s ∈ m.sy, s.length ≤ 20 ∧ ∀ rc ∈ s, rc.length ≤ 20) → ∀ r, Q (.exit 0) r H)
    (hF : ∀ r, look r 2 = some (.bool false) → Q .ret r H) :
    ∀ r, restrict r [1, 3] = [(1, .ptr pb 0), (3, .int .i64 0)] → Runs E none w11_1 r H Q := by
  intro r hr
  have hlen := hm.sy.1
  have hsy := hm.sy
  refine Runs.loopS (σ := Nat) (fun k => [(1, .ptr pb 0), (3, .int .i64 k)])
    (fun k H' => k ≤ m.sy.length ∧ H' = H ∧ ∀ s ∈ m.sy.take k, s.length ≤ 20 ∧ ∀ rc ∈ s, rc.length ≤ 20) (fun k => m.sy.length - k) ?_ 0 _ _ hr ⟨Nat.zero_le _, rfl, by simp⟩
  rintro k H1 ⟨hk, rfl, hall⟩
  refine Sq <| Sq <| Rg <| O1 rfl <| O1 rfl <| O1 (ldA rfl ‹_› (by rfl)) <| O1 (lnS rfl ‹_›) <| O1 rfl <| On <| ?_
  refine Runs.cond rfl (fun hd => ?_) (fun hd => ?_)
  · have hlt : k < m.sy.length := by simpa using hd
    have hxk : m.sy[k]? = some m.sy[k] := List.getElem?_eq_getElem hlt
    obtain ⟨b, o1, cap, rfl, x, hc, hx2⟩ := hm.sy.at hxk
    refine Sk <| Sq <| Bk <| Sq <| Sq <| Rg <| O1 rfl <| O1 (ldA rfl ‹_› (by rfl)) <| O1 rfl <| O1 (step_ixS rfl rfl ‹_›) <| O1 (step_ld1 rfl ‹_›) <| O1 (lnS rfl ‹_›) <| O1 rfl <| On <| ?_
    refine Runs.cond rfl (fun he => ?_) (fun he => ?_)
    · refine Sq <| Rg <| O1 rfl <| On <| Rt <| ?_
      exact hF _ rfl
    · have he : ¬ (m.sy[k].length : Int) > ((20 : Nat) : Int) := of_decide_eq_false he
      refine Sk <| Sq <| Rg <| O1 rfl <| On <| Bk <| ?_
      refine l11_0 hm hA hlt (by omega) ?_ ?_ _ rfl
      · intro h2 r' g1 g3
        refine Rg <| O1 (step_mv ‹_›) <| O1 (addN rfl rfl (by omega)) <| O1 rfl <| On <| ?_
        refine ⟨k + 1, by simp only; omega, ?_, hlt, rfl, ?_⟩
        · simp [restrict, put, look_cons, g1]
        · rw [List.take_add_one, hxk]
          intro s hs
          rcases List.mem_append.1 hs with h | h
          · exact hall s h
          · simp at h; subst h; exact ⟨by omega, h2⟩
      · exact fun r hr => hF r hr
  · have hlt : ¬ k < m.sy.length := by simpa using hd
    refine Xt <| ?_
    rw [List.take_of_length_le (by omega)] at hall
    exact hQ hall _

theorem s11 (S : Std E) {f sy st o : V} {m : Mach} (hm : MachV E f sy st o m) (H : Hp) : CallR E 11 [MM f sy st o m] H (fun w H' => (∃ b, w = .bool b ∧ (b = true → FewP m)) ∧ Ext H H') := by
  refine S.call (f := 11) (by decide) rfl rfl ?_
  have hA := At.new H (.cells (mcells f sy st o m))
  have hX := Ext.new H (.cells (mcells f sy st o m))
  have hf := hm.f
  have ho := hm.o
  have hsy := hm.sy
  have hst := hm.st
  have hret : ∀ (r : Regs) (H' : Hp), Ext H H' → look r 2 = some (.bool false) → (∀ i, Out.ret ≠ Out.exit i) ∧ ∃ vs, results E r H' [.tmp 2] = some vs ∧ (∃ b, retOf vs = .bool b ∧ (b = true → FewP m)) ∧ Ext H H' := fun r H' hX hr =>
    ⟨nr, [.bool false], by simp [results, result, hr], ⟨false, rfl, fun h => by cases h⟩, hX⟩
  refine Sq <| Rg <| O1 rfl <| O1 rfl <| On <| Sq <| Sq <| Rg <| O1 rfl <| O1 (ldA rfl ‹_› (by rfl)) <| O1 (lnS rfl ‹_›) <| O1 rfl <| O1 rfl <| ?_
  cases h1 : decide ((m.fst.length : Int) > Int.ofNat 20) with
  | true =>
    refine ON rfl <| ON rfl <| ON rfl <| ON rfl <| O1 rfl <| O1 rfl <| ON rfl <| ON rfl <| ON rfl <| ON rfl <| O1 rfl <| O1 rfl <| ON rfl <| ON rfl <| ON rfl <| ON rfl <| O1 rfl <|
      O1 rfl <| ON rfl <| ON rfl <| ON rfl <| O1 rfl <| On <| CT rfl <| Sq <| Rg <| O1 rfl <| On <| Rt <| ?_
    exact hret _ _ hX rfl
  | false =>
    refine OY rfl rfl <| OY rfl (ldA rfl ‹_› (by rfl)) <| OY rfl (lnS rfl ‹_›) <| OY rfl rfl <| O1 rfl <| O1 rfl <| ?_
    cases h2 : decide ((m.out.length : Int) > Int.ofNat 20) with
    | true =>
      refine ON rfl <| ON rfl <| ON rfl <| ON rfl <| O1 rfl <| O1 rfl <| ON rfl <| ON rfl <| ON rfl <| ON rfl <| O1 rfl <| O1 rfl <| ON rfl <| ON rfl <| ON rfl <| O1 rfl <| On <| CT rfl <|
        Sq <| Rg <| O1 rfl <| On <| Rt <| ?_
      exact hret _ _ hX rfl
    | false =>
      refine OY rfl rfl <| OY rfl (ldA rfl ‹_› (by rfl)) <| OY rfl (lnS rfl ‹_›) <| OY rfl rfl <| O1 rfl <| O1 rfl <| ?_
      cases h3 : decide ((m.sy.length : Int) > Int.ofNat 20) with
      | true =>
        refine ON rfl <| ON rfl <| ON rfl <| ON rfl <| O1 rfl <| O1 rfl <| ON rfl <| ON rfl <| ON rfl <| O1 rfl <| On <| CT rfl <| Sq <| Rg <| O1 rfl <| On <| Rt <| ?_
        exact hret _ _ hX rfl
      | false =>
        refine OY rfl rfl <| OY rfl (ldA rfl ‹_› (by rfl)) <| OY rfl (lnS rfl ‹_›) <| OY rfl rfl <| O1 rfl <| O1 rfl <| ?_
        cases h4 : decide ((m.st.length : Int) > Int.ofNat 400) with
        | true =>
          refine ON rfl <| ON rfl <| ON rfl <| O1 rfl <| On <| CT rfl <| Sq <| Rg <| O1 rfl <| On <| Rt <| ?_
          exact hret _ _ hX rfl
        | false =>
          refine OY rfl (ldNA rfl ‹_› (by rfl)) <| ?_
          have tt := t36 S hm (H.new (.cells (mcells f sy st o m)))
          refine CET rfl rfl rfl tt fun H2 hX2 => ?_
          clear tt
          refine OY rfl rfl <| O1 rfl <| On <| ?_
          have hA2 := hX2.at hA
          refine Runs.cond rfl (fun h5 => ?_) (fun h5 => ?_)
          · refine Sq <| Rg <| O1 rfl <| On <| Rt <| ?_
            exact hret _ _ (hX.trans hX2) rfl
          · refine Sk <| Sq <| Sq <| Rg <| O1 rfl <| On <| Bk <| ?_
            refine l11_1 hm hA2 ?_ ?_ _ rfl
            · intro hall r
              refine Sq <| Rg <| O1 rfl <| On <| Rt <| ?_
              have e1 : ¬ (m.fst.length : Int) > ((20 : Nat) : Int) := of_decide_eq_false h1
              have e2 : ¬ (m.out.length : Int) > ((20 : Nat) : Int) := of_decide_eq_false h2
              have e3 : ¬ (m.sy.length : Int) > ((20 : Nat) : Int) := of_decide_eq_false h3
              have e4 : ¬ (m.st.length : Int) > ((400 : Nat) : Int) := of_decide_eq_false h4
              have e5 : ¬ cnt m.out > ((400 : Nat) : Int) := of_decide_eq_false h5
              exact ⟨nr, _, rfl, ⟨true, rfl, fun _ => ⟨by omega, by omega, by omega, by omega, by omega, fun s hs => (hall s hs).1, fun s hs => (hall s hs).2⟩⟩, hX.trans hX2⟩
            · exact fun r hr => hret _ _ (hX.trans hX2) hr
end Go.Vm.Code

namespace Go.Vm.Code
open Go.Vm
variable {E : Env}
theorem s4 (S : Std E) {f sy st o : V} {m : Mach} (hm : MachV E f sy st o m) (rd p a b c d e : Int) (H : Hp) :
    CallR E 4 [MM f sy st o m, .agg ([rd, p, a, b, c, d, e].map (.int .i64))] H (fun w H' => w = .bool true ∧ Ext H H') := by
  refine S.call (f := 4) (by decide) rfl rfl ?_
  have hA0 := At.new H (.cells (mcells f sy st o m))
  have hX0 := Ext.new H (.cells (mcells f sy st o m))
  have hB := At.new (H.new (.cells (mcells f sy st o m))) (.cells ([rd, p, a, b, c, d, e].map (.int .i64)))
  have hX1 := Ext.new (H.new (.cells (mcells f sy st o m))) (.cells ([rd, p, a, b, c, d, e].map (.int .i64)))
  have hA := hX1.at hA0
  have hX := hX0.trans hX1
  refine Sq <| Rg <| O1 rfl <| O1 rfl <| O1 rfl <| On <| Sq <| Sq <| Rg <| O1 (ldNA rfl ‹_› (by rfl)) <| ?_
  have tt := s11 S hm ((H.new (.cells (mcells f sy st o m))).new (.cells ([rd, p, a, b, c, d, e].map (.int .i64))))
  refine CX rfl rfl tt fun w H2 hw hX2 => ?_
  clear tt
  obtain ⟨bb, rfl, hfew⟩ := hw
  have hA2 := hX2.at hA
  have hB2 := hX2.at hB
  have hXX := hX.trans hX2
  cases bb with
  | false =>
    refine O1 rfl <| On <| CT rfl <| Sq <| Rg <| ?_
    have tt := S.awake H2
    refine CQ rfl rfl tt ?_
    clear tt
    refine O1 rfl <| On <| Rt <| ?_
    exact ⟨nr, _, rfl, rfl, hXX⟩
  | true =>
    refine O1 rfl <| On <| CF rfl <| Sk <| Sq <| Rg <| O1 (ldNA rfl ‹_› (by rfl)) <| O1 rfl <| O1 (ldA rfl ‹_› (by rfl)) <| O1 rfl <| O1 (ldA rfl ‹_› (by rfl)) <| O1 rfl <|
      O1 (ldNA rfl ‹_› (by rfl)) <| ?_
    have tt := s19 S hm rd p a b c d e H2
    refine CE rfl rfl tt fun H3 hX3 => ?_
    clear tt
    refine O1 rfl <| O1 rfl <| O1 rfl <| O1 rfl <| O1 rfl <| On <| Sq <| Rg <| ?_
    have hA3 := hX3.at hA2
    have hB3 := hX3.at hB2
    refine O1 (ldNA rfl ‹_› (by rfl)) <| O1 rfl <| O1 (ldA rfl ‹_› (by rfl)) <| O1 rfl <| O1 (ldA rfl ‹_› (by rfl)) <| O1 rfl <| O1 (ldNA rfl ‹_› (by rfl)) <| ?_
    have tt := s20 S hm rd p a b c d e H3
    refine CE rfl rfl tt fun H4 hX4 => ?_
    clear tt
    refine O1 rfl <| O1 rfl <| O1 rfl <| O1 rfl <| O1 rfl <| On <| Sq <| Rg <| ?_
    have hXY := (hXX.trans hX3).trans hX4
    have tt := S.awake H4
    refine CQ rfl rfl tt ?_
    clear tt
    refine O1 rfl <| OY rfl rfl <| OY rfl rfl <| OY rfl rfl <| O1 rfl <| O1 rfl <| ?_
    have e1 : ((nextE m rd p [rd, p, a, b, c, d, e]).1 == (nextE m rd p [rd, p, a, b, c, d, e]).1) = true := by simp
    have e2 : ((nextE m rd p [rd, p, a, b, c, d, e]).2 == (nextE m rd p [rd, p, a, b, c, d, e]).2) = true := by simp
    rw [e1]
    refine OY rfl rfl <| OY rfl rfl <| OY rfl rfl <| O1 rfl <| O1 rfl <| On <| Rt <| ?_
    exact ⟨nr, _, rfl, by rw [← e2]; rfl, hXY⟩
end Go.Vm.Code
