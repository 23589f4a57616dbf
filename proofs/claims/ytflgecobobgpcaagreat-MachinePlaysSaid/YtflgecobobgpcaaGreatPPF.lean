/-
  Contracts of Play and of its reference; the law. Conditions: none beyond those that each statement names.
-/
import Derived.Test.YtflgecobobgpcaaGreatPPE
namespace Go.Vm
theorem hpBase (H : Hp) {N : Nat} (h : N ≤ H.next) : ∃ Hb : Hp, Hb.next = N ∧ Ext Hb H := ⟨⟨N, H.tr⟩, rfl, h, fun _ _ => rfl⟩
theorem Rows.base {Hb Hc H : Hp} {v : V} {vs : List V} {Ls : List (List Int)} (h : Rows Hc H v vs Ls) (hb : Hb.next ≤ Hc.next) : Rows Hb H v vs Ls :=
  ⟨h.b.base hb, h.l, fun i s l h1 h2 => ⟨(h.e i s l h1 h2).1.base hb, (h.e i s l h1 h2).2⟩⟩
theorem Rows.push' {Hb H : Hp} {v s : V} {vs : List V} {Ls : List (List Int)} {l : List Int} (h : Rows Hb H v vs Ls) (hX : Hb.next ≤ H.next) (hs : Buf Hb H 1 s l.length (l.map (.int .i64))) (hd : Dj v s) (hl : l.length < 2 ^ 63) :
    Rows Hb (bufH (H.new (.cells [s])) v (vs ++ [s])) (.slc (H.next + 1) 0 (vs.length + 1) (.up 1)) (vs ++ [s]) (Ls ++ [l]) := by
  obtain ⟨Hc, hc, hX'⟩ := hpBase H hX
  exact ((h.base (Nat.le_of_eq hc)).push hX' (hs.base (Nat.le_of_eq hc)) hd hl).base (Nat.le_of_eq hc.symm)
theorem Rows.nn {Hb H : Hp} {v : V} {vs : List V} {Ls : List (List Int)} (h : Rows Hb H v vs Ls) {p : Nat} (hp : p < Hb.next) : sid v ≠ some p := fun e => by
  obtain ⟨_, ⟨rfl, _⟩ | ⟨i, c, rfl, h2, _⟩⟩ := h.b
  · cases e
  · cases e
    omega
theorem pushExt {Hb G : Hp} {v z : V} {n : Nat} {cs ds : List V} (hb : Buf Hb G 1 v n cs) {A : Hp} (hA : Ext A G) (hAb : A.next ≤ Hb.next) {p2 : Nat} (hp : A.next ≤ p2) {o : Ob} : Ext A ((bufH (G.new (.cells [z])) v ds).put p2 o) := by
  refine ⟨by rw [show ((bufH (G.new (.cells [z])) v ds).put p2 o).next = (bufH (G.new (.cells [z])) v ds).next from rfl, bufH_next]; have := hA.1; show A.next ≤ G.next + 1 + 1; omega, fun p h => ?_⟩
  have hv : sid v ≠ some p := fun e => by
    obtain ⟨_, ⟨rfl, _⟩ | ⟨i, c, rfl, h2, _⟩⟩ := hb
    · cases e
    · cases e
      omega
  have h1 := hA.1
  rw [put_get, if_neg (by omega), bufH_get (by show p < G.next + 1; omega) hv, (Ext.new G _).2 p (by omega), hA.2 p h]
end Go.Vm
namespace Go.Vm.Code
open Go.Vm
variable {E : Env}
def cliC (N p2 : Nat) (H : Hp) (p : Nat) : Prop := N ≤ p ∧ ∃ n c, At H p2 (.cells [.slc p 0 n c])
structure P110 (H HL : Hp) (p2 : Nat) (s : List (List Int)) (Hx : Hp) : Prop where
  x : Ext H Hx
  n : HL.next ≤ Hx.next
  r : ∃ vo vs, At Hx p2 (.cells [vo]) ∧ Rows HL Hx vo vs s
theorem s110 (S : Std E) {f sy st o vi vw : V} {m : Mach} (hm : MachV E f sy st o m) (hh : Hdr m) (hsh : Shp m) (hrng : Rng m) (hst : stsE m none m.st = 0) {inp : List Int} {w : List Rnd} (hw : WordV E vw w) (hW : OkW m w) (hi : OkI m inp) (hvi : L1 E vi inp)
    {pm pi pw : Nat} {H : Hp} (hA : At H pm (.cells (mcells f sy st o m))) (hPi : At H pi (.cells [vi])) (hPw : At H pw (.cells [vw])) :
    CallR E 110 [.nils, .fn 111 [.ptr pm 0, .ptr pi 0, .ptr pw 0]] H (fun v H' => (∃ s, FinS m inp w s ∧ s.length < 2 ^ 63 ∧ I2 E H' v s) ∧ Ext H H') := by
  have hrr := hh.r
  have hwl := hW.1
  refine S.call (f := 110) (by decide) rfl rfl ?_
  have hB := At.new H (.cells [.nils])
  have hX1 := Ext.new H (.cells [.nils])
  refine Sq <| Rg <| O1 rfl <| O1 rfl <| On <| Sq <| Sq <| Rg <| O1 rfl <| On <| Bk <| ?_
  have hp2 : H.next < (H.new (.cells [.nils])).next := Nat.lt_succ_self _
  have hCC : ∀ H1 H2 p, Ex1 (H.new (.cells [.nils])).next H1 H2 → p < H1.next → cliC ((H.new (.cells [.nils])).next + 1) H.next H2 p → cliC ((H.new (.cells [.nils])).next + 1) H.next H1 p := by
    rintro H1 H2 p hE hp ⟨hN, n, c, h2⟩
    refine ⟨hN, n, c, ?_⟩
    have h3 : H.next < H1.next := by omega
    exact ⟨h3, by rw [← hE.2 _ h3 (Nat.ne_of_lt hp2)]; exact h2.2⟩
  refine Runs.forG (σ := List (List Int)) (fun s args s' H1 => ∃ p l, args = [.slc p 0 l.length (.ex l.length)] ∧ s' = s ++ [l] ∧ s.length ≤ w.length ∧ At H1 p (.cells (l.map (.int .i64))) ∧ (H.new (.cells [.nils])).next + 1 ≤ p ∧ ¬ cliC ((H.new (.cells [.nils])).next + 1) H.next H1 p ∧ l.length < 2 ^ 63)
    (FinS m inp w) (fun s Hx => P110 H ((H.new (.cells [.nils])).new (.cells [])) H.next s Hx ∧ s.length ≤ w.length + 1) (fun _ _ => False) (cliC ((H.new (.cells [.nils])).next + 1) H.next) hCC rfl rfl ?_ (fun o H1 H2 h _ => h.elim) ?_ ?_ ?_ (fun o H' _ h => h.elim)
  · rintro s H1 H2 ⟨⟨hx, hn, vo, vs, h1, h2⟩, hs⟩ hE
    exact ⟨⟨Ext.ex1r hx hE (Nat.le_of_lt hp2), Nat.le_trans hn hE.1, vo, vs, hE.at (Nat.ne_of_lt hp2) h1, h2.ex1 hE (Nat.lt_succ_self _)⟩, hs⟩
  · rintro s args s' H1 ⟨p, l, rfl, rfl, hsl, hC, hN, hnc, hl⟩ hL ⟨⟨hx, hn, vo, vs, hp, hR⟩, hs⟩
    refine ⟨_, rfl, ?_⟩
    have hs : s.length ≤ w.length := hsl
    refine Rg <| O1 rfl <| On <| ?_
    have ec : V.nils.cells = [.nils] := rfl
    simp only [ec] at hL ⊢
    refine ⟨?_, hL, ⟨Nat.le_refl _, fun _ _ _ _ => rfl, fun _ _ h => h⟩, ?_⟩
    · first | rfl | trivial
    generalize hLB : Ob.loop ⟨LoopState.busy, none, _, _, _, _⟩ = LB
    have e1 : Ex1 (H.new (.cells [.nils])).next H1 (H1.put (H.new (.cells [.nils])).next LB) := Ex1.put
    have hpB := e1.at (Nat.ne_of_lt hp2) hp
    have hRB := hR.ex1 e1 (Nat.lt_succ_self _)
    have hCB := e1.at (by omega) hC
    have hxB := Ext.ex1r hx e1 (Nat.le_of_lt hp2)
    have hnB : ((H.new (.cells [.nils])).new (.cells [])).next ≤ (H1.put (H.new (.cells [.nils])).next LB).next := hn
    have hvl := hR.l
    refine Bk <| Rg <| ?_
    have hLt : At (H1.put (H.new (.cells [.nils])).next LB) (H.new (.cells [.nils])).next LB := hL.put
    generalize hG : H1.put (H.new (.cells [.nils])).next LB = G at e1 hpB hRB hCB hxB hnB hLt
    have hGn : G.next = H1.next := by rw [← hG]; rfl
    refine O1 (ldA rfl hpB (by rfl)) ?_
    refine O1 rfl <| O1 rfl <| ?_
    have hvo := hRB.nn (Nat.lt_trans hp2 (Nat.lt_succ_self _))
    have hvo2 := hRB.nn (p := (H.new (.cells [.nils])).next) (Nat.lt_succ_self _)
    have hd : Dj vo (.slc p 0 l.length (.ex l.length)) := by
      intro i h1 h2
      cases h2
      apply hnc
      obtain ⟨_, ⟨rfl, _⟩ | ⟨i, c, rfl, h2, _⟩⟩ := hR.b
      · cases h1
      · cases h1
        exact ⟨hN, _, _, hp⟩
    have hBl : Buf ((H.new (.cells [.nils])).new (.cells [])) G 1 (.slc p 0 l.length (.ex l.length)) l.length (l.map (.int .i64)) := ⟨by simp, Or.inr ⟨p, _, rfl, hN, hCB, Or.inr rfl⟩⟩
    refine O1 (push1 (bytes := 24) rfl rfl hRB.b (by omega) (by omega) rfl) ?_
    have hpP := push1_obj (z := .slc p 0 l.length (.ex l.length)) hRB.b hpB hvo
    have hLP := push1_obj (z := .slc p 0 l.length (.ex l.length)) hRB.b hLt hvo2
    refine O1 (step_st rfl rfl hpP rfl rfl) ?_
    have hRP := hRB.push' hnB hBl hd hl
    refine On ?_
    refine ⟨hLP.put_ne (Nat.ne_of_gt hp2), FC.trans (B := G) ?_ ⟨?_, ?_, ?_⟩, ⟨?_, ?_, _, vs ++ [.slc p 0 l.length (.ex l.length)], At.put hpP, ?_⟩, ?_⟩
    · rw [← hG]; exact FC.put hCC (Nat.lt_succ_self _)
    · show G.next ≤ (bufH _ _ _).next
      rw [bufH_next]; show G.next ≤ G.next + 1 + 1; omega
    · intro q h1 h2 h3
      rw [put_get, if_neg (by omega), bufH_get (by show q < G.next + 1; omega), (Ext.new G _).2 q h2]
      intro h4
      apply h3
      obtain ⟨_, ⟨rfl, _⟩ | ⟨i, c, rfl, h5, _⟩⟩ := hRB.b
      · cases h4
      · cases h4
        exact ⟨h1, _, _, hpB⟩
    · rintro q hq ⟨hN', n, c, h⟩
      have h6 := (At.put hpP).2.symm.trans h.2
      cases h6
      omega
    · exact pushExt hRB.b hxB (by show H.next ≤ H.next + 1 + 1; omega) (Nat.le_refl _)
    · show _ ≤ (bufH _ _ _).next
      rw [bufH_next]
      show _ ≤ G.next + 1 + 1
      omega
    · exact hRP.ex1 Ex1.put (by show H.next < H.next + 1 + 1; omega)
    · rw [List.length_append]; exact Nat.succ_le_succ hs
  · intro hy
    have ec : V.nils.cells = [.nils] := rfl
    simp only [ec] at hy ⊢
    generalize hLO : Ob.loop ⟨LoopState.ready, none, _, _, _, _⟩ = LO at hy ⊢
    refine (it111 S hm hh hsh hrng hst hw hW hi hvi (C := cliC ((H.new (.cells [.nils])).next + 1) H.next) (N := (H.new (.cells [.nils])).next + 1) (J := fun _ => False)
      (I := fun s Hx => At Hx (H.new (.cells [.nils])).next LO ∧ P110 H ((H.new (.cells [.nils])).new (.cells [])) H.next s Hx ∧ s.length ≤ w.length + 1) ⟨?_, ?_, ?_, ?_, ?_, ?_⟩ ?_).mono ?_
    · rintro s H1 H2 ⟨aL, ⟨hx, hn, vo, vs, h1, h2⟩, hs⟩ hE
      exact ⟨hE.at aL, ⟨hx.trans hE, Nat.le_trans hn hE.1, vo, vs, hE.at h1, h2.mono hE⟩, hs⟩
    · rintro s H1 ⟨aL, ⟨hx, _⟩, hs⟩
      exact ⟨hx.at hA, hx.at hPi, hx.at hPw⟩
    · rintro s H1 ⟨aL, ⟨_, hn, _⟩, hs⟩
      exact hn
    · rintro s H1 p ⟨aL, ⟨hx, hn, vo, vs, h1, h2⟩, hs⟩ ⟨hN, n, c, h⟩
      cases h1.2.symm.trans h.2
      obtain ⟨_, ⟨h3, _⟩ | ⟨i, c, h3, h4, h5, _⟩⟩ := h2.b
      · cases h3
      · cases h3
        exact h5.1
    · rintro s H1 H2 p ⟨aL, ⟨hx, hn, vo, vs, h1, h2⟩, hs⟩ hE ⟨hN, n, c, h⟩
      exact ⟨hN, n, c, h1.1, by rw [← hE.2 _ h1.1]; exact h.2⟩
    · intro s H1 p l hsl hI hC hN hnc hl
      refine (hy s _ (s ++ [l]) H1 ⟨p, l, rfl, rfl, hsl, hC, hN, hnc, hl⟩ hI).mono ?_
      rintro u H2 ⟨hf, h | ⟨_, _, _, _, hfalse⟩⟩
      · exact ⟨hf, Or.inl h⟩
      · exact hfalse.elim
    · exact ⟨At.new _ _, ⟨hX1.trans (Ext.new _ _), Nat.le_refl _, .nils, [], (Ext.new _ _).at hB, ⟨⟨by simp, Or.inl ⟨rfl, rfl⟩⟩, rfl, by simp⟩⟩, by simp⟩
    · rintro v H' (⟨s, hF, hI⟩ | hfalse)
      · exact Or.inl ⟨s, hF, hI⟩
      · exact hfalse.elim
  · rintro s H' hF ⟨⟨hx, hn, vo, vs, hp, hR⟩, hs⟩
    refine Sq <| Rg <| O1 (ldA rfl ‹_› (by rfl)) <| O1 rfl <| On <| Rt <| ?_
    exact ⟨nr, _, rfl, ⟨s, hF, by omega, hR.i2 (by omega)⟩, hx⟩
end Go.Vm.Code

namespace Go.Vm.Code
open Go.Vm
variable {E : Env}
theorem SeqC.cells1 {α : Type} {k : Nat} {R : Nat → Nat → α → Prop} {v : V} {l : List α} (h : SeqC k R v l) : v.cells = [v] := by
  obtain ⟨_, ⟨rfl, _⟩ | ⟨b, o, c, rfl, _⟩⟩ := h <;> rfl
theorem s66 (S : Std E) {f sy st o vi vw : V} {m : Mach} (hm : MachV E f sy st o m) (hh : Hdr m) (hsh : Shp m) (hrng : Rng m) (hst : stsE m none m.st = 0) {inp : List Int} {w : List Rnd} (hw : WordV E vw w) (hW : OkW m w) (hi : OkI m inp) (hvi : L1 E vi inp)
    {pm pi pw : Nat} {H : Hp} (hA : At H pm (.cells (mcells f sy st o m))) (hPi : At H pi (.cells [vi])) (hPw : At H pw (.cells [vw])) :
    CallR E 66 [.fn 111 [.ptr pm 0, .ptr pi 0, .ptr pw 0]] H (fun v H' => (∃ s, FinS m inp w s ∧ s.length < 2 ^ 63 ∧ I2 E H' v s) ∧ Ext H H') := by
  refine S.call (f := 66) (by decide) rfl rfl ?_
  refine Sq <| Rg <| O1 rfl <| On <| Sq <| Rg <| O1 rfl <| ?_
  have tt := s110 S hm hh hsh hrng hst hw hW hi hvi hA hPi hPw
  refine CX rfl rfl tt fun v H2 hv hX2 => ?_
  clear tt
  refine O1 rfl <| On <| Rt <| ?_
  exact ⟨nr, _, rfl, hv, hX2⟩
theorem s67 (S : Std E) {f sy st o vi vw : V} {m : Mach} (h1 : vi.cells = [vi]) (h2 : vw.cells = [vw]) (H : Hp) :
    CallR E 67 [MM f sy st o m, vi, vw] H (fun v H' => (∃ pm pi pw, v = .fn 111 [.ptr pm 0, .ptr pi 0, .ptr pw 0] ∧ At H' pm (.cells (mcells f sy st o m)) ∧ At H' pi (.cells [vi]) ∧ At H' pw (.cells [vw])) ∧ Ext H H') := by
  refine S.call (f := 67) (by decide) rfl rfl ?_
  refine Sq <| Rg <| O1 rfl <| O1 rfl <| O1 rfl <| O1 rfl <| On <| Sq <| Rg <| O1 rfl <| O1 rfl <| On <| Rt <| ?_
  rw [h1, h2]
  exact ⟨nr, _, rfl, ⟨_, _, _, rfl, (Ext.new _ _).at ((Ext.new _ _).at (At.new _ _)), (Ext.new _ _).at (At.new _ _), At.new _ _⟩, ((Ext.new _ _).trans (Ext.new _ _)).trans (Ext.new _ _)⟩
/-- what a play answers -/
def PostP (E : Env) (m : Mach) (inp : List Int) (w : List Rnd) (u : V) (H : Hp) : Prop :=
  if chkE m ≠ 0 then u = .tup [.nils, .int .i64 (chkE m)]
  else if (inp.length : Int) ≠ m.n then u = .tup [.nils, .int .i64 15]
  else if inp.all (inR 0 (m.ins - 1)) = false then u = .tup [.nils, .int .i64 2]
  else if wordE m.n w ≠ 0 then u = .tup [.nils, .int .i64 (wordE m.n w)]
  else if (w.length : Int) ≠ m.r then u = .tup [.nils, .int .i64 15]
  else PostR E m inp w u H
theorem gE_ok {n : Int} : ∀ (l : List Int) (q : Nat), gE n q l = 0 → ∀ p : Nat, p < l.length → ((q + p : Nat) : Int) < n → 0 ≤ l.getD p 0 ∧ l.getD p 0 ≤ 2 ^ n.toNat - 1
  | [], _, _, p, hp, _ => by cases hp
  | h :: l, q, he, p, hp, hn => by
    rw [gE] at he
    have hge : ¬ (q : Int) ≥ n := by omega
    rw [if_neg hge] at he
    split at he
    · cases he
    · rename_i hr
      split at he
      · cases he
      · cases p with
        | zero => simp only [List.getD_cons_zero]; omega
        | succ p =>
          simp only [List.getD_cons_succ]
          exact gE_ok l (q + 1) he p (by simpa using hp) (by omega)
theorem wE_ok {n : Int} : ∀ (l : List Rnd) (b : Int), wE n b l = 0 → ∀ r ∈ l, rndE r = 0 ∧ r.n = n
  | [], _, _, r, hr => by cases hr
  | x :: l, b, he, r, hr => by
    rw [wE] at he
    split at he
    · rename_i h; exact absurd he h
    · rename_i h1
      split at he
      · cases he
      · rename_i h2
        split at he
        · cases he
        · cases hr with
          | head => exact ⟨by simpa using h1, by simpa using h2⟩
          | tail _ hr => exact wE_ok l _ he r hr
theorem okW {m : Mach} (hh : Hdr m) {w : List Rnd} (h : wordE m.n w = 0) (hl : (w.length : Int) = m.r) : OkW m w := by
  refine ⟨hl, fun r hr p hp => ?_⟩
  have hn := hh.n
  rw [wordE] at h
  split at h
  · rename_i h1; exact absurd h h1
  · split at h
    · cases h
    · obtain ⟨h1, h2⟩ := wE_ok _ _ h r hr
      have hg : graphE r = 0 := by
        rw [rndE] at h1
        split at h1
        · rename_i h3; exact absurd h1 h3
        · rename_i h3; simpa using h3
      rw [graphE] at hg
      split at hg
      · cases hg
      · have hp5 : p < r.hs.length := by simp [Rnd.hs]; omega
        have := gE_ok r.hs 0 hg p hp5 (by omega)
        have h5 : (2 : Int) ^ r.n.toNat ≤ 2 ^ 5 := by
          have : r.n.toNat ≤ 5 := by omega
          exact_mod_cast Nat.pow_le_pow_right (by decide) this
        omega
theorem okI {m : Mach} {inp : List Int} (hl : (inp.length : Int) = m.n) (h : inp.all (inR 0 (m.ins - 1)) = true) : OkI m inp := by
  refine ⟨hl, fun p hp => ?_⟩
  have h1 := List.all_eq_true.1 h (inp.getD p 0) (by rw [List.getD_eq_getElem?_getD, List.getElem?_eq_getElem hp]; exact List.getElem_mem hp)
  have := inR_iff.1 h1
  omega
end Go.Vm.Code

namespace Go.Vm.Code
open Go.Vm
variable {E : Env}
theorem runE_len {m : Mach} {inp : List Int} {w : List Rnd} {L : List (List Int)} (h : runE m inp w = some L) : L.length = w.length + 1 := by
  unfold runE at h
  split at h
  · cases h
  · simp only [Option.map_eq_some_iff] at h
    obtain ⟨l, h1, rfl⟩ := h
    rw [List.length_cons, runS_len h1]
theorem s21 (S : Std E) {f sy st o vi vw : V} {m : Mach} (hm : MachV E f sy st o m) {inp : List Int} {w : List Rnd} (hvi : L1 E vi inp) (hw : WordV E vw w) (H : Hp) :
    CallR E 21 [MM f sy st o m, vi, vw] H (fun u H' => PostP E m inp w u H' ∧ Ext H H') := by
  refine S.call (f := 21) (by decide) rfl rfl ?_
  have hA := At.new H (.cells (mcells f sy st o m))
  have hX := Ext.new H (.cells (mcells f sy st o m))
  have hvi1 := SeqC.cells1 hvi
  have hvw1 := SeqC.cells1 hw
  refine Sq <| Rg <| O1 rfl <| O1 rfl <| O1 rfl <| On <| Sq <| Sq <| Rg <| O1 (ldNA rfl ‹_› (by rfl)) <| ?_
  have tt := s15 S hm (H.new (.cells (mcells f sy st o m)))
  refine CE rfl rfl tt fun H2 hX2 => ?_
  clear tt
  refine O1 rfl <| On <| Sq <| Rg <| O1 rfl <| O1 rfl <| On <| ?_
  have hA2 := hX2.at hA
  have hXX := hX.trans hX2
  refine Runs.cond rfl (fun h1 => ?_) (fun h1 => ?_)
  · have h1 : chkE m ≠ 0 := by simpa using h1
    refine Sq <| Rg <| O1 rfl <| O1 rfl <| O1 rfl <| On <| Rt <| ?_
    exact ⟨nr, _, rfl, by rw [PostP, if_pos h1]; rfl, hXX⟩
  have h1 : ¬ chkE m ≠ 0 := by simpa using h1
  obtain ⟨hh, hsh, hrng, hst, _⟩ := chk_zero (by simpa using h1)
  have hn := hh.n
  have hr := hh.r
  have hi8 := hh.i
  refine Sk <| Sq <| Bk <| Sq <| Rg <| O1 rfl <| O1 (lnS rfl ‹_›) <| O1 rfl <| O1 (ldA rfl ‹_› (by rfl)) <| O1 rfl <| O1 rfl <| On <| ?_
  refine Runs.cond rfl (fun h2 => ?_) (fun h2 => ?_)
  · have h2 : (inp.length : Int) ≠ m.n := by simpa using h2
    refine Sq <| Rg <| O1 rfl <| O1 rfl <| On <| Rt <| ?_
    exact ⟨nr, _, rfl, by rw [PostP, if_neg h1, if_pos h2]; rfl, hXX⟩
  have h2 : ¬ (inp.length : Int) ≠ m.n := by simpa using h2
  refine Sq <| Rg <| O1 rfl <| O1 rfl <| O1 (ldA rfl ‹_› (by rfl)) <| O1 (subL rfl rfl (by omega)) <| ?_
  have tt := s64 S.f64 hvi 0 (m.ins - 1) H2
  refine CE rfl rfl tt fun H3 hX3 => ?_
  clear tt
  refine O1 rfl <| O1 rfl <| On <| ?_
  have hA3 := hX3.at hA2
  have hXY := hXX.trans hX3
  cases h3 : inp.all (inR 0 (m.ins - 1)) with
  | false =>
    refine CT rfl <| Sq <| Rg <| O1 rfl <| O1 rfl <| On <| Rt <| ?_
    exact ⟨nr, _, rfl, by rw [PostP, if_neg h1, if_neg h2, if_pos h3]; rfl, hXY⟩
  | true =>
  have hOI := okI (by simpa using h2) h3
  have h3' : ¬ inp.all (inR 0 (m.ins - 1)) = false := by rw [h3]; decide
  refine CF rfl <| Sk <| Sq <| Sq <| Rg <| O1 rfl <| O1 (ldA rfl ‹_› (by rfl)) <| O1 rfl <| ?_
  have tt := s65 S m.n hvw1 hw H3
  refine CE rfl rfl tt fun H4 hX4 => ?_
  clear tt
  refine O1 rfl <| On <| Sq <| Rg <| O1 rfl <| O1 rfl <| On <| ?_
  have hA4 := hX4.at hA3
  have hXZ := hXY.trans hX4
  refine Runs.cond rfl (fun h4 => ?_) (fun h4 => ?_)
  · have h4 : wordE m.n w ≠ 0 := by simpa using h4
    refine Sq <| Rg <| O1 rfl <| O1 rfl <| O1 rfl <| On <| Rt <| ?_
    exact ⟨nr, _, rfl, by rw [PostP, if_neg h1, if_neg h2, if_neg h3', if_pos h4]; rfl, hXZ⟩
  have h4 : ¬ wordE m.n w ≠ 0 := by simpa using h4
  refine Sk <| Sq <| Sq <| Rg <| O1 rfl <| O1 (lnS rfl ‹_›) <| O1 rfl <| O1 (ldA rfl ‹_› (by rfl)) <| O1 rfl <| On <| ?_
  refine Runs.cond rfl (fun h5 => ?_) (fun h5 => ?_)
  · have h5 : (w.length : Int) ≠ m.r := by simpa using h5
    refine Sq <| Rg <| O1 rfl <| O1 rfl <| On <| Rt <| ?_
    exact ⟨nr, _, rfl, by rw [PostP, if_neg h1, if_neg h2, if_neg h3', if_neg h4, if_pos h5]; rfl, hXZ⟩
  have h5 : ¬ (w.length : Int) ≠ m.r := by simpa using h5
  have hOW := okW hh (by simpa using h4) (by simpa using h5)
  refine Sk <| Sq <| Rg <| O1 (ldNA rfl ‹_› (by rfl)) <| O1 rfl <| O1 rfl <| ?_
  have tt := s67 S (f := f) (sy := sy) (st := st) (o := o) (m := m) hvi1 hvw1 H4
  refine CX rfl rfl tt fun v5 H5 hv5 hX5 => ?_
  clear tt
  obtain ⟨pm, pi, pw, rfl, a1, a2, a3⟩ := hv5
  have hA5 := hX5.at hA4
  have tt := s66 S hm hh hsh hrng hst hw hOW hOI hvi a1 a2 a3
  refine CX rfl rfl tt fun v6 H6 hv6 hX6 => ?_
  clear tt
  refine O1 rfl <| On <| Sq <| Sq <| Rg <| O1 rfl <| ?_
  obtain ⟨s, hF, hsl, hI⟩ := hv6
  have hA6 := hX6.at hA5
  have hXW := (hXZ.trans hX5).trans hX6
  have hlen := hI.2.1
  have hPP : ∀ {u : V} {Hx : Hp}, PostR E m inp w u Hx → PostP E m inp w u Hx := fun h => by rw [PostP, if_neg h1, if_neg h2, if_neg h3', if_neg h4, if_neg h5]; exact h
  refine O1 (lnL rfl ‹_›) <| O1 rfl <| O1 (ldA rfl ‹_› (by rfl)) <| O1 (addL rfl rfl (by omega)) <| O1 rfl <| On <| ?_
  refine Runs.cond rfl (fun h6 => ?_) (fun h6 => ?_)
  · have h6 : (s.length : Int) ≠ m.r + 1 := by simpa using h6
    have hnone : runE m inp w = none := by
      rcases hF with hF | hF
      · have := runE_len hF; omega
      · exact hF.1
    refine Sq <| Rg <| O1 rfl <| O1 rfl <| On <| Rt <| ?_
    exact ⟨nr, _, rfl, hPP (by unfold PostR; rw [hnone]; rfl), hXW⟩
  have h6 : (s.length : Int) = m.r + 1 := by simpa using h6
  have hsome : runE m inp w = some s := by
    rcases hF with hF | hF
    · exact hF
    · have := hF.2; omega
  refine Sk <| Sq <| Rg <| O1 rfl <| O1 rfl <| O1 rfl <| On <| Rt <| ?_
  exact ⟨nr, _, rfl, hPP (by unfold PostR; rw [hsome]; exact ⟨v6, rfl, hI⟩), hXW⟩

theorem s22 (S : Std E) {f sy st o vi vw : V} {m : Mach} (hm : MachV E f sy st o m) {inp : List Int} {w : List Rnd} (hvi : L1 E vi inp) (hw : WordV E vw w) (H : Hp) :
    CallR E 22 [MM f sy st o m, vi, vw] H (fun u H' => PostP E m inp w u H' ∧ Ext H H') := by
  refine S.call (f := 22) (by decide) rfl rfl ?_
  have hA := At.new H (.cells (mcells f sy st o m))
  have hX := Ext.new H (.cells (mcells f sy st o m))
  refine Sq <| Rg <| O1 rfl <| O1 rfl <| O1 rfl <| On <| Sq <| Sq <| Rg <| O1 (ldNA rfl ‹_› (by rfl)) <| ?_
  have tt := s16 S hm (H.new (.cells (mcells f sy st o m)))
  refine CE rfl rfl tt fun H2 hX2 => ?_
  clear tt
  refine O1 rfl <| On <| Sq <| Rg <| O1 rfl <| O1 rfl <| On <| ?_
  have hA2 := hX2.at hA
  have hXX := hX.trans hX2
  refine Runs.cond rfl (fun h1 => ?_) (fun h1 => ?_)
  · have h1 : chkE m ≠ 0 := by simpa using h1
    refine Sq <| Rg <| O1 rfl <| O1 rfl <| O1 rfl <| On <| Rt <| ?_
    exact ⟨nr, _, rfl, by rw [PostP, if_pos h1]; rfl, hXX⟩
  have h1 : ¬ chkE m ≠ 0 := by simpa using h1
  obtain ⟨hh, hsh, hrng, hst, _⟩ := chk_zero (by simpa using h1)
  have hn := hh.n
  have hr := hh.r
  have hi8 := hh.i
  refine Sk <| Sq <| Sq <| Rg <| O1 rfl <| O1 (lnS rfl ‹_›) <| O1 rfl <| O1 (ldA rfl ‹_› (by rfl)) <| O1 rfl <| On <| ?_
  refine Runs.cond rfl (fun h2 => ?_) (fun h2 => ?_)
  · have h2 : (inp.length : Int) ≠ m.n := by simpa using h2
    refine Sq <| Rg <| O1 rfl <| O1 rfl <| On <| Rt <| ?_
    exact ⟨nr, _, rfl, by rw [PostP, if_neg h1, if_pos h2]; rfl, hXX⟩
  have h2 : ¬ (inp.length : Int) ≠ m.n := by simpa using h2
  refine Sk <| Sq <| Sq <| Rg <| O1 rfl <| O1 rfl <| O1 (ldA rfl ‹_› (by rfl)) <| O1 (subL rfl rfl (by omega)) <| ?_
  have tt := s68 S.prim (S.fn rfl) (S.fn rfl) hvi 0 (m.ins - 1) H2
  refine CQ rfl rfl tt ?_
  clear tt
  refine O1 rfl <| On <| ?_
  cases h3 : inp.all (inR 0 (m.ins - 1)) with
  | false =>
    refine CT rfl <| Sq <| Rg <| O1 rfl <| O1 rfl <| On <| Rt <| ?_
    exact ⟨nr, _, rfl, by rw [PostP, if_neg h1, if_neg h2, if_pos h3]; rfl, hXX⟩
  | true =>
  have hOI := okI (by simpa using h2) h3
  have h3' : ¬ inp.all (inR 0 (m.ins - 1)) = false := by rw [h3]; decide
  refine CF rfl <| Sk <| Sq <| Sq <| Rg <| O1 rfl <| O1 (ldA rfl ‹_› (by rfl)) <| O1 rfl <| ?_
  have tt := s69 S m.n hw H2
  refine CE rfl rfl tt fun H4 hX4 => ?_
  clear tt
  refine O1 rfl <| On <| Sq <| Rg <| O1 rfl <| O1 rfl <| On <| ?_
  have hA4 := hX4.at hA2
  have hXZ := hXX.trans hX4
  refine Runs.cond rfl (fun h4 => ?_) (fun h4 => ?_)
  · have h4 : wordE m.n w ≠ 0 := by simpa using h4
    refine Sq <| Rg <| O1 rfl <| O1 rfl <| O1 rfl <| On <| Rt <| ?_
    exact ⟨nr, _, rfl, by rw [PostP, if_neg h1, if_neg h2, if_neg h3', if_pos h4]; rfl, hXZ⟩
  have h4 : ¬ wordE m.n w ≠ 0 := by simpa using h4
  refine Sk <| Sq <| Sq <| Rg <| O1 rfl <| O1 (lnS rfl ‹_›) <| O1 rfl <| O1 (ldA rfl ‹_› (by rfl)) <| O1 rfl <| On <| ?_
  refine Runs.cond rfl (fun h5 => ?_) (fun h5 => ?_)
  · have h5 : (w.length : Int) ≠ m.r := by simpa using h5
    refine Sq <| Rg <| O1 rfl <| O1 rfl <| On <| Rt <| ?_
    exact ⟨nr, _, rfl, by rw [PostP, if_neg h1, if_neg h2, if_neg h3', if_neg h4, if_pos h5]; rfl, hXZ⟩
  have h5 : ¬ (w.length : Int) ≠ m.r := by simpa using h5
  have hOW := okW hh (by simpa using h4) (by simpa using h5)
  refine Sk <| Sq <| Rg <| O1 (ldNA rfl ‹_› (by rfl)) <| O1 rfl <| O1 rfl <| ?_
  have tt := s70 S hm hh hsh hrng hst hw hOW hOI (H := H4) hvi.i
  refine CX rfl rfl tt fun u5 H5 hu5 hX5 => ?_
  clear tt
  have hXW := hXZ.trans hX5
  have hPP : ∀ {u : V} {Hx : Hp}, PostR E m inp w u Hx → PostP E m inp w u Hx := fun h => by rw [PostP, if_neg h1, if_neg h2, if_neg h3', if_neg h4, if_neg h5]; exact h
  have hu6 := hPP hu5
  unfold PostR at hu5
  cases hrun : runE m inp w with
  | none =>
    rw [hrun] at hu5
    cases hu5
    refine O1 rfl <| O1 rfl <| O1 rfl <| O1 rfl <| On <| Rt <| ?_
    exact ⟨nr, _, rfl, hu6, hXW⟩
  | some L =>
    rw [hrun] at hu5
    obtain ⟨v, rfl, hI⟩ := hu5
    refine O1 rfl <| O1 rfl <| O1 rfl <| O1 rfl <| On <| Rt <| ?_
    exact ⟨nr, _, rfl, hu6, hXW⟩
end Go.Vm.Code

namespace Go.Vm.Code
open Go.Vm
variable {E : Env}
theorem drop_get {α : Type} {l : List α} {i : Nat} (h : i < l.length) : l.drop i = l[i] :: l.drop (i + 1) := List.drop_eq_getElem_cons h
theorem s41 (S : Std E) {v u : V} {a b : List Int} {H : Hp} (ha : I1 E H v a) (hb : I1 E H u b) : CallR E 41 [v, u] H (fun w H' => w = .bool (decide (a = b)) ∧ H' = H) := by
  refine S.call (f := 41) (by decide) rfl rfl ?_
  have hal := ha.1
  have hbl := hb.1
  refine Sq <| Rg <| O1 rfl <| On <| Sq <| Sq <| Rg <| O1 rfl <| O1 (lnL rfl ‹_›) <| O1 rfl <| O1 (lnL rfl ‹_›) <| O1 rfl <| On <| ?_
  refine Runs.cond rfl (fun h1 => ?_) (fun h1 => ?_)
  · have h1 : (a.length : Int) ≠ b.length := by simpa using h1
    refine Sq <| Rg <| O1 rfl <| On <| Rt <| ?_
    exact ⟨nr, _, rfl, by rw [decide_eq_false (fun h => h1 (by rw [h]))]; rfl, rfl⟩
  have h1 : (a.length : Int) = b.length := by simpa using h1
  refine Sk <| Sq <| Sq <| Rg <| O1 rfl <| O1 (lnL rfl ‹_›) <| O1 rfl <| On <| Bk <| ?_
  refine Runs.loopS (σ := Nat) (fun i => [(0, v), (1, u), (12, .int .i64 a.length), (13, .int .i64 i)]) (fun i H' => i ≤ a.length ∧ H' = H ∧ a.take i = b.take i) (fun i => a.length - i) ?_ 0 _ _ rfl ⟨Nat.zero_le _, rfl, rfl⟩
  rintro i H1 ⟨hi, rfl, hno⟩
  refine Sq <| Rg <| O1 rfl <| On <| Sq <| ?_
  refine Runs.cond rfl (fun hc => ?_) (fun hc => ?_)
  · have hlt : i < a.length := by simpa using hc
    have hlb : i < b.length := by omega
    refine Sk <| Sq <| Bk <| Sq <| Rg <| O1 rfl <| O1 rfl <| On <| Sq <| Dg <| D1 rfl <| D1 rfl <| D1 (ixL rfl rfl ‹_› ‹_›) <| D1 (ldI rfl ‹_› ‹_›) <| D1 rfl <| D1 rfl <|
      D1 (ixL rfl rfl ‹_› ‹_›) <| D1 (ldI rfl ‹_› ‹_›) <| D1 rfl <| Dn <| ?_
    cases hne : a[i] != b[i] with
    | true =>
      have hne : a[i] ≠ b[i] := by simpa using hne
      refine CT rfl <| Sq <| Rg <| O1 rfl <| On <| Rt <| ?_
      exact ⟨nr, _, rfl, by rw [decide_eq_false (fun h => hne (by subst h; rfl))]; rfl, rfl⟩
    | false =>
      have heq : a[i] = b[i] := by simpa using hne
      refine CF rfl <| Sk <| Rg <| O1 (addN rfl rfl (by omega)) <| O1 rfl <| On <| ?_
      exact ⟨i + 1, Nat.sub_lt_sub_left hlt (Nat.lt_succ_self i), rfl, by omega, rfl, by rw [List.take_add_one, List.take_add_one, List.getElem?_eq_getElem hlt, List.getElem?_eq_getElem hlb, hno, heq]⟩
  · have hlt : ¬ i < a.length := by simpa using hc
    refine Xt <| Sq <| Rg <| O1 rfl <| On <| Rt <| ?_
    have hab : a = b := by
      rw [List.take_of_length_le (by omega), List.take_of_length_le (by omega)] at hno
      exact hno
    exact ⟨nr, _, rfl, by rw [decide_eq_true hab]; rfl, rfl⟩

theorem s72 (S : Std E) {v u : V} {a b : List Int} {H : Hp} (ha : I1 E H v a) (hb : I1 E H u b) : CallR E 72 [v, u] H (fun w H' => w = .bool (decide (a = b)) ∧ H' = H) := by
  refine S.call (f := 72) (by decide) rfl rfl ?_
  refine Sq <| Rg <| O1 rfl <| On <| Sq <| Rg <| O1 rfl <| O1 rfl <| ?_
  have tt := s41 S ha hb
  refine CQ rfl rfl tt ?_
  clear tt
  refine O1 rfl <| On <| Rt <| ?_
  exact ⟨nr, _, rfl, rfl, rfl⟩
/-- lists of lists: the same -/
theorem s71 (S : Std E) {v u : V} {a b : List (List Int)} {H : Hp} (ha : I2 E H v a) (hb : I2 E H u b) : CallR E 71 [v, u, .fn 72 []] H (fun w H' => w = .bool (decide (a = b)) ∧ H' = H) := by
  refine S.call (f := 71) (by decide) rfl rfl ?_
  have hal := ha.1
  have hbl := hb.1
  refine Sq <| Rg <| O1 rfl <| On <| Sq <| Sq <| Rg <| O1 rfl <| O1 (lnL rfl ‹_›) <| O1 rfl <| O1 (lnL rfl ‹_›) <| O1 rfl <| On <| ?_
  refine Runs.cond rfl (fun h1 => ?_) (fun h1 => ?_)
  · have h1 : (a.length : Int) ≠ b.length := by simpa using h1
    refine Sq <| Rg <| O1 rfl <| On <| Rt <| ?_
    exact ⟨nr, _, rfl, by rw [decide_eq_false (fun h => h1 (by rw [h]))]; rfl, rfl⟩
  have h1 : (a.length : Int) = b.length := by simpa using h1
  refine Sk <| Sq <| Sq <| Rg <| O1 rfl <| O1 (lnL rfl ‹_›) <| O1 rfl <| On <| Bk <| ?_
  refine Runs.loopS (σ := Nat) (fun i => [(1, u), (2, .fn 72 []), (15, v), (16, .int .i64 a.length), (17, .int .i64 i)]) (fun i H' => i ≤ a.length ∧ H' = H ∧ a.take i = b.take i) (fun i => a.length - i) ?_ 0 _ _ rfl ⟨Nat.zero_le _, rfl, rfl⟩
  rintro i H1 ⟨hi, rfl, hno⟩
  refine Sq <| Rg <| O1 rfl <| On <| Sq <| ?_
  refine Runs.cond rfl (fun hc => ?_) (fun hc => ?_)
  · have hlt : i < a.length := by simpa using hc
    have hlb : i < b.length := by omega
    have hxa : a[i]? = some a[i] := List.getElem?_eq_getElem hlt
    have hxb : b[i]? = some b[i] := List.getElem?_eq_getElem hlb
    obtain ⟨x, hcx, hrx⟩ := ha.val hxa
    obtain ⟨y, hcy, hry⟩ := hb.val hxb
    refine Sk <| Sq <| Bk <| Sq <| Rg <| O1 rfl <| O1 (ixL rfl rfl ‹_› ‹_›) <| O1 (ldP rfl ‹_›) <| O1 rfl <| O1 rfl <| On <| Sq <| Rg <| O1 rfl <| O1 rfl <| O1 (ixL rfl rfl ‹_› ‹_›) <|
      O1 (ldP rfl ‹_›) <| O1 rfl <| On <| Sq <| Rg <| O1 rfl <| O1 rfl <| O1 rfl <| ?_
    refine OpsR.call rfl rfl (ValR.fn (CallR.mono (s72 S hrx hry) ?_))
    rintro _ _ ⟨rfl, rfl⟩
    refine O1 rfl <| On <| ?_
    cases hne : decide (a[i] = b[i]) with
    | false =>
      have hne : a[i] ≠ b[i] := by simpa using hne
      refine CT rfl <| Sq <| Rg <| O1 rfl <| On <| Rt <| ?_
      exact ⟨nr, _, rfl, by rw [decide_eq_false (fun h => hne (by subst h; rfl))]; rfl, rfl⟩
    | true =>
      have heq : a[i] = b[i] := by simpa using hne
      refine CF rfl <| Sk <| Rg <| O1 (addN rfl rfl (by omega)) <| O1 rfl <| On <| ?_
      exact ⟨i + 1, Nat.sub_lt_sub_left hlt (Nat.lt_succ_self i), rfl, by omega, rfl, by rw [List.take_add_one, List.take_add_one, List.getElem?_eq_getElem hlt, List.getElem?_eq_getElem hlb, hno, heq]⟩
  · have hlt : ¬ i < a.length := by simpa using hc
    refine Xt <| Sq <| Rg <| O1 rfl <| On <| Rt <| ?_
    have hab : a = b := by
      rw [List.take_of_length_le (by omega), List.take_of_length_le (by omega)] at hno
      exact hno
    exact ⟨nr, _, rfl, by rw [decide_eq_true hab]; rfl, rfl⟩
theorem s23 (S : Std E) {v u : V} {a b : List (List Int)} {H : Hp} (ha : I2 E H v a) (hb : I2 E H u b) : CallR E 23 [v, u] H (fun w H' => w = .bool (decide (a = b)) ∧ H' = H) := by
  refine S.call (f := 23) (by decide) rfl rfl ?_
  refine Sq <| Rg <| O1 rfl <| On <| Sq <| Rg <| O1 rfl <| O1 rfl <| ?_
  have tt := s71 S ha hb
  refine CQ rfl rfl tt ?_
  clear tt
  refine O1 rfl <| On <| Rt <| ?_
  exact ⟨nr, _, rfl, rfl, rfl⟩
end Go.Vm.Code

namespace Go.Vm.Code
open Go.Vm
variable {E : Env}
theorem I2.nil {H : Hp} : I2 E H .nils [] := ⟨by simp, rfl, fun i x h => by simp at h⟩
/-- a play's answer: the states, the error -/
noncomputable def playE (m : Mach) (inp : List Int) (w : List Rnd) : List (List Int) × Int :=
  if chkE m ≠ 0 then ([], chkE m) else if (inp.length : Int) ≠ m.n then ([], 15) else if inp.all (inR 0 (m.ins - 1)) = false then ([], 2)
  else if wordE m.n w ≠ 0 then ([], wordE m.n w) else if (w.length : Int) ≠ m.r then ([], 15) else match runE m inp w with | none => ([], 20) | some L => (L, 0)
theorem PostP.one {m : Mach} {inp : List Int} {w : List Rnd} {u : V} {H : Hp} (h : PostP E m inp w u H) : ∃ x, u = .tup [x, .int .i64 (playE m inp w).2] ∧ I2 E H x (playE m inp w).1 := by
  unfold PostP at h
  unfold playE
  split at h
  · rename_i h1; rw [if_pos h1]; exact ⟨_, h, I2.nil⟩
  rename_i h1; rw [if_neg h1]
  split at h
  · rename_i h1; rw [if_pos h1]; exact ⟨_, h, I2.nil⟩
  rename_i h1; rw [if_neg h1]
  split at h
  · rename_i h1; rw [if_pos h1]; exact ⟨_, h, I2.nil⟩
  rename_i h1; rw [if_neg h1]
  split at h
  · rename_i h1; rw [if_pos h1]; exact ⟨_, h, I2.nil⟩
  rename_i h1; rw [if_neg h1]
  split at h
  · rename_i h1; rw [if_pos h1]; exact ⟨_, h, I2.nil⟩
  rename_i h1; rw [if_neg h1]
  unfold PostR at h
  cases hr : runE m inp w with
  | none => rw [hr] at h; exact ⟨_, h, I2.nil⟩
  | some L => rw [hr] at h; exact h
theorem s5 (S : Std E) {f sy st o vi vw : V} {m : Mach} (hm : MachV E f sy st o m) {inp : List Int} {w : List Rnd} (hvi : L1 E vi inp) (hw : WordV E vw w) (H : Hp) :
    CallR E 5 [MM f sy st o m, vi, vw] H (fun u H' => u = .bool true ∧ Ext H H') := by
  refine S.call (f := 5) (by decide) rfl rfl ?_
  have hA := At.new H (.cells (mcells f sy st o m))
  have hX := Ext.new H (.cells (mcells f sy st o m))
  refine Sq <| Rg <| O1 rfl <| O1 rfl <| On <| Sq <| Sq <| Rg <| O1 (ldNA rfl ‹_› (by rfl)) <| ?_
  have tt := s11 S hm (H.new (.cells (mcells f sy st o m)))
  refine CX rfl rfl tt fun b H2 hb hX2 => ?_
  clear tt
  obtain ⟨bb, rfl, _⟩ := hb
  have hA2 := hX2.at hA
  have hXX := hX.trans hX2
  cases bb with
  | false =>
    refine O1 rfl <| O1 rfl <| ON rfl <| ON rfl <| ON rfl <| O1 rfl <| O1 rfl <| ON rfl <| ON rfl <| ON rfl <| O1 rfl <| On <| CT rfl <| Sq <| Rg <| ?_
    have tt := S.awake H2
    refine CQ rfl rfl tt ?_
    clear tt
    refine O1 rfl <| On <| Rt <| ?_
    exact ⟨nr, _, rfl, rfl, hXX⟩
  | true =>
  refine O1 rfl <| O1 rfl <| OY rfl rfl <| OY rfl (lnS rfl ‹_›) <| OY rfl rfl <| O1 rfl <| O1 rfl <| ?_
  cases h1 : decide (((inp.length : Nat) : Int) > Int.ofNat 20) with
  | true =>
    refine ON rfl <| ON rfl <| ON rfl <| O1 rfl <| On <| CT rfl <| Sq <| Rg <| ?_
    have tt := S.awake H2
    refine CQ rfl rfl tt ?_
    clear tt
    refine O1 rfl <| On <| Rt <| ?_
    exact ⟨nr, _, rfl, rfl, hXX⟩
  | false =>
  refine OY rfl rfl <| OY rfl (lnS rfl ‹_›) <| OY rfl rfl <| O1 rfl <| On <| ?_
  cases h2 : decide (((w.length : Nat) : Int) > Int.ofNat 20) with
  | true =>
    refine CT rfl <| Sq <| Rg <| ?_
    have tt := S.awake H2
    refine CQ rfl rfl tt ?_
    clear tt
    refine O1 rfl <| On <| Rt <| ?_
    exact ⟨nr, _, rfl, rfl, hXX⟩
  | false =>
  refine CF rfl <| Sk <| Sq <| Rg <| O1 (ldNA rfl ‹_› (by rfl)) <| O1 rfl <| O1 rfl <| ?_
  have tt := s21 S hm hvi hw H2
  refine CX rfl rfl tt fun u3 H3 hu3 hX3 => ?_
  clear tt
  refine O1 rfl <| ?_
  have hA3 := hX3.at hA2
  obtain ⟨x3, rfl, hx3⟩ := hu3.one
  refine O1 rfl <| O1 rfl <| O1 rfl <| O1 rfl <| On <| Sq <| Rg <| O1 (ldNA rfl ‹_› (by rfl)) <| O1 rfl <| O1 rfl <| ?_
  have tt := s22 S hm hvi hw H3
  refine CX rfl rfl tt fun u4 H4 hu4 hX4 => ?_
  clear tt
  refine O1 rfl <| ?_
  obtain ⟨x4, rfl, hx4⟩ := hu4.one
  have hy3 := hx3.mono hX4
  have hXY := (hXX.trans hX3).trans hX4
  refine O1 rfl <| O1 rfl <| O1 rfl <| O1 rfl <| On <| Sq <| Rg <| ?_
  have tt := S.awake H4
  refine CQ rfl rfl tt ?_
  clear tt
  refine O1 rfl <| OY rfl rfl <| OY rfl rfl <| ?_
  have tt := s23 S hy3 hx4
  refine CQT rfl rfl rfl tt ?_
  clear tt
  refine O1 rfl <| O1 rfl <| ?_
  have e1 : decide ((playE m inp w).1 = (playE m inp w).1) = true := decide_eq_true rfl
  have e2 : ((playE m inp w).2 == (playE m inp w).2) = true := by simp
  rw [e1]
  refine OY rfl rfl <| OY rfl rfl <| OY rfl rfl <| O1 rfl <| O1 rfl <| On <| Rt <| ?_
  exact ⟨nr, _, rfl, by rw [← e2]; rfl, hXY⟩
end Go.Vm.Code
