/-
  A run of the abstract machine is a run of the model. Conditions: none beyond those that each statement names.
-/
import Derived.Test.YtflgecobobgpcaaGreatPVF
import Derived.RowKit3
namespace Go.Vm
section
variable {P : Program} {E : Env} {N0 : Nat}

theorem look_zip : ∀ (vs : List V) (i t : Nat), look (zipRegs i vs) t = if i ≤ t then vs[t - i]? else none
  | [], i, t => by simp [zipRegs, look]
  | v :: vs, i, t => by
    simp only [zipRegs, look_cons, look_zip vs (i + 1) t]
    by_cases h : i = t
    · subst h; simp
    · by_cases h2 : i ≤ t
      · have h3 : i + 1 ≤ t := by omega
        obtain ⟨k, rfl⟩ : ∃ k, t = i + 1 + k := ⟨t - (i + 1), by omega⟩
        simp only [h, if_false, h3, h2, if_true, Nat.add_sub_cancel_left]
        rw [show i + 1 + k - i = k + 1 from by omega, List.getElem?_cons_succ]
      · have h3 : ¬ i + 1 ≤ t := by omega
        simp [h, h2, h3]

theorem zip_sound {M : LM} {vs : List V} {xs : List Value} (h : VRL M vs xs) (n : Nat) : RR M (zipRegs 0 vs) (xs.toArray ++ Array.replicate n undef) := by
  intro t v hv
  rw [look_zip] at hv
  simp only [Nat.zero_le, if_true, Nat.sub_zero] at hv
  obtain ⟨x, hx, hvx⟩ := h.get t v hv
  refine ⟨x, ?_, hvx⟩
  have hlt := (List.getElem?_eq_some_iff.1 hx).1
  rw [Array.getElem?_append_left (by simpa using hlt)]
  simpa using hx

theorem setParams_sound {M : LM} : ∀ (ps : List Nat) (vs : List V) (xs : List Value) (r r' : Regs) (tmps : Array Value), VRL M vs xs → setParams r ps vs = some r' → RR M r tmps → (∀ p ∈ ps, p < tmps.size) →
    RR M r' ((ps.zip xs).foldl (fun tmps (t, a) => tmps.setIfInBounds t a) tmps) ∧ ((ps.zip xs).foldl (fun tmps (t, a) => tmps.setIfInBounds t a) tmps).size = tmps.size ∧ ps.length = xs.length
  | [], [], _, r, r', tmps, h, e, hr, _ => by cases h; simp only [setParams, Option.some.injEq] at e; subst e; exact ⟨hr, rfl, rfl⟩
  | [], _ :: _, _, _, _, _, _, e, _, _ => by simp [setParams] at e
  | _ :: _, [], _, _, _, _, _, e, _, _ => by simp [setParams] at e
  | p :: ps, v :: vs, _, r, r', tmps, ⟨x, xs, hv, hvs, rfl⟩, e, hr, hb => by
    simp only [setParams] at e
    simp only [List.zip_cons_cons, List.foldl_cons]
    have hp := RR.put (a := { tmps := tmps, defers := [] }) (dst := some p) hr hv (fun d hd => by cases hd; exact hb p (by simp))
    obtain ⟨h1, h2, h3⟩ := setParams_sound ps vs xs _ r' (tmps.setIfInBounds p x) hvs e hp (fun q hq => by simp; exact hb q (by simp [hq]))
    exact ⟨h1, by rw [h2]; simp, by simp [h3]⟩

theorem run_callFunc {f : Nat} {fn : Func} {c : Code} (hfn : P.funcs[f]? = some fn) (hb : fn.body = some c) (hn : (fn.name == "runtime.NumGoroutine") = false) (as : Array Value) (w : World) :
    (callFunc f as).run P w = .ok (.enter f as) w := by
  have hn' : ¬ fn.name = "runtime.NumGoroutine" := by simpa using hn
  simp [callFunc, Sem.run_bind, program, Sem.run, hfn, hb, hn']

theorem callF_sound {ex : Ex} (hex : SimEx P E N0 ex) (hF : Funcs P E) (hpr : SimPrim P E N0) : SimFn P E N0 (callV E ex) := by
  intro f cs args H v H' he M w xs l m hrel hxs
  simp only [callV, callF] at he
  split at he
  · rename_i g hg
    exact hpr f g hg _ _ _ _ he M w xs l m hrel hxs
  simp only [Option.bind_eq_some_iff] at he
  obtain ⟨A, hA, he⟩ := he
  cases hnp : Nat.beq (args ++ cs).length A.np with
  | false => rw [hnp] at he; cases he
  | true =>
    rw [hnp, cond_true, Option.bind_eq_some_iff] at he
    obtain ⟨⟨out, r, H1⟩, hx, he⟩ := he
    have hck := hF f A hA
    unfold chkF at hck
    split at hck
    · rename_i fn hfn
      simp only [Bool.and_eq_true, Bool.not_eq_true', Nat.beq_eq] at hck
      obtain ⟨⟨⟨⟨hbody, hnt⟩, hle⟩, hres⟩, hname⟩ := hck
      split at hbody
      · rename_i c hb
        have hle' : A.np ≤ A.nt := by simpa using hle
        rw [Nat.beq_eq] at hnp
        refine ⟨fun as => run_callFunc hfn hb hname as w, ?_⟩
        have hlen : xs.toArray.size = A.np := by simp [hxs.length, hnp]
        have hgo : ∀ vs, Vm.results E r H1 A.res = some vs → out = .normal ∨ out = .ret → CallsIn (fen none) m P f xs.toArray w (CallPost P E N0 M H w (retOf vs) H1) := by
          intro vs hvs hout
          refine callsIn_of_wp_marks hfn hb (fen_fn _ f) (wpIn_mono (hex none A.body c _ _ _ _ _ hx A.nt hbody M _ w none w.heap.size m hrel (zip_sound hxs _) ?_ trivial trivial (Nat.le_refl _)) ?_)
          · simp only [Array.size_append, Array.size_replicate, hnt, hlen]; omega
          · rintro e a' w' ⟨ho, M', hrel', htr, hrr, hsz, hmk⟩
            have hlv := leaves_marks (l := none) (m := m) (R := CallPost P E N0 M H w (retOf vs) H1) hres hvs hrr hrel.n0 a'.defers w' hmk hrel' (fun x w'' h1 h2 h3 h4 h5 => by
              refine ⟨x, M', rfl, h1, h2, ⟨htr.le, by rw [h3]; exact htr.sz, fun b hb hn => ?_, htr.own, fun b hu => h5.1 b (htr.tr.nf b hu)⟩, h5.2.1.trans htr.os, h5.2.2.trans htr.out⟩
              rw [h4 b hb]; exact htr.keep b hb hn)
            rcases hout with rfl | rfl
            · simp only [outR] at ho; subst ho; exact hlv
            · simp only [outR] at ho; subst ho; exact hlv
        cases out with
        | exit id => cases he
        | normal =>
          simp only [Option.bind_eq_some_iff, Option.some.injEq, Prod.mk.injEq] at he
          obtain ⟨vs, hvs, rfl, rfl⟩ := he
          have := hgo vs hvs (.inl rfl)
          cases l with
          | none => exact this
          | some k => exact this
        | ret =>
          simp only [Option.bind_eq_some_iff, Option.some.injEq, Prod.mk.injEq] at he
          obtain ⟨vs, hvs, rfl, rfl⟩ := he
          have := hgo vs hvs (.inr rfl)
          cases l with
          | none => exact this
          | some k => exact this
      · cases hbody
    · cases hck

theorem loop_rel {M : LM} {g : Nat → Option Ob} {nx : Nat} {hp : Array Obj} (hrel : Rel P E N0 M g nx hp) {id : Nat} {L : LoopOb} {Lo : Loc} (hg : g id = some (.loop L)) (hL : M id = some Lo) :
    ∃ r nt, hp[Lo.block]? = some (.loop r) ∧ r.state = L.st ∧ jumpR L.pend r.pending ∧ r.params.toList = L.params ∧ RR M L.regs r.tmps ∧ r.tmps.size = nt ∧ chkC P nt r.assign L.assign = true ∧ chkC P nt r.body L.body = true ∧ L.params.all (fun p => Nat.blt p nt) = true := by
  obtain ⟨L', o, h1, h2, h3, _⟩ := hrel.obj id _ hg
  rw [hL] at h1; cases h1
  obtain ⟨r, nt, rfl, h⟩ := h3
  exact ⟨r, nt, h2, h⟩

theorem loop_upd {M : LM} {H : Hp} {nx : Nat} {w : World} (hrel : Rel P E N0 M H.get nx w.heap) {id : Nat} {L L' : LoopOb} {Lo : Loc} {r r' : Loop} (hg : H.get id = some (.loop L)) (hL : M id = some Lo) (hr : w.heap[Lo.block]? = some (.loop r))
    (hor : OR P M (.loop L') Lo (.loop r')) : Rel P E N0 M (H.put id (.loop L')).get nx (w.putObj Lo.block (.loop r')).heap ∧ TrW M H.get w M (H.put id (.loop L')).get (w.putObj Lo.block (.loop r')) := by
  rw [get_put]
  exact And.imp_right (fun h => ⟨h, rfl, rfl⟩) (hrel.upd hg hL (by simp) (World.putObj_heap_same (Array.getElem?_eq_some_iff.1 hr).1) (fun b hb => World.putObj_heap_other hb) hor)

theorem fen_inRound (l : Option Nat) (k : Nat) : (fen l).inRound k = fen (some k) := by cases l <;> rfl

theorem yld_sound {ex : Ex} (hex : SimEx P E N0 ex) : SimYld P E N0 (callV E ex) := by
  intro id args H v H' he M w xs Lo l m hrel hxs hLo
  simp only [callV] at he
  split at he
  · rename_i L hg
    obtain ⟨r, nt, hr, hst, hj, hps, hrr, hsz, hca, hcb, hpb⟩ := loop_rel hrel hg hLo
    split at he
    · rename_i hready
      simp only [Option.bind_eq_some_iff] at he
      obtain ⟨r0, hr0, ⟨out, r1, H1⟩, hx1, he⟩ := he
      have hbnd : ∀ p ∈ r.params.toList, p < r.tmps.size := by
        intro p hp
        rw [hps] at hp
        have := List.all_eq_true.1 hpb p hp
        rw [hsz]; simpa using this
      obtain ⟨hq1, hq2, hq3⟩ := setParams_sound r.params.toList args xs L.regs r0 r.tmps hxs (by rw [hps]; exact hr0) hrr hbnd
      have hfold : (r.params.zip xs.toArray).foldl (fun tmps (t, a) => tmps.setIfInBounds t a) r.tmps = (r.params.toList.zip xs).foldl (fun tmps (t, a) => tmps.setIfInBounds t a) r.tmps := by
        rw [← Array.foldl_toList]; simp
      refine ⟨r.fn, _, r.assign, r.body, run_yield hr (by simpa using hq3.symm), roundIn_of_wpIn (fen_fn l _) ?_⟩
      rw [fen_inRound, hfold]
      cases out with
      | exit b => cases he
      | ret => cases he
      | normal =>
        refine wpIn_mono (hex (some id) L.assign r.assign _ _ _ _ _ hx1 nt hca M _ w (some Lo.block) w.heap.size m hrel hq1 (by rw [hq2]; exact hsz) ⟨Lo, hLo, rfl⟩ trivial (Nat.le_refl _)) ?_
        rintro e a1 w1 ⟨ho, M1, hrel1, ht1, hrr1, hsz1, hmk1⟩
        simp only [outR] at ho; subst ho
        simp only at he
        split at he
        · rename_i L1 hg1
          have hLo1 := ht1.le _ _ hLo
          obtain ⟨q, nt', hq, hqst, hqj, hqps, hqrr, hqsz, hqa, hqb, hqp⟩ := loop_rel hrel1 hg1 hLo1
          split at he
          · rename_i hready1
            obtain ⟨hrel2, ht2⟩ := loop_upd (L' := { L1 with st := .busy }) (r' := { q with state := .busy }) hrel1 hg1 hLo1 hq ⟨_, nt', rfl, rfl, hqj, hqps, hqrr, hqsz, hqa, hqb, hqp⟩
            simp only [Option.bind_eq_some_iff] at he
            obtain ⟨⟨out2, r2, H2⟩, hx2, he⟩ := he
            refine ⟨_, run_beginRound hq (by rw [hqst, hready1]), ?_⟩
            refine wpIn_mono (hex (some id) L.body r.body _ _ _ _ _ hx2 nt hcb M1 a1 _ (some Lo.block) w.heap.size m (by rw [show (H1.put id (.loop { L1 with st := .busy })).next = H1.next from rfl]; exact hrel2) hrr1 hsz1 ⟨Lo, hLo1, rfl⟩ ?_ ?_) ?_
            · exact hmk1.stepW ht2
            · simpa using ht1.sz
            rintro e2 a2 w2 ⟨ho2, M2, hrel3, ht3, _⟩
            split at he
            · rename_i L2 hg2
              have hLo2 := ht3.le _ _ hLo1
              obtain ⟨u, nt2, hu, hust, huj, hups, hurr, husz, hua, hub, hup⟩ := loop_rel hrel3 hg2 hLo2
              have fin : ∀ (j : Option Jump) (jc : Option Code) (st : LoopState), jumpR j jc → st = (if jc.isNone then .ready else .done) →
                  CallPost P E N0 M H w (.bool jc.isNone) (H2.put id (.loop { L2 with st := st, pend := j })) (.returned (.bool jc.isNone)) (w2.putObj Lo.block (.loop { u with state := if jc.isNone then .ready else .done, pending := jc })) := by
                intro j jc st hjj hstt
                obtain ⟨hrel4, ht4⟩ := loop_upd (L' := { L2 with st := st, pend := j }) (r' := { u with state := if jc.isNone then .ready else .done, pending := jc }) hrel3 hg2 hLo2 hu ⟨_, nt2, rfl, hstt.symm, hjj, hups, hurr, husz, hua, hub, hup⟩
                exact ⟨_, M2, rfl, rfl, hrel4, ((ht1.trans ht2).trans ht3).trans ht4⟩
              cases out2 with
              | normal =>
                simp only [outR] at ho2; subst ho2
                simp only [Option.some.injEq, Prod.mk.injEq] at he
                obtain ⟨rfl, rfl⟩ := he
                exact ⟨_, _, run_endRound none hu, fin none none .ready rfl rfl⟩
              | exit b0 =>
                simp only [outR] at ho2; subst ho2
                simp only [Option.some.injEq, Prod.mk.injEq] at he
                obtain ⟨rfl, rfl⟩ := he
                exact ⟨_, _, run_endRound (some (.exit b0)) hu, fin (some (.exit b0)) (some (.exit b0)) .done rfl rfl⟩
              | ret =>
                simp only [outR] at ho2; subst ho2
                simp only [Option.some.injEq, Prod.mk.injEq] at he
                obtain ⟨rfl, rfl⟩ := he
                exact ⟨_, _, run_endRound (some .ret) hu, fin (some .ret) (some .ret) .done rfl rfl⟩
            · cases he
          · cases he
        · cases he
    · cases he
  · cases he

theorem no_call {ex : Ex} : SimNo (callV E ex) := by
  intro fv args H h1 h2
  cases fv <;> first | rfl | (exact absurd rfl (h1 _ _)) | (exact absurd rfl (h2 _))

theorem wpIn_loop_n {F : Fence} {n : Nat} {c : Code} {Q : Exit → Act → World → Prop} {a : Act} {w : World} (I : Nat → Act → World → Prop) (j : Nat) (h0 : I j a w)
    (round : ∀ j a w, I j a w → c.wpIn F n P (Exit.then (fun a' w' => ∃ j', j' < j ∧ I j' a' w') Q) a w) : (Code.loop c).wpIn F n P Q a w := by
  classical
  let m : Act → World → Nat := fun a w => if h : ∃ j, I j a w then Classical.choose (exists_least h) else 0
  refine wpIn_loop (fun a w => ∃ j, I j a w) m ⟨j, h0⟩ ?_
  intro a w h
  have hm : I (Classical.choose (exists_least h)) a w := (Classical.choose_spec (exists_least h)).1
  refine wpIn_mono (round _ a w hm) ?_
  intro e a' w' hq
  cases e <;> try exact hq
  obtain ⟨j', hlt, hI⟩ := hq
  refine ⟨⟨j', hI⟩, ?_⟩
  have h' : ∃ j, I j a' w' := ⟨j', hI⟩
  show m a' w' < m a w
  simp only [m, dif_pos h, dif_pos h']
  exact Nat.lt_of_le_of_lt ((Classical.choose_spec (exists_least h')).2 j' hI) hlt

theorem PostC.from {M M1 : LM} {H H1 : Hp} {w w1 : World} {nt Nf : Nat} {out : Out} {r' : Regs} {H' : Hp} {e : Exit} {a' : Act} {w' : World} (t : TrW M H.get w M1 H1.get w1)
    (h : PostC P E N0 M1 H1 w1 nt Nf out r' H' e a' w') : PostC P E N0 M H w nt Nf out r' H' e a' w' := by
  obtain ⟨ho, M', h1, h2, h3⟩ := h
  exact ⟨ho, M', h1, t.trans h2, h3⟩

theorem exec_sound (hF : Funcs P E) (hpr : SimPrim P E N0) : ∀ n, SimEx P E N0 (exec E n) := by
  intro n
  induction n using Nat.strongRecOn with
  | _ n ih =>
  intro rd ac c r H out r' H' he nt hc M a w l Nf m hrel hr hs hrd hmk hNf
  cases n with
  | zero => cases he
  | succ n =>
  have ihn := ih n (Nat.lt_succ_self n)
  simp only [exec, execWith] at he
  cases ac with
  | skip =>
    cases c <;> simp [chkC] at hc
    simp only [Option.some.injEq, Prod.mk.injEq] at he
    obtain ⟨rfl, rfl, rfl⟩ := he
    exact wpIn_skip ⟨rfl, M, hrel, TrW.refl _ _ _, hr, hs, hmk⟩
  | exit id =>
    cases c <;> simp [chkC] at hc
    subst hc
    simp only [Option.some.injEq, Prod.mk.injEq] at he
    obtain ⟨rfl, rfl, rfl⟩ := he
    exact wpIn_exit ⟨rfl, M, hrel, TrW.refl _ _ _, hr, hs, hmk⟩
  | ret =>
    cases c <;> simp [chkC] at hc
    simp only [Option.some.injEq, Prod.mk.injEq] at he
    obtain ⟨rfl, rfl, rfl⟩ := he
    exact wpIn_ret ⟨rfl, M, hrel, TrW.refl _ _ _, hr, hs, hmk⟩
  | seq x y =>
    cases c <;> simp [chkC] at hc
    rename_i cx cy
    simp only [Option.bind_eq_some_iff] at he
    obtain ⟨⟨o1, r1, H1⟩, hx, he⟩ := he
    refine wpIn_seq (wpIn_mono (ihn rd x cx _ _ _ _ _ hx nt hc.1 M a w l Nf m hrel hr hs hrd hmk hNf) ?_)
    rintro e a1 w1 hpost
    obtain ⟨ho, M1, hrel1, ht1, hr1, hs1, hmk1⟩ := hpost
    cases o1 with
    | normal =>
      simp only [outR] at ho; subst ho
      simp only [Exit.then]
      refine wpIn_mono (ihn rd y cy _ _ _ _ _ he nt hc.2 M1 a1 w1 l Nf m hrel1 hr1 hs1 ?_ hmk1 (Nat.le_trans hNf ht1.sz)) (fun e a' w' h => h.from ht1)
      cases rd <;> cases l <;> simp only [rdR] at hrd ⊢
      obtain ⟨L, h1, h2⟩ := hrd; exact ⟨L, ht1.le _ _ h1, h2⟩
    | exit id =>
      simp only [Option.some.injEq, Prod.mk.injEq] at he
      obtain ⟨rfl, rfl, rfl⟩ := he
      simp only [outR] at ho; subst ho
      exact ⟨rfl, M1, hrel1, ht1, hr1, hs1, hmk1⟩
    | ret =>
      simp only [Option.some.injEq, Prod.mk.injEq] at he
      obtain ⟨rfl, rfl, rfl⟩ := he
      simp only [outR] at ho; subst ho
      exact ⟨rfl, M1, hrel1, ht1, hr1, hs1, hmk1⟩
  | cond x y z =>
    cases c <;> simp [chkC] at hc
    rename_i cc cy cz
    simp only [Option.bind_eq_some_iff] at he
    obtain ⟨b, hb, he⟩ := he
    have hv := ev_sound hc.1 hb hr
    split at he
    · exact wpIn_cond_true hv (ihn rd y cy _ _ _ _ _ he nt hc.2.1 M a w l Nf m hrel hr hs hrd hmk hNf)
    · exact wpIn_cond_false hv (ihn rd z cz _ _ _ _ _ he nt hc.2.2 M a w l Nf m hrel hr hs hrd hmk hNf)
    · cases he
  | block id b =>
    cases c <;> simp [chkC] at hc
    rename_i id' cb
    obtain ⟨rfl, hc⟩ := hc
    simp only [Option.bind_eq_some_iff] at he
    obtain ⟨⟨o1, r1, H1⟩, hx, he⟩ := he
    refine wpIn_block (wpIn_mono (ihn rd b cb _ _ _ _ _ hx nt hc M a w l Nf m hrel hr hs hrd hmk hNf) ?_)
    rintro e a1 w1 ⟨ho, hrest⟩
    cases o1 with
    | normal =>
      simp only [outR] at ho; subst ho
      simp only [Option.some.injEq, Prod.mk.injEq] at he
      obtain ⟨rfl, rfl, rfl⟩ := he
      exact ⟨rfl, hrest⟩
    | exit k =>
      simp only [outR] at ho; subst ho
      by_cases hk : k = id'
      · subst hk
        simp only [cond_true, beq_self, Option.some.injEq, Prod.mk.injEq] at he
        obtain ⟨rfl, rfl, rfl⟩ := he
        simp only [Exit.inBlock, if_true]
        exact ⟨rfl, hrest⟩
      · simp only [beq_false hk, cond_false, Option.some.injEq, Prod.mk.injEq] at he
        obtain ⟨rfl, rfl, rfl⟩ := he
        simp only [Exit.inBlock, hk, if_false]
        exact ⟨rfl, hrest⟩
    | ret =>
      simp only [outR] at ho; subst ho
      simp only [Option.some.injEq, Prod.mk.injEq] at he
      obtain ⟨rfl, rfl, rfl⟩ := he
      exact ⟨rfl, hrest⟩
  | loop keep b =>
    cases c <;> simp [chkC] at hc
    rename_i cb
    refine wpIn_loop_n (fun j a1 w1 => j ≤ n + 1 ∧ ∃ r1 H1 M1, exec E j rd (.loop keep b) r1 H1 = some (out, r', H') ∧ Rel P E N0 M1 H1.get H1.next w1.heap ∧ TrW M H.get w M1 H1.get w1 ∧ RR M1 r1 a1.tmps ∧ a1.tmps.size = nt ∧ Marks M1 H1.get w1.heap Nf a1.defers)
      (n + 1) ⟨Nat.le_refl _, r, H, M, by simp only [exec, execWith]; exact he, hrel, TrW.refl _ _ _, hr, hs, hmk⟩ ?_
    rintro j a1 w1 ⟨hj, r1, H1, M1, hx1, hrel1, ht1, hr1, hs1, hmk1⟩
    cases j with
    | zero => cases hx1
    | succ j =>
      simp only [exec, execWith, Option.bind_eq_some_iff] at hx1
      obtain ⟨⟨o2, r2, H2⟩, hx2, hx1⟩ := hx1
      refine wpIn_mono (ih j (by omega) rd b cb _ _ _ _ _ hx2 nt hc M1 a1 w1 l Nf m hrel1 (hr1.restrict _) hs1 ?_ hmk1 (Nat.le_trans hNf ht1.sz)) ?_
      · cases rd <;> cases l <;> simp only [rdR] at hrd ⊢
        obtain ⟨L, h1, h2⟩ := hrd; exact ⟨L, ht1.le _ _ h1, h2⟩
      · rintro e a2 w2 ⟨ho, M2, hrel2, ht2, hr2, hs2, hmk2⟩
        cases o2 with
        | normal =>
          simp only [outR] at ho; subst ho
          exact ⟨j, Nat.lt_succ_self j, by omega, r2, H2, M2, hx1, hrel2, ht1.trans ht2, hr2, hs2, hmk2⟩
        | exit id =>
          simp only [Option.some.injEq, Prod.mk.injEq] at hx1
          obtain ⟨rfl, rfl, rfl⟩ := hx1
          simp only [outR] at ho; subst ho
          exact ⟨rfl, M2, hrel2, ht1.trans ht2, hr2, hs2, hmk2⟩
        | ret =>
          simp only [Option.some.injEq, Prod.mk.injEq] at hx1
          obtain ⟨rfl, rfl, rfl⟩ := hx1
          simp only [outR] at ho; subst ho
          exact ⟨rfl, M2, hrel2, ht1.trans ht2, hr2, hs2, hmk2⟩
  | rangeF f ps assign body =>
    cases c with
    | rangeFunc cf cps cassign cbody =>
    simp only [chkC, Bool.and_eq_true, decide_eq_true_eq] at hc
    obtain ⟨⟨⟨hcf, hcps⟩, hpb⟩, hca, hcb⟩ := hc
    simp only [Option.bind_eq_some_iff] at he
    obtain ⟨fv, hfv, he⟩ := he
    have hfx := ev_sound hcf hfv hr
    split at he
    · rename_i g cs
      obtain ⟨xs, hxs, hfe⟩ := hfx
      refine wpIn_rangeFunc (fun fn _ => ?_)
      rw [fen_round]
      cases hcnd : within H rd with
      | false => rw [hcnd] at he; cases he
      | true =>
      rw [hcnd, cond_true] at he
      simp only [Option.bind_eq_some_iff] at he
      obtain ⟨⟨v0, H1⟩, hx, he⟩ := he
      have core : ∀ (blk : Nat) (mark : List Deferred) (w1 : World), (Instr.enterLoop fn a.tmps cps cassign cbody l).run P w = .ok (blk, mark) w1 →
          Rel P E N0 (mset1 M H.next ⟨blk, 0, 0⟩) (H.new (.loop { st := .ready, pend := none, regs := r, params := ps, assign, body })).get (H.next + 1) w1.heap →
          TrW M H.get w (mset1 M H.next ⟨blk, 0, 0⟩) (H.new (.loop { st := .ready, pend := none, regs := r, params := ps, assign, body })).get w1 →
          Marks (mset1 M H.next ⟨blk, 0, 0⟩) (H.new (.loop { st := .ready, pend := none, regs := r, params := ps, assign, body })).get w1.heap Nf (mark ++ a.defers) →
          ∃ (l' : Nat) (mark : List Deferred) (w₁ : World) (d : Deferred) (w₁' : World) (f : FuncId) (args : Array Value) (w₂ : World),
            (Instr.enterLoop fn a.tmps cps cassign cbody l).run P w = .ok (l', mark) w₁ ∧
            (resolve a.eval (rangeCall cf l') 0).run P w₁ = .ok d w₁' ∧
            (∀ f', Target.leads P w₁' d.target d.args = some f' → (fen l).fn f') ∧
            (invoke d.target d.args).run P w₁' = .ok (.enter f args) w₂ ∧
            ((fen l).depth.isSome = true → 1 ≤ m) ∧
            CallsIn (fen l) (m - 1) P f args w₂ (rangePost (fen l) m P l' (PostC P E N0 M H w nt Nf out r' H') { a with defers := mark ++ a.defers }) := by
        intro blk mark w1 hent hrel1 ht1 hmk1
        have hself : mset1 M H.next ⟨blk, 0, 0⟩ H.next = some ⟨blk, 0, 0⟩ := mset1_self _ _
        have hyv : VR (mset1 M H.next ⟨blk, 0, 0⟩) (.yld H.next) (.func (.yield blk) #[] #[]) := ⟨_, hself, rfl⟩
        have hargs : VRL (mset1 M H.next ⟨blk, 0, 0⟩) ([.yld H.next] ++ cs) (.func (.yield blk) #[] #[] :: xs) := VRL.cons hyv (hxs.mono ht1.le)
        obtain ⟨hent2, hcall⟩ := callF_sound ihn hF hpr g cs [.yld H.next] _ v0 H1 hx _ w1 _ l (m - 1) hrel1 hargs
        refine ⟨blk, mark, w1, { target := .fn (.func g) xs.toArray, args := #[.func (.yield blk) #[] #[]] }, w1, g, (.func (.yield blk) #[] #[] :: xs).toArray, w1, hent, ?_, fun f' _ => fen_fn l f', ?_, (fun h => absurd h (by rw [fen_depth]; simp)), hcall.mono ?_⟩
        · simp only [resolve, hfe, Deferred.ofValue, Sem.run_pure]
          simp [Act.eval]
        · simp only [invoke]
          rw [hent2]; simp
        · rintro e w2 ⟨x, M2, rfl, _, hrel2, ht2⟩
          simp only [rangePost]
          split at he
          · rename_i L hg
            have hL2 := ht2.le _ _ hself
            obtain ⟨q, nt', hq, hqst, hqj, hqps, hqrr, hqsz, hqa, hqb, hqp⟩ := loop_rel hrel2 hg hL2
            have key : L.st ≠ .busy → ∀ oo, (oo = Out.normal ∧ L.pend = none ∨ (∃ id, oo = .exit id ∧ L.pend = some (.exit id)) ∨ oo = .ret ∧ L.pend = some .ret) → out = oo → r' = r → H' = H1.put H.next (.loop { L with st := .exhausted }) →
                ∃ jump w₄, (Instr.endLoop blk).run P w2 = .ok jump w₄ ∧ (match jump with
                  | none => PostC P E N0 M H w nt Nf out r' H' .normal { a with defers := mark ++ a.defers } w₄
                  | some c => c.wpIn (fen l) m P (PostC P E N0 M H w nt Nf out r' H') { a with defers := mark ++ a.defers } w₄) := by
              rintro hnb oo hoo rfl rfl rfl
              obtain ⟨hrel3, ht3⟩ := loop_upd (L' := { L with st := .exhausted }) (r' := { q with state := .exhausted }) hrel2 hg hL2 hq ⟨_, nt', rfl, rfl, hqj, hqps, hqrr, hqsz, hqa, hqb, hqp⟩
              obtain ⟨W, hW⟩ : ∃ W, W = w2.putObj blk (.loop { q with state := .exhausted }) := ⟨_, rfl⟩
              refine ⟨q.pending, W, by rw [hW]; exact run_endLoop hq (by rw [hqst]; exact hnb), ?_⟩
              simp only at hrel3 ht3
              rw [← hW] at hrel3 ht3
              clear hW
              have hmk3 := (hmk1.stepW ht2).stepW ht3
              have hrr3 := hr.mono ((ht1.le.trans ht2.le).trans ht3.le)
              have ht := (ht1.trans ht2).trans ht3
              rcases hoo with ⟨rfl, hp⟩ | ⟨id, rfl, hp⟩ | ⟨rfl, hp⟩
              · rw [hp] at hqj; simp only [jumpR] at hqj; rw [hqj]
                exact ⟨rfl, M2, hrel3, ht, hrr3, hs, hmk3⟩
              · rw [hp] at hqj; simp only [jumpR] at hqj; rw [hqj]
                exact wpIn_exit ⟨rfl, M2, hrel3, ht, hrr3, hs, hmk3⟩
              · rw [hp] at hqj; simp only [jumpR] at hqj; rw [hqj]
                exact wpIn_ret ⟨rfl, M2, hrel3, ht, hrr3, hs, hmk3⟩
            split at he
            · cases he
            · rename_i hnb
              split at he
              · rename_i hp
                simp only [Option.some.injEq, Prod.mk.injEq] at he
                exact key hnb _ (.inl ⟨rfl, hp⟩) he.1.symm he.2.1.symm he.2.2.symm
              · rename_i id hp
                simp only [Option.some.injEq, Prod.mk.injEq] at he
                exact key hnb _ (.inr (.inl ⟨id, rfl, hp⟩)) he.1.symm he.2.1.symm he.2.2.symm
              · rename_i hp
                simp only [Option.some.injEq, Prod.mk.injEq] at he
                exact key hnb _ (.inr (.inr ⟨rfl, hp⟩)) he.1.symm he.2.1.symm he.2.2.symm
          · cases he
      have hor : ∀ (blk : Nat) (dd : Nat), OR P (mset1 M H.next ⟨blk, 0, 0⟩) (.loop { st := .ready, pend := none, regs := r, params := ps, assign, body }) ⟨blk, 0, 0⟩ (.loop { state := .ready, pending := none, fn, tmps := a.tmps, params := cps, assign := cassign, body := cbody, defers := dd }) :=
        fun blk dd => ⟨_, nt, rfl, rfl, rfl, hcps, hr.mono (mset1_le hrel.dom_none _), hs, hca, hcb, hpb⟩
      cases l with
      | none =>
        obtain ⟨hrp, htp⟩ := hrel.push (.deferred (some [])) (by simp)
        obtain ⟨h1, h2⟩ := Rel.new (hp := w.heap.push (.deferred (some []))) hrp (id := H.next) (nx' := H.next + 1) (base := 0) (lim := 0) hrel.dom_none (Nat.lt_succ_self _) (Nat.le_succ _) (by simp only [Array.size_push]; exact hor (w.heap.size + 1) w.heap.size)
        simp only [Array.size_push] at h1 h2
        refine core _ _ _ (run_enterLoop_outer fn a.tmps cps cassign cbody) (by rw [get_new]; exact h1) (by rw [get_new]; exact ⟨htp.trans h2, rfl, rfl⟩) ?_
        have ht := htp.trans h2
        have hno : ¬ Own M H.get w.heap.size := by
          rintro ⟨i, ob, L, h1, h2, h3⟩
          obtain ⟨L', o, h4, h5, _⟩ := hrel.obj i ob h1
          rw [h2] at h4; cases h4
          have := (Array.getElem?_eq_some_iff.1 h5).1
          omega
        rw [get_new]
        refine ⟨⟨w.heap.size, rfl, ?_, ?_, hNf, ?_⟩, hmk.step ht⟩
        · have h3 := h2.keep w.heap.size (by simp) hno
          have : (w.heap.push (Obj.deferred (some [])))[w.heap.size]? = some (.deferred (some [])) := by simp
          exact h3.trans this
        · exact fun ho => hno (h2.own _ (by simp) ho)
        · intro d' hd' e
          have : ∀ ds : List Deferred, Marks M H.get w.heap Nf ds → d' ∈ ds → d'.target ≠ .collected w.heap.size := by
            intro ds
            induction ds with
            | nil => intro _ h; cases h
            | cons d0 ds ih2 =>
              rintro ⟨⟨b, e1, e2, _⟩, hrest⟩ hmem
              rcases List.mem_cons.1 hmem with rfl | hmem
              · rw [e1]; intro e'
                have hlt := (Array.getElem?_eq_some_iff.1 e2).1
                injection e' with e'
                omega
              · exact ih2 hrest hmem
          exact this _ hmk hd' e
      | some l0 =>
        cases rd with
        | none => exact hrd.elim
        | some k =>
          obtain ⟨Lo, hLo, hb⟩ := hrd
          have hrec : ∃ L, H.get k = some (.loop L) := by
            simp only [within] at hcnd
            split at hcnd
            · rename_i L hg; exact ⟨L, hg⟩
            · cases hcnd
          obtain ⟨L, hg⟩ := hrec
          obtain ⟨q, nt', hq, _⟩ := loop_rel hrel hg hLo
          rw [hb] at hq
          obtain ⟨h1, h2⟩ := Rel.new hrel (id := H.next) (nx' := H.next + 1) (base := 0) (lim := 0) hrel.dom_none (Nat.lt_succ_self _) (Nat.le_succ _) (hor w.heap.size q.defers)
          refine core _ _ _ (run_enterLoop_inner hq fn a.tmps cps cassign cbody) (by rw [get_new]; exact h1) (by rw [get_new]; exact ⟨h2, rfl, rfl⟩) ?_
          rw [get_new]
          exact hmk.step h2
    · cases he
    | _ => simp [chkC] at hc
  | reg ops live =>
    cases c with
    | region id cops dr =>
    cases dr <;> try (simp [chkC] at hc; done)
    simp only [chkC] at hc
    simp only [Option.bind_eq_some_iff, Option.some.injEq, Prod.mk.injEq] at he
    obtain ⟨⟨r1, H1⟩, hx, rfl, rfl, rfl⟩ := he
    refine wpIn_region ?_
    rw [List.range_eq_range']
    refine ops_wp (callF_sound ihn hF hpr) (yld_sound ihn) no_call cops.toList ops 0 hc (fun j hj => by simp) hx hr hs hrel (fun M' a' w' h1 h2 h3 h4 h5 => ?_)
    exact ⟨rfl, M', h4, h5, h1.restrictO _, h2, by rw [h3]; exact hmk.stepW h5⟩
    | _ => simp [chkC] at hc
  | dreg perm ops live =>
    cases c with
    | region id cops dr =>
    cases dr <;> try (simp [chkC] at hc; done)
    simp only [chkC] at hc
    simp only [Option.bind_eq_some_iff, Option.some.injEq, Prod.mk.injEq] at he
    obtain ⟨⟨r1, H1⟩, hx, rfl, rfl, rfl⟩ := he
    refine wpIn_region_draw (fun t => ?_)
    refine draw_wp (callF_sound ihn hF hpr) (yld_sound ihn) no_call hc hx hr hs hrel (fun M' a' w' h1 h2 h3 h4 h5 => ?_) t
    exact ⟨rfl, M', h4, h5, h1.restrictO _, h2, by rw [h3]; exact hmk.stepW h5⟩
    | _ => simp [chkC] at hc
end
end Go.Vm

namespace Go.Vm
section
variable {P : Program} {E : Env}

/-- memory from outside is as said -/
def ExtOk (E : Env) (w : World) : Prop := ∀ b off v, E.ext b off = some v → ∃ c e fr x, w.heap[b]? = some (.cells c e fr) ∧ c[off]? = some x ∧ ∀ M', VR M' v x

def M0 : LM := fun _ => none
def H0 : Hp := ⟨0, .lf⟩

theorem rel0 {w : World} (hext : ExtOk E w) : Rel P E w.heap.size M0 H0.get H0.next w.heap := by
  refine ⟨fun id L h => by simp [M0] at h, fun id ob h => by simp [H0, Hp.get, Tr.get] at h, fun id id' ob ob' L L' h => by simp [H0, Hp.get, Tr.get] at h, fun b off v h => ?_, Nat.le_refl _⟩
  obtain ⟨c, e, fr, x, h1, h2, h3⟩ := hext b off v h
  exact ⟨(Array.getElem?_eq_some_iff.1 h1).1, c, e, fr, x, h1, h2, h3⟩

theorem grown0 {M' : LM} {g' : Nat → Option Ob} {w w' : World} (t : TrW M0 H0.get w M' g' w') : RowKit.Grown w w' := by
  have no : ∀ b, ¬ Own M0 H0.get b := by rintro b ⟨id, ob, L, h, _⟩; simp [H0, Hp.get, Tr.get] at h
  have keep : ∀ b, b < w.heap.size → w'.heap[b]? = w.heap[b]? := fun b hb => t.keep b hb (no b)
  refine ⟨⟨t.os, t.out, fun i hi => ?_⟩, fun a => ?_, t.sz⟩
  · rw [keep i hi]
    cases h : w.heap[i]? with
    | none => rfl
    | some o => cases o <;> simp
  · rcases Nat.lt_or_ge a.block w.heap.size with h | h
    · simp only [World.frozen?, keep a.block h]
    · have hu : UF w.heap a.block := fun c e fr hc => by rw [Array.getElem?_eq_none h] at hc; cases hc
      have hu' := t.tr.nf a.block hu
      have e1 : w.frozen? a = false := by simp only [World.frozen?, Array.getElem?_eq_none h]
      rw [e1]
      simp only [World.frozen?]
      split
      · rename_i c e lo hi hc
        have := hu' c e (lo, hi) hc
        cases this
        simp
      · rfl

/-- a whole call -/
theorem calls {n f : Nat} {args : List V} {v : V} {H' : Hp} (he : callF E (exec E n) f args H0 = some (v, H')) (hF : Funcs P E) {w : World} (hpr : SimPrim P E w.heap.size) (hext : ExtOk E w) {xs : List Value} (hxs : VRL M0 args xs) :
    Calls P f xs.toArray w fun e w' => ∃ x M', e = .returned x ∧ VR M' v x ∧ RowKit.Grown w w' := by
  have h := (callF_sound (exec_sound hF hpr n) hF hpr f [] args H0 v H' (by simpa [callV] using he) M0 w xs none 0 (rel0 hext) (by simpa using hxs)).2
  refine callsIn_wide.1 (h.mono ?_)
  rintro e w' ⟨x, M', h1, h2, _, h4⟩
  exact ⟨x, M', h1, h2, grown0 h4⟩

/-- the same from any heap, for a call that gives back no new memory: what it does is known without its own heap -/
theorem prim_of_calls {n f : Nat} {v : V} {H1 : Hp} (he : ∀ (_ : Unit), callF E (exec E n) f [] H0 = some (v, H1)) (hF : Funcs P E) (hnp : ∀ f, E.prim f = none) (hne : ∀ b o, E.ext b o = none) (hv : ∀ M M' x, VR M v x → VR M' v x) :
    ∀ {E' : Env} {N0 : Nat} {M : LM} {H : Hp} (w : World) (l : Option Nat) (m : Nat), Rel P E' N0 M H.get H.next w.heap → CallsIn (fen l) m P f #[] w (CallPost P E' N0 M H w v H) := by
  intro E' N0 M H w l m hrel
  have hpr : SimPrim P E w.heap.size := fun f g hg => by rw [hnp f] at hg; cases hg
  have h := (callF_sound (exec_sound hF hpr n) hF hpr f [] [] H0 v H1 (by simpa [callV] using he ()) M0 w [] l m (rel0 (fun b off v h => by rw [hne b off] at h; cases h)) rfl).2
  refine h.mono ?_
  rintro e w' ⟨x, M', h1, h2, _, h4⟩
  have no : ∀ b, ¬ Own M0 H0.get b := by rintro b ⟨id, ob, L, h, _⟩; simp [H0, Hp.get, Tr.get] at h
  have keep : ∀ b, b < w.heap.size → w'.heap[b]? = w.heap[b]? := fun b hb => h4.keep b hb (no b)
  refine ⟨x, M, h1, hv _ _ _ h2, ?_, ⟨⟨LM.le.refl M, h4.sz, fun b hb _ => keep b hb, fun b _ ho => ho, h4.tr.nf⟩, h4.os, h4.out⟩⟩
  refine ⟨hrel.dom, fun id ob hg => ?_, hrel.inj, fun b off v hb => ?_, Nat.le_trans hrel.n0 h4.sz⟩
  · obtain ⟨L, o, a, b, c, d⟩ := hrel.obj id ob hg
    exact ⟨L, o, a, by rw [keep _ (Array.getElem?_eq_some_iff.1 b).1]; exact b, c, d⟩
  · obtain ⟨h1, c, e, fr, x, h2, h3⟩ := hrel.ext b off v hb
    exact ⟨h1, c, e, fr, x, by rw [keep _ (Array.getElem?_eq_some_iff.1 h2).1]; exact h2, h3⟩
end
end Go.Vm
