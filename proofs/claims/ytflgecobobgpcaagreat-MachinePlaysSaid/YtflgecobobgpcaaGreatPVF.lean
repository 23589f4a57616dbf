/-
  Regions that draw their order are sound. Conditions: none beyond those that each statement names.
-/
import Derived.Test.YtflgecobobgpcaaGreatPVE
namespace Go.Vm

mutual
theorem V.beq_eq : ∀ (a b : V), V.beq a b = true → a = b
  | .fn f cs, b, h => by
    cases b <;> simp [V.beq] at h
    rename_i g ds
    rw [h.1, V.beqs_eq cs ds h.2]
  | .agg l, b, h => by
    cases b <;> simp [V.beq] at h
    rename_i m
    rw [V.beqs_eq l m h]
  | .tup l, b, h => by
    cases b <;> simp [V.beq] at h
    rename_i m
    rw [V.beqs_eq l m h]
  | .int .., b, h | .bool _, b, h | .str _, b, h | .nilp, b, h | .ptr .., b, h | .xptr .., b, h | .nils, b, h | .slc .., b, h | .xslc .., b, h | .nilm, b, h | .map _, b, h | .nilf, b, h | .yld _, b, h => by
    cases b <;> simp_all [V.beq]
theorem V.beqs_eq : ∀ (a b : List V), V.beqs a b = true → a = b
  | [], b, h => by cases b <;> simp [V.beqs] at h; rfl
  | x :: xs, b, h => by
    cases b <;> simp [V.beqs] at h
    rename_i y ys
    rw [V.beq_eq x y h.1, V.beqs_eq xs ys h.2]
end

def cut (M : LM) (n : Nat) : LM := fun id => cond (Nat.blt id n) (M id) none
theorem blt_true {a b : Nat} (h : a < b) : Nat.blt a b = true := by simpa using h
theorem blt_false {a b : Nat} (h : b ≤ a) : Nat.blt a b = false := by
  cases e : Nat.blt a b with
  | false => rfl
  | true => simp at e; omega
theorem cut_some {M : LM} {n id : Nat} {L : Loc} (h : M id = some L) (hl : id < n) : cut M n id = some L := by simp [cut, blt_true hl, h]
theorem some_cut {M : LM} {n id : Nat} {L : Loc} (h : cut M n id = some L) : id < n ∧ M id = some L := by
  rcases Nat.lt_or_ge id n with hl | hl
  · simp only [cut, blt_true hl, cond_true] at h; exact ⟨hl, h⟩
  · simp [cut, blt_false hl] at h
theorem cut_le (M : LM) (n : Nat) : LM.le (cut M n) M := fun _ _ h => (some_cut h).2

mutual
theorem VR.cut {M M1 : LM} {n : Nat} (hd : ∀ id L, M1 id = some L → id < n) : ∀ {v : V} {x x1 : Value}, VR M1 v x1 → VR M v x → VR (Vm.cut M n) v x
  | .int .., _, _, _, hx | .bool _, _, _, _, hx | .str _, _, _, _, hx | .nilp, _, _, _, hx | .xptr .., _, _, _, hx | .nils, _, _, _, hx | .xslc .., _, _, _, hx | .nilm, _, _, _, hx | .nilf, _, _, _, hx => hx
  | .ptr .., _, _, ⟨_, a1, _⟩, hx => let ⟨L, a, b⟩ := hx; ⟨L, cut_some a (hd _ _ a1), b⟩
  | .slc _ _ _ (.ex _), _, _, ⟨_, a1, _⟩, hx => let ⟨L, a, b⟩ := hx; ⟨L, cut_some a (hd _ _ a1), b⟩
  | .slc _ _ _ (.up _), _, _, ⟨_, _, _, a1, _⟩, hx => let ⟨L, o, c, a, b⟩ := hx; ⟨L, o, c, cut_some a (hd _ _ a1), b⟩
  | .map _, _, _, ⟨_, a1, _⟩, hx => let ⟨L, a, b⟩ := hx; ⟨L, cut_some a (hd _ _ a1), b⟩
  | .yld _, _, _, ⟨_, a1, _⟩, hx => let ⟨L, a, b⟩ := hx; ⟨L, cut_some a (hd _ _ a1), b⟩
  | .fn .., _, _, ⟨_, a1, _⟩, hx => let ⟨xs, a, b⟩ := hx; ⟨xs, VRL.cut hd a1 a, b⟩
  | .agg _, _, _, ⟨_, a1, _⟩, hx => let ⟨xs, a, b⟩ := hx; ⟨xs, VRL.cut hd a1 a, b⟩
  | .tup _, _, _, ⟨_, a1, _⟩, hx => let ⟨xs, a, b⟩ := hx; ⟨xs, VRL.cut hd a1 a, b⟩
theorem VRL.cut {M M1 : LM} {n : Nat} (hd : ∀ id L, M1 id = some L → id < n) : ∀ {vs : List V} {xs ys : List Value}, VRL M1 vs ys → VRL M vs xs → VRL (Vm.cut M n) vs xs
  | [], _, _, _, hx => hx
  | _ :: _, _, _, ⟨_, _, a1, b1, _⟩, hx => let ⟨y, ys, a, b, c⟩ := hx; ⟨y, ys, VR.cut hd a1 a, VRL.cut hd b1 b, c⟩
end

theorem MR.cut {M M1 : LM} {n : Nat} (hd : ∀ id L, M1 id = some L → id < n) : ∀ {l : List (V × V)} {es es1 : List MapEntry}, MR M1 l es1 → MR M l es → MR (Vm.cut M n) l es
  | [], _, _, _, hx => hx
  | (_, _) :: _, _, _, ⟨_, _, _, b1, c1, d1⟩, ⟨e, es', a, b, c, d⟩ => ⟨e, es', a, VR.cut hd b1 b, VR.cut hd c1 c, MR.cut hd d1 d⟩

theorem OR.cut {P : Program} {M M1 : LM} {n : Nat} (hd : ∀ id L, M1 id = some L → id < n) {ob : Ob} {L L1 : Loc} {o o1 : Obj} (h1 : OR P M1 ob L1 o1) (hx : OR P M ob L o) : OR P (Vm.cut M n) ob L o := by
  cases ob with
  | cells l =>
    obtain ⟨c, e, a, b, d, f⟩ := hx
    obtain ⟨_, _, _, _, _, f1⟩ := h1
    exact ⟨c, e, a, b, d, fun i v hv => let ⟨x, y, z⟩ := f i v hv; let ⟨_, _, z1⟩ := f1 i v hv; ⟨x, y, z1.cut hd z⟩⟩
  | map es =>
    obtain ⟨c, e, a, b⟩ := hx
    obtain ⟨_, _, _, b1⟩ := h1
    exact ⟨c, e, a, b1.cut hd b⟩
  | loop lo =>
    obtain ⟨r, nt, a, b, c, d, e, f⟩ := hx
    obtain ⟨_, _, _, _, _, _, e1, _⟩ := h1
    exact ⟨r, nt, a, b, c, d, fun t v hv => let ⟨x, y, z⟩ := e t v hv; let ⟨_, _, z1⟩ := e1 t v hv; ⟨x, y, z1.cut hd z⟩, f⟩

section
variable {P : Program} {E : Env} {N0 : Nat}

def join {α : Type} (n : Nat) (f g : Nat → Option α) : Nat → Option α := fun id => cond (Nat.blt id n) (f id) (g id)
theorem join_lt {α : Type} {n id : Nat} {f g : Nat → Option α} (h : id < n) : join n f g id = f id := by simp [join, blt_true h]
theorem join_ge {α : Type} {n id : Nat} {f g : Nat → Option α} (h : n ≤ id) : join n f g id = g id := by simp [join, blt_false h]

/-- a step that knows only a part of the heap, up to the number n; the rest, from n1 on, is kept -/
theorem graft {M M' : LM} {g g1 g' : Nat → Option Ob} {n n1 nx : Nat} {hp hp' : Array Obj} (hrel : Rel P E N0 M g nx hp) (hrel' : Rel P E N0 M' g' n1 hp') (ht : Tr1 (cut M n) g1 hp M' g' hp')
    (hsub : ∀ id ob, g1 id = some ob → g id = some ob) (hg1 : ∀ id ob, g1 id = some ob → id < n) (hnn : n ≤ n1) (hnx : n1 ≤ nx) (hM : ∀ id L, M id = some L → id < n ∨ n1 ≤ id) :
    Rel P E N0 (join n1 M' M) (join n1 g' g) nx hp' ∧ Tr1 M g hp (join n1 M' M) (join n1 g' g) hp' ∧ LM.le M' (join n1 M' M) := by
  have le' : LM.le M' (join n1 M' M) := fun id L h => by rw [join_lt (hrel'.dom _ _ h)]; exact h
  have le : LM.le M (join n1 M' M) := fun id L h => by
    rcases hM id L h with hl | hl
    · rw [join_lt (by omega)]; exact ht.le _ _ (cut_some h hl)
    · rw [join_ge hl]; exact h
  have own1 : ∀ b, Own (cut M n) g1 b → Own M g b := by
    rintro b ⟨id, ob, L, h1, h2, h3⟩; exact ⟨id, ob, L, hsub _ _ h1, (some_cut h2).2, h3⟩
  have far : ∀ id ob L, n1 ≤ id → g id = some ob → M id = some L → ¬ Own (cut M n) g1 L.block := by
    rintro id ob L hid hg hm ⟨id2, ob2, L2, h1, h2, h3⟩
    have := hrel.inj id2 id ob2 ob L2 L (hsub _ _ h1) hg (some_cut h2).2 hm h3
    have := hg1 _ _ h1
    omega
  have blk : ∀ id ob L, g id = some ob → M id = some L → L.block < hp.size := fun id ob L h1 h2 => by
    obtain ⟨L', o', h3, h4, _⟩ := hrel.obj id ob h1
    rw [h2] at h3; cases h3
    exact (Array.getElem?_eq_some_iff.1 h4).1
  refine ⟨⟨?_, ?_, ?_, hrel'.ext, hrel'.n0⟩, ⟨le, ht.sz, fun b hb hn => ht.keep b hb (fun ho => hn (own1 b ho)), ?_, ht.nf⟩, le'⟩
  · intro id L h
    rcases Nat.lt_or_ge id n1 with hl | hl
    · omega
    · rw [join_ge hl] at h; exact hrel.dom _ _ h
  · intro id ob h
    rcases Nat.lt_or_ge id n1 with hl | hl
    · rw [join_lt hl] at h
      obtain ⟨L, o, h1, h2, h3, h4⟩ := hrel'.obj id ob h
      exact ⟨L, o, le' _ _ h1, h2, h3.mono le', h4⟩
    · rw [join_ge hl] at h
      obtain ⟨L, o, h1, h2, h3, h4⟩ := hrel.obj id ob h
      exact ⟨L, o, le _ _ h1, by rw [ht.keep L.block (blk _ _ _ h h1) (far _ _ _ hl h h1)]; exact h2, h3.mono le, h4⟩
  · have mix : ∀ id id' ob ob' L L', id < n1 → n1 ≤ id' → g' id = some ob → g id' = some ob' → M' id = some L → M id' = some L' → L.block ≠ L'.block := by
      intro id id' ob ob' L L' hl hl' hg hg' hm hm' e
      have hb := blk _ _ _ hg' hm'
      exact far _ _ _ hl' hg' hm' (ht.own L'.block hb ⟨id, ob, L, hg, hm, e⟩)
    intro id id' ob ob' L L' hg hg' hm hm' e
    rcases Nat.lt_or_ge id n1 with hl | hl
    · rcases Nat.lt_or_ge id' n1 with hl' | hl'
      · rw [join_lt hl] at hg hm; rw [join_lt hl'] at hg' hm'
        exact hrel'.inj _ _ _ _ _ _ hg hg' hm hm' e
      · rw [join_lt hl] at hg hm; rw [join_ge hl'] at hg' hm'
        exact absurd e (mix _ _ _ _ _ _ hl hl' hg hg' hm hm')
    · rcases Nat.lt_or_ge id' n1 with hl' | hl'
      · rw [join_ge hl] at hg hm; rw [join_lt hl'] at hg' hm'
        exact absurd e.symm (mix _ _ _ _ _ _ hl' hl hg' hg hm' hm)
      · rw [join_ge hl] at hg hm; rw [join_ge hl'] at hg' hm'
        exact hrel.inj _ _ _ _ _ _ hg hg' hm hm' e
  · rintro b hb ⟨id, ob, L, hg, hm, e⟩
    rcases Nat.lt_or_ge id n1 with hl | hl
    · rw [join_lt hl] at hg hm
      exact own1 b (ht.own b hb ⟨id, ob, L, hg, hm, e⟩)
    · rw [join_ge hl] at hg hm
      exact ⟨id, ob, L, hg, hm, e⟩

/-- from a walk of one operation, that never ends otherwise: one outcome -/
theorem wpIn_ex {l : Option Nat} {m : Nat} {o : Oper} {a : Act} {w : World} {next : Act → World → Prop} (h : o.wpIn (fen l) m P a w next (fun _ _ _ => False)) : ∃ a' w', next a' w' := by
  have room : ∀ k, (fen l).room k := fun k => by cases l <;> exact room_wide k
  obtain ⟨_, h⟩ := h
  generalize (o.semAt (fen l).round a.eval).run P w = res at h
  cases res with
  | ok x w' =>
    cases x <;> simp only [Oper.uponIn] at h
    case value => exact ⟨_, _, h⟩
    case skip => exact ⟨_, _, h⟩
    case defer => exact ⟨_, _, h⟩
    case enter f args =>
      obtain ⟨_, _, hc⟩ := h
      obtain ⟨e, w2, fr, hR, _⟩ := hc [] (room _)
      cases e with
      | returned v => exact ⟨_, _, hR⟩
      | panicked c => exact hR.elim
      | outgrown => obtain ⟨_, _, h⟩ := hR; exact h.elim
    case row row args =>
      obtain ⟨_, hr⟩ := h
      obtain ⟨v, w2, hR, _⟩ := hr default [] (room _)
      exact ⟨_, _, hR⟩
    case round =>
      obtain ⟨_, _, hc⟩ := h
      obtain ⟨e, w2, hR, _⟩ := hc default [] (room _)
      cases e with
      | returned v => exact ⟨_, _, hR⟩
      | panicked c => exact hR.elim
      | outgrown => obtain ⟨_, _, h⟩ := hR; exact h.elim
  | halt x w' => cases x <;> simp only [Oper.uponIn] at h

/-- the canonical run's data: registers, heaps, values, who is wanted -/
structure Canon (E : Env) (call : CallF) (all os : List AOper) (rs : Nat → Regs) (Hs : Nat → Hp) (vs : Nat → V) (bs : Nat → Bool) : Prop where
  w : ∀ p o, os[p]? = some o → wanted (rs p) o.guard = some (bs p)
  put : ∀ p o, os[p]? = some o → rs (p + 1) = Vm.put (rs p) o.dst (vs p)
  step : ∀ p o, os[p]? = some o → bs p = true → stepOp E call (rs p) (Hs p) o.op = some (vs p, Hs (p + 1))
  ag : ∀ p o, os[p]? = some o → bs p = true → again E all (rs p) (Hs (p + 1)) o.re = true
  no : ∀ p o, os[p]? = some o → bs p = false → vs p = .tup [] ∧ Hs (p + 1) = Hs p
  nx : ∀ p o, os[p]? = some o → (Hs p).next ≤ (Hs (p + 1)).next

theorem canon {call : CallF} {all : List AOper} : ∀ (os : List AOper) (r : Regs) (H : Hp) (r' : Regs) (H' : Hp), runDraw E call all os r H = some (r', H') →
    ∃ rs Hs vs bs, rs 0 = r ∧ Hs 0 = H ∧ rs os.length = r' ∧ Hs os.length = H' ∧ Canon E call all os rs Hs vs bs
  | [], r, H, r', H', h => by
    simp only [runDraw, Option.some.injEq, Prod.mk.injEq] at h
    obtain ⟨rfl, rfl⟩ := h
    exact ⟨fun _ => r, fun _ => H, fun _ => .nilp, fun _ => false, rfl, rfl, rfl, rfl, ⟨by simp, by simp, by simp, by simp, by simp, by simp⟩⟩
  | o :: os, r, H, r', H', h => by
    simp only [runDraw, Option.bind_eq_some_iff] at h
    obtain ⟨b, hb, h⟩ := h
    have key : ∃ v H1, runDraw E call all os (put r o.dst v) H1 = some (r', H') ∧ (b = true → stepOp E call r H o.op = some (v, H1) ∧ again E all r H1 o.re = true) ∧ (b = false → v = .tup [] ∧ H1 = H) ∧ H.next ≤ H1.next := by
      cases b with
      | true =>
        simp only [cond_true, Option.bind_eq_some_iff] at h
        obtain ⟨⟨v, H1⟩, h1, h⟩ := h
        cases hx : (Nat.ble H.next H1.next && again E all r H1 o.re) with
        | false => simp only [hx, cond_false] at h; cases h
        | true =>
          simp only [hx, cond_true] at h
          simp only [Bool.and_eq_true, Nat.ble_eq] at hx
          exact ⟨v, H1, h, fun _ => ⟨h1, hx.2⟩, (fun e => by cases e), hx.1⟩
      | false =>
        simp only [cond_false] at h
        exact ⟨.tup [], H, h, (fun e => by cases e), fun _ => ⟨rfl, rfl⟩, Nat.le_refl _⟩
    obtain ⟨v, H1, h1, h2, h3, h4⟩ := key
    obtain ⟨rs, Hs, vs, bs, e1, e2, e3, e4, C⟩ := canon os _ _ _ _ h1
    refine ⟨fun n => match n with | 0 => r | n + 1 => rs n, fun n => match n with | 0 => H | n + 1 => Hs n, fun n => match n with | 0 => v | n + 1 => vs n, fun n => match n with | 0 => b | n + 1 => bs n, rfl, rfl, e3, e4, ?_⟩
    constructor
    · intro p q hp
      cases p with
      | zero => simp only [List.getElem?_cons_zero, Option.some.injEq] at hp; subst hp; exact hb
      | succ p => exact C.w p q (by simpa using hp)
    · intro p q hp
      cases p with
      | zero => simp only [List.getElem?_cons_zero, Option.some.injEq] at hp; subst hp; exact e1
      | succ p => exact C.put p q (by simpa using hp)
    · intro p q hp hq
      cases p with
      | zero => simp only [List.getElem?_cons_zero, Option.some.injEq] at hp; subst hp; simp only [e2]; exact (h2 hq).1
      | succ p => exact C.step p q (by simpa using hp) hq
    · intro p q hp hq
      cases p with
      | zero => simp only [List.getElem?_cons_zero, Option.some.injEq] at hp; subst hp; simp only [e2]; exact (h2 hq).2
      | succ p => exact C.ag p q (by simpa using hp) hq
    · intro p q hp hq
      cases p with
      | zero => simp only [List.getElem?_cons_zero, Option.some.injEq] at hp; subst hp; simp only [e2]; exact h3 hq
      | succ p => exact C.no p q (by simpa using hp) hq
    · intro p q hp
      cases p with
      | zero => simp only [List.getElem?_cons_zero, Option.some.injEq] at hp; subst hp; simp only [e2]; exact h4
      | succ p => exact C.nx p q (by simpa using hp)
end
end Go.Vm

namespace Go.Vm
section
variable {P : Program} {E : Env} {N0 : Nat} {call : CallF} {nt : Nat} {ops : Array Oper} {all : List AOper} {rs : Nat → Regs} {Hs : Nat → Hp} {vs : Nat → V} {bs : Nat → Bool}

/-- a canonical run and what is known of its states -/
structure DC (P : Program) (E : Env) (N0 : Nat) (call : CallF) (nt : Nat) (ops : Array Oper) (all : List AOper) (rs : Nat → Regs) (Hs : Nat → Hp) (vs : Nat → V) (bs : Nat → Bool) : Prop where
  can : Canon E call all all rs Hs vs bs
  dst : ∀ (p p' : Nat) (o o' : AOper) (t : Nat), all[p]? = some o → all[p']? = some o' → o.dst = some t → o'.dst = some t → p = p'
  wf : ∀ p, p ≤ all.length → ∃ (M : LM) (hp : Array Obj) (tm : Array Value), Rel P E N0 M (Hs p).get (Hs p).next hp ∧ RR M (rs p) tm

theorem look_restrict_mem {r : Regs} : ∀ {ks : List Nat} {t : Nat}, t ∈ ks → look (restrict r ks) t = look r t
  | [], t, h => by cases h
  | k :: ks, t, h => by
    by_cases hk : k = t
    · subst hk
      cases hl : look r k with
      | some v => simp [restrict, hl, look_cons]
      | none =>
        simp only [restrict, hl]
        cases hx : look (restrict r ks) k with
        | none => rfl
        | some v => rw [look_restrict hx] at hl; cases hl
    · have hm : t ∈ ks := by rcases List.mem_cons.1 h with e | e; exact absurd e.symm hk; exact e
      have ih := look_restrict_mem (r := r) hm
      cases hl : look r k with
      | some v => simp only [restrict, hl, look_cons, hk, if_false]; exact ih
      | none => simp only [restrict, hl]; exact ih

theorem look_restrict_only {r : Regs} : ∀ {ks : List Nat} {t : Nat} {v : V}, look (restrict r ks) t = some v → t ∈ ks
  | [], t, v, h => by simp [restrict, look] at h
  | k :: ks, t, v, h => by
    cases hl : look r k with
    | some u =>
      simp only [restrict, hl, look_cons] at h
      by_cases hk : k = t
      · simp [hk]
      · simp only [hk, if_false] at h; exact List.mem_cons_of_mem _ (look_restrict_only h)
    | none =>
      simp only [restrict, hl] at h
      exact List.mem_cons_of_mem _ (look_restrict_only h)

theorem DC.look_at (D : DC P E N0 call nt ops all rs Hs vs bs) {p' : Nat} {o : AOper} {t : Nat} (ho : all[p']? = some o) (hd : o.dst = some t) : ∀ p, p' < p → p ≤ all.length → look (rs p) t = some (vs p') := by
  intro p
  induction p with
  | zero => intro h; omega
  | succ k ih =>
    intro hlt hle
    obtain ⟨ok, hok⟩ : ∃ ok, all[k]? = some ok := ⟨_, List.getElem?_eq_getElem (by omega)⟩
    rw [D.can.put k ok hok]
    by_cases hk : p' = k
    · subst hk
      rw [ho] at hok; cases hok
      rw [hd]; simp [put, look_cons]
    · cases hdk : ok.dst with
      | none => simp only [put]; exact ih (by omega) (by omega)
      | some t' =>
        have hne : t' ≠ t := by rintro rfl; exact hk (D.dst _ _ _ _ _ ho hok hd hdk)
        simp only [put, look_cons, hne, if_false]
        exact ih (by omega) (by omega)

theorem DC.look_no (D : DC P E N0 call nt ops all rs Hs vs bs) {t : Nat} : ∀ p, p ≤ all.length → (∀ (p' : Nat) (o : AOper), p' < p → all[p']? = some o → o.dst ≠ some t) → look (rs p) t = look (rs 0) t := by
  intro p
  induction p with
  | zero => intros; rfl
  | succ k ih =>
    intro hle hno
    obtain ⟨ok, hok⟩ : ∃ ok, all[k]? = some ok := ⟨_, List.getElem?_eq_getElem (by omega)⟩
    rw [D.can.put k ok hok]
    have h1 := hno k ok (by omega) hok
    rw [← ih (by omega) (fun p' o h h' => hno p' o (by omega) h')]
    cases hdk : ok.dst with
    | none => rfl
    | some t' =>
      have hne : t' ≠ t := by rintro rfl; exact h1 hdk
      simp only [put, look_cons, hne, if_false]

theorem DC.nxle (D : DC P E N0 call nt ops all rs Hs vs bs) {p : Nat} : ∀ q, p ≤ q → q ≤ all.length → (Hs p).next ≤ (Hs q).next := by
  intro q
  induction q with
  | zero => intro h _; rw [Nat.le_zero.1 h]; exact Nat.le_refl _
  | succ k ih =>
    intro h hle
    by_cases he : p = k + 1
    · subst he; exact Nat.le_refl _
    · obtain ⟨ok, hok⟩ : ∃ ok, all[k]? = some ok := ⟨_, List.getElem?_eq_getElem (by omega)⟩
      exact Nat.le_trans (ih (by omega) (by omega)) (D.can.nx k ok hok)

theorem DC.fresh (D : DC P E N0 call nt ops all rs Hs vs bs) {p : Nat} (hp : p ≤ all.length) {id : Nat} {ob : Ob} (h : (Hs p).get id = some ob) : id < (Hs p).next := by
  obtain ⟨M, hp', tm, hrel, _⟩ := D.wf p hp
  obtain ⟨L, _, h1, _⟩ := hrel.obj id ob h
  exact hrel.dom _ _ h1

/-- a new object is made at place p -/
def NewAt (all : List AOper) (Hs : Nat → Hp) (bs : Nat → Bool) (p id : Nat) (ob : Ob) : Prop := ∃ o, all[p]? = some o ∧ o.op.kind = .new ∧ bs p = true ∧ id = (Hs p).next ∧ Hs (p + 1) = (Hs p).new ob

theorem NewAt.lt {p id : Nat} {ob : Ob} (h : NewAt all Hs bs p id ob) : p < all.length := by
  obtain ⟨o, ho, _⟩ := h; exact (List.getElem?_eq_some_iff.1 ho).1
theorem NewAt.nx {p id : Nat} {ob : Ob} (h : NewAt all Hs bs p id ob) : (Hs (p + 1)).next = id + 1 := by
  obtain ⟨o, _, _, _, rfl, h⟩ := h; rw [h]; rfl

theorem DC.heapL (D : DC P E N0 call nt ops all rs Hs vs bs) {K : Nat} : ∀ q, K ≤ q → q ≤ all.length → (∀ (p : Nat) (o : AOper), K ≤ p → p < q → all[p]? = some o → o.op.kind = .act → bs p = false) →
    ∀ id ob, (Hs q).get id = some ob ↔ (Hs K).get id = some ob ∨ ∃ p, K ≤ p ∧ p < q ∧ NewAt all Hs bs p id ob := by
  intro q
  induction q with
  | zero =>
    intro h _ _ id ob
    obtain rfl : K = 0 := by omega
    exact ⟨.inl, fun h => h.elim _root_.id fun ⟨p, _, h, _⟩ => by omega⟩
  | succ k ih =>
    intro h hle hno id ob
    by_cases he : K = k + 1
    · subst he
      exact ⟨.inl, fun h => h.elim _root_.id fun ⟨p, _, h, _⟩ => by omega⟩
    have ih := ih (by omega) (by omega) (fun p o h1 h2 => hno p o h1 (by omega)) id ob
    obtain ⟨ok, hok⟩ : ∃ ok, all[k]? = some ok := ⟨_, List.getElem?_eq_getElem (by omega)⟩
    have same : Hs (k + 1) = Hs k → (∀ ob, ¬ NewAt all Hs bs k id ob) → ((Hs (k + 1)).get id = some ob ↔ (Hs K).get id = some ob ∨ ∃ p, K ≤ p ∧ p < k + 1 ∧ NewAt all Hs bs p id ob) := by
      intro e hn
      rw [e, ih]
      constructor
      · rintro (h | ⟨p, h1, h2, h3⟩)
        · exact .inl h
        · exact .inr ⟨p, h1, by omega, h3⟩
      · rintro (h | ⟨p, h1, h2, h3⟩)
        · exact .inl h
        · have : p ≠ k := by rintro rfl; exact hn _ h3
          exact .inr ⟨p, h1, by omega, h3⟩
    cases hb : bs k with
    | false => exact same (D.can.no k ok hok hb).2 (fun ob ⟨_, _, _, h, _⟩ => by rw [hb] at h; cases h)
    | true =>
      have hst := D.can.step k ok hok hb
      unfold stepOp at hst
      cases hk : ok.op.kind with
      | pure =>
        simp only [hk, Option.bind_eq_some_iff, Option.some.injEq, Prod.mk.injEq] at hst
        obtain ⟨_, _, _, e⟩ := hst
        exact same e.symm (fun ob ⟨o', h1, h2, _⟩ => by rw [hok] at h1; cases h1; rw [hk] at h2; cases h2)
      | read =>
        simp only [hk, Option.bind_eq_some_iff, Option.some.injEq, Prod.mk.injEq] at hst
        obtain ⟨_, _, _, e⟩ := hst
        exact same e.symm (fun ob ⟨o', h1, h2, _⟩ => by rw [hok] at h1; cases h1; rw [hk] at h2; cases h2)
      | act => exact absurd (hno k ok (by omega) (by omega) hok hk) (by rw [hb]; simp)
      | new =>
        simp only [hk, Option.bind_eq_some_iff, Option.some.injEq, Prod.mk.injEq] at hst
        obtain ⟨⟨f, ob1⟩, _, _, e⟩ := hst
        simp only at e
        have hnew : NewAt all Hs bs k (Hs k).next ob1 := ⟨ok, hok, hk, hb, rfl, e.symm⟩
        rw [← e, get_new]
        simp only [gset]
        by_cases hid : id = (Hs k).next
        · subst hid
          simp only [if_true]
          constructor
          · intro h; cases h; exact .inr ⟨k, by omega, by omega, hnew⟩
          · rintro (h | ⟨p, h1, h2, h3⟩)
            · have := D.fresh (by omega) h
              have := D.nxle (p := K) k (by omega) (by omega)
              omega
            · by_cases hpk : p = k
              · subst hpk
                obtain ⟨o', _, _, _, _, e'⟩ := h3
                rw [← e] at e'
                have := congrArg (fun H => Hp.get H (Hs p).next) e'
                simpa [get_new, gset] using this
              · have := h3.nx
                have := D.nxle (p := p + 1) k (by omega) (by omega)
                omega
        · simp only [hid, if_false]
          rw [ih]
          constructor
          · rintro (h | ⟨p, h1, h2, h3⟩)
            · exact .inl h
            · exact .inr ⟨p, h1, by omega, h3⟩
          · rintro (h | ⟨p, h1, h2, h3⟩)
            · exact .inl h
            · have : p ≠ k := by rintro rfl; obtain ⟨_, _, _, _, h, _⟩ := h3; exact hid h
              exact .inr ⟨p, h1, by omega, h3⟩

structure Inv (P : Program) (E : Env) (N0 : Nat) (nt : Nat) (all : List AOper) (rs : Nat → Regs) (Hs : Nat → Hp) (vs : Nat → V) (bs : Nat → Bool) (M0 : LM) (w0 : World) (a0 : Act) (S : Nat → Prop) (M : LM) (g : Nat → Option Ob) (K : Nat) (a : Act) (w : World) : Prop where
  hK : K ≤ all.length
  acts : ∀ (p : Nat) (o : AOper), all[p]? = some o → o.op.kind = .act → bs p = true → (S p ↔ p < K)
  top : K = 0 ∨ ∃ o, all[K - 1]? = some o ∧ o.op.kind = .act ∧ bs (K - 1) = true
  news : ∀ (p : Nat) (o : AOper), all[p]? = some o → o.op.kind = .new → p < K → S p
  rel : Rel P E N0 M g (Hs all.length).next w.heap
  heap : ∀ id ob, g id = some ob ↔ (Hs K).get id = some ob ∨ ∃ p, K ≤ p ∧ S p ∧ NewAt all Hs bs p id ob
  dom : ∀ id L, M id = some L → id < (Hs K).next ∨ ∃ p ob, K ≤ p ∧ S p ∧ NewAt all Hs bs p id ob
  tr : TrW M0 (Hs 0).get w0 M g w
  sl1 : ∀ (p : Nat) (o : AOper) (t : Nat), all[p]? = some o → o.dst = some t → S p → ∃ x, a.tmps[t]? = some x ∧ VR M (vs p) x
  sl2 : ∀ (t : Nat) (v : V), (∀ (p : Nat) (o : AOper), all[p]? = some o → o.dst = some t → ¬ S p) → look (rs 0) t = some v → ∃ x, a.tmps[t]? = some x ∧ VR M v x
  size : a.tmps.size = nt
  defers : a.defers = a0.defers

/-- what the order says of an operation that is taken now -/
structure StepOk (all : List AOper) (S : Nat → Prop) (q : Nat) (o : AOper) : Prop where
  qn : ¬ S q
  o1 : ∀ (p : Nat) (b : AOper), all[p]? = some b → p < q → mustOrd b.op.kind o.op.kind = true → S p
  o2 : ∀ (p : Nat) (b : AOper), all[p]? = some b → q < p → mustOrd o.op.kind b.op.kind = true → ¬ S p
  o3 : o.op.kind = .read → ∀ (p : Nat) (b : AOper), all[p]? = some b → q < p → b.op.kind = .act → S p → q ∈ b.re
  u : ∀ t ∈ o.uses, ∀ (p : Nat) (b : AOper), all[p]? = some b → b.dst = some t → (p < q ∧ S p) ∨ (o.op.kind ≠ .read ∧ q ≤ p ∧ ¬ S p)

variable {M0 : LM} {w0 : World} {a0 : Act} {S : Nat → Prop} {M : LM} {g : Nat → Option Ob} {K : Nat} {a : Act} {w : World} {q : Nat} {o : AOper}

theorem Inv.rr (D : DC P E N0 call nt ops all rs Hs vs bs) (I : Inv P E N0 nt all rs Hs vs bs M0 w0 a0 S M g K a w) (hq : all[q]? = some o) (hso : StepOk all S q o) : RR M (restrict (rs q) o.uses) a.tmps := by
  intro t v h
  have ht := look_restrict_only h
  have hv := look_restrict h
  have hle : q ≤ all.length := Nat.le_of_lt (List.getElem?_eq_some_iff.1 hq).1
  by_cases hex : ∃ (p : Nat) (b : AOper), all[p]? = some b ∧ b.dst = some t
  · obtain ⟨p, b, hb, hd⟩ := hex
    rcases hso.u t ht p b hb hd with ⟨hl, hS⟩ | ⟨_, hge, hS⟩
    · rw [D.look_at hb hd q hl hle] at hv; cases hv
      exact I.sl1 p b t hb hd hS
    · rw [D.look_no q hle (fun p' o' h1 h2 h3 => by have := D.dst _ _ _ _ _ h2 hb h3 hd; omega)] at hv
      exact I.sl2 t v (fun p' o' h2 h3 => by rw [D.dst _ _ _ _ _ h2 hb h3 hd]; exact hS) hv
  · rw [D.look_no q hle (fun p' o' _ h2 h3 => hex ⟨p', o', h2, h3⟩)] at hv
    exact I.sl2 t v (fun p' o' h2 h3 => absurd ⟨p', o', h2, h3⟩ hex) hv

theorem get_put_tmps (a : Act) (dst : Option Nat) (x : Value) (t : Nat) (h : ∀ d, dst = some d → d < a.tmps.size) : (a.put dst x).tmps[t]? = if dst = some t then some x else a.tmps[t]? := by
  cases dst with
  | none => simp [Act.put]
  | some d =>
    simp only [Act.put, Option.some.injEq]
    by_cases hd : d = t
    · subst hd; simp [h d rfl]
    · simp [hd, Array.getElem?_setIfInBounds_ne hd]

theorem Inv.slots (D : DC P E N0 call nt ops all rs Hs vs bs) (I : Inv P E N0 nt all rs Hs vs bs M0 w0 a0 S M g K a w) (hq : all[q]? = some o) (hd : ∀ d, o.dst = some d → d < nt) {M' : LM} (hle : LM.le M M') {x : Value} (hv : VR M' (vs q) x) :
    (∀ (p : Nat) (b : AOper) (t : Nat), all[p]? = some b → b.dst = some t → S p ∨ p = q → ∃ x', (a.put o.dst x).tmps[t]? = some x' ∧ VR M' (vs p) x') ∧
    (∀ (t : Nat) (v : V), (∀ (p : Nat) (b : AOper), all[p]? = some b → b.dst = some t → ¬ (S p ∨ p = q)) → look (rs 0) t = some v → ∃ x', (a.put o.dst x).tmps[t]? = some x' ∧ VR M' v x') := by
  have hd' : ∀ d, o.dst = some d → d < a.tmps.size := fun d h => by rw [I.size]; exact hd d h
  constructor
  · intro p b t hb ht hS
    rw [get_put_tmps a _ x t hd']
    by_cases hdt : o.dst = some t
    · have hpq := D.dst _ _ _ _ _ hb hq ht hdt
      subst hpq
      simp only [hdt, if_true]; exact ⟨x, rfl, hv⟩
    · rcases hS with hS | rfl
      · simp only [hdt, if_false]
        obtain ⟨x', h1, h2⟩ := I.sl1 p b t hb ht hS
        exact ⟨x', h1, h2.mono hle⟩
      · rw [hq] at hb; cases hb; exact absurd ht hdt
  · intro t v hno hl
    rw [get_put_tmps a _ x t hd']
    have hdt : o.dst ≠ some t := fun h => hno q o hq h (.inr rfl)
    simp only [hdt, if_false]
    obtain ⟨x', h1, h2⟩ := I.sl2 t v (fun p b h1 h2 h3 => hno p b h1 h2 (.inl h3)) hl
    exact ⟨x', h1, h2.mono hle⟩

theorem Inv.stay (D : DC P E N0 call nt ops all rs Hs vs bs) (I : Inv P E N0 nt all rs Hs vs bs M0 w0 a0 S M g K a w) (hq : all[q]? = some o) (hd : ∀ d, o.dst = some d → d < nt) (hk : bs q = true → o.op.kind ≠ .act ∧ o.op.kind ≠ .new)
    {x : Value} (hv : VR M (vs q) x) : Inv P E N0 nt all rs Hs vs bs M0 w0 a0 (fun p => S p ∨ p = q) M g K (a.put o.dst x) w := by
  obtain ⟨s1, s2⟩ := I.slots D hq hd (LM.le.refl M) hv
  have nn : ∀ id ob, ¬ NewAt all Hs bs q id ob := fun id ob ⟨o', h1, h2, h3, _⟩ => by rw [hq] at h1; cases h1; exact (hk h3).2 h2
  refine ⟨I.hK, ?_, I.top, fun p b h1 h2 h3 => .inl (I.news p b h1 h2 h3), I.rel, ?_, ?_, I.tr, s1, s2, by rw [put_size]; exact I.size, by rw [put_defers]; exact I.defers⟩
  · intro p b h1 h2 h3
    constructor
    · rintro (h | rfl)
      · exact (I.acts p b h1 h2 h3).1 h
      · rw [hq] at h1; cases h1; exact absurd h2 (hk h3).1
    · intro h; exact .inl ((I.acts p b h1 h2 h3).2 h)
  · intro id ob
    rw [I.heap id ob]
    constructor
    · rintro (h | ⟨p, h1, h2, h3⟩)
      · exact .inl h
      · exact .inr ⟨p, h1, .inl h2, h3⟩
    · rintro (h | ⟨p, h1, h2 | rfl, h3⟩)
      · exact .inl h
      · exact .inr ⟨p, h1, h2, h3⟩
      · exact absurd h3 (nn _ _)
  · intro id L h
    rcases I.dom id L h with h | ⟨p, ob, h1, h2, h3⟩
    · exact .inl h
    · exact .inr ⟨p, ob, h1, .inl h2, h3⟩

theorem Inv.kle (I : Inv P E N0 nt all rs Hs vs bs M0 w0 a0 S M g K a w) (hso : StepOk all S q o) (hk : mustOrd o.op.kind .act = true) : K ≤ q := by
  rcases I.top with h | ⟨b, h1, h2, h3⟩
  · omega
  · have hS : S (K - 1) ∨ K = 0 := by
      by_cases h0 : K = 0
      · exact .inr h0
      · exact .inl ((I.acts _ b h1 h2 h3).2 (by omega))
    rcases hS with hS | h0
    · refine Nat.le_of_not_lt fun hlt => ?_
      by_cases e : K - 1 = q
      · rw [e] at hS; exact hso.qn hS
      · exact hso.o2 (K - 1) b h1 (by omega) (by rw [h2]; exact hk) hS
    · omega

theorem Inv.sub (D : DC P E N0 call nt ops all rs Hs vs bs) (I : Inv P E N0 nt all rs Hs vs bs M0 w0 a0 S M g K a w) (hq : all[q]? = some o) (hso : StepOk all S q o) (hk : mustOrd .act o.op.kind = true) (hk' : mustOrd .new o.op.kind = true) (hKq : K ≤ q) :
    ∀ id ob, (Hs q).get id = some ob → g id = some ob := by
  intro id ob h
  have hle : q ≤ all.length := Nat.le_of_lt (List.getElem?_eq_some_iff.1 hq).1
  have hl := (D.heapL q hKq hle (fun p b h1 h2 h3 h4 => by
    cases hb : bs p with
    | false => rfl
    | true =>
      have := (I.acts p b h3 h4 hb).1 (hso.o1 p b h3 h2 (by rw [h4]; exact hk))
      omega) id ob).1 h
  refine (I.heap id ob).2 ?_
  rcases hl with hl | ⟨p, h1, h2, h3⟩
  · exact .inl hl
  · obtain ⟨b, hb, hbk, hr⟩ := h3
    exact .inr ⟨p, h1, hso.o1 p b hb h2 (by rw [hbk]; exact hk'), ⟨b, hb, hbk, hr⟩⟩

theorem again_spec {r : Regs} {H : Hp} : ∀ {is : List Nat} {i : Nat}, again E all r H is = true → i ∈ is → ∃ b, all[i]? = some b ∧ (wanted r b.guard = some false ∨ (wanted r b.guard = some true ∧ ∃ v d, readOp E r H b.op = some v ∧ b.dst = some d ∧ look r d = some v))
  | [], _, _, h => by cases h
  | j :: js, i, h, hm => by
    simp only [again, Bool.and_eq_true] at h
    rcases List.mem_cons.1 hm with rfl | hm
    · have h := h.1
      split at h
      · rename_i b hb
        refine ⟨b, hb, ?_⟩
        split at h
        · rename_i hw
          split at h
          · rename_i v d hv hd
            split at h
            · rename_i v' hl
              exact .inr ⟨hw, v, d, hv, hd, by rw [hl, V.beq_eq _ _ h]⟩
            · cases h
          · cases h
        · rename_i hw; exact .inl hw
        · cases h
      · cases h
    · exact again_spec h.2 hm

theorem Inv.act (D : DC P E N0 call nt ops all rs Hs vs bs) (I : Inv P E N0 nt all rs Hs vs bs M0 w0 a0 S M g K a w) (hq : all[q]? = some o) (hso : StepOk all S q o) (hd : ∀ d, o.dst = some d → d < nt) (hk : o.op.kind = .act) (hb : bs q = true) :
    Rel P E N0 (cut M (Hs q).next) (Hs q).get (Hs q).next w.heap ∧ RR (cut M (Hs q).next) (restrict (rs q) o.uses) a.tmps ∧
    ∀ x M' w', VR M' (vs q) x → Rel P E N0 M' (Hs (q + 1)).get (Hs (q + 1)).next w'.heap → TrW (cut M (Hs q).next) (Hs q).get w M' (Hs (q + 1)).get w' →
      ∃ M2 g2, Inv P E N0 nt all rs Hs vs bs M0 w0 a0 (fun p => S p ∨ p = q) M2 g2 (q + 1) (a.put o.dst x) w' := by
  have hlt : q < all.length := (List.getElem?_eq_some_iff.1 hq).1
  have hKq : K ≤ q := I.kle hso (by rw [hk]; rfl)
  have hsub := I.sub D hq hso (by rw [hk]; rfl) (by rw [hk]; rfl) hKq
  obtain ⟨M1, hp1, tm1, hrel1, hrr1⟩ := D.wf q (by omega)
  refine ⟨⟨fun id L h => (some_cut h).1, ?_, ?_, I.rel.ext, I.rel.n0⟩, ?_, ?_⟩
  · intro id ob h
    obtain ⟨L, ob', h1, h2, h3, h4⟩ := I.rel.obj id ob (hsub _ _ h)
    obtain ⟨L1, o1, _, _, h5, _⟩ := hrel1.obj id ob h
    exact ⟨L, ob', cut_some h1 (D.fresh (by omega) h), h2, OR.cut hrel1.dom h5 h3, h4⟩
  · intro id id' ob ob' L L' h1 h2 h3 h4 h5
    exact I.rel.inj id id' ob ob' L L' (hsub _ _ h1) (hsub _ _ h2) (some_cut h3).2 (some_cut h4).2 h5
  · intro t v h
    obtain ⟨x, h1, h2⟩ := I.rr D hq hso t v h
    obtain ⟨x1, _, h3⟩ := hrr1 t v (look_restrict h)
    exact ⟨x, h1, h3.cut hrel1.dom h2⟩
  · intro x M' w' hv hrel' ht
    have hn1 : (Hs q).next ≤ (Hs (q + 1)).next := D.can.nx q o hq
    have hnK : (Hs K).next ≤ (Hs q).next := D.nxle q hKq (by omega)
    have ids : ∀ p id ob, S p → NewAt all Hs bs p id ob → (p < q ∧ id < (Hs q).next) ∨ (q < p ∧ (Hs (q + 1)).next ≤ id) := by
      intro p id ob hS hn
      rcases Nat.lt_trichotomy p q with h | h | h
      · have := hn.nx
        have := D.nxle (p := p + 1) q (by omega) (by omega)
        exact .inl ⟨h, by omega⟩
      · subst h; exact absurd hS hso.qn
      · have hl := hn.lt
        obtain ⟨b, _, _, _, rfl, _⟩ := hn
        exact .inr ⟨h, D.nxle (p := q + 1) p (by omega) (by omega)⟩
    obtain ⟨g1, g2, g3⟩ := graft I.rel hrel' ht.tr hsub (fun id ob h => D.fresh (by omega) h) hn1 (D.nxle _ (by omega) (Nat.le_refl _)) (fun id L h => by
      rcases I.dom id L h with h | ⟨p, ob, h1, h2, h3⟩
      · exact .inl (by omega)
      · rcases ids p id ob h2 h3 with h | h
        · exact .inl h.2
        · exact .inr h.2)
    obtain ⟨s1, s2⟩ := I.slots D hq hd g2.le (hv.mono g3)
    refine ⟨_, _, ⟨by omega, ?_, .inr ⟨o, by simpa using hq, hk, by simpa using hb⟩, ?_, g1, ?_, ?_, I.tr.trans ⟨g2, ht.os, ht.out⟩, s1, s2, by rw [put_size]; exact I.size, by rw [put_defers]; exact I.defers⟩⟩
    · intro p b h1 h2 h3
      constructor
      · rintro (h | rfl)
        · have := (I.acts p b h1 h2 h3).1 h; omega
        · omega
      · intro h
        by_cases e : p = q
        · exact .inr e
        · exact .inl (hso.o1 p b h1 (by omega) (by rw [h2, hk]; rfl))
    · intro p b h1 h2 h3
      by_cases e : p = q
      · exact .inr e
      · exact .inl (hso.o1 p b h1 (by omega) (by rw [h2, hk]; rfl))
    · intro id ob
      constructor
      · intro h
        rcases Nat.lt_or_ge id (Hs (q + 1)).next with hl | hl
        · rw [join_lt hl] at h; exact .inl h
        · rw [join_ge hl] at h
          rcases (I.heap id ob).1 h with h | ⟨p, h1, h2, h3⟩
          · have := D.fresh I.hK h; omega
          · rcases ids p id ob h2 h3 with h | h
            · omega
            · exact .inr ⟨p, h.1, .inl h2, h3⟩
      · rintro (h | ⟨p, h1, h2 | rfl, h3⟩)
        · rw [join_lt (D.fresh (by omega) h)]; exact h
        · rcases ids p id ob h2 h3 with h | h
          · omega
          · rw [join_ge h.2]; exact (I.heap id ob).2 (.inr ⟨p, by omega, h2, h3⟩)
        · omega
    · intro id L h
      rcases Nat.lt_or_ge id (Hs (q + 1)).next with hl | hl
      · exact .inl hl
      · rw [join_ge hl] at h
        rcases I.dom id L h with h | ⟨p, ob, h1, h2, h3⟩
        · omega
        · rcases ids p id ob h2 h3 with h | h
          · omega
          · exact .inr ⟨p, ob, h.1, .inl h2, h3⟩

theorem Inv.new (D : DC P E N0 call nt ops all rs Hs vs bs) (I : Inv P E N0 nt all rs Hs vs bs M0 w0 a0 S M g K a w) (hq : all[q]? = some o) (hso : StepOk all S q o) (hd : ∀ d, o.dst = some d → d < nt) (hk : o.op.kind = .new) (hb : bs q = true)
    {ob1 : Ob} (hnew : Hs (q + 1) = (Hs q).new ob1) {obj : Obj} {lim : Nat} {x : Value} (hall : ∀ M' id, LM.le M M' → M' id = some ⟨w.heap.size, 0, lim⟩ → id = (Hs q).next → VR M' (vs q) x ∧ OR P M' ob1 ⟨w.heap.size, 0, lim⟩ obj) :
    ∃ M2 g2, Inv P E N0 nt all rs Hs vs bs M0 w0 a0 (fun p => S p ∨ p = q) M2 g2 K (a.put o.dst x) (w.alloc obj) := by
  have hlt : q < all.length := (List.getElem?_eq_some_iff.1 hq).1
  have hKq : K ≤ q := I.kle hso (by rw [hk]; rfl)
  have hnK : (Hs K).next ≤ (Hs q).next := D.nxle q hKq (by omega)
  have hn1 : (Hs (q + 1)).next = (Hs q).next + 1 := by rw [hnew]; rfl
  have hat : NewAt all Hs bs q (Hs q).next ob1 := ⟨o, hq, hk, hb, rfl, hnew⟩
  have ids : ∀ p id ob, S p → NewAt all Hs bs p id ob → id ≠ (Hs q).next := by
    intro p id ob hS hn
    rcases Nat.lt_trichotomy p q with h | h | h
    · have := hn.nx
      have := D.nxle (p := p + 1) q (by omega) (by omega)
      omega
    · subst h; exact absurd hS hso.qn
    · have hl := hn.lt
      obtain ⟨b, _, _, _, rfl, _⟩ := hn
      have := D.nxle (p := q + 1) p (by omega) (by omega)
      omega
  have hfree : M (Hs q).next = none := by
    cases h : M (Hs q).next with
    | none => rfl
    | some L =>
      rcases I.dom _ L h with h | ⟨p, ob, h1, h2, h3⟩
      · omega
      · exact absurd rfl (ids p _ ob h2 h3)
  have hle := mset1_le hfree ⟨w.heap.size, 0, lim⟩
  obtain ⟨hv, hor⟩ := hall _ _ hle (mset1_self _ _) rfl
  obtain ⟨r1, r2⟩ := I.rel.new (nx' := (Hs all.length).next) (o := obj) (ob := ob1) (base := 0) (lim := lim) hfree (by have := D.nxle (p := q + 1) all.length (by omega) (Nat.le_refl _); omega) (Nat.le_refl _) hor
  obtain ⟨s1, s2⟩ := I.slots D hq hd hle hv
  refine ⟨_, _, ⟨I.hK, ?_, I.top, fun p b h1 h2 h3 => .inl (I.news p b h1 h2 h3), r1, ?_, ?_, I.tr.trans ⟨r2, rfl, rfl⟩, s1, s2, by rw [put_size]; exact I.size, by rw [put_defers]; exact I.defers⟩⟩
  · intro p b h1 h2 h3
    constructor
    · rintro (h | rfl)
      · exact (I.acts p b h1 h2 h3).1 h
      · rw [hq] at h1; cases h1; rw [hk] at h2; cases h2
    · intro h; exact .inl ((I.acts p b h1 h2 h3).2 h)
  · intro id ob
    simp only [gset]
    by_cases hid : id = (Hs q).next
    · subst hid
      simp only [if_true]
      constructor
      · intro h; cases h; exact .inr ⟨q, hKq, .inr rfl, hat⟩
      · rintro (h | ⟨p, h1, h2 | rfl, h3⟩)
        · have := D.fresh I.hK h; omega
        · exact absurd rfl (ids p _ ob h2 h3)
        · obtain ⟨_, _, _, _, _, e'⟩ := h3
          rw [hnew] at e'
          have := congrArg (fun H => Hp.get H (Hs p).next) e'
          simpa [get_new, gset] using this
    · simp only [hid, if_false]
      rw [I.heap id ob]
      constructor
      · rintro (h | ⟨p, h1, h2, h3⟩)
        · exact .inl h
        · exact .inr ⟨p, h1, .inl h2, h3⟩
      · rintro (h | ⟨p, h1, h2 | rfl, h3⟩)
        · exact .inl h
        · exact .inr ⟨p, h1, h2, h3⟩
        · obtain ⟨_, _, _, _, h, _⟩ := h3; exact absurd h hid
  · intro id L h
    by_cases hid : id = (Hs q).next
    · subst hid; exact .inr ⟨q, ob1, hKq, .inr rfl, hat⟩
    · simp only [mset1, hid, if_false] at h
      rcases I.dom id L h with h | ⟨p, ob, h1, h2, h3⟩
      · exact .inl h
      · exact .inr ⟨p, ob, h1, .inl h2, h3⟩
end
end Go.Vm

namespace Go.Vm
section
variable {P : Program} {E : Env} {N0 : Nat} {call : CallF} {nt : Nat} {ops : Array Oper} {all : List AOper} {rs : Nat → Regs} {Hs : Nat → Hp} {vs : Nat → V} {bs : Nat → Bool}
variable {M0 : LM} {w0 : World} {a0 : Act} {S : Nat → Prop} {M : LM} {g : Nat → Option Ob} {K : Nat} {a : Act} {w : World} {q : Nat} {o : AOper}

theorem uses_op {t : Nat} {o : AOper} (h : t ∈ o.op.uses) : t ∈ o.uses := by
  unfold AOper.uses; exact List.mem_append_right _ h
theorem uses_guard {t : Nat} {b : Bool} {o : AOper} (h : o.guard = some (t, b)) : t ∈ o.uses := by
  unfold AOper.uses; rw [h]; simp

theorem step_op (hf : SimFn P E N0 call) (hy : SimYld P E N0 call) (hno : SimNo call) (D : DC P E N0 call nt ops all rs Hs vs bs) (I : Inv P E N0 nt all rs Hs vs bs M0 w0 a0 S M g K a w) (hq : all[q]? = some o) (hso : StepOk all S q o)
    {mo : Oper} (hc : chkOper P nt ops mo o = true) {l : Option Nat} {m : Nat} {next : Act → World → Prop} {Qf : Exit → Act → World → Prop}
    (hnext : ∀ M' g' K' a' w', Inv P E N0 nt all rs Hs vs bs M0 w0 a0 (fun p => S p ∨ p = q) M' g' K' a' w' → next a' w') :
    if Region.wanted mo (yielded ops a.tmps) then mo.wpIn (fen l) m P a w next Qf else (∀ f, mo.about P w a.eval = some f → (fen l).fn f) ∧ next (a.put mo.dst undef) w := by
  simp only [chkOper, Bool.and_eq_true] at hc
  obtain ⟨⟨hd, hg⟩, hop⟩ := hc
  obtain ⟨hdst, hlt⟩ := chkD_lt hd
  have hru := I.rr D hq hso
  have hlook : ∀ t ∈ o.uses, look (restrict (rs q) o.uses) t = look (rs q) t := fun t h => look_restrict_mem h
  have hlk : ∀ t ∈ o.op.uses, look (restrict (rs q) o.uses) t = look (rs q) t := fun t h => hlook t (uses_op h)
  have hw : wanted (restrict (rs q) o.uses) o.guard = some (bs q) := by
    rw [wanted_congr (r' := rs q) (fun t b h => hlook t (uses_guard h))]; exact D.can.w q o hq
  have hwm := wanted_sound hg hw hru
  have hlen : q < all.length := (List.getElem?_eq_some_iff.1 hq).1
  cases hb : bs q with
  | false =>
    rw [hwm, hb]
    simp only [Bool.false_eq_true, if_false]
    refine ⟨fun f _ => fen_fn l f, ?_⟩
    rw [hdst]
    refine hnext _ _ _ _ _ (I.stay D hq hlt (fun h => by rw [hb] at h; cases h) ?_)
    rw [(D.can.no q o hq hb).1]; exact RR.undef
  | true =>
    rw [hwm, hb]
    simp only [if_true]
    have hst := D.can.step q o hq hb
    cases hk : o.op.kind with
    | pure =>
      unfold stepOp at hst
      simp only [hk, Option.bind_eq_some_iff, Option.some.injEq, Prod.mk.injEq] at hst
      obtain ⟨v, hv, rfl, _⟩ := hst
      have hbad : o.op ≠ .bad := by intro e; rw [e] at hk; cases hk
      rw [← pureOp_congr hlk] at hv
      obtain ⟨x, hx, hvx⟩ := pure_sound hop hk hv hru w
      refine ⟨fun f _ => fen_fn l f, ?_⟩
      rw [semAt_of_chk hop hbad, hx, Oper.uponIn_value, hdst]
      exact hnext _ _ _ _ _ (I.stay D hq hlt (fun _ => by rw [hk]; simp) hvx)
    | read =>
      unfold stepOp at hst
      simp only [hk, Option.bind_eq_some_iff, Option.some.injEq, Prod.mk.injEq] at hst
      obtain ⟨v, hv, rfl, _⟩ := hst
      have hbad : o.op ≠ .bad := by intro e; rw [e] at hk; cases hk
      have key : ∃ (Hx : Hp), readOp E (restrict (rs q) o.uses) Hx o.op = some (vs q) ∧ ∀ id ob, Hx.get id = some ob → g id = some ob := by
        by_cases hKq : K ≤ q
        · exact ⟨Hs q, by rw [readOp_congr hlk]; exact hv, I.sub D hq hso (by rw [hk]; rfl) (by rw [hk]; rfl) hKq⟩
        · rcases I.top with h0 | ⟨b, h1, h2, h3⟩
          · omega
          · have hS : S (K - 1) := (I.acts _ b h1 h2 h3).2 (by omega)
            have hne : K - 1 ≠ q := by intro e; rw [e] at hS; exact hso.qn hS
            have hKl : K - 1 < all.length := (List.getElem?_eq_some_iff.1 h1).1
            have hre := hso.o3 hk (K - 1) b h1 (by omega) h2 hS
            have hag := D.can.ag (K - 1) b h1 h3
            rw [show K - 1 + 1 = K from by omega] at hag
            have hsame : ∀ t ∈ o.uses, look (rs (K - 1)) t = look (rs q) t := by
              intro t ht
              by_cases hex : ∃ (p : Nat) (b : AOper), all[p]? = some b ∧ b.dst = some t
              · obtain ⟨p, b', hb', hd'⟩ := hex
                rcases hso.u t ht p b' hb' hd' with ⟨hl, _⟩ | ⟨hr, _⟩
                · rw [D.look_at hb' hd' (K - 1) (by omega) (by omega), D.look_at hb' hd' q hl (by omega)]
                · exact absurd hk hr
              · rw [D.look_no (K - 1) (by omega) (fun p' o' _ h2 h3 => hex ⟨p', o', h2, h3⟩), D.look_no q (by omega) (fun p' o' _ h2 h3 => hex ⟨p', o', h2, h3⟩)]
            obtain ⟨b', hb', hcase⟩ := again_spec hag hre
            rw [hq] at hb'; cases hb'
            have hwK : wanted (rs (K - 1)) o.guard = some true := by
              rw [wanted_congr (r' := rs q) (fun t b h => hsame t (uses_guard h)), D.can.w q o hq, hb]
            rcases hcase with hcase | ⟨_, v', d, hv', hd', hl'⟩
            · rw [hwK] at hcase; cases hcase
            · rw [D.look_at hq hd' (K - 1) (by omega) (by omega)] at hl'
              cases hl'
              refine ⟨Hs K, ?_, fun id ob h => (I.heap id ob).2 (.inl h)⟩
              rw [readOp_congr (r' := rs (K - 1)) (fun t ht => by rw [hlk t ht, hsame t (uses_op ht)])]
              exact hv'
      obtain ⟨Hx, hv', hsub⟩ := key
      obtain ⟨x, hx, hvx⟩ := read_sound hop hk hv' hru I.rel hsub
      refine ⟨fun f _ => fen_fn l f, ?_⟩
      rw [semAt_of_chk hop hbad, hx, Oper.uponIn_value, hdst]
      exact hnext _ _ _ _ _ (I.stay D hq hlt (fun _ => by rw [hk]; simp) hvx)
    | new =>
      unfold stepOp at hst
      simp only [hk, Option.bind_eq_some_iff, Option.some.injEq, Prod.mk.injEq] at hst
      obtain ⟨⟨f, ob1⟩, hv, e1, e2⟩ := hst
      have hbad : o.op ≠ .bad := by intro e; rw [e] at hk; cases hk
      rw [← newOp_congr hlk] at hv
      obtain ⟨obj, x, lim, hx, hall⟩ := new_sound (w := w) hop hk hv hru
      refine ⟨fun f _ => fen_fn l f, ?_⟩
      rw [semAt_of_chk hop hbad, hx, Oper.uponIn_value, hdst]
      obtain ⟨M2, g2, hI⟩ := I.new D hq hso hlt hk hb e2.symm (obj := obj) (lim := lim) (x := x) (fun M' id hle hid he => by
        rw [← e1]; subst he; exact hall M' _ hle hid)
      exact hnext _ _ _ _ _ hI
    | act =>
      obtain ⟨h1, h2, h3⟩ := I.act D hq hso hlt hk hb
      rw [← stepOp_congr hlk] at hst
      refine oper_wp hf hy hno hop hst h2 h1 (fun x M' w' h4 h5 h6 => ?_)
      obtain ⟨M2, g2, hI⟩ := h3 x M' w' h4 h5 h6
      rw [hdst]
      exact hnext _ _ _ _ _ hI

/-! what the check says -/
theorem maskOf_bit {acc : List Nat} {o : Oper} {i : Nat} (h : (maskOf acc o).testBit i = true) : ∃ e ∈ o.after.toList, Region.binds .any e = true ∧ (e.on = i ∨ (acc.getD e.on 0).testBit i = true) := by
  unfold maskOf at h
  have gen : ∀ (es : List Edge) (s : Nat), (es.foldl (fun s e => cond (Region.binds .any e) (s ||| (2 ^ e.on ||| acc.getD e.on 0)) s) s).testBit i = true →
      s.testBit i = true ∨ ∃ e ∈ es, Region.binds .any e = true ∧ (e.on = i ∨ (acc.getD e.on 0).testBit i = true) := by
    intro es
    induction es with
    | nil => intro s h; exact .inl h
    | cons e es ih =>
      intro s h
      simp only [List.foldl_cons] at h
      rcases ih _ h with h | ⟨e', h1, h2⟩
      · cases hb : Region.binds .any e with
        | false => rw [hb] at h; exact .inl h
        | true =>
          rw [hb, cond_true] at h
          simp only [Nat.testBit_or, Nat.testBit_two_pow, Bool.or_eq_true, decide_eq_true_eq] at h
          rcases h with h | h | h
          · exact .inl h
          · exact .inr ⟨e, by simp, hb, .inl h⟩
          · exact .inr ⟨e, by simp, hb, .inr h⟩
      · exact .inr ⟨e', by simp [h1], h2⟩
  rcases gen _ _ h with h | h
  · simp at h
  · exact h

theorem masks_closed {lst : Nat → Prop} : ∀ (os : List Oper) (acc : List Nat), (∀ j i, (acc.getD j 0).testBit i = true → lst j → lst i) →
    (∀ k o, os[k]? = some o → lst (acc.length + k) → ∀ e ∈ o.after.toList, Region.binds .any e = true → lst e.on) →
    ∀ j i, ((masks acc os).getD j 0).testBit i = true → lst j → lst i
  | [], acc, h1, _, j, i, h, hj => h1 j i h hj
  | o :: os, acc, h1, h2, j, i, h, hj => by
    simp only [masks] at h
    refine masks_closed os (acc ++ [maskOf acc o]) ?_ ?_ j i h hj
    · intro j i h hj
      rcases Nat.lt_trichotomy j acc.length with hl | hl | hl
      · rw [List.getD_eq_getElem?_getD, List.getElem?_append_left hl, ← List.getD_eq_getElem?_getD] at h
        exact h1 j i h hj
      · subst hl
        simp only [List.getD_eq_getElem?_getD, List.getElem?_append_right (Nat.le_refl _), Nat.sub_self, List.getElem?_cons_zero, Option.getD_some] at h
        obtain ⟨e, he, hb, hx⟩ := maskOf_bit h
        have := h2 0 o (by simp) (by simpa using hj) e he hb
        rcases hx with rfl | hx
        · exact this
        · exact h1 _ _ hx this
      · rw [List.getD_eq_getElem?_getD, List.getElem?_eq_none (by simp; omega)] at h
        simp at h
    · intro k o' hk hl
      exact h2 (k + 1) o' (by simpa using hk) (by simpa [Nat.add_assoc, Nat.add_comm 1 k] using hl)

theorem ranked_spec {md : Region.Mode} {rank : Nat → Nat} : ∀ (os : List Oper) (i : Nat), ranked md rank i os = true → ∀ k o, os[k]? = some o → ∀ e ∈ o.after.toList, Region.binds md e = true → rank e.on < rank (i + k)
  | [], i, _, k, o, h => by simp at h
  | o' :: os, i, hr, k, o, h => by
    simp only [ranked, Bool.and_eq_true] at hr
    cases k with
    | zero =>
      simp only [List.getElem?_cons_zero, Option.some.injEq] at h; subst h
      intro e he hb
      have := List.all_eq_true.1 hr.1 e he
      simpa [hb] using this
    | succ k =>
      intro e he hb
      have := ranked_spec os (i + 1) hr.2 k o (by simpa using h) e he hb
      rw [show i + (k + 1) = i + 1 + k from by omega]; exact this

theorem chkPairs_spec {ms perm : List Nat} {all : List AOper} : ∀ (js : List Nat) (bs : List AOper) (q : Nat), chkPairs ms perm all q js bs = true → ∀ (k j : Nat) (b : AOper), js[k]? = some j → bs[k]? = some b →
    ∀ (p i : Nat) (a : AOper), perm[p]? = some i → all[p]? = some a →
      (p < q + k → mustOrd a.op.kind b.op.kind = true → (ms.getD j 0).testBit i = true) ∧
      (p < q + k → a.op.kind = .read → b.op.kind = .act → (ms.getD j 0).testBit i = true ∨ p ∈ b.re) ∧
      (∀ t ∈ b.uses, a.dst = some t → ((ms.getD j 0).testBit i = true ∧ p < q + k) ∨ (b.op.kind ≠ .read ∧ (i = j ∨ ((ms.getD i 0).testBit j = true ∧ q + k < p))))
  | [], bs, q, h, k, j, b, hj, hb => by simp at hj
  | _ :: _, [], q, h, k, j, b, hj, hb => by simp at hb
  | j' :: js, b' :: bs, q, h, k, j, b, hj, hb => by
    intro p i a hp ha
    simp only [chkPairs, Bool.and_eq_true] at h
    obtain ⟨⟨h1, h2⟩, h3⟩ := h
    cases k with
    | succ k =>
      have := chkPairs_spec js bs (q + 1) h3 k j b (by simpa using hj) (by simpa using hb) p i a hp ha
      rw [show q + (k + 1) = q + 1 + k from by omega]; exact this
    | zero =>
      simp only [List.getElem?_cons_zero, Option.some.injEq] at hj hb
      subst hj; subst hb
      have hmem : ((i, a), p) ∈ (perm.zip all).zipIdx := by
        rw [List.mk_mem_zipIdx_iff_getElem?, List.getElem?_zip_eq_some]; exact ⟨hp, ha⟩
      have h1 := List.all_eq_true.1 h1 _ hmem
      simp only [Nat.add_zero]
      refine ⟨fun hlt hm => ?_, fun hlt hr hb => ?_, fun t ht hd => ?_⟩
      · have hb' : p.blt q = true := blt_true hlt
        simp [hb', hm] at h1
        exact h1.1
      · have hb' : p.blt q = true := blt_true hlt
        simp [hb', hr, hb] at h1
        exact h1.2
      · have h2 := List.all_eq_true.1 (List.all_eq_true.1 h2 t ht) _ hmem
        simp [hd] at h2
        rcases h2 with h2 | h2
        · exact .inl h2
        · exact .inr h2

theorem distinct_spec : ∀ {l : List Nat}, distinct l = true → ∀ {p p' i : Nat}, l[p]? = some i → l[p']? = some i → p = p'
  | [], _, p, _, i, h, _ => by simp at h
  | x :: xs, hd, p, p', i, h, h' => by
    simp only [distinct, Bool.and_eq_true, Bool.not_eq_true', List.contains_eq_mem, decide_eq_false_iff_not] at hd
    cases p with
    | zero =>
      cases p' with
      | zero => rfl
      | succ p' =>
        simp only [List.getElem?_cons_zero, Option.some.injEq] at h; subst h
        exact absurd (List.mem_of_getElem? (by simpa using h')) hd.1
    | succ p =>
      cases p' with
      | zero =>
        simp only [List.getElem?_cons_zero, Option.some.injEq] at h'; subst h'
        exact absurd (List.mem_of_getElem? (by simpa using h)) hd.1
      | succ p' =>
        have := distinct_spec (p := p) (p' := p') (i := i) hd.2 (by simpa using h) (by simpa using h')
        rw [this]

theorem dst_spec : ∀ {all : List AOper}, distinct (all.filterMap (·.dst)) = true → ∀ (p p' : Nat) (o o' : AOper) (t : Nat), all[p]? = some o → all[p']? = some o' → o.dst = some t → o'.dst = some t → p = p'
  | [], _, p, _, _, _, _, h, _, _, _ => by simp at h
  | x :: xs, hd, p, p', o, o', t, h, h', h1, h2 => by
    have hd' : distinct (xs.filterMap (·.dst)) = true := by
      cases hx : x.dst with
      | none => simpa [List.filterMap_cons, hx] using hd
      | some u =>
        simp only [List.filterMap_cons, hx, distinct, Bool.and_eq_true] at hd
        exact hd.2
    have hnot : ∀ (k : Nat) (b : AOper), xs[k]? = some b → x.dst = some t → b.dst ≠ some t := by
      intro k b hb hx hbt
      simp only [List.filterMap_cons, hx, distinct, Bool.and_eq_true, Bool.not_eq_true', List.contains_eq_mem, decide_eq_false_iff_not] at hd
      exact hd.1 (List.mem_filterMap.2 ⟨b, List.mem_of_getElem? hb, hbt⟩)
    cases p with
    | zero =>
      simp only [List.getElem?_cons_zero, Option.some.injEq] at h; subst h
      cases p' with
      | zero => rfl
      | succ p' => exact absurd h2 (hnot p' o' (by simpa using h') h1)
    | succ p =>
      cases p' with
      | zero =>
        simp only [List.getElem?_cons_zero, Option.some.injEq] at h'; subst h'
        exact absurd h1 (hnot p o (by simpa using h) h2)
      | succ p' => rw [dst_spec hd' p p' o o' t (by simpa using h) (by simpa using h') h1 h2]

theorem chkPerm_spec : ∀ {is : List Nat} {as : List AOper}, chkPerm P nt ops is as = true → is.length = as.length ∧ ∀ (p : Nat) (a : AOper), as[p]? = some a → ∃ i mo, is[p]? = some i ∧ ops[i]? = some mo ∧ chkOper P nt ops mo a = true
  | [], [], _ => ⟨rfl, fun p a h => by simp at h⟩
  | [], _ :: _, h => by simp [chkPerm] at h
  | _ :: _, [], h => by simp [chkPerm] at h
  | i :: is, a :: as, h => by
    simp only [chkPerm, Bool.and_eq_true] at h
    obtain ⟨h1, h2⟩ := chkPerm_spec h.2
    refine ⟨by simp [h1], fun p a' hp => ?_⟩
    cases p with
    | zero =>
      simp only [List.getElem?_cons_zero, Option.some.injEq] at hp; subst hp
      have h := h.1
      split at h
      · rename_i mo hmo; exact ⟨i, mo, rfl, hmo, h⟩
      · cases h
    | succ p =>
      obtain ⟨i', mo, h3, h4⟩ := h2 p a' (by simpa using hp)
      exact ⟨i', mo, by simpa using h3, h4⟩

/-- the places that are done -/
def SL (perm : List Nat) (listed : Array Bool) (p : Nat) : Prop := ∃ i, perm[p]? = some i ∧ listed.getD i false = true

def Cl (ops : Array Oper) (lst : Nat → Prop) : Prop := ∀ (j : Nat) (o : Oper), ops[j]? = some o → lst j → ∀ e ∈ o.after.toList, Region.binds .any e = true → lst e.on

theorem getD_set {l : Array Bool} {i j : Nat} (hi : i < l.size) (d : Bool) : (l.setIfInBounds i true).getD j d = if i = j then true else l.getD j d := by
  by_cases h : i = j
  · subst h; simp [hi]
  · simp [h, Array.getElem?_setIfInBounds_ne h]

/-- what is asked of the check's parts -/
structure DK (P : Program) (nt : Nat) (ops : Array Oper) (perm : List Nat) (all : List AOper) : Prop where
  len : perm.length = all.length
  op : ∀ (p : Nat) (a : AOper), all[p]? = some a → ∃ i mo, perm[p]? = some i ∧ ops[i]? = some mo ∧ chkOper P nt ops mo a = true
  inj : ∀ {p p' i : Nat}, perm[p]? = some i → perm[p']? = some i → p = p'
  sur : ∀ i, i < ops.size → ∃ p : Nat, perm[p]? = some i
  dst : ∀ (p p' : Nat) (o o' : AOper) (t : Nat), all[p]? = some o → all[p']? = some o' → o.dst = some t → o'.dst = some t → p = p'
  edge : ∀ (j : Nat) (o : Oper), ops[j]? = some o → ∀ e ∈ o.after.toList, e.on < ops.size
  rank : ∀ md, ∃ rank : Nat → Nat, ∀ (j : Nat) (o : Oper), ops[j]? = some o → ∀ e ∈ o.after.toList, Region.binds md e = true → rank e.on < rank j
  pairs : chkPairs (masks [] ops.toList) perm all 0 perm all = true

theorem DK.of_chk {perm : List Nat} (h : chkDraw P nt ops perm all = true) : DK P nt ops perm all := by
  unfold chkDraw at h
  simp only [Bool.and_eq_true, Nat.beq_eq] at h
  obtain ⟨⟨⟨⟨⟨⟨⟨⟨⟨h1, h2⟩, h3⟩, h4⟩, h5⟩, h6⟩, h7⟩, h8⟩, h9⟩, h10⟩ := h
  obtain ⟨h11, h12⟩ := chkPerm_spec h4
  have hr : ∀ md rank, ranked md rank 0 ops.toList = true → ∀ (j : Nat) (o : Oper), ops[j]? = some o → ∀ e ∈ o.after.toList, Region.binds md e = true → rank e.on < rank j := by
    intro md rank hrk j o hj e he hb
    have := ranked_spec ops.toList 0 hrk j o (by simpa using hj) e he hb
    simpa using this
  refine ⟨h11, h12, fun a b => distinct_spec h2 a b, ?_, dst_spec h5, ?_, ?_, h10⟩
  · intro i hi
    have := List.all_eq_true.1 h3 i (by simpa using hi)
    have hm : i ∈ perm := by simpa using this
    exact List.getElem?_of_mem hm
  · intro j o hj e he
    have h6' := List.all_eq_true.1 h6 o (List.mem_of_getElem? (by simpa using hj : ops.toList[j]? = some o))
    have := List.all_eq_true.1 h6' e he
    simpa using this
  · intro md
    cases md with
    | text => exact ⟨_, hr _ _ h8⟩
    | gc => exact ⟨_, hr _ _ h9⟩
    | any => exact ⟨_, hr _ _ h7⟩

theorem binds_any {md : Region.Mode} {e : Edge} (h : Region.binds .any e = true) : Region.binds md e = true := by
  unfold Region.binds at *
  split at h <;> simp_all

theorem stepOk {perm : List Nat} (D : DK P nt ops perm all) {listed : Array Bool} (hcl : Cl ops (fun j => listed.getD j false = true)) {i : Nat} {q : Nat} (hq : all[q]? = some o) (hp : perm[q]? = some i)
    (hun : listed.getD i true = false) (hcl' : Cl ops (fun j => (listed.setIfInBounds i true).getD j false = true)) : StepOk all (SL perm listed) q o := by
  have hi : i < listed.size := by
    rcases Nat.lt_or_ge i listed.size with h | h
    · exact h
    · rw [Array.getD_eq_getD_getElem?, Array.getElem?_eq_none h] at hun; cases hun
  have hun' : listed.getD i false = false := by
    simp [hi] at hun ⊢; exact hun
  have hn : ¬ SL perm listed q := by rintro ⟨i', h1, h2⟩; rw [hp] at h1; cases h1; rw [hun'] at h2; cases h2
  have mc : ∀ (lst : Nat → Prop), Cl ops lst → ∀ j i, ((masks [] ops.toList).getD j 0).testBit i = true → lst j → lst i := fun lst h =>
    masks_closed ops.toList [] (by simp) (fun k o hk hl => h k o (by simpa using hk) (by simpa using hl))
  have place : ∀ (p : Nat) (b : AOper), all[p]? = some b → ∃ j, perm[p]? = some j := fun p b h => let ⟨j, _, hj, _⟩ := D.op p b h; ⟨j, hj⟩
  have before : ∀ (p j : Nat), perm[p]? = some j → p ≠ q → ((masks [] ops.toList).getD i 0).testBit j = true → SL perm listed p := by
    intro p j hj hne hb
    have := mc _ hcl' i j hb (by rw [getD_set hi]; simp)
    rw [getD_set hi] at this
    have hij : i ≠ j := by rintro rfl; exact hne (D.inj hj hp)
    simp only [hij, if_false] at this
    exact ⟨j, hj, this⟩
  have behind : ∀ (p j : Nat), perm[p]? = some j → ((masks [] ops.toList).getD j 0).testBit i = true → ¬ SL perm listed p := by
    rintro p j hj hb ⟨j', h1, h2⟩
    rw [hj] at h1; cases h1
    have := mc _ hcl j i hb h2
    rw [hun'] at this; cases this
  have spec := fun (p j : Nat) (a : AOper) (k i' : Nat) (b : AOper) (h1 : perm[p]? = some j) (h2 : all[p]? = some a) (h3 : perm[k]? = some i') (h4 : all[k]? = some b) => chkPairs_spec perm all 0 D.pairs k i' b h3 h4 p j a h1 h2
  simp only [Nat.zero_add] at spec
  refine ⟨hn, ?_, ?_, ?_, ?_⟩
  · intro p b hb hlt hm
    obtain ⟨j, hj⟩ := place p b hb
    exact before p j hj (by omega) ((spec p j b q i o hj hb hp hq).1 hlt hm)
  · intro p b hb hlt hm
    obtain ⟨j, hj⟩ := place p b hb
    exact behind p j hj ((spec q i o p j b hp hq hj hb).1 hlt hm)
  · intro hr p b hb hlt hk hS
    obtain ⟨j, hj⟩ := place p b hb
    rcases (spec q i o p j b hp hq hj hb).2.1 hlt hr hk with h | h
    · exact absurd hS (behind p j hj h)
    · exact h
  · intro t ht p b hb hd
    obtain ⟨j, hj⟩ := place p b hb
    rcases (spec p j b q i o hj hb hp hq).2.2 t ht hd with ⟨h1, h2⟩ | ⟨h1, h2⟩
    · exact .inl ⟨h2, before p j hj (by omega) h1⟩
    · refine .inr ⟨h1, ?_⟩
      rcases h2 with rfl | ⟨h2, h3⟩
      · have := D.inj hj hp; subst this; exact ⟨Nat.le_refl _, hn⟩
      · exact ⟨by omega, behind p j hj h2⟩

theorem exists_least {p : Nat → Prop} (h : ∃ j, p j) : ∃ j, p j ∧ ∀ j', p j' → j ≤ j' := by
  obtain ⟨j, hj⟩ := h
  induction j using Nat.strongRecOn with
  | _ j ih =>
    by_cases h : ∃ i, i < j ∧ p i
    · obtain ⟨i, hi, hp⟩ := h; exact ih i hi hp
    · exact ⟨j, hj, fun j' hp => Nat.le_of_not_lt fun hl => h ⟨j', hl, hp⟩⟩

theorem draw_loop (hf : SimFn P E N0 call) (hy : SimYld P E N0 call) (hno : SimNo call) {perm : List Nat} (DKh : DK P nt ops perm all) (D : DC P E N0 call nt ops all rs Hs vs bs) {l : Option Nat} {m : Nat} {Q : Exit → Act → World → Prop} {md : Region.Mode}
    (hQ : ∀ M' a' w', RR M' (rs all.length) a'.tmps → a'.tmps.size = nt → a'.defers = a0.defers → Rel P E N0 M' (Hs all.length).get (Hs all.length).next w'.heap → TrW M0 (Hs 0).get w0 M' (Hs all.length).get w' → Q .normal a' w') :
    ∀ (fuel : Nat) (listed : Array Bool) (todo : List Nat) (M : LM) (g : Nat → Option Ob) (K : Nat) (a : Act) (w : World), listed.size = ops.size → todo.Nodup → (∀ i, i ∈ todo ↔ listed.getD i true = false) → todo.length = fuel →
      Cl ops (fun j => listed.getD j false = true) → Inv P E N0 nt all rs Hs vs bs M0 w0 a0 (SL perm listed) M g K a w → wpAnyIn (fen l) m P md ops Q fuel listed a w := by
  have done : ∀ (listed : Array Bool) (M : LM) (g : Nat → Option Ob) (K : Nat) (a : Act) (w : World), listed.size = ops.size → (∀ i, listed.getD i true = true) → Inv P E N0 nt all rs Hs vs bs M0 w0 a0 (SL perm listed) M g K a w → Q .normal a w := by
    intro listed M g K a w hs hall I
    have hS : ∀ (p : Nat) (b : AOper), all[p]? = some b → SL perm listed p := by
      intro p b hb
      obtain ⟨i, mo, h1, h2, _⟩ := DKh.op p b hb
      refine ⟨i, h1, ?_⟩
      have hlt : i < listed.size := by rw [hs]; exact (Array.getElem?_eq_some_iff.1 h2).1
      have := hall i
      simp [hlt] at this ⊢; exact this
    have hg : g = (Hs all.length).get := by
      funext id
      apply Option.ext
      intro ob
      rw [I.heap id ob, D.heapL all.length I.hK (Nat.le_refl _) (fun p b h1 h2 h3 h4 => by
        cases hb : bs p with
        | false => rfl
        | true => have := (I.acts p b h3 h4 hb).1 (hS p b h3); omega) id ob]
      constructor
      · rintro (h | ⟨p, h1, h2, h3⟩)
        · exact .inl h
        · exact .inr ⟨p, h1, h3.lt, h3⟩
      · rintro (h | ⟨p, h1, h2, h3⟩)
        · exact .inl h
        · obtain ⟨b, hb, _⟩ := _root_.id h3
          exact .inr ⟨p, h1, hS p b hb, h3⟩
    subst hg
    refine hQ M a w ?_ I.size I.defers I.rel I.tr
    intro t v h
    by_cases hex : ∃ (p : Nat) (b : AOper), all[p]? = some b ∧ b.dst = some t
    · obtain ⟨p, b, hb, hd⟩ := hex
      rw [D.look_at hb hd all.length (List.getElem?_eq_some_iff.1 hb).1 (Nat.le_refl _)] at h; cases h
      exact I.sl1 p b t hb hd (hS p b hb)
    · rw [D.look_no all.length (Nat.le_refl _) (fun p' o' _ h2 h3 => hex ⟨p', o', h2, h3⟩)] at h
      exact I.sl2 t v (fun p' o' h2 h3 => absurd ⟨p', o', h2, h3⟩ hex) h
  have full : ∀ (listed : Array Bool), listed.size = ops.size → Region.ready md ops listed = [] → ∀ i, listed.getD i true = true := by
    intro listed hs hr i
    cases hi : listed.getD i true with
    | true => rfl
    | false =>
      exfalso
      obtain ⟨rank, hrank⟩ := DKh.rank md
      obtain ⟨r0, ⟨j, hj, hjr⟩, hmin⟩ := exists_least (p := fun r => ∃ j, listed.getD j true = false ∧ rank j = r) ⟨rank i, i, hi, rfl⟩
      have hjl : j < ops.size := by
        rw [← hs]
        rcases Nat.lt_or_ge j listed.size with h | h
        · exact h
        · rw [Array.getD_eq_getD_getElem?, Array.getElem?_eq_none h] at hj; cases hj
      have hmem : j ∈ Region.ready md ops listed := mem_ready.2 ⟨hj, ops[j], Array.getElem?_eq_getElem hjl, fun e he hb => by
        have h1 := hrank j ops[j] (Array.getElem?_eq_getElem hjl) e (by simpa using he) hb
        have h2 := DKh.edge j ops[j] (Array.getElem?_eq_getElem hjl) e (by simpa using he)
        cases hx : listed.getD e.on true with
        | true =>
          have h2' : e.on < listed.size := by omega
          simp [h2'] at hx ⊢; exact hx
        | false => have := hmin _ ⟨e.on, hx, rfl⟩; omega⟩
      rw [hr] at hmem; cases hmem
  intro fuel
  induction fuel with
  | zero =>
    intro listed todo M g K a w hs hnd htd hlen hcl I
    have hnil : todo = [] := List.eq_nil_of_length_eq_zero hlen
    have hall : ∀ i, listed.getD i true = true := fun i => by
      cases hi : listed.getD i true with
      | true => rfl
      | false => have := (htd i).2 hi; rw [hnil] at this; cases this
    refine ⟨?_, done listed M g K a w hs hall I⟩
    cases hr : Region.ready md ops listed with
    | nil => rfl
    | cons j js =>
      have := (mem_ready.1 (show j ∈ Region.ready md ops listed by rw [hr]; simp)).1
      rw [hall j] at this; cases this
  | succ fuel ih =>
    intro listed todo M g K a w hs hnd htd hlen hcl I
    refine ⟨fun hr => done listed M g K a w hs (full listed hs hr) I, fun i hi => ?_⟩
    obtain ⟨hun, mo, hmo, hedges⟩ := mem_ready.1 hi
    have hil : i < ops.size := (Array.getElem?_eq_some_iff.1 hmo).1
    have hil' : i < listed.size := by omega
    obtain ⟨q, hp⟩ := DKh.sur i hil
    have hql : q < all.length := by rw [← DKh.len]; exact (List.getElem?_eq_some_iff.1 hp).1
    have hq : all[q]? = some all[q] := List.getElem?_eq_getElem hql
    obtain ⟨i', mo', h1, h2, hck⟩ := DKh.op q all[q] hq
    rw [hp] at h1; cases h1
    rw [hmo] at h2; cases h2
    have hcl' : Cl ops (fun j => (listed.setIfInBounds i true).getD j false = true) := by
      intro j o hj hl e he hb
      simp only [getD_set hil'] at hl ⊢
      by_cases hij : i = j
      · subst hij
        rw [hmo] at hj; cases hj
        have := hedges e (by simpa using he) (binds_any hb)
        by_cases hie : i = e.on
        · simp [hie]
        · simp only [hie, if_false]; exact this
      · simp only [hij, if_false] at hl
        have := hcl j o hj hl e he hb
        by_cases hie : i = e.on
        · simp [hie]
        · simp only [hie, if_false]; exact this
    have hso := stepOk DKh hcl hq hp hun hcl'
    unfold wpOpIn
    simp only [hmo]
    refine step_op hf hy hno D I hq hso hck (fun M' g' K' a' w' I' => ?_)
    refine ih (listed.setIfInBounds i true) (todo.erase i) M' g' K' a' w' (by simpa using hs) (hnd.erase i) ?_ ?_ hcl' ?_
    · intro j
      rw [hnd.mem_erase_iff, htd j, getD_set hil']
      by_cases hij : i = j
      · subst hij; simp
      · simp only [hij, if_false]
        constructor
        · exact fun h => h.2
        · exact fun h => ⟨fun e => hij e.symm, h⟩
    · rw [List.length_erase_of_mem ((htd i).2 hun)]; omega
    · have : SL perm (listed.setIfInBounds i true) = fun p => SL perm listed p ∨ p = q := by
        funext p
        apply propext
        constructor
        · rintro ⟨j, h3, h4⟩
          rw [getD_set hil'] at h4
          by_cases hij : i = j
          · subst hij; exact .inr (DKh.inj h3 hp)
          · simp only [hij, if_false] at h4; exact .inl ⟨j, h3, h4⟩
        · rintro (⟨j, h3, h4⟩ | rfl)
          · refine ⟨j, h3, ?_⟩
            rw [getD_set hil']
            by_cases hij : i = j
            · simp [hij]
            · simp only [hij, if_false]; exact h4
          · exact ⟨i, hp, by rw [getD_set hil']; simp⟩
      rw [this]; exact I'

theorem draw_wp (hf : SimFn P E N0 call) (hy : SimYld P E N0 call) (hno : SimNo call) {l : Option Nat} {m : Nat} {Q : Exit → Act → World → Prop} {perm : List Nat}
    (hc : chkDraw P nt ops perm all = true) {M : LM} {r r' : Regs} {a : Act} {w : World} {H H' : Hp} (he : runDraw E call all all r H = some (r', H')) (hr : RR M r a.tmps) (hs : a.tmps.size = nt) (hrel : Rel P E N0 M H.get H.next w.heap)
    (hQ : ∀ M' a' w', RR M' r' a'.tmps → a'.tmps.size = nt → a'.defers = a.defers → Rel P E N0 M' H'.get H'.next w'.heap → TrW M H.get w M' H'.get w' → Q .normal a' w') (t : Nat) :
    wpOpsIn (fen l) m P ops Q (Region.schedule (P.follows .mixedOrders) ops t) a { w with drawn := w.drawn + 1 } := by
  have DKh := DK.of_chk hc
  obtain ⟨rs, Hs, vs, bs, e1, e2, e3, e4, C⟩ := canon all r H r' H' he
  have wf : ∀ p, p ≤ all.length → ∃ (M : LM) (ap : Act) (wp : World), Rel P E N0 M (Hs p).get (Hs p).next wp.heap ∧ RR M (rs p) ap.tmps ∧ ap.tmps.size = nt := by
    intro p
    induction p with
    | zero => intro _; exact ⟨M, a, w, by rw [e2]; exact hrel, by rw [e1]; exact hr, hs⟩
    | succ p ih =>
      intro hle
      obtain ⟨Mp, ap, wp, h1, h2, h3⟩ := ih (by omega)
      obtain ⟨o, ho⟩ : ∃ o, all[p]? = some o := ⟨_, List.getElem?_eq_getElem (by omega)⟩
      obtain ⟨i, mo, _, _, hck⟩ := DKh.op p o ho
      simp only [chkOper, Bool.and_eq_true] at hck
      obtain ⟨⟨hd, hg⟩, hop⟩ := hck
      obtain ⟨hdst, hlt⟩ := chkD_lt hd
      have hlt' : ∀ d, o.dst = some d → d < ap.tmps.size := fun d h => by rw [h3]; exact hlt d h
      rw [C.put p o ho]
      cases hb : bs p with
      | false =>
        obtain ⟨h4, h5⟩ := C.no p o ho hb
        exact ⟨Mp, ap.put o.dst undef, wp, by rw [h5]; exact h1, by rw [h4]; exact h2.put RR.undef hlt', by rw [put_size]; exact h3⟩
      | true =>
        have hex := wpIn_ex (oper_wp (l := none) (m := 0) (next := fun a' w' => ∃ M', Rel P E N0 M' (Hs (p + 1)).get (Hs (p + 1)).next w'.heap ∧ RR M' (put (rs p) o.dst (vs p)) a'.tmps ∧ a'.tmps.size = nt) hf hy hno hop (C.step p o ho hb) h2 h1 (fun x M' w' h4 h5 h6 => by
          rw [hdst]
          exact ⟨M', h5, (h2.mono h6.le).put h4 hlt', by rw [put_size]; exact h3⟩))
        obtain ⟨a', w', M', h4, h5, h6⟩ := hex
        exact ⟨M', a', w', h4, h5, h6⟩
  have D : DC P E N0 call nt ops all rs Hs vs bs := ⟨C, DKh.dst, fun p hp => let ⟨Mp, ap, wp, h1, h2, _⟩ := wf p hp; ⟨Mp, wp.heap, ap.tmps, h1, h2⟩⟩
  have main : ∀ (md : Region.Mode) (t : Nat), wpOpsIn (fen l) m P ops Q (Region.linearise md ops t) a { w with drawn := w.drawn + 1 } := by
    intro md t
    have hnone : ∀ i, (Array.replicate ops.size false).getD i false = false := by
      intro i
      rw [Array.getD_eq_getD_getElem?, Array.getElem?_replicate]
      split <;> rfl
    refine wpAnyIn_sound ops.size t _ a _ (draw_loop (M0 := M) (w0 := w) (a0 := a) hf hy hno DKh D (fun M' a' w' h1 h2 h3 h4 h5 => hQ M' a' w' (by rw [← e3]; exact h1) h2 h3 (by rw [← e4]; exact h4) (by rw [← e4, ← e2]; exact h5)) ops.size _ (List.range ops.size) M (Hs 0).get 0 a _ (by simp) List.nodup_range ?_ (by simp) ?_ ?_)
    · intro i
      rw [List.mem_range]
      constructor
      · intro h; simp [h]
      · intro h
        refine Nat.lt_of_not_le fun hle => ?_
        rw [Array.getD_eq_getD_getElem?, Array.getElem?_eq_none (by simpa using hle)] at h; cases h
    · intro j o _ h
      rw [hnone j] at h; cases h
    · have hnS : ∀ p, ¬ SL perm (Array.replicate ops.size false) p := by
        rintro p ⟨i, _, h⟩; rw [hnone i] at h; cases h
      refine ⟨Nat.zero_le _, fun p b _ _ _ => ⟨fun h => absurd h (hnS p), fun h => by omega⟩, .inl rfl, fun p b _ _ h => by omega, ?_, ?_, ?_, ?_, fun p b t _ _ h => absurd h (hnS p), ?_, hs, rfl⟩
      · rw [e2]
        exact ⟨fun id L h => Nat.lt_of_lt_of_le (hrel.dom id L h) (by have := D.nxle (p := 0) all.length (Nat.zero_le _) (Nat.le_refl _); rw [e2] at this; exact this), hrel.obj, hrel.inj, hrel.ext, hrel.n0⟩
      · exact fun id ob => ⟨.inl, fun h => h.elim _root_.id fun ⟨p, _, h, _⟩ => absurd h (hnS p)⟩
      · exact fun id L h => .inl (by rw [e2]; exact hrel.dom id L h)
      · exact ⟨Tr1.refl _ _ _, rfl, rfl⟩
      · intro t v _ h
        rw [e1] at h; exact hr t v h
  unfold Region.schedule
  split
  · exact main _ _
  · exact main _ _
end
end Go.Vm
