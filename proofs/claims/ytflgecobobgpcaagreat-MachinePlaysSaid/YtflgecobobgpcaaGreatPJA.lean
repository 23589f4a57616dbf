/-
  The arguments as the abstract machine takes them. Conditions: none beyond those that each statement names.
-/
import Derived.Test.YtflgecobobgpcaaGreatRows
import Derived.OpenShut
import Derived.ChangeBears
import Derived.ChangeStays
import Derived.Deep.Frames
import Derived.RowKit3
import Derived.Test.YtflgecobobgpcaaGreatPPB
import Derived.Test.YtflgecobobgpcaaGreatPCT
import Derived.Test.YtflgecobobgpcaaGreatPPC
namespace Go.Vm.Code
open Go Go.Vm Go.Proofs
section
variable {H : Type} {enc : TypeId × Value → H} {P : Program} {W : World}

/-- a cell's value, if it is one that may come in -/
def decV : Value → Option V
  | .int k n => some (.int k n)
  | .bool b => some (.bool b)
  | .string s => some (.str s)
  | .slice none 0 0 => some .nils
  | .slice (some a) len cap => if a.spot.isNone then some (.xslc a.block a.off len cap) else if len = 0 ∧ cap = 0 then some (.xslc 0 0 0 0) else none
  | _ => none
theorem decV_VR {x : Value} {v : V} (h : decV x = some v) (M : LM) : VR M v x := by
  unfold decV at h
  split at h
  · cases h; rfl
  · cases h; rfl
  · cases h; rfl
  · cases h; rfl
  · rename_i a len cap
    split at h
    · rename_i hs
      cases h
      obtain ⟨b, o, s⟩ := a
      cases s with
      | none => exact Or.inl rfl
      | some s => cases hs
    · split at h
      · rename_i hz
        cases h
        exact Or.inr ⟨rfl, rfl, a, by rw [hz.1, hz.2]⟩
      · cases h
  · cases h
/-- the memory that comes in -/
def extW (W : World) (b off : Nat) : Option V := (W.cell? ⟨b, off, none⟩).bind decV
theorem extW_ok (W : World) : ExtOk (EL (extW W)) W := by
  intro b off v h
  have h : (W.cell? ⟨b, off, none⟩).bind decV = some v := h
  cases hc : W.cell? ⟨b, off, none⟩ with
  | none => rw [hc] at h; cases h
  | some x =>
    rw [hc] at h
    unfold World.cell? at hc
    split at hc
    · rename_i c e fr hh
      simp at hc
      exact ⟨c, e, fr, x, hh, hc, decV_VR h⟩
    · cases hc
theorem stdW (W : World) : Std (EL (extW W)) := ⟨rfl, fun f hf => by show primL f = none; simp [primL, hf], rfl⟩

theorem exists_list {α : Type} {p : Nat → α → Prop} : ∀ n : Nat, (∀ i, i < n → ∃ x, p i x) → ∃ l : List α, l.length = n ∧ ∀ (i : Nat) (x : α), l[i]? = some x → p i x
  | 0, _ => ⟨[], rfl, fun i x h => by simp at h⟩
  | n + 1, h => by
    obtain ⟨l, hl, hp⟩ := exists_list n (fun i hi => h i (by omega))
    obtain ⟨x, hx⟩ := h n (by omega)
    refine ⟨l ++ [x], by simp [hl], fun i y hy => ?_⟩
    by_cases hi : i < n
    · rw [List.getElem?_append_left (by omega)] at hy; exact hp i y hy
    · rw [List.getElem?_append_right (by omega)] at hy
      have : i - l.length = 0 := by
        cases hq : i - l.length with
        | zero => rfl
        | succ k => rw [hq] at hy; simp at hy
      rw [this] at hy
      cases hy
      rw [show i = n from by omega]; exact hx

/-- a type whose one cell, where it reads, stands for something -/
def Rd (enc : TypeId × Value → H) (P : Program) (W : World) (t : TypeId) {α : Type} (R : V → α → Prop) : Prop :=
  ∀ (n : Nat) (cs : List Value) (x : DataW H × List MemPlace), DataW.trod enc P W 0 (fun _ => true) true n t cs = some x → ∃ v u a, cs = [v] ∧ decV v = some u ∧ R u a

theorem rd_int {t : TypeId} (ht : P.underlying t = some (.int .i64)) : Rd enc P W t (fun u (n : Int) => u = .int .i64 n) := by
  intro n cs x h
  obtain ⟨m, rfl, _, _⟩ := DataW.trod_int ht h
  exact ⟨_, _, m, rfl, rfl, rfl⟩

theorem cells1 {a : Addr} {c : List Value} (h : W.cells? 0 a 1 = some c) : ∃ v, c = [v] ∧ W.cell? a = some v := by
  have e0 : a.add 0 = a := by simp [Addr.add]
  unfold World.cells? at h
  simp only [Nat.zero_le, if_true, List.range_succ, List.range_zero, List.nil_append, List.mapM_cons, List.mapM_nil, e0] at h
  cases hc : W.cell? a with
  | none => simp [hc] at h
  | some v => simp [hc] at h; exact ⟨v, h.symm, rfl⟩
theorem cells_get : ∀ {k : Nat} {a : Addr} {c : List Value}, W.cells? 0 a k = some c → c.length = k ∧ ∀ (j : Nat) (v : Value), c[j]? = some v → W.cell? (a.add j) = some v := by
  intro k a c h
  unfold World.cells? at h
  rw [if_pos (Nat.zero_le _)] at h
  have h1 := mapM_some_length h
  refine ⟨by simpa using h1, fun j v hj => ?_⟩
  have hlt : j < k := by have := (List.getElem?_eq_some_iff.1 hj).1; simp at h1; omega
  have := mapM_some_get h j j (by simp [hlt])
  rw [this, hj]
theorem add_spot {a : Addr} (hs : a.spot = none) (n : Nat) : a.add n = ⟨a.block, a.off + n, none⟩ := by
  obtain ⟨b, o, s⟩ := a
  simp only at hs
  subst hs
  unfold Addr.add
  split
  · rename_i h; subst h; rfl
  · rfl
theorem cell_spot {a : Addr} {v : Value} (h : W.cell? a = some v) : a.spot = none := by
  unfold World.cell? at h
  split at h
  · split at h
    · cases h
    · rename_i hs; simpa using hs
  · cases h
/-- a slice whose elements are of k cells each -/
theorem rd_slice {t e : TypeId} {k : Nat} (ht : P.underlying t = some (.slice e)) (hk : P.cellsOf e = k) (hk0 : 0 < k) {α : Type} {RC : Nat → Nat → α → Prop}
    (hel : ∀ (n b o : Nat) (cs : List Value) (x : DataW H × List MemPlace), W.cells? 0 ⟨b, o, none⟩ k = some cs → DataW.trod enc P W 0 (fun _ => true) true n e cs = some x → ∃ a : α, RC b o a) : Rd enc P W t (SeqC k RC) := by
  intro n cs x h
  rcases DataW.trod_slice ht h with ⟨rfl, _⟩ | ⟨a, len, cap, elems, rest, m, _, rfl, _, _, hlc, hcap, hlen, hE, hS, _⟩
  · exact ⟨_, .nils, [], rfl, rfl, by simp, Or.inl ⟨rfl, rfl⟩⟩
  · have hmax : cap ≤ 9223372036854775807 := by unfold maxLen at hcap; omega
    rw [hk] at hE
    have hcell : ∀ i, i < len → ∃ ecs y, W.cells? 0 (a.add (i * k)) k = some ecs ∧ DataW.trod enc P W 0 (fun _ => true) true m e ecs = some y := by
      intro i hi
      have hi2 := hE i hi
      rw [List.getElem?_eq_getElem (by omega)] at hi2
      simp only [Option.bind_eq_some_iff] at hi2
      obtain ⟨ecs, h1, h2⟩ := hi2
      exact ⟨ecs, _, h1, h2⟩
    by_cases hl0 : len = 0
    · subst hl0
      cases hs : a.spot.isNone with
      | true => exact ⟨_, .xslc a.block a.off 0 cap, [], rfl, by simp only [decV, hs, if_true], by simp, Or.inr ⟨_, _, _, rfl, fun i x hx => by simp at hx⟩⟩
      | false =>
        by_cases hc0 : cap = 0
        · subst hc0
          refine ⟨_, .xslc 0 0 0 0, [], rfl, ?_, by simp, Or.inr ⟨_, _, _, rfl, fun i x hx => by simp at hx⟩⟩
          simp only [decV, hs]
          rfl
        · -- the spare cells are read too
          have hr := hS rfl
          have := hr.2 0 (by omega)
          rw [hk, Nat.add_zero, Nat.zero_mul] at this
          rw [List.getElem?_eq_getElem (by omega)] at this
          simp only [Option.bind_eq_some_iff] at this
          obtain ⟨ecs, h1, _⟩ := this
          obtain ⟨h2, h3⟩ := cells_get h1
          have h4 := h3 0 (ecs[0]'(by omega)) (List.getElem?_eq_getElem (by omega))
          have e0 : (a.add 0).add 0 = a := by simp [Addr.add]
          rw [e0] at h4
          have := cell_spot h4
          rw [this] at hs; cases hs
    · have hspot : a.spot = none := by
        obtain ⟨ecs, y, h1, _⟩ := hcell 0 (by omega)
        obtain ⟨h2, h3⟩ := cells_get h1
        have h4 := h3 0 (ecs[0]'(by omega)) (List.getElem?_eq_getElem (by omega))
        have e0 : (a.add (0 * k)).add 0 = a := by simp [Addr.add]
        rw [e0] at h4
        exact cell_spot h4
      obtain ⟨l, hl, hp⟩ := exists_list (p := fun i x => RC a.block (a.off + i * k) x) len (fun i hi => by
        obtain ⟨ecs, y, h1, h2⟩ := hcell i hi
        rw [add_spot hspot] at h1
        exact hel m _ _ ecs y h1 h2)
      refine ⟨_, .xslc a.block a.off len cap, l, rfl, by simp only [decV, hspot, Option.isNone_none, if_true], by omega, Or.inr ⟨a.block, a.off, cap, by rw [hl], fun i x hx => hp i x hx⟩⟩

theorem rd_list {t e : TypeId} (ht : P.underlying t = some (.slice e)) (hk : P.cellsOf e = 1) {α : Type} {R : V → α → Prop} (he : Rd enc P W e R) : Rd enc P W t (SeqC 1 (ValC (EL (extW W)) R)) := by
  refine rd_slice ht hk (by omega) fun n b o cs x hcs h => ?_
  obtain ⟨v, u, a, rfl, h1, h2⟩ := he n cs x h
  obtain ⟨v', hv', hcell⟩ := cells1 hcs
  cases hv'
  exact ⟨a, u, by show (W.cell? ⟨b, o, none⟩).bind decV = some u; rw [hcell]; exact h1, h2⟩
theorem rd_ints {t e : TypeId} (ht : P.underlying t = some (.slice e)) (hk : P.cellsOf e = 1) (he : P.underlying e = some (.int .i64)) : Rd enc P W t (L1 (EL (extW W))) := by
  refine rd_slice ht hk (by omega) fun n b o cs x hcs h => ?_
  obtain ⟨m, rfl, _, _⟩ := DataW.trod_int he h
  obtain ⟨v', hv', hcell⟩ := cells1 hcs
  cases hv'
  exact ⟨m, by show (W.cell? ⟨b, o, none⟩).bind decV = _; rw [hcell]; rfl⟩

/-- the arguments read the same behind a run that only grows -/
theorem stayAll (hl : laidOutB P = true) (hm : mapsRowed P = true) (hsz : ∀ {t e : TypeId}, t < P.types.size → P.underlying t = some (.slice e) → 0 < P.cellsOf e) {W' : World} (hg : RowKit.Grown W W') {sp : Nat → Bool} :
    ∀ {ts : List TypeId} {vs : List Value} {ds : List (DataW H)} {ps : List MemPlace}, (∀ t ∈ ts, t < P.types.size) → DataW.TrodAll enc P W 0 (fun _ => true) true ts vs ds ps → (∀ p ∈ ps, sp p.block = true) → DataW.TrodAll enc P W' 0 sp true ts vs ds ps
  | [], vs, ds, ps, _, h, _ => by
    obtain ⟨rfl, rfl, rfl⟩ := ChangeShapes.trodAll_nil h
    exact ChangeShapes.trodAll_mk0
  | t :: ts, vs, ds, ps, hts, h, hs => by
    obtain ⟨v, vs', d, ds', p, q, rfl, rfl, rfl, ⟨fuel, h1⟩, h2⟩ := ChangeShapes.trodAll_cons h
    have ht := hts t List.mem_cons_self
    have ih := stayAll hl hm hsz hg (fun u hu => hts u (List.mem_cons_of_mem _ hu)) h2 (fun z hz => hs z (List.mem_append_right _ hz))
    refine ⟨p, q, ⟨fuel, ?_⟩, ih, rfl⟩
    refine DataW.trod_stays (kids_rows hl hm) hsz (fun h => by cases h) ht h1 (fun z hz => ?_) (fun z hz => hs z (List.mem_append_left _ hz))
    refine hg.1.sameAt (DataW.trod_lt _ _ _ _ h1 z hz) (fun h => h) (fun b e => ?_)
    have := DataW.trod_good (kids_rows hl hm) (fun h => by cases h) _ _ _ _ ht h1 z hz
    subst e
    exact this
end
end Go.Vm.Code

namespace Go.Vm.Code
open Go Go.Vm Go.Proofs
theorem cN3 : Tryz.prog.cellsOf 3 = 1 := by kernel_rfl
theorem cN22 : Tryz.prog.cellsOf 22 = 1 := by kernel_rfl
theorem cN23 : Tryz.prog.cellsOf 23 = 1 := by kernel_rfl
theorem cN24 : Tryz.prog.cellsOf 24 = 1 := by kernel_rfl
theorem cN25 : Tryz.prog.cellsOf 25 = 1 := by kernel_rfl
theorem cN46 : Tryz.prog.cellsOf 46 = 1 := by kernel_rfl
theorem cN91 : Tryz.prog.cellsOf 91 = 8 := by kernel_rfl
theorem cN38 : Tryz.prog.cellsOf 38 = 5 := by kernel_rfl
theorem cN40 : Tryz.prog.cellsOf 40 = 7 := by kernel_rfl
theorem cN27 : Tryz.prog.cellsOf 27 = 8 := by kernel_rfl
section
variable {H : Type} {enc : TypeId × Value → H} {W : World}

theorem int_at {n : Nat} {cs : List Value} {k : Nat} {x : Option (DataW H × List MemPlace)} (h : DataW.trod enc Tryz.prog W 0 (fun _ => true) true n 3 ((cs.drop k).take 1) = x) (hx : x.isSome = true) : ∃ m : Int, cs[k]? = some (.int .i64 m) := by
  obtain ⟨y, rfl⟩ := Option.isSome_iff_exists.1 hx
  obtain ⟨m, hm, _, _⟩ := DataW.trod_int Tryz.underlying3 h
  have := congrArg (fun l => l[0]?) hm
  rw [List.getElem?_take, if_pos (by omega), List.getElem?_drop, Nat.add_zero] at this
  exact ⟨m, this⟩
theorem rd_at {n : Nat} {cs : List Value} {k t : Nat} {α : Type} {R : V → α → Prop} (hr : Rd enc Tryz.prog W t R) {x : Option (DataW H × List MemPlace)} (h : DataW.trod enc Tryz.prog W 0 (fun _ => true) true n t ((cs.drop k).take 1) = x) (hx : x.isSome = true) :
    ∃ v u a, cs[k]? = some v ∧ decV v = some u ∧ R u a := by
  obtain ⟨y, rfl⟩ := Option.isSome_iff_exists.1 hx
  obtain ⟨v, u, a, hm, h1, h2⟩ := hr n _ y h
  have := congrArg (fun l => l[0]?) hm
  rw [List.getElem?_take, if_pos (by omega), List.getElem?_drop, Nat.add_zero] at this
  exact ⟨v, u, a, this, h1, h2⟩
/-- five numbers of an array -/
theorem five_at {n : Nat} {cs : List Value} {k : Nat} {x : Option (DataW H × List MemPlace)} (h : DataW.trod enc Tryz.prog W 0 (fun _ => true) true n 38 ((cs.drop k).take 5) = x) (hx : x.isSome = true) : ∀ i, i < 5 → ∃ m : Int, cs[k + i]? = some (.int .i64 m) := by
  obtain ⟨y, rfl⟩ := Option.isSome_iff_exists.1 hx
  obtain ⟨xs, m, _, _, hl, hxs, hf⟩ := DataW.trod_array Tryz.underlying38 h
  intro i hi
  have h1 := hf i hi
  rw [cN3, Nat.mul_one] at h1
  obtain ⟨m, hm⟩ := int_at h1 (by rw [List.getElem?_eq_getElem (by omega)]; rfl)
  rw [List.getElem?_take, if_pos (by omega), List.getElem?_drop] at hm
  exact ⟨m, hm⟩

theorem get_cell {W : World} {b o : Nat} {cs : List Value} {k : Nat} (h : W.cells? 0 ⟨b, o, none⟩ k = some cs) {j : Nat} {n : Int} (hj : cs[j]? = some (.int .i64 n)) : (EL (extW W)).ext b (o + j) = some (.int .i64 n) := by
  have := (cells_get h).2 j _ hj
  rw [add_spot rfl] at this
  show (W.cell? ⟨b, o + j, none⟩).bind decV = _
  rw [this]; rfl
theorem rd_steps : Rd enc Tryz.prog W 24 (SeqC 8 (StepC (EL (extW W)))) := by
  refine rd_slice Tryz.underlying24 cN91 (by omega) fun n b o cs x hcs h => ?_
  obtain ⟨xs, m, _, _, hl, hxs, hf⟩ := DataW.trod_struct Tryz.underlying91 h
  have hx4 : xs.length = 4 := hxs
  have f0 : DataW.trod enc Tryz.prog W 0 (fun _ => true) true m 3 ((cs.drop 0).take (Tryz.prog.cellsOf 3)) = xs[0]? := hf 0 _ rfl
  rw [cN3] at f0
  have f1 : DataW.trod enc Tryz.prog W 0 (fun _ => true) true m 3 ((cs.drop 1).take (Tryz.prog.cellsOf 3)) = xs[1]? := hf 1 _ rfl
  rw [cN3] at f1
  have f2 : DataW.trod enc Tryz.prog W 0 (fun _ => true) true m 38 ((cs.drop 2).take (Tryz.prog.cellsOf 38)) = xs[2]? := hf 2 _ rfl
  rw [cN38] at f2
  have f3 : DataW.trod enc Tryz.prog W 0 (fun _ => true) true m 3 ((cs.drop 7).take (Tryz.prog.cellsOf 3)) = xs[3]? := hf 3 _ rfl
  rw [cN3] at f3
  obtain ⟨a0, g0⟩ := int_at f0 (by rw [List.getElem?_eq_getElem (by omega)]; rfl)
  obtain ⟨a1, g1⟩ := int_at f1 (by rw [List.getElem?_eq_getElem (by omega)]; rfl)
  obtain ⟨a7, g7⟩ := int_at f3 (by rw [List.getElem?_eq_getElem (by omega)]; rfl)
  have f5 := five_at f2 (by rw [List.getElem?_eq_getElem (by omega)]; rfl)
  obtain ⟨a2, g2⟩ := f5 0 (by omega)
  obtain ⟨a3, g3⟩ := f5 1 (by omega)
  obtain ⟨a4, g4⟩ := f5 2 (by omega)
  obtain ⟨a5, g5⟩ := f5 3 (by omega)
  obtain ⟨a6, g6⟩ := f5 4 (by omega)
  refine ⟨⟨a0, a1, a2, a3, a4, a5, a6, a7⟩, fun j n hj => ?_⟩
  simp only [Stp.cells] at hj
  rcases j with _ | _ | _ | _ | _ | _ | _ | _ | j
  · cases hj; exact get_cell hcs g0
  · cases hj; exact get_cell hcs g1
  · cases hj; exact get_cell hcs g2
  · cases hj; exact get_cell hcs g3
  · cases hj; exact get_cell hcs g4
  · cases hj; exact get_cell hcs g5
  · cases hj; exact get_cell hcs g6
  · cases hj; exact get_cell hcs g7
  · simp at hj
theorem rd1 : Rd enc Tryz.prog W 46 (L1 (EL (extW W))) := rd_ints Tryz.underlying46 cN3 Tryz.underlying3
theorem rd2 : Rd enc Tryz.prog W 22 (L2 (EL (extW W))) := rd_list Tryz.underlying22 cN46 rd1
theorem rd3 : Rd enc Tryz.prog W 25 (L3 (EL (extW W))) := rd_list Tryz.underlying25 cN22 rd2
theorem rd4 : Rd enc Tryz.prog W 23 (L4 (EL (extW W))) := rd_list Tryz.underlying23 cN25 rd3

theorem list8 {cs : List Value} (h : cs.length = 8) {a b c d e f g k : Value} (h0 : cs[0]? = some a) (h1 : cs[1]? = some b) (h2 : cs[2]? = some c) (h3 : cs[3]? = some d) (h4 : cs[4]? = some e) (h5 : cs[5]? = some f) (h6 : cs[6]? = some g) (h7 : cs[7]? = some k) : cs = [a, b, c, d, e, f, g, k] := by
  refine List.ext_getElem? fun i => ?_
  rcases i with _ | _ | _ | _ | _ | _ | _ | _ | i <;> first | assumption | (rw [List.getElem?_eq_none (by omega)]; rfl)
theorem list7 {cs : List Value} (h : cs.length = 7) {a b c d e f g : Value} (h0 : cs[0]? = some a) (h1 : cs[1]? = some b) (h2 : cs[2]? = some c) (h3 : cs[3]? = some d) (h4 : cs[4]? = some e) (h5 : cs[5]? = some f) (h6 : cs[6]? = some g) : cs = [a, b, c, d, e, f, g] := by
  refine List.ext_getElem? fun i => ?_
  rcases i with _ | _ | _ | _ | _ | _ | _ | i <;> first | assumption | (rw [List.getElem?_eq_none (by omega)]; rfl)

/-- a machine -/
theorem rd_mach {n : Nat} {cs : List Value} {x : DataW H × List MemPlace} (h : DataW.trod enc Tryz.prog W 0 (fun _ => true) true n 27 cs = some x) : ∃ f sy st o m, MachV (EL (extW W)) f sy st o m ∧ VRL M0 (mcells f sy st o m) cs := by
  obtain ⟨xs, m, _, _, hl, hxs, hf⟩ := DataW.trod_struct Tryz.underlying27 h
  have hx8 : xs.length = 8 := hxs
  rw [cN27] at hl
  have f0 : DataW.trod enc Tryz.prog W 0 (fun _ => true) true m 3 ((cs.drop 0).take (Tryz.prog.cellsOf 3)) = xs[0]? := hf 0 _ rfl
  rw [cN3] at f0
  have f1 : DataW.trod enc Tryz.prog W 0 (fun _ => true) true m 3 ((cs.drop 1).take (Tryz.prog.cellsOf 3)) = xs[1]? := hf 1 _ rfl
  rw [cN3] at f1
  have f2 : DataW.trod enc Tryz.prog W 0 (fun _ => true) true m 3 ((cs.drop 2).take (Tryz.prog.cellsOf 3)) = xs[2]? := hf 2 _ rfl
  rw [cN3] at f2
  have f3 : DataW.trod enc Tryz.prog W 0 (fun _ => true) true m 3 ((cs.drop 3).take (Tryz.prog.cellsOf 3)) = xs[3]? := hf 3 _ rfl
  rw [cN3] at f3
  have f4 : DataW.trod enc Tryz.prog W 0 (fun _ => true) true m 22 ((cs.drop 4).take (Tryz.prog.cellsOf 22)) = xs[4]? := hf 4 _ rfl
  rw [cN22] at f4
  have f5 : DataW.trod enc Tryz.prog W 0 (fun _ => true) true m 23 ((cs.drop 5).take (Tryz.prog.cellsOf 23)) = xs[5]? := hf 5 _ rfl
  rw [cN23] at f5
  have f6 : DataW.trod enc Tryz.prog W 0 (fun _ => true) true m 24 ((cs.drop 6).take (Tryz.prog.cellsOf 24)) = xs[6]? := hf 6 _ rfl
  rw [cN24] at f6
  have f7 : DataW.trod enc Tryz.prog W 0 (fun _ => true) true m 25 ((cs.drop 7).take (Tryz.prog.cellsOf 25)) = xs[7]? := hf 7 _ rfl
  rw [cN25] at f7
  obtain ⟨a0, g0⟩ := int_at f0 (by rw [List.getElem?_eq_getElem (by omega)]; rfl)
  obtain ⟨a1, g1⟩ := int_at f1 (by rw [List.getElem?_eq_getElem (by omega)]; rfl)
  obtain ⟨a2, g2⟩ := int_at f2 (by rw [List.getElem?_eq_getElem (by omega)]; rfl)
  obtain ⟨a3, g3⟩ := int_at f3 (by rw [List.getElem?_eq_getElem (by omega)]; rfl)
  obtain ⟨v4, u4, l4, g4, d4, r4⟩ := rd_at rd2 f4 (by rw [List.getElem?_eq_getElem (by omega)]; rfl)
  obtain ⟨v5, u5, l5, g5, d5, r5⟩ := rd_at rd4 f5 (by rw [List.getElem?_eq_getElem (by omega)]; rfl)
  obtain ⟨v6, u6, l6, g6, d6, r6⟩ := rd_at rd_steps f6 (by rw [List.getElem?_eq_getElem (by omega)]; rfl)
  obtain ⟨v7, u7, l7, g7, d7, r7⟩ := rd_at rd3 f7 (by rw [List.getElem?_eq_getElem (by omega)]; rfl)
  refine ⟨u4, u5, u6, u7, ⟨a0, a1, a2, a3, l4, l5, l6, l7⟩, ⟨r4, r5, r6, r7⟩, ?_⟩
  rw [list8 hl g0 g1 g2 g3 g4 g5 g6 g7]
  exact VRL.cons rfl (VRL.cons rfl (VRL.cons rfl (VRL.cons rfl (VRL.cons (decV_VR d4 _) (VRL.cons (decV_VR d5 _) (VRL.cons (decV_VR d6 _) (VRL.cons (decV_VR d7 _) (VRL.nil _))))))))
/-- a place -/
theorem rd_place {n : Nat} {cs : List Value} {x : DataW H × List MemPlace} (h : DataW.trod enc Tryz.prog W 0 (fun _ => true) true n 40 cs = some x) : ∃ rd p a b c d e : Int, cs = [rd, p, a, b, c, d, e].map (.int .i64) := by
  obtain ⟨xs, m, _, _, hl, hxs, hf⟩ := DataW.trod_struct Tryz.underlying40 h
  have hx3 : xs.length = 3 := hxs
  rw [cN40] at hl
  have f0 : DataW.trod enc Tryz.prog W 0 (fun _ => true) true m 3 ((cs.drop 0).take (Tryz.prog.cellsOf 3)) = xs[0]? := hf 0 _ rfl
  rw [cN3] at f0
  have f1 : DataW.trod enc Tryz.prog W 0 (fun _ => true) true m 3 ((cs.drop 1).take (Tryz.prog.cellsOf 3)) = xs[1]? := hf 1 _ rfl
  rw [cN3] at f1
  have f2 : DataW.trod enc Tryz.prog W 0 (fun _ => true) true m 38 ((cs.drop 2).take (Tryz.prog.cellsOf 38)) = xs[2]? := hf 2 _ rfl
  rw [cN38] at f2
  obtain ⟨a0, g0⟩ := int_at f0 (by rw [List.getElem?_eq_getElem (by omega)]; rfl)
  obtain ⟨a1, g1⟩ := int_at f1 (by rw [List.getElem?_eq_getElem (by omega)]; rfl)
  have f5 := five_at f2 (by rw [List.getElem?_eq_getElem (by omega)]; rfl)
  obtain ⟨a2, g2⟩ := f5 0 (by omega)
  obtain ⟨a3, g3⟩ := f5 1 (by omega)
  obtain ⟨a4, g4⟩ := f5 2 (by omega)
  obtain ⟨a5, g5⟩ := f5 3 (by omega)
  obtain ⟨a6, g6⟩ := f5 4 (by omega)
  exact ⟨a0, a1, a2, a3, a4, a5, a6, list7 hl g0 g1 g2 g3 g4 g5 g6⟩
theorem vrl_ints {M : LM} : ∀ l : List Int, VRL M (l.map (.int .i64)) (l.map (.int .i64))
  | [] => VRL.nil M
  | _ :: l => VRL.cons rfl (vrl_ints l)
set_option maxRecDepth 100000 in
/-- an aggregate argument's value -/
theorem agg_of {t : TypeId} {fs : Array Field} (ht : Tryz.prog.underlying t = some (.struct fs)) {base : Nat} {v : Value} (h : Value.okWide Tryz.prog W .any base t v) : ∃ cs, v = .agg cs := by
  unfold Value.okWide at h
  rw [ht] at h
  obtain ⟨cs, rfl, _⟩ := h
  exact ⟨cs, rfl⟩
end
end Go.Vm.Code
