/-
  Values of the abstract machine and what they stand for; the check of code. Conditions: none beyond those that each statement names.
-/
import Derived.Test.YtflgecobobgpcaaGreatPVA
import Derived.RangeFuncNested
import Derived.RangeFuncLeaves
import Derived.OrdersIn
import Derived.Deep.AppendSrc
import Derived.Laws.CopyRow
import Derived.ChangeKeysEq
import Derived.Laws.StructEq
import Derived.RowKit3
namespace Go.Vm

structure Loc where
  block : Nat
  base : Nat
  lim : Nat

abbrev LM := Nat → Option Loc

def LM.le (M M' : LM) : Prop := ∀ id L, M id = some L → M' id = some L
theorem LM.le.refl (M : LM) : LM.le M M := fun _ _ h => h
theorem LM.le.trans {A B C : LM} (h : LM.le A B) (h' : LM.le B C) : LM.le A C := fun id L e => h' id L (h id L e)

mutual
def VR (M : LM) : V → Value → Prop
  | .int k n, x => x = .int k n
  | .bool b, x => x = .bool b
  | .str s, x => x = .string s
  | .nilp, x => x = .pointer none
  | .ptr id off, x => ∃ L, M id = some L ∧ x = .pointer (some ⟨L.block, L.base + off, none⟩)
  | .xptr b o, x => x = .pointer (some ⟨b, o, none⟩)
  | .nils, x => x = .slice none 0 0
  | .slc id off len (.ex n), x => ∃ L, M id = some L ∧ x = .slice (some ⟨L.block, L.base + off, none⟩) len n
  | .slc id off len (.up es), x => ∃ L o c, M id = some L ∧ x = .slice (some ⟨L.block, o, none⟩) len c ∧ len ≤ c ∧ ((o = L.base + off ∧ c = (L.lim - o) / es) ∨ (len = 0 ∧ c = 0 ∧ L.lim < L.base + off + es))
  | .xslc b o len cap, x => x = .slice (some ⟨b, o, none⟩) len cap ∨ (len = 0 ∧ cap = 0 ∧ ∃ a, x = .slice (some a) 0 0)
  | .nilm, x => x = .map none
  | .map id, x => ∃ L, M id = some L ∧ x = .map (some L.block)
  | .nilf, x => x = .nilFunc
  | .fn f cs, x => ∃ xs, VRL M cs xs ∧ x = .func (.func f) #[] xs.toArray
  | .yld id, x => ∃ L, M id = some L ∧ x = .func (.yield L.block) #[] #[]
  | .agg l, x => ∃ xs, VRL M l xs ∧ x = .agg xs.toArray
  | .tup l, x => ∃ xs, VRL M l xs ∧ x = .tuple xs.toArray
def VRL (M : LM) : List V → List Value → Prop
  | [], xs => xs = []
  | v :: vs, xs => ∃ y ys, VR M v y ∧ VRL M vs ys ∧ xs = y :: ys
end

mutual
theorem VR.mono {M M' : LM} (h : LM.le M M') : ∀ {v : V} {x : Value}, VR M v x → VR M' v x
  | .int .., _, hx | .bool _, _, hx | .str _, _, hx | .nilp, _, hx | .xptr .., _, hx | .nils, _, hx | .xslc .., _, hx | .nilm, _, hx | .nilf, _, hx => hx
  | .ptr .., _, hx => let ⟨L, a, b⟩ := hx; ⟨L, h _ _ a, b⟩
  | .slc _ _ _ (.ex _), _, hx => let ⟨L, a, b⟩ := hx; ⟨L, h _ _ a, b⟩
  | .slc _ _ _ (.up _), _, hx => let ⟨L, o, c, a, b⟩ := hx; ⟨L, o, c, h _ _ a, b⟩
  | .map _, _, hx => let ⟨L, a, b⟩ := hx; ⟨L, h _ _ a, b⟩
  | .yld _, _, hx => let ⟨L, a, b⟩ := hx; ⟨L, h _ _ a, b⟩
  | .fn .., _, hx => let ⟨xs, a, b⟩ := hx; ⟨xs, VRL.mono h a, b⟩
  | .agg _, _, hx => let ⟨xs, a, b⟩ := hx; ⟨xs, VRL.mono h a, b⟩
  | .tup _, _, hx => let ⟨xs, a, b⟩ := hx; ⟨xs, VRL.mono h a, b⟩
theorem VRL.mono {M M' : LM} (h : LM.le M M') : ∀ {vs : List V} {xs : List Value}, VRL M vs xs → VRL M' vs xs
  | [], _, hx => hx
  | _ :: _, _, hx => let ⟨y, ys, a, b, c⟩ := hx; ⟨y, ys, VR.mono h a, VRL.mono h b, c⟩
end

theorem VR.xs {M : LM} {b o len cap : Nat} {x : Value} (h : VR M (.xslc b o len cap) x) : ∃ a, x = .slice (some a) len cap ∧ (a = ⟨b, o, none⟩ ∨ (len = 0 ∧ cap = 0)) := by
  rcases h with h | ⟨rfl, rfl, a, h⟩
  · exact ⟨_, h, Or.inl rfl⟩
  · exact ⟨a, h, Or.inr ⟨rfl, rfl⟩⟩
theorem VR.xs1 {M : LM} {b o len cap : Nat} {x : Value} (h : VR M (.xslc b o len cap) x) (hl : 0 < cap ∨ 0 < len) : x = .slice (some ⟨b, o, none⟩) len cap := by
  rcases h with h | ⟨rfl, rfl, _⟩
  · exact h
  · omega
theorem VRL.nil (M : LM) : VRL M [] [] := rfl
theorem VRL.cons {M : LM} {v : V} {vs : List V} {x : Value} {xs : List Value} (h : VR M v x) (h' : VRL M vs xs) : VRL M (v :: vs) (x :: xs) := ⟨x, xs, h, h', rfl⟩

theorem VRL.length {M : LM} : ∀ {vs : List V} {xs : List Value}, VRL M vs xs → xs.length = vs.length
  | [], _, h => by cases h; rfl
  | _ :: _, _, ⟨_, _, _, h, e⟩ => by subst e; simp [VRL.length h]

theorem VRL.get {M : LM} : ∀ {vs : List V} {xs : List Value}, VRL M vs xs → ∀ (i : Nat) (v : V), vs[i]? = some v → ∃ x, xs[i]? = some x ∧ VR M v x
  | [], _, _, i, v, hv => by simp at hv
  | a :: vs, _, ⟨y, ys, h1, h2, e⟩, i, v, hv => by
    subst e
    cases i with
    | zero => simp at hv; subst hv; exact ⟨y, rfl, h1⟩
    | succ i => simp at hv ⊢; exact VRL.get h2 i v hv

theorem VRL.of_get {M : LM} : ∀ {vs : List V} {xs : List Value}, xs.length = vs.length → (∀ (i : Nat) (v : V), vs[i]? = some v → ∃ x, xs[i]? = some x ∧ VR M v x) → VRL M vs xs
  | [], xs, hl, _ => by simp at hl; exact hl
  | v :: vs, [], hl, _ => by simp at hl
  | v :: vs, x :: xs, hl, h => by
    obtain ⟨y, hy, hv⟩ := h 0 v rfl
    simp at hy; subst hy
    exact ⟨x, xs, hv, VRL.of_get (by simpa using hl) (fun i w hw => by have := h (i + 1) w (by simpa using hw); simpa using this), rfl⟩

theorem VRL.append {M : LM} : ∀ {vs ws : List V} {xs ys : List Value}, VRL M vs xs → VRL M ws ys → VRL M (vs ++ ws) (xs ++ ys)
  | [], _, _, _, h, h' => by cases h; exact h'
  | _ :: _, _, _, _, ⟨_, _, a, b, e⟩, h' => by subst e; exact ⟨_, _, a, VRL.append b h', rfl⟩

theorem VRL.take {M : LM} (n : Nat) {vs : List V} {xs : List Value} (h : VRL M vs xs) : VRL M (vs.take n) (xs.take n) := by
  induction n generalizing vs xs with
  | zero => simp [VRL]
  | succ n ih =>
    cases vs with
    | nil => cases h; simp [VRL]
    | cons v vs => obtain ⟨y, ys, a, b, e⟩ := h; subst e; exact ⟨_, _, a, ih b, rfl⟩

theorem VR.one {M : LM} {v : V} {x : Value} (h : VR M v x) (h1 : v.one = true) : x.oneCell' = true := by
  cases v with
  | slc id off len c => cases c <;> (obtain ⟨L, h⟩ := h; first | (obtain ⟨_, rfl⟩ := h; rfl) | (obtain ⟨o, c, _, rfl, _⟩ := h; rfl))
  | agg => simp [V.one] at h1
  | tup => simp [V.one] at h1
  | ptr => obtain ⟨L, _, rfl⟩ := h; rfl
  | map => obtain ⟨L, _, rfl⟩ := h; rfl
  | yld => obtain ⟨L, _, rfl⟩ := h; rfl
  | fn => obtain ⟨L, _, rfl⟩ := h; rfl
  | xslc => rcases h with rfl | ⟨_, _, _, rfl⟩ <;> rfl
  | _ => cases h; rfl

theorem VRL.one {M : LM} : ∀ {vs : List V} {xs : List Value}, VRL M vs xs → allOne vs = true → ∀ x ∈ xs, x.oneCell' = true
  | [], _, h, _, x, hx => by cases h; simp at hx
  | v :: vs, _, ⟨y, ys, a, b, e⟩, h1, x, hx => by
    subst e
    simp [allOne] at h1
    simp at hx
    rcases hx with rfl | hx
    · exact a.one h1.1
    · exact VRL.one b (by simpa [allOne] using h1.2) x hx

theorem VR.cells {M : LM} {v : V} {x : Value} (h : VR M v x) : VRL M v.cells x.cells.toList := by
  cases v with
  | agg l => obtain ⟨xs, h, rfl⟩ := h; simpa [V.cells, Value.cells] using h
  | slc id off len c =>
    cases c with
    | ex n => obtain ⟨L, a, rfl⟩ := h; exact VRL.cons (M := M) (v := .slc id off len (.ex n)) ⟨L, a, rfl⟩ (VRL.nil M)
    | up n => obtain ⟨L, o, c, a, rfl, b⟩ := h; exact VRL.cons (M := M) (v := .slc id off len (.up n)) ⟨L, o, c, a, rfl, b⟩ (VRL.nil M)
  | tup l => obtain ⟨xs, h, rfl⟩ := h; exact VRL.cons (M := M) (v := .tup l) ⟨xs, h, rfl⟩ (VRL.nil M)
  | ptr a b => obtain ⟨L, h, rfl⟩ := h; exact VRL.cons (M := M) (v := .ptr a b) ⟨L, h, rfl⟩ (VRL.nil M)
  | map a => obtain ⟨L, h, rfl⟩ := h; exact VRL.cons (M := M) (v := .map a) ⟨L, h, rfl⟩ (VRL.nil M)
  | yld a => obtain ⟨L, h, rfl⟩ := h; exact VRL.cons (M := M) (v := .yld a) ⟨L, h, rfl⟩ (VRL.nil M)
  | fn a b => obtain ⟨L, h, rfl⟩ := h; exact VRL.cons (M := M) (v := .fn a b) ⟨L, h, rfl⟩ (VRL.nil M)
  | int k n => cases h; exact VRL.cons (M := M) (v := .int k n) rfl (VRL.nil M)
  | bool b => cases h; exact VRL.cons (M := M) (v := .bool b) rfl (VRL.nil M)
  | str b => cases h; exact VRL.cons (M := M) (v := .str b) rfl (VRL.nil M)
  | nilp => cases h; exact VRL.cons (M := M) (v := .nilp) rfl (VRL.nil M)
  | xptr a b => cases h; exact VRL.cons (M := M) (v := .xptr a b) rfl (VRL.nil M)
  | nils => cases h; exact VRL.cons (M := M) (v := .nils) rfl (VRL.nil M)
  | xslc a b c d => rcases h with h | ⟨h1, h2, a', h⟩ <;> cases h
                    · exact VRL.cons (M := M) (v := .xslc a b c d) (Or.inl rfl) (VRL.nil M)
                    · exact VRL.cons (M := M) (v := .xslc a b c d) (Or.inr ⟨h1, h2, _, rfl⟩) (VRL.nil M)
  | nilm => cases h; exact VRL.cons (M := M) (v := .nilm) rfl (VRL.nil M)
  | nilf => cases h; exact VRL.cons (M := M) (v := .nilf) rfl (VRL.nil M)

/-! lists of cells -/
theorem getAt_spec : ∀ {l : List V} {o n : Nat} {r : List V}, getAt l o n = some r → r.length = n ∧ (∀ i, i < n → r[i]? = l[o + i]?) ∧ o + n ≤ l.length ∨ (getAt l o n = some r ∧ n = 0 ∧ r = [])
  | l, o, 0, r, h => by right; exact ⟨h, rfl, by cases l <;> (simp only [getAt] at h; cases h; rfl)⟩
  | [], o, n + 1, r, h => by simp [getAt] at h
  | x :: l, 0, n + 1, r, h => by
    simp only [getAt, Option.bind_eq_some_iff] at h
    obtain ⟨r', h', e⟩ := h
    cases e
    left
    rcases getAt_spec h' with ⟨a, b, c⟩ | ⟨_, rfl, rfl⟩
    · refine ⟨by simp [a], fun i hi => ?_, by simp at c ⊢; omega⟩
      cases i with
      | zero => rfl
      | succ i => have := b i (by omega); simp at this ⊢; exact this
    · refine ⟨rfl, fun i hi => ?_, by simp⟩
      have : i = 0 := by omega
      subst this; rfl
  | x :: l, o + 1, n + 1, r, h => by
    simp only [getAt] at h
    rcases getAt_spec h with ⟨a, b, c⟩ | ⟨_, hn, _⟩
    · refine .inl ⟨a, fun i hi => ?_, by simp; omega⟩
      rw [b i hi, show o + 1 + i = (o + i) + 1 from by omega]; rfl
    · omega

theorem getAt_zero (l : List V) (o : Nat) : getAt l o 0 = some [] := by cases l <;> cases o <;> rfl

theorem getAt_len {l : List V} {o n : Nat} {r : List V} (h : getAt l o n = some r) : r.length = n := by
  rcases getAt_spec h with ⟨a, _, _⟩ | ⟨_, rfl, rfl⟩
  · exact a
  · rfl

theorem getAt_get {l : List V} {o n : Nat} {r : List V} (h : getAt l o n = some r) {i : Nat} (hi : i < n) : r[i]? = l[o + i]? := by
  rcases getAt_spec h with ⟨_, b, _⟩ | ⟨_, rfl, rfl⟩
  · exact b i hi
  · omega

theorem getAt_le {l : List V} {o n : Nat} {r : List V} (h : getAt l o n = some r) (hn : 0 < n) : o + n ≤ l.length := by
  rcases getAt_spec h with ⟨_, _, c⟩ | ⟨_, rfl, rfl⟩
  · exact c
  · omega

theorem nth_eq : ∀ (l : List V) (n : Nat), nth l n = l[n]?
  | [], _ => rfl
  | _ :: _, 0 => rfl
  | _ :: l, n + 1 => by simp [nth, nth_eq l n]

theorem setAt_nil (l : List V) (o : Nat) : setAt l o [] = some l := by cases l <;> cases o <;> rfl

theorem setAt_spec : ∀ {l : List V} {o : Nat} {vs r : List V}, setAt l o vs = some r → r.length = l.length ∧ (vs ≠ [] → o + vs.length ≤ l.length) ∧ ∀ i, r[i]? = if o ≤ i ∧ i < o + vs.length then vs[i - o]? else l[i]?
  | l, o, [], r, h => by
    rw [setAt_nil] at h; cases h
    exact ⟨rfl, fun h => absurd rfl h, fun i => by rw [if_neg (by simp)]⟩
  | [], o, v :: vs, r, h => by cases o <;> simp [setAt] at h
  | x :: l, 0, v :: vs, r, h => by
    simp only [setAt, Option.bind_eq_some_iff] at h
    obtain ⟨r', h', e⟩ := h
    cases e
    obtain ⟨a, b, c⟩ := setAt_spec h'
    refine ⟨by simp [a], fun _ => ?_, fun i => ?_⟩
    · cases vs with
      | nil => simp
      | cons y ys => have := b (by simp); simp at this ⊢; omega
    · cases i with
      | zero => simp
      | succ i =>
        have hc := c i
        simp only [List.getElem?_cons_succ, Nat.zero_le, true_and, List.length_cons, Nat.zero_add, Nat.sub_zero] at hc ⊢
        rw [hc]
        by_cases hi : i < vs.length
        · rw [if_pos hi, if_pos (by omega)]
        · rw [if_neg hi, if_neg (by omega)]
  | x :: l, o + 1, v :: vs, r, h => by
    simp only [setAt, Option.bind_eq_some_iff] at h
    obtain ⟨r', h', e⟩ := h
    cases e
    obtain ⟨a, b, c⟩ := setAt_spec h'
    refine ⟨by simp [a], fun hn => by have := b hn; simp at this ⊢; omega, fun i => ?_⟩
    cases i with
    | zero => rw [if_neg (by omega)]; rfl
    | succ i =>
      have hc := c i
      simp only [List.getElem?_cons_succ]
      rw [hc]
      by_cases hi : o ≤ i ∧ i < o + (v :: vs).length
      · rw [if_pos hi, if_pos (by omega), show i + 1 - (o + 1) = i - o from by omega]
      · rw [if_neg hi, if_neg (by omega)]

end Go.Vm

namespace Go.Vm

mutual
def chkV : V → Value → Bool
  | .int k n, .int k' n' => decide (k = k') && decide (n = n')
  | .bool a, .bool b => a == b
  | .str s, .string t => decide (s = t)
  | .nilp, .pointer none => true
  | .nils, .slice none 0 0 => true
  | .nilm, .map none => true
  | .nilf, .nilFunc => true
  | .fn f cs, .func (.func g) a b => Nat.beq f g && (Nat.beq a.size 0 && chkVs cs b.toList)
  | .agg l, .agg a => chkVs l a.toList
  | .tup l, .tuple a => chkVs l a.toList
  | _, _ => false
def chkVs : List V → List Value → Bool
  | [], [] => true
  | v :: vs, x :: xs => chkV v x && chkVs vs xs
  | _, _ => false
end

mutual
theorem chkV_sound (M : LM) : ∀ {v : V} {x : Value}, chkV v x = true → VR M v x
  | .int k n, x, h => by
    cases x with
    | int k' n' => simp only [chkV, Bool.and_eq_true, decide_eq_true_eq] at h; obtain ⟨rfl, rfl⟩ := h; rfl
    | _ => exact absurd h (by simp only [chkV]; decide)
  | .bool b, x, h => by
    cases x with
    | bool b' => simp only [chkV, beq_iff_eq] at h; subst h; rfl
    | _ => exact absurd h (by simp only [chkV]; decide)
  | .str s, x, h => by
    cases x with
    | string s' => simp only [chkV, decide_eq_true_eq] at h; subst h; rfl
    | _ => exact absurd h (by simp only [chkV]; decide)
  | .nilp, x, h => by
    cases x with
    | pointer a => cases a with
      | none => rfl
      | some a => exact absurd h (by simp only [chkV]; decide)
    | _ => exact absurd h (by simp only [chkV]; decide)
  | .nils, x, h => by
    cases x with
    | slice a l c => cases a with
      | none => cases l with
        | zero => cases c with
          | zero => rfl
          | succ c => exact absurd h (by simp only [chkV]; decide)
        | succ l => exact absurd h (by simp only [chkV]; decide)
      | some a => exact absurd h (by simp only [chkV]; decide)
    | _ => exact absurd h (by simp only [chkV]; decide)
  | .nilm, x, h => by
    cases x with
    | map a => cases a with
      | none => rfl
      | some a => exact absurd h (by simp only [chkV]; decide)
    | _ => exact absurd h (by simp only [chkV]; decide)
  | .nilf, x, h => by
    cases x with
    | nilFunc => rfl
    | _ => exact absurd h (by simp only [chkV]; decide)
  | .fn f cs, x, h => by
    cases x with
    | func g a b => cases g with
      | func g =>
        simp only [chkV, Bool.and_eq_true, Nat.beq_eq] at h
        obtain ⟨rfl, ha, hb⟩ := h
        have ha' : a = #[] := by cases a; simp at ha; simp [ha]
        subst ha'
        exact ⟨b.toList, chkVs_sound M hb, by simp⟩
      | _ => exact absurd h (by simp only [chkV]; decide)
    | _ => exact absurd h (by simp only [chkV]; decide)
  | .agg l, x, h => by
    cases x with
    | agg a => exact ⟨a.toList, chkVs_sound M (by simpa only [chkV] using h), by simp⟩
    | _ => exact absurd h (by simp only [chkV]; decide)
  | .tup l, x, h => by
    cases x with
    | tuple a => exact ⟨a.toList, chkVs_sound M (by simpa only [chkV] using h), by simp⟩
    | _ => exact absurd h (by simp only [chkV]; decide)
  | .ptr .., x, h => by cases x <;> exact absurd h (by simp only [chkV]; decide)
  | .xptr .., x, h => by cases x <;> exact absurd h (by simp only [chkV]; decide)
  | .slc .., x, h => by cases x <;> exact absurd h (by simp only [chkV]; decide)
  | .xslc .., x, h => by cases x <;> exact absurd h (by simp only [chkV]; decide)
  | .map _, x, h => by cases x <;> exact absurd h (by simp only [chkV]; decide)
  | .yld _, x, h => by cases x <;> exact absurd h (by simp only [chkV]; decide)
theorem chkVs_sound (M : LM) : ∀ {vs : List V} {xs : List Value}, chkVs vs xs = true → VRL M vs xs
  | [], [], _ => rfl
  | [], _ :: _, h => by simp [chkVs] at h
  | _ :: _, [], h => by simp [chkVs] at h
  | v :: vs, x :: xs, h => by
    simp only [chkVs, Bool.and_eq_true] at h
    exact ⟨x, xs, chkV_sound M h.1, chkVs_sound M h.2, rfl⟩
end

def chkO : Operand → Opd → Bool
  | .tmp t, .t t' => Nat.beq t t'
  | .const c, .c v => chkV v c
  | .func f, .c (.fn g []) => Nat.beq f g
  | _, _ => false

def chkOs : List Operand → List Opd → Bool
  | [], [] => true
  | x :: xs, y :: ys => chkO x y && chkOs xs ys
  | _, _ => false

def chkOO : Option Operand → Option Opd → Bool
  | none, none => true
  | some x, some y => chkO x y
  | _, _ => false

/-! what is asked of the types -/
def zeroIs (P : Program) (t : TypeId) (z : List V) : Bool :=
  match P.info? t with
  | some i => match i.zero with
    | some v => chkVs z v.cells.toList
    | none => false
  | none => false
def isAggB (P : Program) (t : TypeId) : Bool := match P.underlying t with | some (.struct _) | some (.array _ _) => true | _ => false
def undB (P : Program) (t : TypeId) : Bool := (P.underlying t).isSome
def sizeIs (P : Program) (t n : Nat) : Bool := match P.info? t with | some i => Nat.beq i.size n | none => false
def bytesIs (P : Program) (t n : Nat) : Bool := match P.info? t with | some i => Nat.beq i.bytes n | none => false
def sliceOf (P : Program) (t : TypeId) : Option TypeId := match P.underlying t with | some (.slice e) => some e | _ => none
def arrOf (P : Program) (t : TypeId) : Option (Nat × TypeId) := match P.underlying t with | some (.array n e) => some (n, e) | _ => none
def structOf (P : Program) (t : TypeId) : Option (Array Field) := match P.underlying t with | some (.struct fs) => some fs | _ => none
def mapOf (P : Program) (t : TypeId) : Option (TypeId × TypeId) := match P.underlying t with | some (.map k e) => some (k, e) | _ => none
def intB (P : Program) (t : TypeId) : Bool := match P.underlying t with | some (.int _) => true | _ => false
def boolB (P : Program) (t : TypeId) : Bool := match P.underlying t with | some .bool => true | _ => false
def strB (P : Program) (t : TypeId) : Bool := match P.underlying t with | some .string => true | _ => false

/-- a type all of whose cells are numbers, one after another: how many -/
def flatT (P : Program) : Nat → TypeId → Option Nat
  | 0, _ => none
  | d + 1, t =>
    match P.underlying t with
    | some (.int _) => some 1
    | some (.array n e) => (flatT P d e).bind fun m => if (P.info? e).isSome && Nat.beq (P.cellsOf e) m then some (n * m) else none
    | some (.struct fs) => if P.stoodInHeld t then none else
        fs.toList.foldl (fun acc f => acc.bind fun off =>
          if f.name != "_" && Nat.beq f.offset off then (flatT P d f.type).bind fun m => if (P.info? f.type).isSome && Nat.beq (P.cellsOf f.type) m then some (off + m) else none else none) (some 0)
    | _ => none

/-- a flat aggregate of n numbers -/
def flatIs (P : Program) (t n : Nat) : Bool := isAggB P t && Nat.beq (P.cellsOf t) n && !P.eqGuardType P.depth t && (match flatT P 30 t with | some m => Nat.beq m n | none => false)

def fieldsOk (P : Program) (fs : List Field) : Bool := fs.all fun f => (P.info? f.type).isSome

/-- the parts of a composite value: of a struct -/
def chkPartsS (P : Program) (fs : Array Field) : List (Nat × Operand) → List (Nat × Nat × Opd) → Bool
  | [], [] => true
  | (i, x) :: ps, (off, n, y) :: qs => (match fs[i]? with | some f => Nat.beq f.offset off && Nat.beq (P.cellsOf f.type) n | none => false) && chkO x y && chkPartsS P fs ps qs
  | _, _ => false
/-- .. of an array, of a slice -/
def chkPartsA (size : Nat) : List (Nat × Operand) → List (Nat × Nat × Opd) → Bool
  | [], [] => true
  | (i, x) :: ps, (off, n, y) :: qs => Nat.beq (i * size) off && Nat.beq size n && chkO x y && chkPartsA size ps qs
  | _, _ => false

def oneZero (P : Program) (t : TypeId) (z : List V) : Bool := zeroIs P t z && sizeIs P t z.length

def chkKey (P : Program) (kt n : Nat) : Bool := (Nat.beq n 0 && intB P kt) || (!(Nat.beq n 0) && flatIs P kt n)

def chkOp (P : Program) (o : Oper) : AOp → Bool
  | .mv y => match o.op with
    | .move x | .assign x => chkO x y
    | _ => false
  | .pick c' a' b' => match o.op with
    | .pick c a b => chkO c c' && chkO a a' && chkO b b'
    | _ => false
  | .alloc z => match o.op with
    | .alloc t => zeroIs P t z
    | _ => false
  | .box y => match o.op with
    | .box _ x => chkO x y
    | _ => false
  | .build z qs => match o.op with
    | .build t ps => zeroIs P t z && (match P.underlying t with
      | some (.struct fs) => fieldsOk P fs.toList && chkPartsS P fs ps.toList qs
      | some (.array _ e) => (P.info? e).isSome && chkPartsA (P.cellsOf e) ps.toList qs
      | _ => false)
    | _ => false
  | .bslice n' z qs => match o.op with
    | .buildSlice t n ps => Nat.beq n n' && (match P.underlying t with
      | some (.slice e) => (match P.info? e with
        | some i => Nat.ble (n * P.cellsOf e) (2 ^ 24) && chkPartsA (P.cellsOf e) ps.toList qs && (match i.zero with
          | some zv => Nat.beq zv.cells.size (P.cellsOf e) && chkVs z (List.replicate n zv.cells.toList).flatten
          | none => Nat.beq (n * P.cellsOf e) 0 && z.isEmpty)
        | none => false)
      | _ => false)
    | _ => false
  | .ld1 y => match o.op with
    | .load t x => undB P t && !isAggB P t && chkO x y
    | _ => false
  | .ldN n y => match o.op with
    | .load t x => undB P t && isAggB P t && sizeIs P t n && chkO x y
    | _ => false
  | .st n y v => match o.op with
    | .store t x u => sizeIs P t n && chkO x y && chkO u v
    | _ => false
  | .nilck y => match o.op with
    | .nilCheck x => chkO x y
    | _ => false
  | .bin op' x' y' => match o.op with
    | .binOp op _ x y _ => decide (op = op') && chkO x x' && chkO y y'
    | _ => false
  | .eqb neg x' y' => match o.op with
    | .binOp op t x y _ => boolB P t && (match op with | .eql => !neg | .neq => neg | _ => false) && chkO x x' && chkO y y'
    | _ => false
  | .eqf neg n x' y' => match o.op with
    | .binOp op t x y _ => flatIs P t n && (match op with | .eql => !neg | .neq => neg | _ => false) && chkO x x' && chkO y y'
    | _ => false
  | .isnil neg x' => match o.op with
    | .binOp op t x y _ => (sliceOf P t).isSome && (match op with | .eql => !neg | .neq => neg | _ => false) && chkO x x' && (match y with | .const (.slice none 0 0) => true | _ => false)
    | _ => false
  | .un op' x' => match o.op with
    | .unOp op _ x => decide (op = op') && chkO x x'
    | _ => false
  | .conv k x' => match o.op with
    | .convert s d x => intB P s && (match P.underlying d with | some (.int k') => decide (k = k') | _ => false) && chkO x x'
    | _ => false
  | .mkfn f cs => match o.op with
    | .makeFunc (.func g) a b => Nat.beq f g && a.toList.isEmpty && chkOs b.toList cs
    | _ => false
  | .mkmap => match o.op with
    | .makeMap _ none => true
    | _ => false
  | .mkslice bytes z l' c' => match o.op with
    | .makeSlice t l c => (match sliceOf P t with | some e => bytesIs P e bytes && oneZero P e z | none => false) && chkO l l' && chkO c c'
    | _ => false
  | .slcS es x' lo' hi' mx' => match o.op with
    | .slice t x lo hi mx => (match sliceOf P t with | some e => sizeIs P e es | none => false) && chkO x x' && chkOO lo lo' && chkOO hi hi' && chkOO mx mx' && !(mx.isSome && hi.isNone)
    | _ => false
  | .slcA n' es x' lo' hi' mx' => match o.op with
    | .slice t x lo hi mx => (match arrOf P t with | some (n, e) => Nat.beq n n' && sizeIs P e es | none => false) && chkO x x' && chkOO lo lo' && chkOO hi hi' && chkOO mx mx' && !(mx.isSome && hi.isNone)
    | _ => false
  | .fa y off => match o.op with
    | .fieldAddr t x i => (match structOf P t with
      | some fs => (match fs[i]? with | some f => Nat.beq f.offset off && (P.info? f.type).isSome && !(Nat.beq (P.cellsOf f.type) 0) | none => false)
      | none => false) && chkO x y
    | _ => false
  | .ixS es x' i' => match o.op with
    | .indexAddr t x i => (match sliceOf P t with | some e => sizeIs P e es | none => false) && chkO x x' && chkO i i'
    | _ => false
  | .ixA n' es x' i' => match o.op with
    | .indexAddr t x i => (match arrOf P t with | some (n, e) => Nat.beq n n' && sizeIs P e es | none => false) && chkO x x' && chkO i i'
    | _ => false
  | .idx n' es isA x' i' => match o.op with
    | .index t x i => (match arrOf P t with | some (n, e) => Nat.beq n n' && sizeIs P e es && undB P e && (isA == isAggB P e) | none => false) && chkO x x' && chkO i i'
    | _ => false
  | .idxStr x' i' => match o.op with
    | .index t x i => strB P t && chkO x x' && chkO i i'
    | _ => false
  | .look n z m' k' => match o.op with
    | .lookup t m k true => (match mapOf P t with
      | some (kt, e) => chkKey P kt n && (match P.info? e with | some i => (match i.zero with | some zv => chkV z zv | none => false) | none => false)
      | none => false) && chkO m m' && chkO k k'
    | _ => false
  | .mput n m' k' v' => match o.op with
    | .mapUpdate t m k v => (match mapOf P t with | some (kt, _) => chkKey P kt n | none => false) && chkO m m' && chkO k k' && chkO v v'
    | _ => false
  | .mlen m' => match o.op with
    | .call c => (match c.callee with | .builtin .len => true | _ => false) && (match c.args.toList, c.argTypes.toList with
      | [m], [t] => (mapOf P t).isSome && chkO m m'
      | _, _ => false)
    | _ => false
  | .lenS x' => match o.op with
    | .call c => (match c.callee with | .builtin .len => true | _ => false) && (match c.args.toList, c.argTypes.toList with
      | [x], [t] => (sliceOf P t).isSome && chkO x x'
      | _, _ => false)
    | _ => false
  | .minmax isMax x' y' => match o.op with
    | .call c => (match c.callee with | .builtin .max => isMax | .builtin .min => !isMax | _ => false) && (match c.args.toList with
      | [x, y] => chkO x x' && chkO y y'
      | _ => false)
    | _ => false
  | .app es bytes x' y' => match o.op with
    | .call c => (match c.callee with | .builtin .append => true | _ => false) && (match c.args.toList, c.argTypes.toList with
      | [x, y], [t, u] => (match sliceOf P t with | some e => sizeIs P e es && bytesIs P e bytes && Nat.blt 0 es && (match P.info? e with | some i => (match i.zero with | some zv => Nat.beq zv.cells.size es | none => false) | none => false) | none => false) && (sliceOf P u).isSome && chkO x x' && chkO y y'
      | _, _ => false)
    | _ => false
  | .copy es x' y' => match o.op with
    | .call c => (match c.callee with | .builtin .copy => true | _ => false) && (match c.args.toList, c.argTypes.toList with
      | [x, y], t :: _ => (match sliceOf P t with | some e => sizeIs P e es | none => false) && chkO x x' && chkO y y'
      | _, _ => false)
    | _ => false
  | .clr z x' => match o.op with
    | .call c => (match c.callee with | .builtin .clear => true | _ => false) && (match c.args.toList, c.argTypes.toList with
      | [x], [t] => (match sliceOf P t with | some e => oneZero P e z | none => false) && chkO x x'
      | _, _ => false)
    | _ => false
  | .call f' as' => match o.op with
    | .call c => (match c.callee with | .value f => chkO f f' | _ => false) && chkOs c.args.toList as'
    | _ => false
  | .ext x' i' => match o.op with
    | .extract x i => chkO x x' && Nat.beq i i'
    | _ => false
  | .bad => true

def chkG (ops : Array Oper) : Option (Nat × Bool) → Option (Nat × Bool) → Bool
  | none, none => true
  | some (j, b), some (t, b') => (b == b') && (match (ops[j]?).bind (·.dst) with | some d => Nat.beq d t | none => false)
  | _, _ => false

def chkD (nt : Nat) : Option Nat → Option Nat → Bool
  | none, none => true
  | some d, some d' => Nat.beq d d' && Nat.blt d nt
  | _, _ => false

def chkOper (P : Program) (nt : Nat) (ops : Array Oper) (o : Oper) (ao : AOper) : Bool :=
  chkD nt o.dst ao.dst && chkG ops o.guard ao.guard && chkOp P o ao.op

def chkRegion (P : Program) (nt : Nat) (ops : Array Oper) : List Oper → List AOper → Bool
  | [], [] => true
  | o :: os, a :: as => chkOper P nt ops o a && chkRegion P nt ops os as
  | _, _ => false

end Go.Vm

namespace Go.Vm

def RR (M : LM) (r : Regs) (tmps : Array Value) : Prop := ∀ t v, look r t = some v → ∃ x, tmps[t]? = some x ∧ VR M v x

theorem RR.mono {M M' : LM} {r : Regs} {ts : Array Value} (h : RR M r ts) (hm : LM.le M M') : RR M' r ts :=
  fun t v e => let ⟨x, a, b⟩ := h t v e; ⟨x, a, b.mono hm⟩

theorem look_cons (k : Nat) (v : V) (r : Regs) (t : Nat) : look ((k, v) :: r) t = if k = t then some v else look r t := by
  simp only [look]
  by_cases h : k = t
  · subst h; simp
  · have : Nat.beq k t = false := by
      cases h' : Nat.beq k t
      · rfl
      · exact absurd (Nat.eq_of_beq_eq_true h') h
    simp [this, h]

theorem look_restrict {r : Regs} : ∀ {ks : List Nat} {t : Nat} {v : V}, look (restrict r ks) t = some v → look r t = some v
  | [], t, v, h => by simp [restrict, look] at h
  | k :: ks, t, v, h => by
    simp only [restrict] at h
    cases hk : look r k with
    | none => rw [hk] at h; exact look_restrict h
    | some u =>
      rw [hk] at h
      simp only [look_cons] at h
      split at h
      · rename_i e; subst e; rw [hk]; exact h
      · exact look_restrict h

theorem RR.restrict {M : LM} {r : Regs} {ts : Array Value} (h : RR M r ts) (ks : List Nat) : RR M (Vm.restrict r ks) ts :=
  fun t v e => h t v (look_restrict e)

theorem RR.restrictO {M : LM} {r : Regs} {ts : Array Value} (h : RR M r ts) (ks : Option (List Nat)) : RR M (Vm.restrictO r ks) ts := by
  cases ks with
  | none => exact h
  | some l => exact h.restrict l

theorem RR.put {M : LM} {r : Regs} {a : Act} {dst : Option Nat} {v : V} {x : Value} (h : RR M r a.tmps) (hv : VR M v x) (hd : ∀ d, dst = some d → d < a.tmps.size) :
    RR M (Vm.put r dst v) (a.put dst x).tmps := by
  cases dst with
  | none => exact h
  | some d =>
    intro t u e
    simp only [Vm.put, look_cons] at e
    have hlt := hd d rfl
    by_cases hdt : d = t
    · subst hdt
      rw [if_pos rfl] at e
      cases e
      exact ⟨x, by simp [Act.put, hlt], hv⟩
    · rw [if_neg hdt] at e
      obtain ⟨y, hy, hr⟩ := h t u e
      exact ⟨y, by simp only [Act.put]; rw [Array.getElem?_setIfInBounds_ne hdt]; exact hy, hr⟩

theorem RR.undef {M : LM} : VR M (.tup []) undef := ⟨[], rfl, rfl⟩

section
variable {P : Program} {M : LM} {r : Regs} {a : Act}

theorem ev_sound {x : Operand} {o : Opd} {v : V} (h : chkO x o = true) (e : ev r o = some v) (hr : RR M r a.tmps) : VR M v (a.eval x) := by
  cases x with
  | tmp t => cases o with
    | t t' =>
      simp only [chkO, Nat.beq_eq] at h
      subst h
      obtain ⟨x, hx, hv⟩ := hr t v e
      simpa [Act.eval, hx] using hv
    | c v' => simp [chkO] at h
  | const c => cases o with
    | t t' => simp [chkO] at h
    | c v' => simp only [ev, Option.some.injEq] at e; subst e; exact chkV_sound M h
  | global g => cases o <;> simp [chkO] at h
  | func f => cases o with
    | t t' => simp [chkO] at h
    | c v' =>
      simp only [ev, Option.some.injEq] at e; subst e
      cases v' with
      | fn g cs => cases cs with
        | nil => simp only [chkO, Nat.beq_eq] at h; subst h; exact ⟨[], rfl, rfl⟩
        | cons => simp [chkO] at h
      | _ => simp [chkO] at h

theorem evs_sound : ∀ {xs : List Operand} {os : List Opd} {vs : List V}, chkOs xs os = true → evs r os = some vs → RR M r a.tmps → VRL M vs (xs.map a.eval)
  | [], [], vs, _, e, _ => by simp [evs] at e; subst e; rfl
  | [], _ :: _, _, h, _, _ => by simp [chkOs] at h
  | _ :: _, [], _, h, _, _ => by simp [chkOs] at h
  | x :: xs, o :: os, vs, h, e, hr => by
    simp only [chkOs, Bool.and_eq_true] at h
    simp only [evs, Option.bind_eq_some_iff] at e
    obtain ⟨v, hv, vs', hvs, e⟩ := e
    cases e
    exact ⟨_, _, ev_sound h.1 hv hr, evs_sound h.2 hvs hr, rfl⟩

theorem natOf_int {M : LM} {v : V} {n : Nat} {x : Value} (h : natOf v = some n) (hv : VR M v x) : ∃ k, x = .int k n := by
  cases v <;> simp [natOf] at h
  rename_i k m
  obtain ⟨h0, rfl⟩ := h
  cases hv
  exact ⟨k, by rw [Int.toNat_of_nonneg h0]⟩

theorem natO_sound {x : Option Operand} {o : Option Opd} {n : Option Nat} (h : chkOO x o = true) (e : natO r o = some n) (hr : RR M r a.tmps) :
    (x = none ∧ n = none) ∨ ∃ y m k, x = some y ∧ n = some m ∧ a.eval y = .int k (m : Nat) := by
  cases x with
  | none => cases o with
    | none => simp [natO] at e; exact .inl ⟨rfl, e.symm⟩
    | some o => simp [chkOO] at h
  | some x => cases o with
    | none => simp [chkOO] at h
    | some o =>
      simp only [natO, Option.bind_eq_some_iff] at e
      obtain ⟨v, hv, m, hm, e⟩ := e
      cases e
      obtain ⟨k, hk⟩ := natOf_int hm (ev_sound h hv hr)
      exact .inr ⟨x, m, k, rfl, rfl, hk⟩

/-! fill: composite values -/
theorem foldl_set (off : Nat) : ∀ (cs : List Value) (j : Nat) (arr : Array Value), (cs.zipIdx j).foldl (fun arr (c, j) => arr.setIfInBounds (off + j) c) arr =
    ((arr.toList.zipIdx).map fun (x, i) => if off + j ≤ i ∧ i < off + j + cs.length then cs.getD (i - (off + j)) x else x).toArray
  | [], j, arr => by
    simp only [List.zipIdx_nil, List.foldl_nil]
    apply Array.ext'
    simp only [List.length_nil, Nat.add_zero]
    apply List.ext_getElem?
    intro i
    simp only [List.getElem?_map, List.getElem?_zipIdx, Nat.zero_add]
    cases h : arr.toList[i]? with
    | none => simp
    | some y => simp only [Option.map_some, Option.some.injEq]; rw [if_neg (by omega)]
  | c :: cs, j, arr => by
    rw [List.zipIdx_cons, List.foldl_cons, foldl_set off cs (j + 1)]
    apply Array.ext'
    simp only
    apply List.ext_getElem?
    intro i
    simp only [List.getElem?_map, List.getElem?_zipIdx, Nat.zero_add, Array.toList_setIfInBounds, List.getElem?_set, List.length_cons]
    by_cases hi : off + j = i
    · subst hi
      by_cases hb : off + j < arr.toList.length
      · simp only [hb, if_true, Option.map_some]
        rw [List.getElem?_eq_getElem hb]
        simp only [Option.map_some, Option.some.injEq]
        rw [if_neg (by omega), if_pos (by omega)]
        simp
      · simp only [hb, if_false]
        rw [List.getElem?_eq_none (by omega)]
        simp
    · rw [if_neg hi]
      cases hx : arr.toList[i]? with
      | none => simp
      | some y =>
        simp only [Option.map_some, Option.some.injEq]
        by_cases hc : off + (j + 1) ≤ i ∧ i < off + (j + 1) + cs.length
        · rw [if_pos hc, if_pos (by omega)]
          have : i - (off + j) = (i - (off + (j + 1))) + 1 := by omega
          rw [this]; simp
        · rw [if_neg hc, if_neg (by omega)]

theorem VRL.setAt {M : LM} {l vs r : List V} {off : Nat} {arr : Array Value} {cs : List Value} (hl : VRL M l arr.toList) (hv : VRL M vs cs) (h : Vm.setAt l off vs = some r) :
    VRL M r ((cs.zipIdx).foldl (fun arr (c, j) => arr.setIfInBounds (off + j) c) arr).toList ∧ (vs ≠ [] → off + cs.length ≤ arr.size) := by
  obtain ⟨hlen, hle, hget⟩ := setAt_spec h
  have h1 := hl.length
  have h2 := hv.length
  refine ⟨?_, fun hn => by have := hle hn; simp at h1; omega⟩
  rw [foldl_set off cs 0 arr]
  refine VRL.of_get (by simp [hlen]; simpa using h1) fun i v hi => ?_
  rw [hget i] at hi
  simp only [List.getElem?_map, List.getElem?_zipIdx, Nat.zero_add, Nat.add_zero]
  by_cases hc : off ≤ i ∧ i < off + vs.length
  · rw [if_pos hc] at hi
    obtain ⟨x, hx, hvx⟩ := hv.get _ _ hi
    have hlt : i < arr.toList.length := by
      have : vs ≠ [] := by intro e; subst e; simp at hc; omega
      have := hle this; omega
    refine ⟨x, ?_, hvx⟩
    rw [List.getElem?_eq_getElem hlt]
    simp only [Option.map_some, Option.some.injEq]
    rw [if_pos (by omega)]
    simp [List.getD, hx]
  · rw [if_neg hc] at hi
    obtain ⟨x, hx, hvx⟩ := hl.get _ _ hi
    refine ⟨x, ?_, hvx⟩
    rw [hx]
    simp only [Option.map_some, Option.some.injEq]
    rw [if_neg (by omega)]

/-- the parts of a composite value, place by place -/
theorem fill_sound (place : Nat → Option (Nat × Nat)) (chk : List (Nat × Operand) → List (Nat × Nat × Opd) → Bool)
    (hchk0 : ∀ p ps, chk (p :: ps) [] = false) (hchk1 : ∀ q qs, chk [] (q :: qs) = false)
    (hchk : ∀ i x ps off n y qs, chk ((i, x) :: ps) ((off, n, y) :: qs) = true → place i = some (off, n) ∧ chkO x y = true ∧ chk ps qs = true) :
    ∀ {ps : List (Nat × Operand)} {qs : List (Nat × Nat × Opd)} {l l' : List V} {arr : Array Value}, chk ps qs = true → fill l r qs = some l' → RR M r a.tmps → VRL M l arr.toList →
      ∃ arr', Instr.fill place arr (ps.map fun (i, x) => (i, a.eval x)) = some arr' ∧ VRL M l' arr'.toList
  | [], [], l, l', arr, _, h, _, hl => by simp [fill] at h; subst h; exact ⟨arr, rfl, hl⟩
  | p :: ps, [], _, _, _, hc, _, _, _ => by rw [hchk0] at hc; cases hc
  | [], q :: qs, _, _, _, hc, _, _, _ => by rw [hchk1] at hc; cases hc
  | (i, x) :: ps, (off, n, y) :: qs, l, l', arr, hc, h, hr, hl => by
    obtain ⟨hp, hx, hrest⟩ := hchk _ _ _ _ _ _ _ hc
    simp only [fill, Option.bind_eq_some_iff] at h
    obtain ⟨v, hv, h⟩ := h
    cases hlen : Nat.beq v.cells.length n && Nat.blt 0 n with
    | false => simp [hlen] at h
    | true =>
      simp only [hlen, cond_true, Option.bind_eq_some_iff] at h
      obtain ⟨l1, hs, h⟩ := h
      have hvx := (ev_sound hx hv hr).cells
      have hsz := hvx.length
      simp only [Bool.and_eq_true, Nat.beq_eq, Nat.blt_eq] at hlen
      obtain ⟨hl1, hle⟩ := hl.setAt hvx hs
      simp only [List.map_cons, Instr.fill, hp]
      have hsz' : (a.eval x).cells.size = n := by simpa [hlen.1] using hsz
      have hne : v.cells ≠ [] := by intro e; rw [e] at hlen; simp at hlen; omega
      have hfit := hle hne
      simp at hfit
      rw [if_neg (by simp [hsz']; omega)]
      have e : ((a.eval x).cells.zipIdx.foldl (fun cs (c, j) => cs.setIfInBounds (off + j) c) arr) = ((a.eval x).cells.toList.zipIdx.foldl (fun cs (c, j) => cs.setIfInBounds (off + j) c) arr) := by
        rw [← Array.foldl_toList]; simp
      rw [e]
      exact fill_sound place chk hchk0 hchk1 hchk hrest h hr hl1
end
end Go.Vm
