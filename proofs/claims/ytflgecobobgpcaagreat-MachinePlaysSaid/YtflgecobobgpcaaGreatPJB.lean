/-
  The law MachinePlays, every start. Conditions: none beyond those that each statement names.
-/
import Derived.Test.YtflgecobobgpcaaGreatPJA
import Derived.Test.YtflgecobobgpcaaGreatPPF
import Derived.WalkKit
import Derived.ProofKit
namespace Go.Vm.Code
open Go Go.Vm Go.Proofs
theorem cN103 : Tryz.prog.cellsOf 103 = 6 := by kernel_rfl
theorem cN105 : Tryz.prog.cellsOf 105 = 7 := by kernel_rfl
section
variable {H : Type} {enc : TypeId × Value → H} {W : World}
theorem rd_word : Rd enc Tryz.prog W 47 (WordV (EL (extW W))) := by
  refine rd_slice Tryz.underlying47 cN105 (by omega) fun n b o cs x hcs h => ?_
  obtain ⟨xs, m, _, _, hl, hxs, hf⟩ := DataW.trod_struct Tryz.underlying105 h
  have hx2 : xs.length = 2 := hxs
  have f0 : DataW.trod enc Tryz.prog W 0 (fun _ => true) true m 103 ((cs.drop 0).take (Tryz.prog.cellsOf 103)) = xs[0]? := hf 0 _ rfl
  rw [cN103] at f0
  have f1 : DataW.trod enc Tryz.prog W 0 (fun _ => true) true m 3 ((cs.drop 6).take (Tryz.prog.cellsOf 3)) = xs[1]? := hf 1 _ rfl
  rw [cN3] at f1
  rw [List.getElem?_eq_getElem (show 0 < xs.length by omega)] at f0
  obtain ⟨ys, m', _, _, hl2, hys, hg⟩ := DataW.trod_struct Tryz.underlying103 f0
  have hy2 : ys.length = 2 := hys
  have e0 : DataW.trod enc Tryz.prog W 0 (fun _ => true) true m' 3 ((((cs.drop 0).take 6).drop 0).take (Tryz.prog.cellsOf 3)) = ys[0]? := hg 0 _ rfl
  rw [cN3] at e0
  have e1 : DataW.trod enc Tryz.prog W 0 (fun _ => true) true m' 38 ((((cs.drop 0).take 6).drop 1).take (Tryz.prog.cellsOf 38)) = ys[1]? := hg 1 _ rfl
  rw [cN38] at e1
  obtain ⟨a6, g6⟩ := int_at f1 (by rw [List.getElem?_eq_getElem (by omega)]; rfl)
  obtain ⟨a0, k0⟩ := int_at e0 (by rw [List.getElem?_eq_getElem (by omega)]; rfl)
  have f5 := five_at e1 (by rw [List.getElem?_eq_getElem (by omega)]; rfl)
  have low : ∀ {i : Nat} {v : Value}, i < 6 → ((cs.drop 0).take 6)[i]? = some v → cs[i]? = some v := fun hi hv => by
    rw [List.getElem?_take, if_pos hi, List.drop_zero] at hv; exact hv
  have g0 := low (by omega) k0
  obtain ⟨a1, k1⟩ := f5 0 (by omega)
  obtain ⟨a2, k2⟩ := f5 1 (by omega)
  obtain ⟨a3, k3⟩ := f5 2 (by omega)
  obtain ⟨a4, k4⟩ := f5 3 (by omega)
  obtain ⟨a5, k5⟩ := f5 4 (by omega)
  have g1 := low (by omega) k1
  have g2 := low (by omega) k2
  have g3 := low (by omega) k3
  have g4 := low (by omega) k4
  have g5 := low (by omega) k5
  refine ⟨⟨a0, a1, a2, a3, a4, a5, a6⟩, fun j n hj => ?_⟩
  simp only [Rnd.cells] at hj
  rcases j with _ | _ | _ | _ | _ | _ | _ | j
  · cases hj; exact get_cell hcs g0
  · cases hj; exact get_cell hcs g1
  · cases hj; exact get_cell hcs g2
  · cases hj; exact get_cell hcs g3
  · cases hj; exact get_cell hcs g4
  · cases hj; exact get_cell hcs g5
  · cases hj; exact get_cell hcs g6
  · simp at hj
theorem rd_one {t : TypeId} {α : Type} {R : V → α → Prop} (hr : Rd enc Tryz.prog W t R) {n : Nat} {v : Value} {x : DataW H × List MemPlace} (hv : v.cells.toList = [v]) (h : DataW.trod enc Tryz.prog W 0 (fun _ => true) true n t v.cells.toList = some x) : ∃ u a, decV v = some u ∧ R u a := by
  obtain ⟨v', u, a, h1, h2, h3⟩ := hr n _ x h
  rw [hv] at h1
  cases h1
  exact ⟨u, a, h2, h3⟩
end
end Go.Vm.Code
namespace Go.Proofs.YtflgecobobgpcaaGreat.machinePlays
open Go Go.Vm Go.Vm.Code Go.ChangeShapes Go.WideShapes Go.ChangeAt Go.RowKit

theorem own : ownKnob Tryz.prog.godebug = none := by kernel_rfl
theorem laidOut : laidOutB Tryz.prog = true := by kernel_rfl
theorem rowed : mapsRowed Tryz.prog = true := by kernel_rfl
def sizedB (P : Program) : Bool := (List.range P.types.size).all fun t => match P.underlying t with | some (.slice e) => decide (0 < P.cellsOf e) | _ => true
theorem sizedAll : sizedB Tryz.prog = true := by kernel_rfl
theorem sized {t e : TypeId} (ht : t < Tryz.prog.types.size) (h : Tryz.prog.underlying t = some (.slice e)) : 0 < Tryz.prog.cellsOf e := by
  have := List.all_eq_true.1 sizedAll t (List.mem_range.2 ht)
  rw [h] at this
  simpa using this
theorem rows5 : ∀ t ∈ Tryz.f5.params.toList, t < Tryz.prog.types.size := by
  rw [Tryz.params5]
  have h1 : decide (27 < Tryz.prog.types.size) = true := by kernel_rfl
  have h2 : decide (46 < Tryz.prog.types.size) = true := by kernel_rfl
  have h3 : decide (47 < Tryz.prog.types.size) = true := by kernel_rfl
  intro t ht
  simp at ht
  rcases ht with rfl | rfl | rfl
  · exact of_decide_eq_true h1
  · exact of_decide_eq_true h2
  · exact of_decide_eq_true h3

theorem walk {W : World} {f sy st o : V} {m : Mach} {cs : List Value} (hm : MachV (EL (extW W)) f sy st o m) (hv : VRL M0 (mcells f sy st o m) cs) {x1 x2 : Value} {u1 u2 : V} {inp : List Int} {w : List Rnd}
    (d1 : decV x1 = some u1) (h1 : L1 (EL (extW W)) u1 inp) (d2 : decV x2 = some u2) (h2 : WordV (EL (extW W)) u2 w) :
    Calls Tryz.prog 5 #[.agg cs.toArray, x1, x2] W fun e w' => e = .returned (.bool true) ∧ Grown W w' := by
  obtain ⟨v, H', ⟨rfl, _⟩, n0, hrun⟩ := s5 (stdW W) hm h1 h2 H0
  refine (calls (hrun n0 (Nat.le_refl _)) (funcsL _) (simPrimL _ _) (extW_ok W) (xs := [.agg cs.toArray, x1, x2]) ?_).mono ?_
  · exact VRL.cons ⟨cs, hv, rfl⟩ (VRL.cons (decV_VR d1 _) (VRL.cons (decV_VR d2 _) (VRL.nil _)))
  · rintro e w' ⟨x, M', he, hx, hg⟩
    have hx : x = .bool true := hx
    subst hx
    exact ⟨he, hg⟩

set_option maxRecDepth 100000 in
theorem lifted (os : Os) (started : os.Started) (H : Type) (enc : TypeId × Value → H) :
    ReturnsInHanded {} Tryz.checked os 5 .any (Rows.machinePlaysSpec.pre6 enc Tryz.prog Tryz.f5 Rows.machinePlaysRow.domain false) (Rows.machinePlaysSpec.post enc Tryz.prog Tryz.f5 false true false false) := by
  refine returnsInHanded_of_change (C := Tryz.checked) own started (by kernel_rfl) Tryz.func5
    (ChangeSpec.witness6 (enc := enc) (C := Tryz.checked) false ⟨#[], #[.agg #[.int .i64 0, .int .i64 0, .int .i64 0, .int .i64 0, .slice none 0 0, .slice none 0 0, .slice none 0 0, .slice none 0 0], .slice none 0 0, .slice none 0 0], []⟩ 8 (by kernel_rfl) (by kernel_rfl) (by kernel_rfl) (by kernel_rfl)) ?_
  intro W base args ds gs before hval0 hW hcnd _
  have hval : ∀ (j : Nat) t v, Tryz.f5.params[j]? = some t → args[j]? = some v → Value.okWide Tryz.prog W .any base t v := hval0
  have hW' := hW
  obtain ⟨p, q, hA0, hV, rfl, hfz, hnd⟩ := hW
  have hA : DataW.TrodAll enc Tryz.prog W 0 (fun _ => true) true Tryz.f5.params.toList args.toList ds p := hA0
  have hkeep := hA
  rw [Tryz.params5] at hA hval
  obtain ⟨v0, vs0, d0, ds0, p0, q0, hargs, rfl, rfl, ⟨n0, h0⟩, r0⟩ := trodAll_cons hA
  obtain ⟨v1, vs1, d1, ds1, p1, q1, rfl, rfl, rfl, ⟨n1, h1⟩, r1⟩ := trodAll_cons r0
  obtain ⟨v2, vs2, d2, ds2, p2, q2, rfl, rfl, rfl, ⟨n2, h2⟩, r2⟩ := trodAll_cons r1
  obtain ⟨rfl, rfl, rfl⟩ := trodAll_nil r2
  obtain rfl : args = #[v0, v1, v2] := by cases args; simp_all
  obtain ⟨rfl, rfl⟩ := trodVars_none hV
  obtain ⟨c0, rfl⟩ := agg_of Tryz.underlying27 (hval 0 27 v0 rfl rfl)
  obtain ⟨b1, l1, k1, rfl⟩ := okWide_slice Tryz.underlying46 (hval 1 46 v1 rfl rfl)
  obtain ⟨b2, l2, k2, rfl⟩ := okWide_slice Tryz.underlying47 (hval 2 47 v2 rfl rfl)
  obtain ⟨f, sy, st, o, m, hm, hv⟩ := rd_mach h0
  obtain ⟨u1, inp, g1, hi⟩ := rd_one rd1 (by simp [Value.cells]) h1
  obtain ⟨u2, w, g2, hwd⟩ := rd_one rd_word (by simp [Value.cells]) h2
  have e0 : c0 = (Value.cells (.agg c0)).toList.toArray := by simp [Value.cells]
  clear hA0 hval0
  simp only [List.append_nil] at hW' hkeep
  have hw := walk hm hv g1 hi g2 hwd
  rw [← e0] at hw
  refine hw.mono fun e W' ⟨he, hg⟩ => ?_
  subst he
  exact ⟨_, rfl, post_of_same (pv := []) hW' (fun _ _ _ => (trodAll_cons_mk (shut_bool Tryz.underlying4 _) trodAll_mk0)) (fun sp hsp => stayAll laidOut rowed sized hg rows5 hkeep (by simpa using hsp)) (fun _ _ => rfl) (by simp)
    (hg.frame _) hg.2.1 (ok_one (by kernel_rfl) rfl (okWide_bool_mk Tryz.underlying4 _))⟩

end Go.Proofs.YtflgecobobgpcaaGreat.machinePlays
