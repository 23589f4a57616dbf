/-
  The law MachineNexts, every start. Conditions: none beyond those that each statement names.
-/
import Derived.Test.YtflgecobobgpcaaGreatJA
import Derived.WalkKit
import Derived.ProofKit
namespace Go.Proofs.YtflgecobobgpcaaGreat.machineNexts
open Go Go.Vm Go.Vm.Code Go.ChangeShapes Go.WideShapes Go.ChangeAt Go.RowKit

theorem own : ownKnob Tryz.prog.godebug = none := by kernel_rfl
theorem laidOut : laidOutB Tryz.prog = true := by kernel_rfl
theorem rowed : mapsRowed Tryz.prog = true := by kernel_rfl
def sizedB (P : Program) : Bool := (List.range P.types.size).all fun t => match P.underlying t with | some (.slice e) => decide (0 < P.cellsOf e) | _ => true
theorem sizedAll : sizedB Tryz.prog = true := by kernel_rfl
theorem sized {t e : TypeId} (ht : t < Tryz.prog.types.size) (h : Tryz.prog.underlying t = some (.slice e)) : 0 < Tryz.prog.cellsOf e := by
  have := List.all_eq_true.1 sizedAll t (List.mem_range.2 ht)
  rw [h] at this
  simpa using this
theorem rows4 : ∀ t ∈ Tryz.f4.params.toList, t < Tryz.prog.types.size := by
  rw [Tryz.params4]
  have h1 : decide (27 < Tryz.prog.types.size) = true := by kernel_rfl
  have h2 : decide (40 < Tryz.prog.types.size) = true := by kernel_rfl
  intro t ht
  simp at ht
  rcases ht with rfl | rfl
  · exact of_decide_eq_true h1
  · exact of_decide_eq_true h2

theorem walk {W : World} {f sy st o : V} {m : Mach} {cs : List Value} (hm : MachV (EL (extW W)) f sy st o m) (hv : VRL M0 (mcells f sy st o m) cs) (rd p a b c d e : Int) :
    Calls Tryz.prog 4 #[.agg cs.toArray, .agg ([rd, p, a, b, c, d, e].map (Value.int .i64)).toArray] W fun e w' => e = .returned (.bool true) ∧ Grown W w' := by
  obtain ⟨v, H', ⟨rfl, _⟩, n0, hrun⟩ := s4 (stdW W) hm rd p a b c d e H0
  refine (calls (hrun n0 (Nat.le_refl _)) (funcsL _) (simPrimL _ _) (extW_ok W) (xs := [.agg cs.toArray, .agg ([rd, p, a, b, c, d, e].map (Value.int .i64)).toArray]) ?_).mono ?_
  · exact VRL.cons ⟨cs, hv, rfl⟩ (VRL.cons ⟨_, vrl_ints [rd, p, a, b, c, d, e], rfl⟩ (VRL.nil _))
  · rintro e w' ⟨x, M', he, hx, hg⟩
    have hx : x = .bool true := hx
    subst hx
    exact ⟨he, hg⟩

set_option maxRecDepth 100000 in
theorem lifted (os : Os) (started : os.Started) (H : Type) (enc : TypeId × Value → H) :
    ReturnsInHanded {} Tryz.checked os 4 .any (Rows.machineNextsSpec.pre6 enc Tryz.prog Tryz.f4 Rows.machineNextsRow.domain false) (Rows.machineNextsSpec.post enc Tryz.prog Tryz.f4 false true false false) := by
  refine returnsInHanded_of_change (C := Tryz.checked) own started (by kernel_rfl) Tryz.func4
    (ChangeSpec.witness6 (enc := enc) (C := Tryz.checked) false ⟨#[], #[.agg #[.int .i64 0, .int .i64 0, .int .i64 0, .int .i64 0, .slice none 0 0, .slice none 0 0, .slice none 0 0, .slice none 0 0], .agg #[.int .i64 0, .int .i64 0, .int .i64 0, .int .i64 0, .int .i64 0, .int .i64 0, .int .i64 0]], []⟩ 8 (by kernel_rfl) (by kernel_rfl) (by kernel_rfl) (by kernel_rfl)) ?_
  intro W base args ds gs before hval0 hW hcnd _
  have hval : ∀ (j : Nat) t v, Tryz.f4.params[j]? = some t → args[j]? = some v → Value.okWide Tryz.prog W .any base t v := hval0
  have hW' := hW
  obtain ⟨p, q, hA0, hV, rfl, hfz, hnd⟩ := hW
  have hA : DataW.TrodAll enc Tryz.prog W 0 (fun _ => true) true Tryz.f4.params.toList args.toList ds p := hA0
  have hkeep := hA
  rw [Tryz.params4] at hA hval
  obtain ⟨v0, vs0, d0, ds0, p0, q0, hargs, rfl, rfl, ⟨n0, h0⟩, r0⟩ := trodAll_cons hA
  obtain ⟨v1, vs1, d1, ds1, p1, q1, rfl, rfl, rfl, ⟨n1, h1⟩, r1⟩ := trodAll_cons r0
  obtain ⟨rfl, rfl, rfl⟩ := trodAll_nil r1
  obtain rfl : args = #[v0, v1] := by cases args; simp_all
  obtain ⟨rfl, rfl⟩ := trodVars_none hV
  obtain ⟨c0, rfl⟩ := agg_of Tryz.underlying27 (hval 0 27 v0 rfl rfl)
  obtain ⟨c1, rfl⟩ := agg_of Tryz.underlying40 (hval 1 40 v1 rfl rfl)
  obtain ⟨f, sy, st, o, m, hm, hv⟩ := rd_mach h0
  obtain ⟨rd, pp, a, b, c, d, e, hpl⟩ := rd_place h1
  have e0 : c0 = (Value.cells (.agg c0)).toList.toArray := by simp [Value.cells]
  have e1 : c1 = ([rd, pp, a, b, c, d, e].map (Value.int .i64)).toArray := by rw [← hpl]; simp [Value.cells]
  clear hA0 hval0
  simp only [List.append_nil] at hW' hkeep
  have hw := walk hm hv rd pp a b c d e
  rw [← e0, ← e1] at hw
  refine hw.mono fun e W' ⟨he, hg⟩ => ?_
  subst he
  exact ⟨_, rfl, post_of_same (pv := []) hW' (fun _ _ _ => (trodAll_cons_mk (shut_bool Tryz.underlying4 _) trodAll_mk0)) (fun sp hsp => stayAll laidOut rowed sized hg rows4 hkeep (by simpa using hsp)) (fun _ _ => rfl) (by simp)
    (hg.frame _) hg.2.1 (ok_one (by kernel_rfl) rfl (okWide_bool_mk Tryz.underlying4 _))⟩

end Go.Proofs.YtflgecobobgpcaaGreat.machineNexts
