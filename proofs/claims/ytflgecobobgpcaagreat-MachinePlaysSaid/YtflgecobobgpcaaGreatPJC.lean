/-
  MachinePlays returns true for every machine, inputs and word: the statement. Conditions: none beyond those that each statement names.
-/
import Derived.Test.YtflgecobobgpcaaGreatPJB
import Derived.Test.YtflgecobobgpcaaGreatPND
namespace Go.Proofs.YtflgecobobgpcaaGreat.machinePlays
open Go Go.ChangeShapes Go.WideShapes Go.ChangeAt Go.RowKit
theorem over : Rows.machinePlaysRow.holds Tryz.pinned (OpenSpec.ofChange Rows.machinePlaysSpec) :=
  OpenClaim.holds_of_wide 5 Tryz.f5 rfl rfl rfl rfl rfl rfl rfl ⟨rfl, rfl, rfl, rfl, rfl⟩ rfl rfl rfl rfl rfl (by kernel_rfl) Tryz.func5 closed
    (of_decide_eq_true (by kernel_rfl)) (by unfold Func.isWrapper; first | (rw [if_pos (by decide +kernel)]; kernel_rfl) | (rw [if_neg (by decide +kernel)]; exact ⟨rfl, rfl⟩))
    (fun os started H enc _ => lifted os started H enc)

theorem proved : Rows.MachinePlaysSaid := over
#print axioms proved
end Go.Proofs.YtflgecobobgpcaaGreat.machinePlays
