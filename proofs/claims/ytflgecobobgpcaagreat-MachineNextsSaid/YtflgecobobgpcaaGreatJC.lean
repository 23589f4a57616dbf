/-
  MachineNexts returns true for every machine and place: the statement. Conditions: none beyond those that each statement names.
-/
import Derived.Test.YtflgecobobgpcaaGreatJB
import Derived.Test.YtflgecobobgpcaaGreatND
namespace Go.Proofs.YtflgecobobgpcaaGreat.machineNexts
open Go Go.ChangeShapes Go.WideShapes Go.ChangeAt Go.RowKit
theorem over : Rows.machineNextsRow.holds Tryz.pinned (OpenSpec.ofChange Rows.machineNextsSpec) :=
  OpenClaim.holds_of_wide 4 Tryz.f4 rfl rfl rfl rfl rfl rfl rfl ⟨rfl, rfl, rfl, rfl, rfl⟩ rfl rfl rfl rfl rfl (by kernel_rfl) Tryz.func4 closed
    (of_decide_eq_true (by kernel_rfl)) (by unfold Func.isWrapper; first | (rw [if_pos (by decide +kernel)]; kernel_rfl) | (rw [if_neg (by decide +kernel)]; exact ⟨rfl, rfl⟩))
    (fun os started H enc _ => lifted os started H enc)

theorem proved : Rows.MachineNextsSaid := over
#print axioms proved
end Go.Proofs.YtflgecobobgpcaaGreat.machineNexts
