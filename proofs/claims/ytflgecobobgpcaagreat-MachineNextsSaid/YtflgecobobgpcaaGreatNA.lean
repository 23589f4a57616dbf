/-
  A closed fact of the program. Conditions: none beyond those that each statement names.
-/
import Derived.Test.YtflgecobobgpcaaGreatRows
import Derived.JoinedOf
import Derived.KernelRfl
namespace Go.Proofs.YtflgecobobgpcaaGreat.machineNexts
theorem fact1 : (Rows.machineNextsRow.inPlace == Tryz.prog.inPlace 4) = true := by kernel_rfl
end Go.Proofs.YtflgecobobgpcaaGreat.machineNexts
