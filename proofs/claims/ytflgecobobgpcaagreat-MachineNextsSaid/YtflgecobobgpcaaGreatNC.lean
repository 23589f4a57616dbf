/-
  A closed fact of the program. Conditions: none beyond those that each statement names.
-/
import Derived.Test.YtflgecobobgpcaaGreatRows
import Derived.JoinedOf
import Derived.KernelRfl
namespace Go.Proofs.YtflgecobobgpcaaGreat.machineNexts
theorem fact4 : (Rows.machineNextsRow.named == Tryz.prog.varsNamed 4) = true := by kernel_rfl
end Go.Proofs.YtflgecobobgpcaaGreat.machineNexts
