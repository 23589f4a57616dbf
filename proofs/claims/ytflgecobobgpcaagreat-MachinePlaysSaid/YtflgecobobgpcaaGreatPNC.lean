/-
  A closed fact of the program. Conditions: none beyond those that each statement names.
-/
import Derived.Test.YtflgecobobgpcaaGreatRows
import Derived.JoinedOf
import Derived.KernelRfl
namespace Go.Proofs.YtflgecobobgpcaaGreat.machinePlays
theorem fact4 : (Rows.machinePlaysRow.named == Tryz.prog.varsNamed 5) = true := by kernel_rfl
end Go.Proofs.YtflgecobobgpcaaGreat.machinePlays
