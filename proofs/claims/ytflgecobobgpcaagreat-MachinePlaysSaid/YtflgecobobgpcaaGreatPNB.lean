/-
  A closed fact of the program. Conditions: none beyond those that each statement names.
-/
import Derived.Test.YtflgecobobgpcaaGreatRows
import Derived.JoinedOf
import Derived.KernelRfl
namespace Go.Proofs.YtflgecobobgpcaaGreat.machinePlays
theorem fact2 : (Rows.machinePlaysRow.unfollowed == Tryz.prog.unfollowed 5) = true := by kernel_rfl
theorem fact3 : (Rows.machinePlaysRow.recurses == Tryz.prog.recurses 5) = true := by
  have h : Tryz.prog.unfollowed 5 = true := (beq_iff_eq.1 fact2).symm
  rw [beq_iff_eq, Program.recurses, h, Bool.true_or]; rfl
end Go.Proofs.YtflgecobobgpcaaGreat.machinePlays
