/-
  The closed facts of the row. Conditions: none beyond those that each statement names.
-/
import Derived.Test.YtflgecobobgpcaaGreatNA
import Derived.Test.YtflgecobobgpcaaGreatNB
import Derived.Test.YtflgecobobgpcaaGreatNC
namespace Go.Proofs.YtflgecobobgpcaaGreat.machineNexts
theorem and_mk {a b : Bool} (ha : a = true) (hb : b = true) : (a && b) = true := by rw [ha, hb]; rfl
theorem closed : joinedFacts Tryz.prog 4 Tryz.f4 Rows.machineNextsSpec Rows.machineNextsRow = true := by
  unfold joinedFacts
  repeat' with_reducible apply and_mk
  all_goals first | with_reducible exact fact1 | with_reducible exact fact2 | with_reducible exact fact3 | with_reducible exact fact4 | kernel_rfl
end Go.Proofs.YtflgecobobgpcaaGreat.machineNexts
