/-
  The closed facts of the row. Conditions: none beyond those that each statement names.
-/
import Derived.Test.YtflgecobobgpcaaGreatPNA
import Derived.Test.YtflgecobobgpcaaGreatPNB
import Derived.Test.YtflgecobobgpcaaGreatPNC
namespace Go.Proofs.YtflgecobobgpcaaGreat.machinePlays
theorem and_mk {a b : Bool} (ha : a = true) (hb : b = true) : (a && b) = true := by rw [ha, hb]; rfl
theorem closed : joinedFacts Tryz.prog 5 Tryz.f5 Rows.machinePlaysSpec Rows.machinePlaysRow = true := by
  unfold joinedFacts
  repeat' with_reducible apply and_mk
  all_goals first | with_reducible exact fact1 | with_reducible exact fact2 | with_reducible exact fact3 | with_reducible exact fact4 | kernel_rfl
end Go.Proofs.YtflgecobobgpcaaGreat.machinePlays
