/-
  The closed facts of a row, each one a declaration of its own. Conditions: none.
-/
import Derived.Test.YtdmooacjllidhaaGreatDoorRows
import Derived.JoinedOf
import Derived.KernelRfl
set_option linter.unusedVariables false
namespace Go.Proofs.YtdmooacjllidhaaGreatDoor

theorem and2 {a b : Bool} (ha : a = true) (hb : b = true) : (a && b) = true := by rw [ha, hb]; rfl

set_option maxHeartbeats 40000000 in
set_option maxRecDepth 100000 in
theorem valMakes_facts : joinedFacts Tryz.prog 6 Tryz.f6 Rows.valMakesSpec Rows.valMakesRow = true := by
  unfold joinedFacts
  repeat' (with_reducible refine and2 ?_ ?_)
  all_goals (as_aux_lemma => kernel_rfl)
end Go.Proofs.YtdmooacjllidhaaGreatDoor
