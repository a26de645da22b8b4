/-
  The closed facts of a row, each one a declaration of its own. Conditions: none.
-/
import Derived.Test.YtdmooacjllidhaaGreatDoorRows
import Derived.JoinedOf
import Derived.KernelRfl
import Derived.Test.YtdmooacjllidhaaGreatDoorJ0
set_option linter.unusedVariables false
namespace Go.Proofs.YtdmooacjllidhaaGreatDoor



set_option maxHeartbeats 40000000 in
set_option maxRecDepth 100000 in
theorem valPrints_facts : joinedFacts Tryz.prog 12 Tryz.f12 Rows.valPrintsSpec Rows.valPrintsRow = true := by
  unfold joinedFacts
  repeat' (with_reducible refine and3 ?_ ?_)
  all_goals (as_aux_lemma => kernel_rfl)
end Go.Proofs.YtdmooacjllidhaaGreatDoor
