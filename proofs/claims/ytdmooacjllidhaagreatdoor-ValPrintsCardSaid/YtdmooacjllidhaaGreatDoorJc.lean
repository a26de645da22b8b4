/-
  The closed facts that all cards of the seat share. Conditions: none.
-/
import Derived.Test.YtdmooacjllidhaaGreatDoorRows
import Derived.SevenTiedAt
import Derived.KernelRfl
set_option linter.unusedVariables false
namespace Go.Proofs.YtdmooacjllidhaaGreatDoor
theorem seat_main : Tryz.pinned.checked.prog.mainIs = some (true, "25f2b302c7f03a4d7fb69a10b5ec03943510664cf24fcc79f0532698449b74e6".toList) := by kernel_rfl
theorem seat_looks : true = Tryz.pinned.checked.prog.looks [] := by kernel_rfl
end Go.Proofs.YtdmooacjllidhaaGreatDoor
