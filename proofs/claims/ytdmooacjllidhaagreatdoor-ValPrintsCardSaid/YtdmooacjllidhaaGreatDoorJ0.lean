/-
  Two truths as one. Conditions: none.
-/
import Derived.KernelRfl
namespace Go.Proofs.YtdmooacjllidhaaGreatDoor
theorem and3 {a b : Bool} (ha : a = true) (hb : b = true) : (a && b) = true := by rw [ha, hb]; rfl
end Go.Proofs.YtdmooacjllidhaaGreatDoor
