/-
  cmp.Compare at int64 and at string. Conditions: none.
-/
import Derived.Test.YtdmooacjllidhaaGreatDoorProg
import Derived.WalkKit
import Derived.WalkSpells
import Derived.WalkLawsBesides
import Derived.Lib.Small
import Derived.Handy
import Derived.Lib.Hide
import Derived.Test.YtdmooacjllidhaaGreatDoorTp
set_option linter.unusedVariables false
set_option linter.unusedSimpArgs false
namespace Go.Proofs.YtdmooacjllidhaaGreatDoor
open Go.RowKit

theorem nan64 (x : Int) (w : World) : Calls Tryz.prog 260 #[.int .i64 x] w fun e w' => e = .returned (.bool false) ∧ w' = w := by
  go_enter Tryz.func260, Tryz.ntmps260
  go_wp2
  go_ret
  simp

theorem cmp64 (x y : Int) (w : World) : Calls Tryz.prog 175 #[.int .i64 x, .int .i64 y] w fun e w' => e = .returned (.int .i64 (Lib.compareInt x y)) ∧ w' = w := by
  go_enter Tryz.func175, Tryz.ntmps175
  go_wp2_with (go_at_call 260; refine (nan64 _ _).mono ?_; rintro e w' ⟨rfl, hw⟩; rw [hw])
  all_goals (go_ret; refine ⟨?_, rfl⟩; unfold Lib.compareInt; (repeat' split) <;> first | rfl | (exfalso; omega))

theorem nanS (x : ByteArray) (w : World) : Calls Tryz.prog 220 #[.string x] w fun e w' => e = .returned (.bool false) ∧ w' = w := by
  go_enter Tryz.func220, Tryz.ntmps220
  go_wp2
  go_ret
  simp

theorem cmpS (x y : ByteArray) (w : World) : Calls Tryz.prog 140 #[.string x, .string y] w fun e w' => e = .returned (.int .i64 (cmpB x y)) ∧ w' = w := by
  have hc : (Op.bytesLess x.toList y.toList = true ∧ cmpB x y = -1) ∨ (Op.bytesLess x.toList y.toList = false ∧ Op.bytesLess y.toList x.toList = true ∧ ¬ (x.toList = y.toList) ∧ cmpB x y = 1) ∨ (Op.bytesLess x.toList y.toList = false ∧ Op.bytesLess y.toList x.toList = false ∧ x.toList = y.toList ∧ cmpB x y = 0) := by
    unfold cmpB
    cases h1 : Op.bytesLess x.toList y.toList
    · cases h2 : Op.bytesLess y.toList x.toList
      · exact .inr (.inr ⟨rfl, rfl, bl_total _ _ h1 h2, by simp⟩)
      · refine .inr (.inl ⟨rfl, rfl, fun e => ?_, by simp⟩)
        rw [e, bl_irrefl] at h2; cases h2
    · exact .inl ⟨rfl, by simp⟩
  obtain ⟨c, hcv⟩ : ∃ c, cmpB x y = c := ⟨_, rfl⟩
  rw [hcv] at hc ⊢
  clear hcv
  rcases hc with ⟨h1, rfl⟩ | ⟨h1, h2, h3, rfl⟩ | ⟨h1, h2, h3, rfl⟩
  all_goals
    go_enter Tryz.func140, Tryz.ntmps140
    go_wp2_with (go_at_call 220; refine (nanS _ _).mono ?_; rintro e w' ⟨rfl, hw⟩; rw [hw])
    all_goals (go_ret; refine ⟨?_, rfl⟩; first | rfl | (exfalso; simp_all; done))
end Go.Proofs.YtdmooacjllidhaaGreatDoor
