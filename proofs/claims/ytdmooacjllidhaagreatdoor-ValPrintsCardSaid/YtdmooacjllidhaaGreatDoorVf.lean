/-
  The collations without a table; what the document fixes of values. Conditions: the library's variable is laid.
-/
import Derived.Test.YtdmooacjllidhaaGreatDoorVe
set_option linter.unusedVariables false
set_option linter.unusedSimpArgs false
namespace Go.Proofs.YtdmooacjllidhaaGreatDoor
open Go.RowKit

theorem make1 (w : World) (k l : Int) (sh bk : Bool) (t : ByteArray) (hk : k = 1 ∨ k = 2) : Calls Tryz.prog 43 #[.int .i64 k, .int .i64 l, .bool sh, .bool bk, .string t] w fun e w' =>
    e = .returned (.tuple #[.agg #[.int .i64 k, .int .i64 0, .bool false, .bool false, .pointer none], .agg #[.int .i64 k, .int .i64 0, .bool false, .bool false, .slice none 0 0], .bool true]) ∧ Chg (fun _ => False) w w' := by
  rcases hk with rfl | rfl
  all_goals
    go_enter Tryz.func43, Tryz.ntmps43
    go_wp2
    go_returns
    exact ⟨rfl, ((Chg.refl _ w).alloc _).alloc _⟩

theorem its_printed : [39] ++ Lib.replaceAll [105, 116, 39, 115] [39] [39, 39] ++ [39] = ([39, 105, 116, 39, 39, 115, 39] : List UInt8) := by
  decide +kernel

theorem print_its (w : World) (m : Int) (hm : w.cell? ⟨2, 0, none⟩ = some (.int .i64 m)) :
    Calls Tryz.prog 64 #[.agg #[.int .i64 3, .int .i64 0, .string ⟨#[105, 116, 39, 115]⟩]] w fun e w' => e = .returned (.string ⟨#[39, 105, 116, 39, 39, 115, 39]⟩) ∧ Chg (fun _ => False) w w' := by
  refine (vPrintText w ⟨#[105, 116, 39, 115]⟩ m (by decide) hm).mono ?_
  rintro e w' ⟨⟨t, rfl, ht⟩, hc⟩
  have h2 : t.data.toList = [39, 105, 116, 39, 39, 115, 39] := ht.trans its_printed
  have h3 : t = ⟨#[39, 105, 116, 39, 39, 115, 39]⟩ := by
    cases t with
    | mk d => exact congrArg ByteArray.mk (Array.toList_inj.1 h2)
  rw [h3]
  exact ⟨rfl, hc⟩
end Go.Proofs.YtdmooacjllidhaaGreatDoor
