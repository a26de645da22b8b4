/-
  val's and the document's small functions on values. Conditions: none.
-/
import Derived.Test.YtdmooacjllidhaaGreatDoorHp
import Derived.Test.YtdmooacjllidhaaGreatDoorProg
import Derived.Handy
import Derived.Test.YtdmooacjllidhaaGreatDoorOrd
set_option linter.unusedVariables false
set_option linter.unusedSimpArgs false
namespace Go.Proofs.YtdmooacjllidhaaGreatDoor
open Go.RowKit

theorem vInt (w : World) (n : Int) : Calls Tryz.prog 32 #[.int .i64 n] w fun e w' => e = .returned (.agg #[.int .i64 2, .int .i64 n, .string ⟨#[]⟩]) ∧ Chg (fun _ => False) w w' := by
  go_enter Tryz.func32, Tryz.ntmps32
  go_wp2
  go_returns
  exact ⟨rfl, (Chg.refl _ w).alloc _⟩

theorem vText (w : World) (s : ByteArray) : Calls Tryz.prog 33 #[.string s] w fun e w' => e = .returned (.agg #[.int .i64 3, .int .i64 0, .string s]) ∧ Chg (fun _ => False) w w' := by
  go_enter Tryz.func33, Tryz.ntmps33
  go_wp2
  go_returns
  exact ⟨rfl, (Chg.refl _ w).alloc _⟩

theorem rInt (w : World) (n : Int) : Calls Tryz.prog 36 #[.int .i64 n] w fun e w' => e = .returned (.agg #[.int .i64 2, .int .i64 n, .string ⟨#[]⟩]) ∧ Chg (fun _ => False) w w' := by
  go_enter Tryz.func36, Tryz.ntmps36
  go_wp2
  go_returns
  exact ⟨rfl, (Chg.refl _ w).alloc _⟩

theorem rText (w : World) (s : ByteArray) : Calls Tryz.prog 37 #[.string s] w fun e w' => e = .returned (.agg #[.int .i64 3, .int .i64 0, .string s]) ∧ Chg (fun _ => False) w w' := by
  go_enter Tryz.func37, Tryz.ntmps37
  go_wp2
  go_returns
  exact ⟨rfl, (Chg.refl _ w).alloc _⟩

theorem vNull (w : World)  : Calls Tryz.prog 39 #[] w fun e w' => e = .returned (.agg #[.int .i64 0, .int .i64 0, .string ⟨#[]⟩]) ∧ Chg (fun _ => False) w w' := by
  go_enter Tryz.func39, Tryz.ntmps39
  go_wp2
  go_returns
  exact ⟨rfl, (Chg.refl _ w).alloc _⟩

theorem vBool (w : World) (b : Bool) : Calls Tryz.prog 34 #[.bool b] w fun e w' => e = .returned (.agg #[.int .i64 1, .int .i64 (if b = true then 1 else 0), .string ⟨#[]⟩]) ∧ Chg (fun _ => False) w w' := by
  cases b
  all_goals
    go_enter Tryz.func34, Tryz.ntmps34
    go_wp2
    go_returns
    exact ⟨rfl, ((Chg.refl _ w).alloc _).alloc _⟩

theorem rBool (w : World) (b : Bool) : Calls Tryz.prog 38 #[.bool b] w fun e w' => e = .returned (.agg #[.int .i64 1, .int .i64 (if b = true then 1 else 0), .string ⟨#[]⟩]) ∧ Chg (fun _ => False) w w' := by
  cases b
  all_goals
    go_enter Tryz.func38, Tryz.ntmps38
    go_wp2
    go_returns
    exact ⟨rfl, (Chg.refl _ w).alloc _⟩

/-- Is it a value? -/
def okV (k n : Int) (s : ByteArray) : Bool :=
  if k = 0 then (n == 0 && s.toList.isEmpty) else if k = 1 then ((n == 0 || n == 1) && s.toList.isEmpty) else if k = 2 then s.toList.isEmpty else (k == 3 && n == 0)

theorem vOk (w : World) (k n : Int) (s : ByteArray) : Calls Tryz.prog 40 #[.agg #[.int .i64 k, .int .i64 n, .string s]] w fun e w' => e = .returned (.bool (okV k n s)) ∧ Chg (fun _ => False) w w' := by
  go_enter Tryz.func40, Tryz.ntmps40
  go_wp2
  all_goals
    go_returns
    refine ⟨?_, (Chg.refl _ w).alloc _⟩
    simp_all [okV]

theorem rOk (w : World) (k n : Int) (s : ByteArray) : Calls Tryz.prog 41 #[.agg #[.int .i64 k, .int .i64 n, .string s]] w fun e w' => e = .returned (.bool (okV k n s)) ∧ Chg (fun _ => False) w w' := by
  go_enter Tryz.func41, Tryz.ntmps41
  go_wp2
  all_goals
    go_returns
    refine ⟨?_, (Chg.refl _ w).alloc _⟩
    first
    | (simp_all [okV]; done)
    | (simp_all [okV]; omega)
    | (have hk : k = 0 ∨ k = 1 ∨ k = 2 ∨ k = 3 := by omega
       rcases hk with rfl | rfl | rfl | rfl <;> simp_all [okV])
    | (have h0 : ¬ (k = 0) := by omega
       have h1 : ¬ (k = 1) := by omega
       have h2 : ¬ (k = 2) := by omega
       have h3 : ¬ (k = 3) := by omega
       simp [okV, h0, h1, h2, h3])

theorem rSame (w : World) (k n : Int) (s : ByteArray) : Calls Tryz.prog 35 #[.agg #[.int .i64 k, .int .i64 n, .string s], .agg #[.int .i64 k, .int .i64 n, .string s]] w fun e w' => e = .returned (.bool true) ∧ Chg (fun _ => False) w w' := by
  go_enter Tryz.func35, Tryz.ntmps35
  go_wp2
  go_returns
  exact ⟨rfl, ((Chg.refl _ w).alloc _).alloc _⟩
end Go.Proofs.YtdmooacjllidhaaGreatDoor
