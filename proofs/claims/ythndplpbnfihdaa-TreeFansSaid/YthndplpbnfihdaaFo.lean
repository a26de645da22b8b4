/-
  The width that a law takes of a number; masks. Conditions: none.
-/
import Derived.Test.YthndplpbnfihdaaHp
import Derived.IntWalk
set_option linter.unusedVariables false
set_option linter.unusedSimpArgs false
namespace Go.Proofs.Ythndplpbnfihdaa
open Go.RowKit

theorem fan_at (f : Int) : ∃ k : Nat, 4 ≤ k ∧ k ≤ 64 ∧ wrap64 ((bits .and .i64 f 65535).tmod 61 + 4) = (k : Int) := by
  obtain ⟨m, hm, hb⟩ : ∃ m : Nat, m ≤ 65535 ∧ bits .and .i64 f 65535 = (m : Int) := by
    refine ⟨(BitVec.ofInt 64 f &&& BitVec.ofInt 64 65535).toNat, ?_, ?_⟩
    · rw [BitVec.toNat_and]
      exact Nat.and_le_right
    · have h : (BitVec.ofInt 64 f &&& BitVec.ofInt 64 65535).toNat ≤ 65535 := by rw [BitVec.toNat_and]; exact Nat.and_le_right
      show IntKind.i64.wrap ((BitVec.ofInt 64 f &&& BitVec.ofInt 64 65535).toNat : Int) = _
      rw [IntKind.wrap_i64]
      omega
  refine ⟨m % 61 + 4, by omega, by omega, ?_⟩
  rw [hb, show ((m : Int)).tmod 61 = ((m % 61 : Nat) : Int) from rfl]
  rw [IntWalk.wrap64_in] <;> omega

end Go.Proofs.Ythndplpbnfihdaa
