/-
  An inner node whose child or children have changed: its blocks, apart and in order. Conditions: the footprints stand apart.
-/
import Derived.Test.YthndplpbnfihdaaPe
set_option linter.unusedVariables false
set_option linter.unusedSimpArgs false
namespace Go.Proofs.Ythndplpbnfihdaa
open Go.RowKit

/-- The middle of a footprint is replaced. -/
theorem fp_mid {b g g' s0 s1 : Nat} {O O' A X B N : List Nat} (h : (b :: (O ++ g :: (A ++ X ++ B))).Nodup) (hlt : ∀ k ∈ b :: (O ++ g :: (A ++ X ++ B)), k < s0) (h01 : s0 ≤ s1)
    (hN : N.Nodup) (hNX : ∀ k ∈ N, k ∈ X ∨ s0 ≤ k) (hNl : ∀ k ∈ N, k < s1) (hg : g' = g ∨ s1 ≤ g') (hO : ∀ k ∈ O', k ∈ O ∨ s1 ≤ k) (hOn : O'.Nodup) (hOg : g' ∉ O') :
    (b :: (O' ++ g' :: (A ++ N ++ B))).Nodup ∧ ∀ k ∈ b :: (O' ++ g' :: (A ++ N ++ B)), k ∈ b :: (O ++ g :: (A ++ X ++ B)) ∨ s0 ≤ k := by
  simp only [List.nodup_cons, List.nodup_append, List.mem_append, List.mem_cons, not_or] at h hlt ⊢
  obtain ⟨⟨hbO, hbg, ⟨hbA, hbX⟩, hbB⟩, hO1, ⟨⟨⟨hgA, hgX⟩, hgB⟩, ⟨hA, hX, hAX⟩, hB, hAB⟩, hOall⟩ := h
  refine ⟨⟨⟨?_, ?_, ⟨hbA, ?_⟩, hbB⟩, hOn, ⟨⟨⟨?_, ?_⟩, ?_⟩, ⟨hA, hN, ?_⟩, hB, ?_⟩, ?_⟩, ?_⟩
  all_goals (try intro x hx)
  all_goals (try intro y hy)
  all_goals grind
end Go.Proofs.Ythndplpbnfihdaa
