/-
  New. Conditions: none.
-/
import Derived.Test.YthndplpbnfihdaaGe
set_option linter.unusedVariables false
set_option linter.unusedSimpArgs false
namespace Go.Proofs.Ythndplpbnfihdaa
open Go.RowKit

def NewPost (w : World) (fan : Nat) (e : Ending) (w' : World) : Prop :=
  ∃ tr fp, e = .returned (.tuple #[ptr tr, .int .i64 0]) ∧ Tree w' tr fan 0 ([] : List (ByteArray × Int)) fp ∧ (∀ k ∈ fp, w.heap.size ≤ k) ∧ w.heap.size ≤ tr ∧ Chg (fun _ => False) w w'

set_option maxHeartbeats 1000000 in
theorem new_calls (w : World) (fan : Nat) (h4 : 4 ≤ fan) (h64 : fan ≤ 64) : Calls Try.prog 9 #[.int .i64 fan] w (NewPost w fan) := by
  obtain ⟨R, hR⟩ : ∃ R, R = NewPost w fan := ⟨_, rfl⟩
  rw [← hR]
  have h4' : (4 : Int) ≤ (fan : Int) := by omega
  have h64' : (fan : Int) ≤ 64 := by omega
  have HP : Hid (∀ e w' tr fp, e = .returned (.tuple #[.pointer (some ⟨tr, 0, none⟩), .int .i64 0]) → Tree w' tr fan 0 ([] : List (ByteArray × Int)) fp → (∀ k ∈ fp, w.heap.size ≤ k) → w.heap.size ≤ tr → Chg (fun _ => False) w w' → R e w') := by
    intro e w' tr fp h1 h2 h3 h4 h5
    rw [hR]; exact ⟨tr, fp, h1, h2, h3, h4, h5⟩
  have H4 := Lib.hid h4
  have H64 := Lib.hid h64
  clear hR h4 h64
  go_enter Try.func9, Try.ntmps9
  go_wp2_with fail
  have hA : At ((w.alloc (.cells #[.slice none 0 0, .slice none 0 0, .slice none 0 0] 62)).alloc (.cells #[.int .i64 fan, .int .i64 0, .pointer (some ⟨w.heap.size, 0, none⟩)] 64)) 0 w.heap.size ([] : List (ByteArray × Int)) [w.heap.size] :=
    ⟨.slice none 0 0, .slice none 0 0, (Blk.new _ _ _).alloc _, Own.nil _ _, Own.nil _ _, rfl⟩
  have hB : Blk ((w.alloc (.cells #[.slice none 0 0, .slice none 0 0, .slice none 0 0] 62)).alloc (.cells #[.int .i64 fan, .int .i64 0, .pointer (some ⟨w.heap.size, 0, none⟩)] 64)) (w.heap.size + 1) 64 #[.int .i64 fan, .int .i64 0, .pointer (some ⟨w.heap.size, 0, none⟩)] := by
    have := Blk.new (w.alloc (.cells #[.slice none 0 0, .slice none 0 0, .slice none 0 0] 62)) 64 #[.int .i64 fan, .int .i64 0, .pointer (some ⟨w.heap.size, 0, none⟩)]
    simpa using this
  refine HP.out _ _ (w.heap.size + 1) [w.heap.size] rfl ⟨H4.out, H64.out, by simp, by simp, ⟨trivial, trivial, by simp [toL, keysT, Rising]⟩, Nat.zero_le _, fun h => absurd h (by omega), w.heap.size, hB, hA⟩ (by simp) (by omega) (((Chg.refl _ w).alloc _).alloc _)

set_option maxHeartbeats 1000000 in
theorem new_bad (w : World) (fan : Int) (h : fan < 4 ∨ 64 < fan) : Calls Try.prog 9 #[.int .i64 fan] w (fun e w' => e = .returned (.tuple #[.pointer none, .int .i64 1]) ∧ w = w') := by
  obtain ⟨R, hR⟩ : ∃ R : Ending → World → Prop, R = fun e w' => e = .returned (.tuple #[.pointer none, .int .i64 1]) ∧ w = w' := ⟨_, rfl⟩
  rw [← hR]
  have HP : Hid (∀ e w', e = .returned (.tuple #[.pointer none, .int .i64 1]) → w = w' → R e w') := fun e w' h1 h2 => by rw [hR]; exact ⟨h1, h2⟩
  clear hR
  by_cases h4 : fan < 4
  · clear h
    go_enter Try.func9, Try.ntmps9
    go_wp2_with fail
    exact HP.out _ _ rfl rfl
  · have h5 : 64 < fan := by omega
    have h6 : 4 ≤ fan := by omega
    clear h h4
    go_enter Try.func9, Try.ntmps9
    go_wp2_with fail
    exact HP.out _ _ rfl rfl
end Go.Proofs.Ythndplpbnfihdaa
