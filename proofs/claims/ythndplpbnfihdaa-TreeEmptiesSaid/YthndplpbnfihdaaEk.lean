/-
  The keys of TreeEmpties. Conditions: fewer than 200.
-/
import Derived.Test.YthndplpbnfihdaaDt
import Derived.Laws.BytesString
import Derived.Laws.Cells
import Derived.Laws.Shifts
import Derived.Laws.ShiftsVar
import Derived.Laws.ShiftsVarLaws
set_option linter.unusedVariables false
set_option linter.unusedSimpArgs false
namespace Go.Proofs.Ythndplpbnfihdaa
open Go.RowKit

def keyB (i : Nat) : ByteArray := ⟨#[UInt8.ofNat (i * 7 / 16), UInt8.ofNat i, 107]⟩

theorem keyB_inj {i j : Nat} (hi : i < 200) (hj : j < 200) (h : keyB i = keyB j) : i = j := by
  have h1 : (#[UInt8.ofNat (i * 7 / 16), UInt8.ofNat i, 107] : Array UInt8) = #[UInt8.ofNat (j * 7 / 16), UInt8.ofNat j, 107] := congrArg ByteArray.data h
  have h2 : UInt8.ofNat i = UInt8.ofNat j := by
    have := congrArg (fun a : Array UInt8 => a[1]?) h1
    simpa using this
  have h3 := congrArg UInt8.toNat h2
  rw [UInt8.toNat_ofNat', UInt8.toNat_ofNat'] at h3
  omega

theorem run_key (W : World) (T : TypeId) (i : Nat) (hi : i < 200) (hb : W.heap.size = W.heap.size) :
    (convert 38 9 (.slice (some ⟨W.heap.size, 0, none⟩) 3 3)).run Try.prog (W.alloc (.cells #[.int .u8 ((i : Int) * 7 / 16), .int .u8 (i : Int), .int .u8 107] T)) =
      .ok (.string (keyB i)) (W.alloc (.cells #[.int .u8 ((i : Int) * 7 / 16), .int .u8 (i : Int), .int .u8 107] T)) := by
  rw [run_convert_bytes_string _ _ _ _ _ _ _ Try.underlying38 (by kernel_rfl) Try.underlying9]
  have hl := run_loadCells_list (P := Try.prog) (W.alloc (.cells #[.int .u8 ((i : Int) * 7 / 16), .int .u8 (i : Int), .int .u8 107] T)) ⟨W.heap.size, 0, none⟩ [.int .u8 ((i : Int) * 7 / 16), .int .u8 (i : Int), .int .u8 107] (fun j v hv => by
    rw [add_lit, Nat.zero_add]
    exact (Blk.new W T _).cell_ (by simpa using hv))
  rw [run_bytesToString _ _ 3 3 [(i : Int) * 7 / 16, (i : Int), 107] hl]
  congr 2

set_option maxHeartbeats 1000000 in
set_option maxRecDepth 100000 in
theorem ekey_walk (w : World) (i : Nat) (hi : i < 200) :
    Calls Try.prog 21 #[.int .i64 i] w (fun e w' => e = .returned (.string (keyB i)) ∧ Chg (fun _ => False) w w') := by
  have hw : IntKind.i64.wrap ((i : Int) * 7) = (i : Int) * 7 := by rw [IntKind.wrap_i64]; omega
  have hk := fun T => run_key w T i hi rfl
  obtain ⟨kb, hkb⟩ : ∃ kb, keyB i = kb := ⟨_, rfl⟩
  rw [hkb] at hk ⊢
  clear hkb
  go_enter Try.func21, Try.ntmps21
  go_wp2_with fail
  go_ret
  exact ⟨rfl, (Chg.refl _ w).alloc _⟩
end Go.Proofs.Ythndplpbnfihdaa
