/-
  find: where a key is. Conditions: the list is in order.
-/
import Derived.Test.YthndplpbnfihdaaPr
import Derived.Deep.QuietTactic
import Derived.BigQuiet
set_option linter.unusedVariables false
set_option linter.unusedSimpArgs false
namespace Go.Proofs.Ythndplpbnfihdaa
open Go.RowKit

theorem keys_get {L : List (ByteArray × Int)} {i : Nat} {p : ByteArray × Int} (h : L[i]? = some p) : (keysT L)[i]? = some p.1 := by rw [keysT, List.getElem?_map, h]; rfl

def FindPost (w : World) (i : Nat) (b : Bool) (e : Ending) (w' : World) : Prop := e = .returned (.tuple #[.int .i64 i, .bool b]) ∧ ∃ q, w' = w.drewN q

set_option maxHeartbeats 1000000 in
set_option maxRecDepth 100000 in
theorem find_some (w : World) (g n c : Nat) (L : List (ByteArray × Int)) (key : ByteArray) (hrow : Row2 w 52 (.slice (some ⟨g, 0, none⟩) n c) (prs L)) (hL : L.length = n) (hr : Rising (keysT L)) (hbig : n ≤ 1000000) :
    Calls Try.prog 28 #[.slice (some ⟨g, 0, none⟩) n c, .string key] w (FindPost w (pos (keysT L) key) (hasL key L)) := by
  obtain ⟨m, hm⟩ : ∃ m, pos (keysT L) key = m := ⟨_, rfl⟩
  have hmn : m ≤ n := by rw [← hm, ← hL]; have := pos_le (keysT L) key; simpa [keysT] using this
  have hhas : hasL key L = decide ((keysT L)[m]? = some key) := by rw [has_at hr, hm]
  rw [hm, hhas]
  have hlt : ∀ j p, j < m → L[j]? = some p → ltB p.1 key = true := fun j p hj hp => lt_of_pos (keysT L) key j p.1 (by rw [hm]; exact hj) (keys_get hp)
  have hge : ∀ p, L[m]? = some p → ltB p.1 key = false := fun p hp => not_lt_of_pos (keysT L) key m p.1 hr (by rw [hm]; exact Nat.le_refl _) (keys_get hp)
  have HLT : Hid (∀ j p, j < m → L[j]? = some p → ltB p.1 key = true) := hlt
  have HGE : Hid (∀ p, L[m]? = some p → ltB p.1 key = false) := hge
  have HROW := Lib.hid hrow
  have HL := Lib.hid hL
  obtain ⟨b, hb⟩ : ∃ b, decide ((keysT L)[m]? = some key) = b := ⟨_, rfl⟩
  rw [hb]
  have HB := Lib.hid hb
  obtain ⟨R, hR⟩ : ∃ R, R = FindPost w m b := ⟨_, rfl⟩
  rw [← hR]
  have HP : Hid (∀ e w' q, e = .returned (.tuple #[.int .i64 (m : Nat), .bool b]) → w' = w.drewN q → R e w') := by
    intro e w' q h1 h2; rw [hR]; exact ⟨h1, q, h2⟩
  clear hrow hL hm hr hhas hlt hge hb hR
  go_enter Try.func28, Try.ntmps28
  go_wp2_with fail
  go_loop [6] (fun s => ∃ k : Nat, s = .int .i64 k ∧ k ≤ m) (fun s => m - (intOf s).toNat)
  case atStart => exact ⟨0, rfl, Nat.zero_le _⟩
  case round =>
    obtain ⟨k, rfl, hk⟩ := hrel
    rcases Nat.lt_or_ge k m with hlt | hge
    · obtain ⟨p, hp⟩ : ∃ p, L[k]? = some p := ⟨_, List.getElem?_eq_getElem (by rw [HL.out]; omega)⟩
      have hcell : w.cell? ⟨g, k * 2, none⟩ = some (.string p.1) := by rw [Nat.mul_comm]; exact HROW.out.fst (prs_get hp)
      have hl : Op.bytesLess p.1.toList key.toList = true := HLT.out k p hlt hp
      have hkn : (k : Int) < (n : Int) := by omega
      have hw : IntKind.i64.wrap ((k : Int) + 1) = (k : Int) + 1 := by rw [IntKind.wrap_i64]; omega
      clear hp
      go_wp2_with fail
      clear hw
      go_round
      case rel => exact ⟨k + 1, by go_num, by omega⟩
      case measure => simp [intOf]; omega
    · have hkm : k = m := by omega
      subst hkm
      rcases Nat.lt_or_ge k n with hkn | hkn
      · obtain ⟨p, hp⟩ : ∃ p, L[k]? = some p := ⟨_, List.getElem?_eq_getElem (by rw [HL.out]; exact hkn)⟩
        have hcell : w.cell? ⟨g, k * 2, none⟩ = some (.string p.1) := by rw [Nat.mul_comm]; exact HROW.out.fst (prs_get hp)
        have hl : Op.bytesLess p.1.toList key.toList = false := HGE.out p hp
        have hkn' : (k : Int) < (n : Int) := by omega
        have hbb : (p.1.toList == key.toList) = b := by
          rw [← HB.out, keys_get hp]
          by_cases h : p.1 = key
          · rw [h]; simp
          · rw [decide_eq_false (fun e => h (by injection e))]
            exact beq_eq_false_iff_ne.2 fun e => h (ba_ext e)
        have HBB := Lib.hid hbb
        clear hp hbb
        go_wp2_with fail
        go_quiet (fail)
        go_wp2_with fail
        refine HP.out _ _ nq ?_ rfl
        show Ending.returned (.tuple #[.int .i64 (k : Nat), .bool (p.1.toList == key.toList)]) = _
        rw [HBB.out]
      · have hkn' : ¬ ((k : Int) < (n : Int)) := by omega
        have hd : decide ((k : Int) < (n : Int)) = false := decide_eq_false hkn'
        have hd2 : decide (k < n) = false := decide_eq_false (by omega)
        have hbf : b = false := by
          rw [← HB.out, List.getElem?_eq_none (by rw [keysT, List.length_map, HL.out]; exact hkn)]; rfl
        subst hbf
        go_wp2_with fail
        go_quiet (fail)
        go_wp2_with fail
        exact HP.out _ _ nq rfl rfl

theorem find_empty (w : World) (A : Option Addr) (c : Nat) (key : ByteArray) : Calls Try.prog 28 #[.slice A 0 c, .string key] w (FindPost w 0 false) := by
  obtain ⟨R, hR⟩ : ∃ R, R = FindPost w 0 false := ⟨_, rfl⟩
  rw [← hR]
  have HP : Hid (∀ e w' q, e = .returned (.tuple #[.int .i64 (0 : Nat), .bool false]) → w' = w.drewN q → R e w') := by
    intro e w' q h1 h2; rw [hR]; exact ⟨h1, q, h2⟩
  have hd : decide ((0 : Int) < ((0 : Nat) : Int)) = false := by decide
  clear hR
  go_enter Try.func28, Try.ntmps28
  go_wp2_with fail
  go_loop [6] (fun s => s = .int .i64 0) (fun s => 0)
  case atStart => rfl
  case round =>
    subst hrel
    go_wp2_with fail
    go_quiet (fail)
    go_wp2_with fail
    exact HP.out _ _ nq rfl rfl

theorem find_calls {w : World} {v : Value} {L : List (ByteArray × Int)} (key : ByteArray) (hrow : Row2 w 52 v (prs L)) (hr : Rising (keysT L)) (hbig : L.length ≤ 1000000) :
    Calls Try.prog 28 #[v, .string key] w (FindPost w (pos (keysT L) key) (hasL key L)) := by
  obtain ⟨A, c, rfl, _, _, hA, _⟩ := hrow.shape
  rw [prs_len] at hrow hA ⊢
  rcases Nat.eq_zero_or_pos L.length with h0 | h0
  · have : L = [] := List.eq_nil_of_length_eq_zero h0
    subst this
    exact find_empty w A c key
  · obtain ⟨g, rfl⟩ := hA h0
    exact find_some w g L.length c L key hrow rfl hr hbig
end Go.Proofs.Ythndplpbnfihdaa
