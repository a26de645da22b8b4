/-
  TreePlays, walked. Conditions: the script's cells are as given.
-/
import Derived.Test.YthndplpbnfihdaaSa
set_option linter.unusedVariables false
set_option linter.unusedSimpArgs false
namespace Go.Proofs.Ythndplpbnfihdaa
open Go.RowKit

set_option maxHeartbeats 4000000 in
set_option maxRecDepth 100000 in
theorem plays_walk (w : World) (f : Int) (b off n c : Nat) (A : Option Addr) (Kd Rw : Nat → Int) (Ky : Nat → ByteArray) (hn : n ≤ maxLen)
    (hA : 0 < n → A = some ⟨b, off, none⟩) (hcells : ∀ i, i < n → w.cell? ⟨b, off + i * 3, none⟩ = some (.int .i64 (Kd i)) ∧ w.cell? ⟨b, off + i * 3 + 1, none⟩ = some (.int .i64 (Rw i)) ∧ w.cell? ⟨b, off + i * 3 + 2, none⟩ = some (.string (Ky i))) :
    Calls Try.prog 5 #[.int .i64 f, .slice A n c] w (fun e w' => e = .returned (.bool true) ∧ Chg (fun _ => False) w w') := by
  obtain ⟨R, hR⟩ : ∃ R : Ending → World → Prop, R = fun e w' => e = .returned (.bool true) ∧ Chg (fun _ => False) w w' := ⟨_, rfl⟩
  rw [← hR]
  have HP : Hid (∀ e w', e = .returned (.bool true) → Chg (fun _ => False) w w' → R e w') := fun e w' h1 h2 => by rw [hR]; exact ⟨h1, h2⟩
  clear hR
  by_cases hf : 4 ≤ f ∧ f ≤ 64
  · obtain ⟨fan, rfl⟩ : ∃ fan : Nat, f = (fan : Int) := ⟨f.toNat, by omega⟩
    have HBL := Lib.hid (built_walk w fan (by omega) (by omega) b off n c 150 A Kd Rw Ky hn (by omega) hA hcells)
    have hok := playsL_ok Kd Rw Ky (min n 150)
    obtain ⟨L, hL⟩ : ∃ L, playsL Kd Rw Ky (min n 150) = L := ⟨_, rfl⟩
    rw [hL] at HBL hok
    have hlen : L.length ≤ 1000 := by omega
    have HLN := Lib.hid hlen
    have h1 : (4 : Int) ≤ (fan : Int) := hf.1
    have h2 : (fan : Int) ≤ 64 := hf.2
    clear hok hL hA hcells hn hlen hf
    go_enter Try.func5, Try.ntmps5
    go_wp2_with fail
    refine HBL.out.mono ?_
    rintro e w1 ⟨tr, B, lc, d, t, fp, rfl, hT, hTL, hrow, hfp, htr, hlo, hC1⟩
    have HSM := Lib.hid (same_calls hT hTL hrow rfl HLN.out)
    have HC1 := Lib.hid hC1
    clear hT hTL hrow hfp htr hlo hC1 HBL
    go_wp2_with fail
    refine HSM.out.mono ?_
    rintro e w2 ⟨rfl, hC2⟩
    have HC2 := Lib.hid (HC1.out.trans hC2)
    clear hC2
    go_wp2_with fail
    refine (awake_calls w2).mono ?_
    rintro e w3 ⟨rfl, hC3⟩
    have HC3 := Lib.hid (HC2.out.trans hC3)
    clear hC3
    go_wp2_with fail
    exact HP.out _ _ rfl HC3.out
  · have hbad : f < 4 ∨ 64 < f := by omega
    have HNB := Lib.hid (new_bad w f hbad)
    have hbr : (f < 4) ∨ (¬ (f < 4) ∧ 64 < f) := by omega
    clear hf hbad hA hcells hn
    go_enter Try.func5, Try.ntmps5
    go_upto_region 1 with (fail)
    go_cut [15] from 10 (fun s15 wx => s15 = .bool true ∧ w = wx)
    case first =>
      rcases hbr with h | ⟨h1, h2⟩
      · go_wp2_with fail
        go_meet
        case rel => exact ⟨rfl, rfl⟩
      · have h3 : (4 : Int) ≤ f := by omega
        go_wp2_with fail
        go_meet
        case rel => exact ⟨rfl, rfl⟩
    case rest =>
      obtain ⟨rfl, hwc⟩ := hcut
      subst hwc
      clear hbr
      go_wp2_with fail
      refine HNB.out.mono ?_
      rintro e w1 ⟨rfl, rfl⟩
      go_wp2_with fail
      refine (awake_calls w).mono ?_
      rintro e w3 ⟨rfl, hC3⟩
      have HC3 := Lib.hid hC3
      clear hC3
      go_wp2_with fail
      exact HP.out _ _ rfl HC3.out
end Go.Proofs.Ythndplpbnfihdaa
