/-
  TreeFans, walked. Conditions: the script's cells are as given.
-/
import Derived.Test.YthndplpbnfihdaaSa
import Derived.Test.YthndplpbnfihdaaFo
set_option linter.unusedVariables false
set_option linter.unusedSimpArgs false
namespace Go.Proofs.Ythndplpbnfihdaa
open Go.RowKit

theorem depth_bits {w : World} {tr fan d ln j : Nat} {t : Tr d} {fp : List Nat} (hT : Tree w tr fan d t fp) (hl : (toL d t).length = ln) (hj : ln < 2 ^ j) : depthN d ln ≤ (j : Int) + 1 := by
  unfold depthN
  split
  · omega
  · cases d with
    | zero => omega
    | succ d =>
      have h1 := two_pow_len hT.lo (d + 1) t hT.sound.kids (hT.two (by omega))
      have h2 : 2 ^ (d + 1 + 1) < 2 ^ j := by omega
      have h3 := (Nat.pow_lt_pow_iff_right (by omega : 1 < 2)).1 h2
      omega

theorem half_step {m j ln : Nat} (h : ln < (m + 1) * 2 ^ j) : ln < (m / 2 + 1) * 2 ^ (j + 1) := by
  have h1 : (m + 1) * 2 ^ j ≤ (2 * (m / 2 + 1)) * 2 ^ j := Nat.mul_le_mul_right _ (by omega)
  have h2 : (2 * (m / 2 + 1)) * 2 ^ j = (m / 2 + 1) * 2 ^ (j + 1) := by rw [Nat.pow_succ, Nat.mul_comm 2, Nat.mul_assoc, Nat.mul_comm 2]
  omega

set_option maxHeartbeats 4000000 in
set_option maxRecDepth 100000 in
theorem fans_walk (w : World) (f : Int) (b off n c : Nat) (A : Option Addr) (Kd Rw : Nat → Int) (Ky : Nat → ByteArray) (hn : n ≤ maxLen)
    (hA : 0 < n → A = some ⟨b, off, none⟩) (hcells : ∀ i, i < n → w.cell? ⟨b, off + i * 3, none⟩ = some (.int .i64 (Kd i)) ∧ w.cell? ⟨b, off + i * 3 + 1, none⟩ = some (.int .i64 (Rw i)) ∧ w.cell? ⟨b, off + i * 3 + 2, none⟩ = some (.string (Ky i))) :
    Calls Try.prog 7 #[.int .i64 f, .slice A n c] w (fun e w' => e = .returned (.bool true) ∧ Chg (fun _ => False) w w') := by
  obtain ⟨R, hR⟩ : ∃ R : Ending → World → Prop, R = fun e w' => e = .returned (.bool true) ∧ Chg (fun _ => False) w w' := ⟨_, rfl⟩
  rw [← hR]
  have HP : Hid (∀ e w', e = .returned (.bool true) → Chg (fun _ => False) w w' → R e w') := fun e w' h1 h2 => by rw [hR]; exact ⟨h1, h2⟩
  clear hR
  obtain ⟨fan, h4, h64, hfan⟩ := fan_at f
  have HFAN := Lib.hid hfan
  have hok := playsL_ok Kd Rw Ky (min n 100)
  obtain ⟨L, hL⟩ : ∃ L, playsL Kd Rw Ky (min n 100) = L := ⟨_, rfl⟩
  rw [hL] at hok
  obtain ⟨ln, hln⟩ : ∃ ln, L.length = ln := ⟨_, rfl⟩
  have hln100 : ln ≤ 100 := by omega
  have HLN := Lib.hid hln
  have HBL : Hid (∀ (k : Nat) W, 4 ≤ k → k ≤ 64 → Chg (fun _ => False) w W → Calls Try.prog 25 #[.int .i64 (k : Nat), .slice A n c, .int .i64 100] W (BuiltPost W k L)) := fun k W hk1 hk2 hW => by
    have := built_walk W k hk1 hk2 b off n c 100 A Kd Rw Ky hn (by omega) hA fun i hi => by
      obtain ⟨h1, h2, h3⟩ := hcells i hi
      exact ⟨by rw [hW.cell (World.block_lt_of_cell? _ _ h1) id]; exact h1, by rw [hW.cell (World.block_lt_of_cell? _ _ h2) id]; exact h2, by rw [hW.cell (World.block_lt_of_cell? _ _ h3) id]; exact h3⟩
    rw [hL] at this
    exact this
  clear hfan hok hL hA hcells hn hln
  go_enter Try.func7, Try.ntmps7
  go_wp2_with fail
  rw [HFAN.out]
  refine (HBL.out fan w h4 h64 (Chg.refl _ _)).mono ?_
  rintro e w1 ⟨tr, B, lc, d, t, fp, rfl, hT, hTL, hrow, hfp, htr, hlo, hC1⟩
  rw [HLN.out] at hrow hlo ⊢
  have HT := Lib.hid hT
  have HTL := Lib.hid hTL
  have HROW := Lib.hid hrow
  have HC1 := Lib.hid hC1
  clear hT hTL hrow hfp htr hlo hC1
  go_wp2_with fail
  refine (HBL.out 64 w1 (by omega) (by omega) HC1.out).mono ?_
  rintro e w2 ⟨tr2, B2, lc2, d2, t2, fp2, rfl, hT2, hTL2, hrow2, hfp2, htr2, hlo2, hC2⟩
  rw [HLN.out] at hrow2 hlo2 ⊢
  have HT := Lib.hid (HT.out.chg hC2 fun _ h => h.elim)
  have HROW := Lib.hid (HROW.out.chg hC2 fun _ _ h => h)
  have HT2 := Lib.hid hT2
  have HTL2 := Lib.hid hTL2
  have HROW2 := Lib.hid hrow2
  have HC2 := Lib.hid (HC1.out.trans hC2)
  have hlen1 := slen HT.out (m := ln) (by rw [HTL.out, HLN.out])
  have hlen2 := slen HT2.out (m := ln) (by rw [HTL2.out, HLN.out])
  have HL1 := Lib.hid hlen1
  have HL2 := Lib.hid hlen2
  clear hT2 hTL2 hrow2 hfp2 htr2 hlo2 hC2 hlen1 hlen2 HBL
  go_wp2_with fail
  refine HL1.out.mono ?_
  rintro e w' ⟨rfl, rfl⟩
  go_wp2_with fail
  refine HL2.out.mono ?_
  rintro e w' ⟨rfl, rfl⟩
  go_wp2_with fail
  go_loopg [11, 12] ln (fun g s11 s12 wr => ∃ j m : Nat, s11 = .int .i64 j ∧ s12 = .int .i64 m ∧ m ≤ g ∧ m + j ≤ ln ∧ ln < (m + 1) * 2 ^ j ∧ wr = w2)
  case atStart => exact ⟨0, ln, rfl, rfl, Nat.le_refl _, by omega, by omega, rfl⟩
  case round =>
    obtain ⟨j, m, rfl, rfl, hmg, hmj, hpw, rfl⟩ := hrel
    have HPW := Lib.hid hpw
    clear hpw
    rcases Nat.eq_zero_or_pos m with h0 | h0
    · subst h0
      have hj100 : j ≤ 100 := by omega
      have hpw : ln < 2 ^ j := by have := HPW.out; omega
      have hd1 := depth_bits HT.out (by rw [HTL.out, HLN.out]) hpw
      have hd2 := depth_bits HT2.out (by rw [HTL2.out, HLN.out]) hpw
      have HLE : Hid (L.length ≤ 1000) := by have := HLN.out; exact Lib.hid (show L.length ≤ 1000 by omega)
      have HS1 := Lib.hid (same_calls HT.out HTL.out HROW2.out HLN.out (by omega))
      have HD1 : Hid (∀ W, Chg (fun _ => False) wr W → Calls Try.prog 24 #[.pointer (some ⟨tr, 0, none⟩)] W fun e w' => e = .returned (.int .i64 (depthN d ln)) ∧ W = w') := fun W hW => by
        have := sdep (HT.out.chg hW fun _ h => h.elim) (by rw [HTL.out]; exact HLE.out)
        rw [HTL.out, HLN.out] at this
        exact this
      have HD2 : Hid (∀ W, Chg (fun _ => False) wr W → Calls Try.prog 24 #[.pointer (some ⟨tr2, 0, none⟩)] W fun e w' => e = .returned (.int .i64 (depthN d2 ln)) ∧ W = w') := fun W hW => by
        have := sdep (HT2.out.chg hW fun _ h => h.elim) (by rw [HTL2.out]; exact HLE.out)
        rw [HTL2.out, HLN.out] at this
        exact this
      obtain ⟨dv1, hdv1⟩ : ∃ dv1, depthN d ln = dv1 := ⟨_, rfl⟩
      obtain ⟨dv2, hdv2⟩ : ∃ dv2, depthN d2 ln = dv2 := ⟨_, rfl⟩
      rw [hdv1] at hd1 HD1
      rw [hdv2] at hd2 HD2
      have hwj : IntKind.i64.wrap ((j : Int) + 1) = (j : Int) + 1 := by rw [IntKind.wrap_i64]; omega
      have HWJ := Lib.hid hwj
      clear hdv1 hdv2 hpw HPW hwj
      go_wp2_with fail
      refine HS1.out.mono ?_
      rintro e w4 ⟨rfl, hC4⟩
      have HS2 := Lib.hid (same_calls (HT2.out.chg hC4 fun _ h => h.elim) HTL2.out (HROW.out.chg hC4 fun _ _ h => h) HLN.out (by omega))
      have HC4 := Lib.hid hC4
      clear hC4
      go_wp2_with fail
      refine HS2.out.mono ?_
      rintro e w5 ⟨rfl, hC5⟩
      have HC5 := Lib.hid (HC4.out.trans hC5)
      clear hC5
      go_wp2_with fail
      refine (HD1.out w5 HC5.out).mono ?_
      rintro e w' ⟨rfl, rfl⟩
      have hwj := HWJ.out
      go_wp2_with fail
      refine (HD2.out w5 HC5.out).mono ?_
      rintro e w' ⟨rfl, rfl⟩
      go_wp2_with fail
      refine (awake_calls w5).mono ?_
      rintro e w6 ⟨rfl, hC6⟩
      have HC6 := Lib.hid ((HC2.out.trans HC5.out).trans hC6)
      clear hC6
      go_wp2_with fail
      exact HP.out _ _ rfl HC6.out
    · have h1 : (0 : Int) < (m : Int) := by omega
      have h2 : ((m : Int)).tdiv 2 = ((m / 2 : Nat) : Int) := rfl
      have hwj : IntKind.i64.wrap ((j : Int) + 1) = (j : Int) + 1 := by rw [IntKind.wrap_i64]; omega
      have h3 : IntKind.i64.wrap ((m / 2 : Nat) : Int) = ((m / 2 : Nat) : Int) := by rw [IntKind.wrap_i64]; omega
      go_wp2_with fail
      clear h2 h3 hwj
      go_roundg (m / 2)
      case measure => omega
      case rel => exact ⟨j + 1, m / 2, by first | rfl | go_num, by first | rfl | go_num, Nat.le_refl _, by omega, half_step HPW.out, rfl⟩
end Go.Proofs.Ythndplpbnfihdaa
