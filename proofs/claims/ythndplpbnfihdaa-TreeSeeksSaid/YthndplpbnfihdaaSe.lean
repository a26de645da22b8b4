/-
  TreeSeeks, walked. Conditions: the script's and the steps' cells are as given.
-/
import Derived.Test.YthndplpbnfihdaaBu
import Derived.Test.YthndplpbnfihdaaFo
import Derived.Deep.Cut
import Derived.Deep.CutRange
set_option linter.unusedVariables false
set_option linter.unusedSimpArgs false
namespace Go.Proofs.Ythndplpbnfihdaa
open Go.RowKit

theorem cur_ok {w : World} {c : Nat} {ps : List (Nat × Int)} {fpc : List Nat} (h : Cur w c ps fpc) {b : Bool} (hb : decide (0 < ps.length) = b) : Calls Try.prog 12 #[.pointer (some ⟨c, 0, none⟩)] w fun e w' => e = .returned (.bool b) ∧ w = w' := by
  have := ok_calls h
  rw [hb] at this
  exact this

theorem goes_ok {d : Nat} {u : Nb d} {ps : List (Nat × Int)} {r : Int} {n : Nat} (h : if 0 ≤ r ∧ r < n then Goes 0 d u ps r else ps = []) : decide (0 < ps.length) = decide (0 ≤ r ∧ r < n) := by
  by_cases hh : 0 ≤ r ∧ r < n
  · rw [if_pos hh] at h
    rw [decide_eq_true hh, decide_eq_true_eq, goes_len h]; omega
  · rw [if_neg hh] at h
    rw [decide_eq_false hh, h]; rfl

set_option maxHeartbeats 4000000 in
set_option maxRecDepth 100000 in
theorem seeks_walk (w : World) (f : Int) (b off n c : Nat) (A : Option Addr) (Kd Rw : Nat → Int) (Ky : Nat → ByteArray) (hn : n ≤ maxLen) (key : ByteArray) (over : Bool)
    (hA : 0 < n → A = some ⟨b, off, none⟩) (hcells : ∀ i, i < n → w.cell? ⟨b, off + i * 3, none⟩ = some (.int .i64 (Kd i)) ∧ w.cell? ⟨b, off + i * 3 + 1, none⟩ = some (.int .i64 (Rw i)) ∧ w.cell? ⟨b, off + i * 3 + 2, none⟩ = some (.string (Ky i)))
    (Sa : Option Addr) (sn sc : Nat) (St : Nat → Bool) (hsn : sn ≤ maxLen) (hS : 0 < sn → ∃ a, Sa = some a ∧ ∀ i, i < sn → w.cell? (a.add i) = some (.bool (St i))) :
    Calls Try.prog 8 #[.int .i64 f, .slice A n c, .string key, .bool over, .slice Sa sn sc] w (fun e w' => e = .returned (.bool true) ∧ Chg (fun _ => False) w w') := by
  obtain ⟨R, hR⟩ : ∃ R : Ending → World → Prop, R = fun e w' => e = .returned (.bool true) ∧ Chg (fun _ => False) w w' := ⟨_, rfl⟩
  rw [← hR]
  have HP : Hid (∀ e w', e = .returned (.bool true) → Chg (fun _ => False) w w' → R e w') := fun e w' h1 h2 => by rw [hR]; exact ⟨h1, h2⟩
  clear hR
  obtain ⟨fan, h4, h64, hfan⟩ := fan_at f
  have HFAN := Lib.hid hfan
  have HBL := Lib.hid (built_walk w fan h4 h64 b off n c 80 A Kd Rw Ky hn (by omega) hA hcells)
  have hok := playsL_ok Kd Rw Ky (min n 80)
  obtain ⟨L, hL⟩ : ∃ L, playsL Kd Rw Ky (min n 80) = L := ⟨_, rfl⟩
  rw [hL] at HBL hok
  have hlen80 : L.length ≤ 80 := by omega
  obtain ⟨ln, hln⟩ : ∃ ln, L.length = ln := ⟨_, rfl⟩
  have HOK := Lib.hid hok
  have HLN := Lib.hid hln
  have HST : Hid (0 < sn → ∃ a, Sa = some a ∧ ∀ i, i < sn → w.cell? (a.add i) = some (.bool (St i))) := hS
  have hln80 : ln ≤ 80 := by omega
  unfold maxLen at hsn
  clear hfan hL hok hA hcells hS hn hlen80 hln
  go_enter Try.func8, Try.ntmps8
  go_wp2_with fail
  rw [HFAN.out]
  refine HBL.out.mono ?_
  rintro e w1 ⟨tr, B, lc, d, t, fp, rfl, hT, hTL, hrow, hfp, htr, hlo, hC1⟩
  rw [HLN.out] at hrow hlo ⊢
  have HT := Lib.hid hT
  have HTL := Lib.hid hTL
  have HROW := Lib.hid hrow
  have HC1 := Lib.hid hC1
  obtain ⟨u, hSn⟩ := hT.seen (by rw [hTL]; have := HLN.out; omega)
  rw [hTL] at hSn
  have HS := Lib.hid hSn
  have hfd := find_calls key hrow HOK.out.2 (by rw [HLN.out]; omega)
  obtain ⟨kx, hkx⟩ : ∃ kx, pos (keysT L) key = kx := ⟨_, rfl⟩
  obtain ⟨is, his⟩ : ∃ is, hasL key L = is := ⟨_, rfl⟩
  obtain ⟨at0, hat0⟩ : ∃ at0, cntL key over L = at0 := ⟨_, rfl⟩
  have hat1 : at0 = kx + (if (over && is) = true then 1 else 0) := by
    rw [← hat0, ← leafAt_cnt HOK.out.2, ← his, has_at HOK.out.2, ← hkx]; rfl
  have hat2 : at0 ≤ ln := by rw [← hat0, ← HLN.out]; exact List.length_filter_le ..
  rw [hkx, his] at hfd
  have HFD := Lib.hid hfd
  have HAT0 := Lib.hid hat0
  have hkxl : kx ≤ ln := by rw [← hkx, ← HLN.out]; have := pos_le (keysT L) key; simpa [keysT] using this
  have hw1 : IntKind.i64.wrap ((kx : Int) + 1) = (kx : Int) + 1 := by rw [IntKind.wrap_i64]; omega
  clear hT hTL hrow hC1 hSn hfd hkx his hat0 hfp htr hlo HBL
  go_wp2_with fail
  refine HFD.out.mono ?_
  rintro e w2 ⟨rfl, q, hw2⟩
  have hC2 : Chg (fun _ => False) w1 w2 := hw2 ▸ (Chg.refl _ w1).drewN q
  have HC2 := Lib.hid hC2
  have HSK : Hid (Calls Try.prog 11 #[.pointer (some ⟨tr, 0, none⟩), .string key, .bool over] w2 (AtPost w2 d u (at0 : Int))) := by
    have h1 := seek_calls key over (HS.out.view.chg hC2 fun _ _ h => h) HS.out.sound (HS.out.blk.chg hC2 id)
    rw [HS.out.list, HAT0.out] at h1
    exact h1
  clear hC2 hw2
  obtain ⟨io, hio⟩ : ∃ io, (is && over) = io := ⟨_, rfl⟩
  have HIO := Lib.hid hio
  have HAT1 := Lib.hid (show at0 = kx + (if io = true then 1 else 0) by rw [hat1, ← hio, Bool.and_comm])
  clear hat1 hio
  go_upto_region 6 with (fail)
  go_cut [43] from 41 (fun s43 wx => s43 = .bool io ∧ w2 = wx)
  case first =>
    have h1 := HIO.out
    cases is
    · simp only [Bool.false_and] at h1
      subst h1
      go_wp2_with fail
      go_meet
      case rel => exact ⟨rfl, rfl⟩
    · simp only [Bool.true_and] at h1
      subst h1
      go_wp2_with fail
      go_meet
      case rel => exact ⟨rfl, rfl⟩
  case rest =>
    obtain ⟨rfl, hwc⟩ := hcut
    subst hwc
    go_upto_if 43 with (fail)
    go_cut [14] from 44 (fun s14 wx => s14 = .int .i64 at0 ∧ w2 = wx)
    case first =>
      have h1 := HAT1.out
      cases io
      · simp only [Bool.false_eq_true, if_false, Nat.add_zero] at h1
        subst h1
        go_wp2_with fail
        go_meet
        case rel => exact ⟨rfl, rfl⟩
      · simp only [if_true] at h1
        have h2 : (at0 : Int) = (kx : Int) + 1 := by omega
        have H2 := Lib.hid h2
        clear h1 h2
        go_wp2_with fail
        go_meet
        case rel => exact ⟨by rw [H2.out], rfl⟩
    case rest =>
      obtain ⟨rfl, hwc⟩ := hcut
      subst hwc
      clear hw1
      go_wp2_with fail
      refine HSK.out.mono ?_
      rintro e w3 ⟨c0, ps, fpc, rfl, hcur, hgo, hge, hch⟩
      rw [show ptr c0 = .pointer (some ⟨c0, 0, none⟩) from rfl]
      rw [HS.out.list, HLN.out] at hgo
      have HCU := Lib.hid hcur
      have HGO := Lib.hid hgo
      have HGE : Hid (∀ k ∈ fpc, w2.heap.size ≤ k) := hge
      have HC3 := Lib.hid (HC2.out.trans hch)
      have HCH := Lib.hid hch
      have hls := last_calls (HS.out.view.chg HC3.out fun _ _ h => h) (HS.out.blk.chg HC3.out id)
      rw [HS.out.list, HLN.out] at hls
      have HLS : Hid (Calls Try.prog 16 #[.pointer (some ⟨tr, 0, none⟩)] w3 (AtPost w3 d u ((ln : Int) - 1))) := hls
      clear hcur hgo hge hch hls HSK
      go_wp2_with fail
      refine HLS.out.mono ?_
      rintro e w4 ⟨c1, ps1, fpc1, rfl, hcur, hgo, hge, hch⟩
      rw [show ptr c1 = .pointer (some ⟨c1, 0, none⟩) from rfl]
      rw [HS.out.list, HLN.out] at hgo
      have HCU1 := Lib.hid hcur
      have HGO1 := Lib.hid hgo
      have HC4 := Lib.hid (HC3.out.trans hch)
      have HCU4 := Lib.hid (HCU.out.chg hch fun _ _ h => h)
      have HV4 := Lib.hid (HS.out.view.chg HC4.out fun _ _ h => h)
      have HR4 := Lib.hid (HROW.out.chg HC4.out fun _ _ h => h)
      have HCW4 := Lib.hid (HC1.out.trans HC4.out)
      have HGE4 : Hid (∀ k ∈ fpc, w1.heap.size ≤ k) := fun k hk => by have h1 := HGE.out k hk; have h2 := HC2.out.size; omega
      clear hcur hgo hge hch HLS
      obtain ⟨lb, hlb⟩ : ∃ lb, decide (0 < ln) = lb := ⟨_, rfl⟩
      have HOK1 : Hid (∀ W, Chg (fun _ => False) w4 W → Calls Try.prog 12 #[.pointer (some ⟨c1, 0, none⟩)] W fun e w' => e = .returned (.bool lb) ∧ W = w') := fun W hW =>
        cur_ok (HCU1.out.chg hW fun _ _ h => h) (by rw [goes_ok (n := ln) HGO1.out, ← hlb]; by_cases h0 : 0 < ln; (rw [decide_eq_true h0, decide_eq_true_eq]; omega); (rw [decide_eq_false h0, decide_eq_false_iff_not]; omega))
      have HLB := Lib.hid hlb
      clear hlb
      go_upto_region 10 with (fail)
      go_cut [81] from 52 (fun s81 wx => s81 = .bool false ∧ Chg (fun _ => False) w4 wx)
      case first =>
        rcases Nat.eq_zero_or_pos ln with h0 | h0
        · have hlf : lb = false := by rw [← HLB.out, h0]; rfl
          subst hlf
          have hz : ¬ ((0 : Int) < (ln : Int)) := by omega
          have hd : decide (0 < ln) = false := decide_eq_false (by omega)
          clear h0
          go_wp2_with fail
          obtain ⟨w5, hw5, hC5⟩ := drew_named w4
          have hC0 : Chg (fun _ => False) w4 w5 := hC5
          have hS := hC0.size
          refine wp_region_till (s := 29) (S := (fun W => w4.heap.size ≤ W.heap.size)) (by kernel_rfl) ?_
          rw [hw5]
          clear hw5 hC5
          apply till_take0 (i := 0) (d := some 52)
          case hi => exact rfl
          case hd => exact rfl
          case hchk => kernel_rfl
          case hS => exact (fun _ => hS)
          case hy => apply yields_plain; exact rfl; intro w _; go_simp <;> with_reducible rfl
          case hQ => exact fun _ _ _ h => h
          simp only [Act.put, List.setIfInBounds_toArray, List.set_cons_zero, List.set_cons_succ]
          apply till_take0 (i := 1) (d := some 53)
          case hi => exact rfl
          case hd => exact rfl
          case hchk => kernel_rfl
          case hS => exact (fun _ => hS)
          case hy => apply yields_plain; exact rfl; intro w _; go_simp <;> with_reducible rfl
          case hQ => exact fun _ _ _ h => h
          simp only [Act.put, List.setIfInBounds_toArray, List.set_cons_zero, List.set_cons_succ]
          apply till_take0 (i := 2) (d := some 54)
          case hi => exact rfl
          case hd => exact rfl
          case hchk => kernel_rfl
          case hS => exact (fun _ => hS)
          case hy => apply yields_plain; exact rfl; intro w _; go_simp <;> with_reducible rfl
          case hQ => exact fun _ _ _ h => h
          simp only [Act.put, List.setIfInBounds_toArray, List.set_cons_zero, List.set_cons_succ]
          apply till_take0 (i := 3) (d := some 55)
          case hi => exact rfl
          case hd => exact rfl
          case hchk => kernel_rfl
          case hS => exact (fun _ => hS)
          case hy => apply yields_want; kernel_rfl; intro w _; go_simp <;> with_reducible rfl
          case hQ => exact fun _ _ _ h => h
          simp only [Act.put, List.setIfInBounds_toArray, List.set_cons_zero, List.set_cons_succ]
          apply till_take0 (i := 4) (d := some 56)
          case hi => exact rfl
          case hd => exact rfl
          case hchk => kernel_rfl
          case hS => exact (fun _ => hS)
          case hy => apply yields_want; kernel_rfl; intro w _; go_simp <;> with_reducible rfl
          case hQ => exact fun _ _ _ h => h
          simp only [Act.put, List.setIfInBounds_toArray, List.set_cons_zero, List.set_cons_succ]
          apply till_take0 (i := 5) (d := some 57)
          case hi => exact rfl
          case hd => exact rfl
          case hchk => kernel_rfl
          case hS => exact (fun _ => hS)
          case hy => apply yields_plain; exact rfl; intro w _; go_simp <;> with_reducible rfl
          case hQ => exact fun _ _ _ h => h
          simp only [Act.put, List.setIfInBounds_toArray, List.set_cons_zero, List.set_cons_succ]
          apply till_take0 (i := 6) (d := some 58)
          case hi => exact rfl
          case hd => exact rfl
          case hchk => kernel_rfl
          case hS => exact (fun _ => hS)
          case hy => apply yields_plain; exact rfl; intro w _; go_simp <;> with_reducible rfl
          case hQ => exact fun _ _ _ h => h
          simp only [Act.put, List.setIfInBounds_toArray, List.set_cons_zero, List.set_cons_succ]
          apply till_take0 (i := 7) (d := some 59)
          case hi => exact rfl
          case hd => exact rfl
          case hchk => kernel_rfl
          case hS => exact (fun _ => hS)
          case hy => apply yields_want; kernel_rfl; intro w _; go_simp <;> with_reducible rfl
          case hQ => exact fun _ _ _ h => h
          simp only [Act.put, List.setIfInBounds_toArray, List.set_cons_zero, List.set_cons_succ]
          apply till_take0 (i := 9) (d := some 61)
          case hi => exact rfl
          case hd => exact rfl
          case hchk => kernel_rfl
          case hS => exact (fun _ => hS)
          case hy => apply yields_want; kernel_rfl; intro w _; go_simp <;> with_reducible rfl
          case hQ => exact fun _ _ _ h => h
          simp only [Act.put, List.setIfInBounds_toArray, List.set_cons_zero, List.set_cons_succ]
          apply till_take0 (i := 10) (d := some 62)
          case hi => exact rfl
          case hd => exact rfl
          case hchk => kernel_rfl
          case hS => exact (fun _ => hS)
          case hy => apply yields_want; kernel_rfl; intro w _; go_simp <;> with_reducible rfl
          case hQ => exact fun _ _ _ h => h
          simp only [Act.put, List.setIfInBounds_toArray, List.set_cons_zero, List.set_cons_succ]
          apply till_take0 (i := 11) (d := some 63)
          case hi => exact rfl
          case hd => exact rfl
          case hchk => kernel_rfl
          case hS => exact (fun _ => hS)
          case hy => apply yields_want; kernel_rfl; intro w _; go_simp <;> with_reducible rfl
          case hQ => exact fun _ _ _ h => h
          simp only [Act.put, List.setIfInBounds_toArray, List.set_cons_zero, List.set_cons_succ]
          refine till_all (rs := [8]) (by kernel_rfl) (by simp) (mem_more (till_opw (i := 8) (o := ⟨some 60, _, _, _, _, _⟩) rfl (by kernel_rfl) (fun K hK => ?_)) (mem_none))
          go_simp
          go_at_call 12
          refine (HOK1.out _ hC0).mono ?_
          rintro e w' ⟨rfl, rfl⟩
          refine hK.out _ _ (fun _ => ?_) (fun hS2 => ?_)
          · exact hC0.size
          have hS3 := hS2 (by kernel_rfl)
          clear hK K hS hS2
          have hS := hS3
          clear hS3
          try simp only [Act.put, List.setIfInBounds_toArray, List.set_cons_zero, List.set_cons_succ]
          apply till_take0 (i := 12) (d := some 64)
          case hi => exact rfl
          case hd => exact rfl
          case hchk => kernel_rfl
          case hS => exact (fun _ => hS)
          case hy => apply yields_want; kernel_rfl; intro w _; go_simp <;> with_reducible rfl
          case hQ => exact fun _ _ _ h => h
          simp only [Act.put, List.setIfInBounds_toArray, List.set_cons_zero, List.set_cons_succ]
          apply till_take0 (i := 13) (d := some 65)
          case hi => exact rfl
          case hd => exact rfl
          case hchk => kernel_rfl
          case hS => exact (fun _ => hS)
          case hy => apply yields_plain; exact rfl; intro w _; go_simp <;> with_reducible rfl
          case hQ => exact fun _ _ _ h => h
          simp only [Act.put, List.setIfInBounds_toArray, List.set_cons_zero, List.set_cons_succ]
          apply till_take0 (i := 14) (d := some 66)
          case hi => exact rfl
          case hd => exact rfl
          case hchk => kernel_rfl
          case hS => exact (fun _ => hS)
          case hy => apply yields_plain; exact rfl; intro w _; go_simp <;> with_reducible rfl
          case hQ => exact fun _ _ _ h => h
          simp only [Act.put, List.setIfInBounds_toArray, List.set_cons_zero, List.set_cons_succ]
          apply till_take0 (i := 15) (d := some 67)
          case hi => exact rfl
          case hd => exact rfl
          case hchk => kernel_rfl
          case hS => exact (fun _ => hS)
          case hy => apply yields_want; kernel_rfl; intro w _; go_simp <;> with_reducible rfl
          case hQ => exact fun _ _ _ h => h
          simp only [Act.put, List.setIfInBounds_toArray, List.set_cons_zero, List.set_cons_succ]
          refine till_all (rs := [16]) (by kernel_rfl) (by simp) (mem_more (till_opw (i := 16) (o := ⟨some 68, _, _, _, _, _⟩) rfl (by kernel_rfl) (fun K hK => ?_)) (mem_none))
          go_simp
          go_at_call 12
          refine (HOK1.out _ hC0).mono ?_
          rintro e w' ⟨rfl, rfl⟩
          refine hK.out _ _ (fun _ => ?_) (fun hS2 => ?_)
          · exact hC0.size
          have hS3 := hS2 (by kernel_rfl)
          clear hK K hS hS2
          have hS := hS3
          clear hS3
          try simp only [Act.put, List.setIfInBounds_toArray, List.set_cons_zero, List.set_cons_succ]
          apply till_take0 (i := 17) (d := some 69)
          case hi => exact rfl
          case hd => exact rfl
          case hchk => kernel_rfl
          case hS => exact (fun _ => hS)
          case hy => apply yields_want; kernel_rfl; intro w _; go_simp <;> with_reducible rfl
          case hQ => exact fun _ _ _ h => h
          simp only [Act.put, List.setIfInBounds_toArray, List.set_cons_zero, List.set_cons_succ]
          apply till_take0 (i := 18) (d := some 70)
          case hi => exact rfl
          case hd => exact rfl
          case hchk => kernel_rfl
          case hS => exact (fun _ => hS)
          case hy => exact yields_skip (by kernel_rfl)
          case hQ => exact fun _ _ _ h => h
          simp only [Act.put, List.setIfInBounds_toArray, List.set_cons_zero, List.set_cons_succ]
          apply till_take0 (i := 19) (d := some 71)
          case hi => exact rfl
          case hd => exact rfl
          case hchk => kernel_rfl
          case hS => exact (fun _ => hS)
          case hy => exact yields_skip (by kernel_rfl)
          case hQ => exact fun _ _ _ h => h
          simp only [Act.put, List.setIfInBounds_toArray, List.set_cons_zero, List.set_cons_succ]
          apply till_take0 (i := 20) (d := some 72)
          case hi => exact rfl
          case hd => exact rfl
          case hchk => kernel_rfl
          case hS => exact (fun _ => hS)
          case hy => exact yields_skip (by kernel_rfl)
          case hQ => exact fun _ _ _ h => h
          simp only [Act.put, List.setIfInBounds_toArray, List.set_cons_zero, List.set_cons_succ]
          apply till_take0 (i := 21) (d := some 73)
          case hi => exact rfl
          case hd => exact rfl
          case hchk => kernel_rfl
          case hS => exact (fun _ => hS)
          case hy => exact yields_skip (by kernel_rfl)
          case hQ => exact fun _ _ _ h => h
          simp only [Act.put, List.setIfInBounds_toArray, List.set_cons_zero, List.set_cons_succ]
          apply till_take0 (i := 22) (d := some 74)
          case hi => exact rfl
          case hd => exact rfl
          case hchk => kernel_rfl
          case hS => exact (fun _ => hS)
          case hy => exact yields_skip (by kernel_rfl)
          case hQ => exact fun _ _ _ h => h
          simp only [Act.put, List.setIfInBounds_toArray, List.set_cons_zero, List.set_cons_succ]
          apply till_take0 (i := 23) (d := some 75)
          case hi => exact rfl
          case hd => exact rfl
          case hchk => kernel_rfl
          case hS => exact (fun _ => hS)
          case hy => exact yields_skip (by kernel_rfl)
          case hQ => exact fun _ _ _ h => h
          simp only [Act.put, List.setIfInBounds_toArray, List.set_cons_zero, List.set_cons_succ]
          apply till_take0 (i := 24) (d := some 76)
          case hi => exact rfl
          case hd => exact rfl
          case hchk => kernel_rfl
          case hS => exact (fun _ => hS)
          case hy => exact yields_skip (by kernel_rfl)
          case hQ => exact fun _ _ _ h => h
          simp only [Act.put, List.setIfInBounds_toArray, List.set_cons_zero, List.set_cons_succ]
          apply till_take0 (i := 25) (d := some 77)
          case hi => exact rfl
          case hd => exact rfl
          case hchk => kernel_rfl
          case hS => exact (fun _ => hS)
          case hy => exact yields_skip (by kernel_rfl)
          case hQ => exact fun _ _ _ h => h
          simp only [Act.put, List.setIfInBounds_toArray, List.set_cons_zero, List.set_cons_succ]
          apply till_take0 (i := 26) (d := some 78)
          case hi => exact rfl
          case hd => exact rfl
          case hchk => kernel_rfl
          case hS => exact (fun _ => hS)
          case hy => exact yields_skip (by kernel_rfl)
          case hQ => exact fun _ _ _ h => h
          simp only [Act.put, List.setIfInBounds_toArray, List.set_cons_zero, List.set_cons_succ]
          apply till_take0 (i := 27) (d := some 79)
          case hi => exact rfl
          case hd => exact rfl
          case hchk => kernel_rfl
          case hS => exact (fun _ => hS)
          case hy => exact yields_skip (by kernel_rfl)
          case hQ => exact fun _ _ _ h => h
          simp only [Act.put, List.setIfInBounds_toArray, List.set_cons_zero, List.set_cons_succ]
          apply till_take0 (i := 28) (d := some 80)
          case hi => exact rfl
          case hd => exact rfl
          case hchk => kernel_rfl
          case hS => exact (fun _ => hS)
          case hy => apply yields_want; kernel_rfl; intro w _; go_simp <;> with_reducible rfl
          case hQ => exact fun _ _ _ h => h
          simp only [Act.put, List.setIfInBounds_toArray, List.set_cons_zero, List.set_cons_succ]
          refine till_all (rs := [29]) (by kernel_rfl) (by simp) (mem_more (till_op (i := 29) (o := ⟨some 81, _, _, _, _, _⟩) rfl rfl (fun K hK => ?_)) (mem_none))
          go_simp
          refine hK.out _ _ (fun h => by cases (show true = false from h)) (fun _ => ?_)
          clear hK K hS
          try simp only [Act.put, List.setIfInBounds_toArray, List.set_cons_zero, List.set_cons_succ]
          refine till_done (by kernel_rfl) ?_
          go_wp2_with fail
          go_meet
          case rel => exact ⟨rfl, hC0⟩
        · have hlt : lb = true := by rw [← HLB.out, decide_eq_true h0]
          subst hlt
          have hz : (0 : Int) < (ln : Int) := by omega
          have hd : decide (0 < ln) = true := decide_eq_true h0
          obtain ⟨pl, hpl⟩ : ∃ pl, L[ln - 1]? = some pl := ⟨_, List.getElem?_eq_getElem (by rw [HLN.out]; omega)⟩
          obtain ⟨B', lc', hvB, _, _, hsB, _⟩ := HR4.out.shape
          have hvB1 : B = B' := by injection hvB
          clear hvB
          subst hvB1
          obtain ⟨gB, rfl⟩ := hsB (by rw [prs_len, HLN.out]; exact h0)
          clear hsB
          have hg1 : Goes 0 d u ps1 ((ln : Int) - 1) := by have h1 := HGO1.out; rw [if_pos ⟨by omega, by omega⟩] at h1; exact h1
          have HKY : Hid (∀ W, Chg (fun _ => False) w4 W → Calls Try.prog 13 #[.pointer (some ⟨c1, 0, none⟩)] W fun e w' => e = .returned (.string pl.1) ∧ Chg (fun _ => False) W w') := fun W hW =>
            key_calls (HV4.out.chg hW fun _ _ h => h) (HCU1.out.chg hW fun _ _ h => h) hg1 (by rw [HS.out.list, show ((ln : Int) - 1).toNat = ln - 1 by omega]; exact hpl)
          have HCE : Hid (∀ W, Chg (fun _ => False) w4 W → W.cell? ⟨gB, (ln - 1) * 2, none⟩ = some (.string pl.1)) := fun W hW => by
            rw [Nat.mul_comm]; exact (HR4.out.chg hW fun _ _ h => h).fst (prs_get hpl)
          have hl0 : IntKind.i64.wrap ((ln : Int) - 1) = (ln : Int) - 1 := by rw [IntKind.wrap_i64]; omega
          have hl1 : (1 : Int) ≤ (ln : Int) := by omega
          have hl2 : (0 : Int) ≤ (ln : Int) - 1 := by omega
          have hl3 : (ln : Int) - 1 < (ln : Int) := by omega
          have hl4 : ((ln : Int) - 1).toNat = ln - 1 := by omega
          clear hpl hg1 h0
          go_wp2_with fail
          obtain ⟨w5, hw5, hC5⟩ := drew_named w4
          have hC0 : Chg (fun _ => False) w4 w5 := hC5
          have hS := HCE.out _ hC0
          refine wp_region_till (s := 29) (S := (fun W => W.cell? ⟨gB, (ln - 1) * 2, none⟩ = some (.string pl.1))) (by kernel_rfl) ?_
          rw [hw5]
          clear hw5 hC5
          apply till_take0 (i := 0) (d := some 52)
          case hi => exact rfl
          case hd => exact rfl
          case hchk => kernel_rfl
          case hS => exact (fun _ => hS)
          case hy => apply yields_plain; exact rfl; intro w _; go_simp <;> with_reducible rfl
          case hQ => exact fun _ _ _ h => h
          simp only [Act.put, List.setIfInBounds_toArray, List.set_cons_zero, List.set_cons_succ]
          apply till_take0 (i := 1) (d := some 53)
          case hi => exact rfl
          case hd => exact rfl
          case hchk => kernel_rfl
          case hS => exact (fun _ => hS)
          case hy => apply yields_plain; exact rfl; intro w _; go_simp <;> with_reducible rfl
          case hQ => exact fun _ _ _ h => h
          simp only [Act.put, List.setIfInBounds_toArray, List.set_cons_zero, List.set_cons_succ]
          apply till_take0 (i := 2) (d := some 54)
          case hi => exact rfl
          case hd => exact rfl
          case hchk => kernel_rfl
          case hS => exact (fun _ => hS)
          case hy => apply yields_plain; exact rfl; intro w _; go_simp <;> with_reducible rfl
          case hQ => exact fun _ _ _ h => h
          simp only [Act.put, List.setIfInBounds_toArray, List.set_cons_zero, List.set_cons_succ]
          apply till_take0 (i := 3) (d := some 55)
          case hi => exact rfl
          case hd => exact rfl
          case hchk => kernel_rfl
          case hS => exact (fun _ => hS)
          case hy => apply yields_want; kernel_rfl; intro w _; go_simp <;> with_reducible rfl
          case hQ => exact fun _ _ _ h => h
          simp only [Act.put, List.setIfInBounds_toArray, List.set_cons_zero, List.set_cons_succ]
          apply till_take0 (i := 4) (d := some 56)
          case hi => exact rfl
          case hd => exact rfl
          case hchk => kernel_rfl
          case hS => exact (fun _ => hS)
          case hy => apply yields_want; kernel_rfl; intro w _; go_simp <;> with_reducible rfl
          case hQ => exact fun _ _ _ h => h
          simp only [Act.put, List.setIfInBounds_toArray, List.set_cons_zero, List.set_cons_succ]
          apply till_take0 (i := 5) (d := some 57)
          case hi => exact rfl
          case hd => exact rfl
          case hchk => kernel_rfl
          case hS => exact (fun _ => hS)
          case hy => apply yields_plain; exact rfl; intro w _; go_simp <;> with_reducible rfl
          case hQ => exact fun _ _ _ h => h
          simp only [Act.put, List.setIfInBounds_toArray, List.set_cons_zero, List.set_cons_succ]
          apply till_take0 (i := 6) (d := some 58)
          case hi => exact rfl
          case hd => exact rfl
          case hchk => kernel_rfl
          case hS => exact (fun _ => hS)
          case hy => apply yields_plain; exact rfl; intro w _; go_simp <;> with_reducible rfl
          case hQ => exact fun _ _ _ h => h
          simp only [Act.put, List.setIfInBounds_toArray, List.set_cons_zero, List.set_cons_succ]
          apply till_take0 (i := 7) (d := some 59)
          case hi => exact rfl
          case hd => exact rfl
          case hchk => kernel_rfl
          case hS => exact (fun _ => hS)
          case hy => apply yields_want; kernel_rfl; intro w _; go_simp <;> with_reducible rfl
          case hQ => exact fun _ _ _ h => h
          simp only [Act.put, List.setIfInBounds_toArray, List.set_cons_zero, List.set_cons_succ]
          apply till_take0 (i := 9) (d := some 61)
          case hi => exact rfl
          case hd => exact rfl
          case hchk => kernel_rfl
          case hS => exact (fun _ => hS)
          case hy => apply yields_want; kernel_rfl; intro w _; go_simp <;> with_reducible rfl
          case hQ => exact fun _ _ _ h => h
          simp only [Act.put, List.setIfInBounds_toArray, List.set_cons_zero, List.set_cons_succ]
          apply till_take0 (i := 10) (d := some 62)
          case hi => exact rfl
          case hd => exact rfl
          case hchk => kernel_rfl
          case hS => exact (fun _ => hS)
          case hy => apply yields_want; kernel_rfl; intro w _; go_simp <;> with_reducible rfl
          case hQ => exact fun _ _ _ h => h
          simp only [Act.put, List.setIfInBounds_toArray, List.set_cons_zero, List.set_cons_succ]
          apply till_take0 (i := 11) (d := some 63)
          case hi => exact rfl
          case hd => exact rfl
          case hchk => kernel_rfl
          case hS => exact (fun _ => hS)
          case hy => apply yields_want; kernel_rfl; intro w _; go_simp <;> with_reducible rfl
          case hQ => exact fun _ _ _ h => h
          simp only [Act.put, List.setIfInBounds_toArray, List.set_cons_zero, List.set_cons_succ]
          refine till_all (rs := [8]) (by kernel_rfl) (by simp) (mem_more (till_opw (i := 8) (o := ⟨some 60, _, _, _, _, _⟩) rfl (by kernel_rfl) (fun K hK => ?_)) (mem_none))
          go_simp
          go_at_call 12
          refine (HOK1.out _ hC0).mono ?_
          rintro e w' ⟨rfl, rfl⟩
          refine hK.out _ _ (fun _ => ?_) (fun hS2 => ?_)
          · exact HCE.out _ hC0
          have hS3 := hS2 (by kernel_rfl)
          clear hK K hS hS2
          have hS := hS3
          clear hS3
          try simp only [Act.put, List.setIfInBounds_toArray, List.set_cons_zero, List.set_cons_succ]
          apply till_take0 (i := 12) (d := some 64)
          case hi => exact rfl
          case hd => exact rfl
          case hchk => kernel_rfl
          case hS => exact (fun _ => hS)
          case hy => apply yields_want; kernel_rfl; intro w _; go_simp <;> with_reducible rfl
          case hQ => exact fun _ _ _ h => h
          simp only [Act.put, List.setIfInBounds_toArray, List.set_cons_zero, List.set_cons_succ]
          apply till_take0 (i := 13) (d := some 65)
          case hi => exact rfl
          case hd => exact rfl
          case hchk => kernel_rfl
          case hS => exact (fun _ => hS)
          case hy => apply yields_plain; exact rfl; intro w _; go_simp <;> with_reducible rfl
          case hQ => exact fun _ _ _ h => h
          simp only [Act.put, List.setIfInBounds_toArray, List.set_cons_zero, List.set_cons_succ]
          apply till_take0 (i := 14) (d := some 66)
          case hi => exact rfl
          case hd => exact rfl
          case hchk => kernel_rfl
          case hS => exact (fun _ => hS)
          case hy => apply yields_plain; exact rfl; intro w _; go_simp <;> with_reducible rfl
          case hQ => exact fun _ _ _ h => h
          simp only [Act.put, List.setIfInBounds_toArray, List.set_cons_zero, List.set_cons_succ]
          apply till_take0 (i := 15) (d := some 67)
          case hi => exact rfl
          case hd => exact rfl
          case hchk => kernel_rfl
          case hS => exact (fun _ => hS)
          case hy => apply yields_want; kernel_rfl; intro w _; go_simp <;> with_reducible rfl
          case hQ => exact fun _ _ _ h => h
          simp only [Act.put, List.setIfInBounds_toArray, List.set_cons_zero, List.set_cons_succ]
          refine till_all (rs := [16]) (by kernel_rfl) (by simp) (mem_more (till_opw (i := 16) (o := ⟨some 68, _, _, _, _, _⟩) rfl (by kernel_rfl) (fun K hK => ?_)) (mem_none))
          go_simp
          go_at_call 12
          refine (HOK1.out _ hC0).mono ?_
          rintro e w' ⟨rfl, rfl⟩
          refine hK.out _ _ (fun _ => ?_) (fun hS2 => ?_)
          · exact HCE.out _ hC0
          have hS3 := hS2 (by kernel_rfl)
          clear hK K hS hS2
          have hS := hS3
          clear hS3
          try simp only [Act.put, List.setIfInBounds_toArray, List.set_cons_zero, List.set_cons_succ]
          apply till_take0 (i := 17) (d := some 69)
          case hi => exact rfl
          case hd => exact rfl
          case hchk => kernel_rfl
          case hS => exact (fun _ => hS)
          case hy => apply yields_want; kernel_rfl; intro w _; go_simp <;> with_reducible rfl
          case hQ => exact fun _ _ _ h => h
          simp only [Act.put, List.setIfInBounds_toArray, List.set_cons_zero, List.set_cons_succ]
          apply till_take0 (i := 18) (d := some 70)
          case hi => exact rfl
          case hd => exact rfl
          case hchk => kernel_rfl
          case hS => exact (fun _ => hS)
          case hy => apply yields_want; kernel_rfl; intro w _; go_simp <;> with_reducible rfl
          case hQ => exact fun _ _ _ h => h
          simp only [Act.put, List.setIfInBounds_toArray, List.set_cons_zero, List.set_cons_succ]
          apply till_take0 (i := 20) (d := some 72)
          case hi => exact rfl
          case hd => exact rfl
          case hchk => kernel_rfl
          case hS => exact (fun _ => hS)
          case hy => apply yields_want; kernel_rfl; intro w _; go_simp <;> with_reducible rfl
          case hQ => exact fun _ _ _ h => h
          simp only [Act.put, List.setIfInBounds_toArray, List.set_cons_zero, List.set_cons_succ]
          apply till_take0 (i := 21) (d := some 73)
          case hi => exact rfl
          case hd => exact rfl
          case hchk => kernel_rfl
          case hS => exact (fun _ => hS)
          case hy => apply yields_want; kernel_rfl; intro w _; go_simp <;> with_reducible rfl
          case hQ => exact fun _ _ _ h => h
          simp only [Act.put, List.setIfInBounds_toArray, List.set_cons_zero, List.set_cons_succ]
          apply till_take0 (i := 22) (d := some 74)
          case hi => exact rfl
          case hd => exact rfl
          case hchk => kernel_rfl
          case hS => exact (fun _ => hS)
          case hy => apply yields_want; kernel_rfl; intro w _; go_simp <;> with_reducible rfl
          case hQ => exact fun _ _ _ h => h
          simp only [Act.put, List.setIfInBounds_toArray, List.set_cons_zero, List.set_cons_succ]
          apply till_take0 (i := 23) (d := some 75)
          case hi => exact rfl
          case hd => exact rfl
          case hchk => kernel_rfl
          case hS => exact (fun _ => hS)
          case hy => apply yields_want; kernel_rfl; intro w _; go_simp <;> with_reducible rfl
          case hQ => exact fun _ _ _ h => h
          simp only [Act.put, List.setIfInBounds_toArray, List.set_cons_zero, List.set_cons_succ]
          apply till_take0 (i := 24) (d := some 76)
          case hi => exact rfl
          case hd => exact rfl
          case hchk => kernel_rfl
          case hS => exact (fun _ => hS)
          case hy => apply yields_want; kernel_rfl; intro w _; go_simp <;> with_reducible rfl
          case hQ => exact fun _ _ _ h => h
          simp only [Act.put, List.setIfInBounds_toArray, List.set_cons_zero, List.set_cons_succ]
          apply till_take0 (i := 25) (d := some 77)
          case hi => exact rfl
          case hd => exact rfl
          case hchk => kernel_rfl
          case hS => exact (fun _ => hS)
          case hy => apply yields_want; kernel_rfl; intro w _; go_simp <;> with_reducible rfl
          case hQ => exact fun _ _ _ h => h
          simp only [Act.put, List.setIfInBounds_toArray, List.set_cons_zero, List.set_cons_succ]
          apply till_take (i := 26) (d := some 78) [29, 28, 27, 26]
          case hi => exact rfl
          case hd => exact rfl
          case hchk => kernel_rfl
          case hS => exact hS
          case hy => apply yields_want; kernel_rfl; intro w hSw; (try dsimp only at hSw); go_split_ands; go_simp <;> with_reducible rfl
          case hQ => exact fun _ _ _ h => h
          simp only [Act.put, List.setIfInBounds_toArray, List.set_cons_zero, List.set_cons_succ]
          refine till_all (rs := [19]) (by kernel_rfl) (by simp) (mem_more (till_opw (i := 19) (o := ⟨some 71, _, _, _, _, _⟩) rfl (by kernel_rfl) (fun K hK => ?_)) (mem_none))
          go_simp
          go_at_call 13
          refine (HKY.out _ hC0).mono ?_
          rintro e w6 ⟨rfl, hck⟩
          have hC0 := hC0.trans hck
          clear hck
          refine hK.out _ _ (fun _ => ?_) (fun hS2 => ?_)
          · exact HCE.out _ hC0
          have hS3 := hS2 (by kernel_rfl)
          clear hK K hS hS2
          have hS := hS3
          clear hS3
          try simp only [Act.put, List.setIfInBounds_toArray, List.set_cons_zero, List.set_cons_succ]
          apply till_take0 (i := 27) (d := some 79)
          case hi => exact rfl
          case hd => exact rfl
          case hchk => kernel_rfl
          case hS => exact (fun _ => hS)
          case hy => apply yields_want; kernel_rfl; intro w _; go_simp <;> with_reducible rfl
          case hQ => exact fun _ _ _ h => h
          simp only [Act.put, List.setIfInBounds_toArray, List.set_cons_zero, List.set_cons_succ]
          apply till_take0 (i := 28) (d := some 80)
          case hi => exact rfl
          case hd => exact rfl
          case hchk => kernel_rfl
          case hS => exact (fun _ => hS)
          case hy => apply yields_want; kernel_rfl; intro w _; go_simp <;> with_reducible rfl
          case hQ => exact fun _ _ _ h => h
          simp only [Act.put, List.setIfInBounds_toArray, List.set_cons_zero, List.set_cons_succ]
          refine till_all (rs := [29]) (by kernel_rfl) (by simp) (mem_more (till_op (i := 29) (o := ⟨some 81, _, _, _, _, _⟩) rfl rfl (fun K hK => ?_)) (mem_none))
          go_simp
          refine hK.out _ _ (fun h => by cases (show true = false from h)) (fun _ => ?_)
          clear hK K hS
          try simp only [Act.put, List.setIfInBounds_toArray, List.set_cons_zero, List.set_cons_succ]
          refine till_done (by kernel_rfl) ?_
          go_wp2_with fail
          go_meet
          case rel => exact ⟨rfl, hC0⟩
      case rest =>
        obtain ⟨rfl, hC5⟩ := hcut
        have HCU5 := Lib.hid (HCU4.out.chg hC5 fun _ _ h => h)
        have HV5 := Lib.hid (HV4.out.chg hC5 fun _ _ h => h)
        have HR5 := Lib.hid (HR4.out.chg hC5 fun _ _ h => h)
        have HC45 := Lib.hid (HC4.out.trans hC5)
        have HGO5 : Hid (if 0 ≤ (at0 : Int) ∧ (at0 : Int) < ln then Goes 0 d u ps (at0 : Int) else ps = []) := HGO.out
        have HW1 := Lib.hid (show w1.heap.size ≤ wc.heap.size from (HC4.out.trans hC5).size)
        obtain ⟨K, hK⟩ : ∃ K, min sn 60 = K := ⟨_, rfl⟩
        have hK1 : K ≤ sn := by omega
        have hK2 : K ≤ 60 := by omega
        have hK3 : K = sn ∨ K = 60 := by omega
        clear hC5 HCU4 HV4 HR4 HGO HGO1 HCU1 HOK1 HLB HCW4 HC4 HC3 HCH HFD hK hkxl HIO HAT1 HAT0
        go_wp2_with fail
        go_loopg [14, 18] (K + 1) (fun g s14 s18 wr => ∃ (i : Nat) (at_ : Int) (ps : List (Nat × Int)) (fpc : List Nat), s18 = .int .i64 i ∧ s14 = .int .i64 at_ ∧ i ≤ K ∧ K + 1 - i ≤ g ∧ -1 ≤ at_ ∧ at_ ≤ ln ∧ Cur wr c0 ps fpc ∧
          (if 0 ≤ at_ ∧ at_ < ln then Goes 0 d u ps at_ else ps = []) ∧ (∀ k ∈ fpc, w1.heap.size ≤ k) ∧ Chg (fun _ => False) w1 wr)
        case atStart => exact ⟨0, at0, ps, fpc, rfl, rfl, Nat.zero_le _, by omega, by omega, by omega, HCU5.out, HGO5.out, HGE4.out, HC45.out⟩
        case round =>
          clear HCU5 HGO5 HC45 HV5 HR5
          obtain ⟨i, at_, ps, fpc, rfl, rfl, hiK, hig, hat3, hat4, hcur, hgo, hge, hch⟩ := hrel
          have HCU := Lib.hid hcur
          have HGO := Lib.hid hgo
          have HGE : Hid (∀ k ∈ fpc, w1.heap.size ≤ k) := hge
          have HCH := Lib.hid hch
          have HV := Lib.hid (HS.out.view.chg hch fun _ _ h => h)
          have HR := Lib.hid (HROW.out.chg hch fun _ _ h => h)
          have HAP : Hid (∀ k ∈ fpc, ¬ k ∈ fp) := fun k hk h => by have h1 := HGE.out k hk; have h2 := HS.out.view.lt k h; omega
          have hisn : (i : Int) ≤ (sn : Int) := by omega
          have hi60 : (i : Int) ≤ 60 := by omega
          have hwi : IntKind.i64.wrap ((i : Int) + 1) = (i : Int) + 1 := by rw [IntKind.wrap_i64]; omega
          have hwp : IntKind.i64.wrap (at_ + 1) = at_ + 1 := by rw [IntKind.wrap_i64]; omega
          have hwm : IntKind.i64.wrap (at_ - 1) = at_ - 1 := by rw [IntKind.wrap_i64]; omega
          have HWI := Lib.hid hwi
          have HWP := Lib.hid hwp
          have HWM := Lib.hid hwm
          clear hcur hgo hge hch hwi hwp hwm
          by_cases hin : 0 ≤ at_ ∧ at_ < ln
          · obtain ⟨a, rfl⟩ : ∃ a : Nat, at_ = (a : Int) := ⟨at_.toNat, by omega⟩
            have hal : a < ln := by omega
            have hg1 : Goes 0 d u ps (a : Int) := by have h1 := HGO.out; rw [if_pos hin] at h1; exact h1
            have HG1 := Lib.hid hg1
            obtain ⟨p, hp⟩ : ∃ p, L[a]? = some p := ⟨_, List.getElem?_eq_getElem (by rw [HLN.out]; exact hal)⟩
            obtain ⟨B', lc', hvB, _, _, hsB, _⟩ := HR.out.shape
            have hvB1 : B = B' := by injection hvB
            clear hvB
            subst hvB1
            obtain ⟨gB, rfl⟩ := hsB (by rw [prs_len, HLN.out]; omega)
            clear hsB
            have hpu : (listU d u)[((a : Nat) : Int).toNat]? = some p := by rw [HS.out.list, Int.toNat_natCast]; exact hp
            have HOKr : Hid (∀ W, Chg (fun _ => False) wr W → Calls Try.prog 12 #[.pointer (some ⟨c0, 0, none⟩)] W fun e w' => e = .returned (.bool true) ∧ W = w') := fun W hW =>
              cur_ok (HCU.out.chg hW fun _ _ h => h) (decide_eq_true (by rw [goes_len hg1]; omega))
            have HKYr : Hid (∀ W, Chg (fun _ => False) wr W → Calls Try.prog 13 #[.pointer (some ⟨c0, 0, none⟩)] W fun e w' => e = .returned (.string p.1) ∧ Chg (fun _ => False) W w') := fun W hW =>
              key_calls (HV.out.chg hW fun _ _ h => h) (HCU.out.chg hW fun _ _ h => h) hg1 hpu
            have HRWr : Hid (∀ W, Chg (fun _ => False) wr W → Calls Try.prog 18 #[.pointer (some ⟨c0, 0, none⟩)] W fun e w' => e = .returned (.int .i64 p.2) ∧ Chg (fun _ => False) W w') := fun W hW =>
              row_calls (HV.out.chg hW fun _ _ h => h) (HCU.out.chg hW fun _ _ h => h) hg1 hpu
            have HCE : Hid (∀ W, Chg (fun _ => False) wr W → W.cell? ⟨gB, a * 2, none⟩ = some (.string p.1) ∧ W.cell? ⟨gB, a * 2 + 1, none⟩ = some (.int .i64 p.2)) := fun W hW => by
              have h1 := HR.out.chg hW fun _ _ h => h
              rw [Nat.mul_comm]; exact ⟨h1.fst (prs_get hp), h1.snd (prs_get hp)⟩
            have ha0 : (0 : Int) ≤ (a : Int) := by omega
            have ha1 : (a : Int) < (ln : Int) := by omega
            have had : decide (a < ln) = true := decide_eq_true hal
            clear hg1 hp hpu hin
            go_wp2_with fail
            obtain ⟨w5, hw5, hC5⟩ := drew_named wr
            have hC0 : Chg (fun _ => False) wr w5 := hC5
            have hS := HCE.out _ hC0
            refine wp_region_till (s := 40) (S := (fun W => W.cell? ⟨gB, a * 2, none⟩ = some (.string p.1) ∧ W.cell? ⟨gB, a * 2 + 1, none⟩ = some (.int .i64 p.2))) (by kernel_rfl) ?_
            rw [hw5]
            clear hw5 hC5
            apply till_take0 (i := 0) (d := some 100)
            case hi => exact rfl
            case hd => exact rfl
            case hchk => kernel_rfl
            case hS => exact (fun _ => hS)
            case hy => apply yields_plain; exact rfl; intro w _; go_simp <;> with_reducible rfl
            case hQ => exact fun _ _ _ h => h
            simp only [Act.put, List.setIfInBounds_toArray, List.set_cons_zero, List.set_cons_succ]
            apply till_take0 (i := 2) (d := some 102)
            case hi => exact rfl
            case hd => exact rfl
            case hchk => kernel_rfl
            case hS => exact (fun _ => hS)
            case hy => apply yields_plain; exact rfl; intro w _; go_simp <;> with_reducible rfl
            case hQ => exact fun _ _ _ h => h
            simp only [Act.put, List.setIfInBounds_toArray, List.set_cons_zero, List.set_cons_succ]
            refine till_all (rs := [1]) (by kernel_rfl) (by simp) (mem_more (till_op (i := 1) (o := ⟨some 101, _, _, _, _, _⟩) rfl rfl (fun K hK => ?_)) (mem_none))
            go_simp
            go_at_call 12
            refine (HOKr.out _ hC0).mono ?_
            rintro e w' ⟨rfl, rfl⟩
            refine hK.out _ _ (fun _ => ?_) (fun hS2 => ?_)
            · exact HCE.out _ hC0
            have hS3 := hS2 (by kernel_rfl)
            clear hK K hS hS2
            have hS := hS3
            clear hS3
            try simp only [Act.put, List.setIfInBounds_toArray, List.set_cons_zero, List.set_cons_succ]
            apply till_take0 (i := 3) (d := some 103)
            case hi => exact rfl
            case hd => exact rfl
            case hchk => kernel_rfl
            case hS => exact (fun _ => hS)
            case hy => apply yields_plain; exact rfl; intro w _; go_simp <;> with_reducible rfl
            case hQ => exact fun _ _ _ h => h
            simp only [Act.put, List.setIfInBounds_toArray, List.set_cons_zero, List.set_cons_succ]
            apply till_take0 (i := 4) (d := some 104)
            case hi => exact rfl
            case hd => exact rfl
            case hchk => kernel_rfl
            case hS => exact (fun _ => hS)
            case hy => apply yields_plain; exact rfl; intro w _; go_simp <;> with_reducible rfl
            case hQ => exact fun _ _ _ h => h
            simp only [Act.put, List.setIfInBounds_toArray, List.set_cons_zero, List.set_cons_succ]
            apply till_take0 (i := 5) (d := some 105)
            case hi => exact rfl
            case hd => exact rfl
            case hchk => kernel_rfl
            case hS => exact (fun _ => hS)
            case hy => apply yields_want; kernel_rfl; intro w _; go_simp <;> with_reducible rfl
            case hQ => exact fun _ _ _ h => h
            simp only [Act.put, List.setIfInBounds_toArray, List.set_cons_zero, List.set_cons_succ]
            apply till_take0 (i := 6) (d := some 106)
            case hi => exact rfl
            case hd => exact rfl
            case hchk => kernel_rfl
            case hS => exact (fun _ => hS)
            case hy => apply yields_want; kernel_rfl; intro w _; go_simp <;> with_reducible rfl
            case hQ => exact fun _ _ _ h => h
            simp only [Act.put, List.setIfInBounds_toArray, List.set_cons_zero, List.set_cons_succ]
            apply till_take0 (i := 7) (d := some 107)
            case hi => exact rfl
            case hd => exact rfl
            case hchk => kernel_rfl
            case hS => exact (fun _ => hS)
            case hy => apply yields_want; kernel_rfl; intro w _; go_simp <;> with_reducible rfl
            case hQ => exact fun _ _ _ h => h
            simp only [Act.put, List.setIfInBounds_toArray, List.set_cons_zero, List.set_cons_succ]
            apply till_take0 (i := 9) (d := some 109)
            case hi => exact rfl
            case hd => exact rfl
            case hchk => kernel_rfl
            case hS => exact (fun _ => hS)
            case hy => apply yields_want; kernel_rfl; intro w _; go_simp <;> with_reducible rfl
            case hQ => exact fun _ _ _ h => h
            simp only [Act.put, List.setIfInBounds_toArray, List.set_cons_zero, List.set_cons_succ]
            apply till_take0 (i := 10) (d := some 110)
            case hi => exact rfl
            case hd => exact rfl
            case hchk => kernel_rfl
            case hS => exact (fun _ => hS)
            case hy => apply yields_want; kernel_rfl; intro w _; go_simp <;> with_reducible rfl
            case hQ => exact fun _ _ _ h => h
            simp only [Act.put, List.setIfInBounds_toArray, List.set_cons_zero, List.set_cons_succ]
            apply till_take0 (i := 11) (d := some 111)
            case hi => exact rfl
            case hd => exact rfl
            case hchk => kernel_rfl
            case hS => exact (fun _ => hS)
            case hy => apply yields_want; kernel_rfl; intro w _; go_simp <;> with_reducible rfl
            case hQ => exact fun _ _ _ h => h
            simp only [Act.put, List.setIfInBounds_toArray, List.set_cons_zero, List.set_cons_succ]
            apply till_take0 (i := 12) (d := some 112)
            case hi => exact rfl
            case hd => exact rfl
            case hchk => kernel_rfl
            case hS => exact (fun _ => hS)
            case hy => apply yields_want; kernel_rfl; intro w _; go_simp <;> with_reducible rfl
            case hQ => exact fun _ _ _ h => h
            simp only [Act.put, List.setIfInBounds_toArray, List.set_cons_zero, List.set_cons_succ]
            apply till_take (i := 13) (d := some 113) [40, 27, 17, 15, 14, 13]
            case hi => exact rfl
            case hd => exact rfl
            case hchk => kernel_rfl
            case hS => exact hS
            case hy => apply yields_want; kernel_rfl; intro w hSw; (try dsimp only at hSw); go_split_ands; go_simp <;> with_reducible rfl
            case hQ => exact fun _ _ _ h => h
            simp only [Act.put, List.setIfInBounds_toArray, List.set_cons_zero, List.set_cons_succ]
            refine till_all (rs := [8]) (by kernel_rfl) (by simp) (mem_more (till_opw (i := 8) (o := ⟨some 108, _, _, _, _, _⟩) rfl (by kernel_rfl) (fun K hK => ?_)) (mem_none))
            go_simp
            go_at_call 13
            refine (HKYr.out _ hC0).mono ?_
            rintro e w6 ⟨rfl, hck⟩
            have hC0 := hC0.trans hck
            clear hck
            refine hK.out _ _ (fun _ => ?_) (fun hS2 => ?_)
            · exact HCE.out _ hC0
            have hS3 := hS2 (by kernel_rfl)
            clear hK K hS hS2
            have hS := hS3
            clear hS3
            try simp only [Act.put, List.setIfInBounds_toArray, List.set_cons_zero, List.set_cons_succ]
            apply till_take0 (i := 14) (d := some 114)
            case hi => exact rfl
            case hd => exact rfl
            case hchk => kernel_rfl
            case hS => exact (fun _ => hS)
            case hy => apply yields_want; kernel_rfl; intro w _; go_simp <;> with_reducible rfl
            case hQ => exact fun _ _ _ h => h
            simp only [Act.put, List.setIfInBounds_toArray, List.set_cons_zero, List.set_cons_succ]
            apply till_take0 (i := 15) (d := some 115)
            case hi => exact rfl
            case hd => exact rfl
            case hchk => kernel_rfl
            case hS => exact (fun _ => hS)
            case hy => apply yields_want; kernel_rfl; intro w _; go_simp <;> with_reducible rfl
            case hQ => exact fun _ _ _ h => h
            simp only [Act.put, List.setIfInBounds_toArray, List.set_cons_zero, List.set_cons_succ]
            apply till_take0 (i := 16) (d := some 116)
            case hi => exact rfl
            case hd => exact rfl
            case hchk => kernel_rfl
            case hS => exact (fun _ => hS)
            case hy => apply yields_want; kernel_rfl; intro w _; go_simp <;> with_reducible rfl
            case hQ => exact fun _ _ _ h => h
            simp only [Act.put, List.setIfInBounds_toArray, List.set_cons_zero, List.set_cons_succ]
            apply till_take0 (i := 18) (d := some 118)
            case hi => exact rfl
            case hd => exact rfl
            case hchk => kernel_rfl
            case hS => exact (fun _ => hS)
            case hy => apply yields_want; kernel_rfl; intro w _; go_simp <;> with_reducible rfl
            case hQ => exact fun _ _ _ h => h
            simp only [Act.put, List.setIfInBounds_toArray, List.set_cons_zero, List.set_cons_succ]
            apply till_take0 (i := 19) (d := some 119)
            case hi => exact rfl
            case hd => exact rfl
            case hchk => kernel_rfl
            case hS => exact (fun _ => hS)
            case hy => apply yields_want; kernel_rfl; intro w _; go_simp <;> with_reducible rfl
            case hQ => exact fun _ _ _ h => h
            simp only [Act.put, List.setIfInBounds_toArray, List.set_cons_zero, List.set_cons_succ]
            apply till_take0 (i := 20) (d := some 120)
            case hi => exact rfl
            case hd => exact rfl
            case hchk => kernel_rfl
            case hS => exact (fun _ => hS)
            case hy => apply yields_want; kernel_rfl; intro w _; go_simp <;> with_reducible rfl
            case hQ => exact fun _ _ _ h => h
            simp only [Act.put, List.setIfInBounds_toArray, List.set_cons_zero, List.set_cons_succ]
            apply till_take0 (i := 21) (d := some 121)
            case hi => exact rfl
            case hd => exact rfl
            case hchk => kernel_rfl
            case hS => exact (fun _ => hS)
            case hy => apply yields_want; kernel_rfl; intro w _; go_simp <;> with_reducible rfl
            case hQ => exact fun _ _ _ h => h
            simp only [Act.put, List.setIfInBounds_toArray, List.set_cons_zero, List.set_cons_succ]
            apply till_take (i := 22) (d := some 122) [40, 27, 26, 25, 24, 23, 22]
            case hi => exact rfl
            case hd => exact rfl
            case hchk => kernel_rfl
            case hS => exact hS
            case hy => apply yields_want; kernel_rfl; intro w hSw; (try dsimp only at hSw); go_split_ands; go_simp <;> with_reducible rfl
            case hQ => exact fun _ _ _ h => h
            simp only [Act.put, List.setIfInBounds_toArray, List.set_cons_zero, List.set_cons_succ]
            refine till_all (rs := [17]) (by kernel_rfl) (by simp) (mem_more (till_opw (i := 17) (o := ⟨some 117, _, _, _, _, _⟩) rfl (by kernel_rfl) (fun K hK => ?_)) (mem_none))
            go_simp
            go_at_call 18
            refine (HRWr.out _ hC0).mono ?_
            rintro e w7 ⟨rfl, hck⟩
            have hC0 := hC0.trans hck
            clear hck
            refine hK.out _ _ (fun _ => ?_) (fun hS2 => ?_)
            · exact HCE.out _ hC0
            have hS3 := hS2 (by kernel_rfl)
            clear hK K hS hS2
            have hS := hS3
            clear hS3
            try simp only [Act.put, List.setIfInBounds_toArray, List.set_cons_zero, List.set_cons_succ]
            apply till_take0 (i := 23) (d := some 123)
            case hi => exact rfl
            case hd => exact rfl
            case hchk => kernel_rfl
            case hS => exact (fun _ => hS)
            case hy => apply yields_want; kernel_rfl; intro w _; go_simp <;> with_reducible rfl
            case hQ => exact fun _ _ _ h => h
            simp only [Act.put, List.setIfInBounds_toArray, List.set_cons_zero, List.set_cons_succ]
            apply till_take0 (i := 24) (d := some 124)
            case hi => exact rfl
            case hd => exact rfl
            case hchk => kernel_rfl
            case hS => exact (fun _ => hS)
            case hy => apply yields_want; kernel_rfl; intro w _; go_simp <;> with_reducible rfl
            case hQ => exact fun _ _ _ h => h
            simp only [Act.put, List.setIfInBounds_toArray, List.set_cons_zero, List.set_cons_succ]
            apply till_take0 (i := 25) (d := some 125)
            case hi => exact rfl
            case hd => exact rfl
            case hchk => kernel_rfl
            case hS => exact (fun _ => hS)
            case hy => apply yields_want; kernel_rfl; intro w _; go_simp <;> with_reducible rfl
            case hQ => exact fun _ _ _ h => h
            simp only [Act.put, List.setIfInBounds_toArray, List.set_cons_zero, List.set_cons_succ]
            apply till_take0 (i := 26) (d := some 126)
            case hi => exact rfl
            case hd => exact rfl
            case hchk => kernel_rfl
            case hS => exact (fun _ => hS)
            case hy => apply yields_plain; exact rfl; intro w _; go_simp <;> with_reducible rfl
            case hQ => exact fun _ _ _ h => h
            simp only [Act.put, List.setIfInBounds_toArray, List.set_cons_zero, List.set_cons_succ]
            apply till_take0 (i := 27) (d := some 127)
            case hi => exact rfl
            case hd => exact rfl
            case hchk => kernel_rfl
            case hS => exact (fun _ => hS)
            case hy => apply yields_plain; exact rfl; intro w _; go_simp <;> with_reducible rfl
            case hQ => exact fun _ _ _ h => h
            simp only [Act.put, List.setIfInBounds_toArray, List.set_cons_zero, List.set_cons_succ]
            apply till_take0 (i := 28) (d := some 128)
            case hi => exact rfl
            case hd => exact rfl
            case hchk => kernel_rfl
            case hS => exact (fun _ => hS)
            case hy => apply yields_want; kernel_rfl; intro w _; go_simp <;> with_reducible rfl
            case hQ => exact fun _ _ _ h => h
            simp only [Act.put, List.setIfInBounds_toArray, List.set_cons_zero, List.set_cons_succ]
            apply till_take0 (i := 29) (d := some 129)
            case hi => exact rfl
            case hd => exact rfl
            case hchk => kernel_rfl
            case hS => exact (fun _ => hS)
            case hy => apply yields_want; kernel_rfl; intro w _; go_simp <;> with_reducible rfl
            case hQ => exact fun _ _ _ h => h
            simp only [Act.put, List.setIfInBounds_toArray, List.set_cons_zero, List.set_cons_succ]
            apply till_take0 (i := 30) (d := some 130)
            case hi => exact rfl
            case hd => exact rfl
            case hchk => kernel_rfl
            case hS => exact (fun _ => hS)
            case hy => apply yields_want; kernel_rfl; intro w _; go_simp <;> with_reducible rfl
            case hQ => exact fun _ _ _ h => h
            simp only [Act.put, List.setIfInBounds_toArray, List.set_cons_zero, List.set_cons_succ]
            apply till_take0 (i := 31) (d := some 131)
            case hi => exact rfl
            case hd => exact rfl
            case hchk => kernel_rfl
            case hS => exact (fun _ => hS)
            case hy => exact yields_skip (by kernel_rfl)
            case hQ => exact fun _ _ _ h => h
            simp only [Act.put, List.setIfInBounds_toArray, List.set_cons_zero, List.set_cons_succ]
            apply till_take0 (i := 32) (d := some 132)
            case hi => exact rfl
            case hd => exact rfl
            case hchk => kernel_rfl
            case hS => exact (fun _ => hS)
            case hy => exact yields_skip (by kernel_rfl)
            case hQ => exact fun _ _ _ h => h
            simp only [Act.put, List.setIfInBounds_toArray, List.set_cons_zero, List.set_cons_succ]
            apply till_take0 (i := 33) (d := some 133)
            case hi => exact rfl
            case hd => exact rfl
            case hchk => kernel_rfl
            case hS => exact (fun _ => hS)
            case hy => exact yields_skip (by kernel_rfl)
            case hQ => exact fun _ _ _ h => h
            simp only [Act.put, List.setIfInBounds_toArray, List.set_cons_zero, List.set_cons_succ]
            apply till_take0 (i := 34) (d := some 134)
            case hi => exact rfl
            case hd => exact rfl
            case hchk => kernel_rfl
            case hS => exact (fun _ => hS)
            case hy => exact yields_skip (by kernel_rfl)
            case hQ => exact fun _ _ _ h => h
            simp only [Act.put, List.setIfInBounds_toArray, List.set_cons_zero, List.set_cons_succ]
            apply till_take0 (i := 35) (d := some 135)
            case hi => exact rfl
            case hd => exact rfl
            case hchk => kernel_rfl
            case hS => exact (fun _ => hS)
            case hy => exact yields_skip (by kernel_rfl)
            case hQ => exact fun _ _ _ h => h
            simp only [Act.put, List.setIfInBounds_toArray, List.set_cons_zero, List.set_cons_succ]
            apply till_take0 (i := 36) (d := some 136)
            case hi => exact rfl
            case hd => exact rfl
            case hchk => kernel_rfl
            case hS => exact (fun _ => hS)
            case hy => exact yields_skip (by kernel_rfl)
            case hQ => exact fun _ _ _ h => h
            simp only [Act.put, List.setIfInBounds_toArray, List.set_cons_zero, List.set_cons_succ]
            apply till_take0 (i := 37) (d := some 137)
            case hi => exact rfl
            case hd => exact rfl
            case hchk => kernel_rfl
            case hS => exact (fun _ => hS)
            case hy => exact yields_skip (by kernel_rfl)
            case hQ => exact fun _ _ _ h => h
            simp only [Act.put, List.setIfInBounds_toArray, List.set_cons_zero, List.set_cons_succ]
            apply till_take0 (i := 38) (d := some 138)
            case hi => exact rfl
            case hd => exact rfl
            case hchk => kernel_rfl
            case hS => exact (fun _ => hS)
            case hy => exact yields_skip (by kernel_rfl)
            case hQ => exact fun _ _ _ h => h
            simp only [Act.put, List.setIfInBounds_toArray, List.set_cons_zero, List.set_cons_succ]
            apply till_take0 (i := 39) (d := some 139)
            case hi => exact rfl
            case hd => exact rfl
            case hchk => kernel_rfl
            case hS => exact (fun _ => hS)
            case hy => apply yields_want; kernel_rfl; intro w _; go_simp <;> with_reducible rfl
            case hQ => exact fun _ _ _ h => h
            simp only [Act.put, List.setIfInBounds_toArray, List.set_cons_zero, List.set_cons_succ]
            refine till_all (rs := [40]) (by kernel_rfl) (by simp) (mem_more (till_op (i := 40) (o := ⟨some 140, _, _, _, _, _⟩) rfl rfl (fun K hK => ?_)) (mem_none))
            go_simp
            refine hK.out _ _ (fun h => by cases (show true = false from h)) (fun _ => ?_)
            clear hK K hS
            try simp only [Act.put, List.setIfInBounds_toArray, List.set_cons_zero, List.set_cons_succ]
            refine till_done (by kernel_rfl) ?_
            have HC0 := Lib.hid hC0
            clear hC0 had ha0 ha1 HOKr HKYr HRWr HCE
            rcases Nat.lt_or_ge i K with hiK2 | hiK2
            · obtain ⟨sa, hsa, hst⟩ := HST.out (by omega)
              subst hsa
              have hstc : w7.cell? (sa.add i) = some (.bool (St i)) := by
                have h1 := hst i (by omega)
                rw [((HC1.out.trans HCH.out).trans HC0.out).cell (World.block_lt_of_cell? _ _ h1) id]; exact h1
              obtain ⟨sti, hsti⟩ : ∃ sti, St i = sti := ⟨_, rfl⟩
              rw [hsti] at hstc
              have hi1 : (i : Int) < (sn : Int) := by omega
              have hi2 : (i : Int) < 60 := by omega
              have hs1 : ((i : Int) == (sn : Int)) = false := by rw [beq_eq_false_iff_ne]; omega
              have hs2 : ((i : Int) == 60) = false := by rw [beq_eq_false_iff_ne]; omega
              have HV7 := Lib.hid (HV.out.chg HC0.out fun _ _ h => h)
              have HCU7 := Lib.hid (HCU.out.chg HC0.out fun _ _ h => h)
              clear hst hsti
              cases sti with
              | true =>
                have HPV := Lib.hid (prev_calls HV7.out HCU7.out HG1.out HAP.out)
                unfold ptr at HPV
                have hwm := HWM.out
                rcases Nat.eq_zero_or_pos a with ha | ha
                focus
                  rw [show decide (0 ≤ (a : Int) - 1) = false from decide_eq_false (by omega)] at HPV
                  have hn1 : ¬ ((0 : Int) ≤ (a : Int) - 1) := by omega
                  have hn2 : ¬ ((1 : Int) ≤ (a : Int)) := by omega
                  clear ha
                  go_wp2_with fail
                rotate_left
                focus
                  rw [show decide (0 ≤ (a : Int) - 1) = true from decide_eq_true (by omega)] at HPV
                  have hn1 : (0 : Int) ≤ (a : Int) - 1 := by omega
                  have hn2 : (1 : Int) ≤ (a : Int) := by omega
                  have hn3 : (a : Int) - 1 < (ln : Int) := by omega
                  clear ha
                  go_wp2_with fail
                all_goals
                  refine HPV.out.mono ?_
                  rintro e w8 ⟨rfl, ps8, fpc8, hc8, hg8, hs8, hch8⟩
                  rw [HS.out.list, HLN.out] at hg8
                  have HC8 := Lib.hid hc8
                  have HG8 : Hid (if 0 ≤ (a : Int) - 1 ∧ (a : Int) - 1 < ln then Goes 0 d u ps8 ((a : Int) - 1) else ps8 = []) := hg8
                  have HGE8 : Hid (∀ k ∈ fpc8, w1.heap.size ≤ k) := fun k hk => (hs8 k hk).elim (HGE.out k) (fun h => by have h1 := HCH.out.size; have h2 := HC0.out.size; omega)
                  have HCH8 := Lib.hid ((HCH.out.trans HC0.out).comp hch8 fun k hk h => by have := HGE.out k h; omega)
                  clear hc8 hg8 hs8 hch8
                  have hwi := HWI.out
                  go_wp2_with fail
                  clear hwi hwm
                  go_roundg (K + 1 - (i + 1))
                  case measure => omega
                  case rel => exact ⟨i + 1, (a : Int) - 1, ps8, fpc8, by first | rfl | go_num, rfl, by omega, Nat.le_refl _, by omega, by omega, HC8.out, HG8.out, HGE8.out, HCH8.out⟩
              | false =>
                have HPV := Lib.hid (next_calls HV7.out HCU7.out (HG1.out.weak (by omega)) HAP.out)
                rw [HS.out.list, HLN.out] at HPV
                unfold ptr at HPV
                have hwp := HWP.out
                rcases Nat.lt_or_ge (a + 1) ln with ha | ha
                focus
                  rw [show decide (0 ≤ (a : Int) + 1 ∧ (a : Int) + 1 < (ln : Int)) = true from decide_eq_true (by omega)] at HPV
                  have hn1 : (0 : Int) ≤ (a : Int) + 1 := by omega
                  have hn2 : (a : Int) + 1 < (ln : Int) := by omega
                  go_wp2_with fail
                rotate_left
                focus
                  rw [show decide (0 ≤ (a : Int) + 1 ∧ (a : Int) + 1 < (ln : Int)) = false from decide_eq_false (by omega)] at HPV
                  have hn1 : (0 : Int) ≤ (a : Int) + 1 := by omega
                  have hn2 : ¬ ((a : Int) + 1 < (ln : Int)) := by omega
                  go_wp2_with fail
                all_goals
                  refine HPV.out.mono ?_
                  rintro e w8 ⟨rfl, ps8, fpc8, hc8, hg8, hs8, hch8⟩
                  rw [HS.out.list, HLN.out] at hg8
                  have HC8 := Lib.hid hc8
                  have HG8 : Hid (if 0 ≤ (a : Int) + 1 ∧ (a : Int) + 1 < ln then Goes 0 d u ps8 ((a : Int) + 1) else ps8 = []) := hg8
                  have HGE8 : Hid (∀ k ∈ fpc8, w1.heap.size ≤ k) := fun k hk => (hs8 k hk).elim (HGE.out k) (fun h => by have h1 := HCH.out.size; have h2 := HC0.out.size; omega)
                  have HCH8 := Lib.hid ((HCH.out.trans HC0.out).comp hch8 fun k hk h => by have := HGE.out k h; omega)
                  clear hc8 hg8 hs8 hch8
                  have hwi := HWI.out
                  go_wp2_with fail
                  clear hwi hwp
                  go_roundg (K + 1 - (i + 1))
                  case measure => omega
                  case rel => exact ⟨i + 1, (a : Int) + 1, ps8, fpc8, by first | rfl | go_num, rfl, by omega, Nat.le_refl _, by omega, by omega, HC8.out, HG8.out, HGE8.out, HCH8.out⟩
            · have hbr : (((i : Int) == (sn : Int)) = true ∧ (sn : Int) ≤ (i : Int)) ∨ (((i : Int) == (sn : Int)) = false ∧ ((i : Int) == 60) = true ∧ (i : Int) < (sn : Int) ∧ (60 : Int) ≤ (i : Int)) := by
                by_cases h : (i : Int) = (sn : Int)
                · exact .inl ⟨beq_iff_eq.2 h, by omega⟩
                · exact .inr ⟨beq_eq_false_iff_ne.2 h, beq_iff_eq.2 (by omega), by omega, by omega⟩
              clear hK3
              rcases hbr with ⟨hb1, hb3⟩ | ⟨hb1, hb2, hb3, hb4⟩
              all_goals
                go_wp2_with fail
                refine (awake_calls w7).mono ?_
                rintro e w8 ⟨rfl, hC8⟩
                have HC8 := Lib.hid (((HC1.out.trans HCH.out).trans HC0.out).trans hC8)
                clear hC8
                go_wp2_with fail
                exact HP.out _ _ rfl HC8.out
          · have hps : ps = [] := by have h1 := HGO.out; rw [if_neg hin] at h1; exact h1
            subst hps
            have hatc : at_ = -1 ∨ at_ = ln := by omega
            have HATC := Lib.hid hatc
            have HOKr : Hid (∀ W, Chg (fun _ => False) wr W → Calls Try.prog 12 #[.pointer (some ⟨c0, 0, none⟩)] W fun e w' => e = .returned (.bool false) ∧ W = w') := fun W hW =>
              cur_ok (HCU.out.chg hW fun _ _ h => h) rfl
            have HKYr : Hid (∀ W, Chg (fun _ => False) wr W → Calls Try.prog 13 #[.pointer (some ⟨c0, 0, none⟩)] W fun e w' => e = .returned (.string ⟨#[]⟩) ∧ W = w') := fun W hW =>
              key_none (HCU.out.chg hW fun _ _ h => h)
            have HRWr : Hid (∀ W, Chg (fun _ => False) wr W → Calls Try.prog 18 #[.pointer (some ⟨c0, 0, none⟩)] W fun e w' => e = .returned (.int .i64 0) ∧ W = w') := fun W hW =>
              row_none (HCU.out.chg hW fun _ _ h => h)
            clear hatc hin
            go_upto_region 15 with (fail)
            go_cut [19] from 82 to 182 (fun s19 wx => s19 = .bool false ∧ wr = wx)
            case first =>
              rcases HATC.out with h | h
              · have h1 : at_ < 0 := by omega
                have h2 : decide ((0 : Int) ≤ at_) = false := decide_eq_false (by omega)
                clear h
                go_wp2_with fail
                go_meet
                case rel => exact ⟨rfl, rfl⟩
              · have h1 : (0 : Int) ≤ at_ := by omega
                have h2 : ¬ (at_ < (ln : Int)) := by omega
                clear h
                go_wp2_with fail
                go_meet
                case rel => exact ⟨rfl, rfl⟩
            case rest =>
              obtain ⟨rfl, hwc⟩ := hcut
              subst hwc
              go_wp2_with fail
              obtain ⟨w5, hw5, hC5⟩ := drew_named wr
              have hC0 : Chg (fun _ => False) wr w5 := hC5
              have hS := hC0.size
              refine wp_region_till (s := 40) (S := (fun W => wr.heap.size ≤ W.heap.size)) (by kernel_rfl) ?_
              rw [hw5]
              clear hw5 hC5
              apply till_take0 (i := 0) (d := some 100)
              case hi => exact rfl
              case hd => exact rfl
              case hchk => kernel_rfl
              case hS => exact (fun _ => hS)
              case hy => apply yields_plain; exact rfl; intro w _; go_simp <;> with_reducible rfl
              case hQ => exact fun _ _ _ h => h
              simp only [Act.put, List.setIfInBounds_toArray, List.set_cons_zero, List.set_cons_succ]
              apply till_take0 (i := 2) (d := some 102)
              case hi => exact rfl
              case hd => exact rfl
              case hchk => kernel_rfl
              case hS => exact (fun _ => hS)
              case hy => apply yields_plain; exact rfl; intro w _; go_simp <;> with_reducible rfl
              case hQ => exact fun _ _ _ h => h
              simp only [Act.put, List.setIfInBounds_toArray, List.set_cons_zero, List.set_cons_succ]
              refine till_all (rs := [1]) (by kernel_rfl) (by simp) (mem_more (till_op (i := 1) (o := ⟨some 101, _, _, _, _, _⟩) rfl rfl (fun K hK => ?_)) (mem_none))
              go_simp
              go_at_call 12
              refine (HOKr.out _ hC0).mono ?_
              rintro e w' ⟨rfl, rfl⟩
              refine hK.out _ _ (fun _ => ?_) (fun hS2 => ?_)
              · exact hC0.size
              have hS3 := hS2 (by kernel_rfl)
              clear hK K hS hS2
              have hS := hS3
              clear hS3
              try simp only [Act.put, List.setIfInBounds_toArray, List.set_cons_zero, List.set_cons_succ]
              apply till_take0 (i := 3) (d := some 103)
              case hi => exact rfl
              case hd => exact rfl
              case hchk => kernel_rfl
              case hS => exact (fun _ => hS)
              case hy => apply yields_plain; exact rfl; intro w _; go_simp <;> with_reducible rfl
              case hQ => exact fun _ _ _ h => h
              simp only [Act.put, List.setIfInBounds_toArray, List.set_cons_zero, List.set_cons_succ]
              apply till_take0 (i := 4) (d := some 104)
              case hi => exact rfl
              case hd => exact rfl
              case hchk => kernel_rfl
              case hS => exact (fun _ => hS)
              case hy => apply yields_plain; exact rfl; intro w _; go_simp <;> with_reducible rfl
              case hQ => exact fun _ _ _ h => h
              simp only [Act.put, List.setIfInBounds_toArray, List.set_cons_zero, List.set_cons_succ]
              apply till_take0 (i := 5) (d := some 105)
              case hi => exact rfl
              case hd => exact rfl
              case hchk => kernel_rfl
              case hS => exact (fun _ => hS)
              case hy => apply yields_want; kernel_rfl; intro w _; go_simp <;> with_reducible rfl
              case hQ => exact fun _ _ _ h => h
              simp only [Act.put, List.setIfInBounds_toArray, List.set_cons_zero, List.set_cons_succ]
              apply till_take0 (i := 6) (d := some 106)
              case hi => exact rfl
              case hd => exact rfl
              case hchk => kernel_rfl
              case hS => exact (fun _ => hS)
              case hy => apply yields_want; kernel_rfl; intro w _; go_simp <;> with_reducible rfl
              case hQ => exact fun _ _ _ h => h
              simp only [Act.put, List.setIfInBounds_toArray, List.set_cons_zero, List.set_cons_succ]
              apply till_take0 (i := 7) (d := some 107)
              case hi => exact rfl
              case hd => exact rfl
              case hchk => kernel_rfl
              case hS => exact (fun _ => hS)
              case hy => exact yields_skip (by kernel_rfl)
              case hQ => exact fun _ _ _ h => h
              simp only [Act.put, List.setIfInBounds_toArray, List.set_cons_zero, List.set_cons_succ]
              apply till_take0 (i := 8) (d := some 108)
              case hi => exact rfl
              case hd => exact rfl
              case hchk => kernel_rfl
              case hS => exact (fun _ => hS)
              case hy => exact yields_skip (by kernel_rfl)
              case hQ => exact fun _ _ _ h => h
              simp only [Act.put, List.setIfInBounds_toArray, List.set_cons_zero, List.set_cons_succ]
              apply till_take0 (i := 9) (d := some 109)
              case hi => exact rfl
              case hd => exact rfl
              case hchk => kernel_rfl
              case hS => exact (fun _ => hS)
              case hy => exact yields_skip (by kernel_rfl)
              case hQ => exact fun _ _ _ h => h
              simp only [Act.put, List.setIfInBounds_toArray, List.set_cons_zero, List.set_cons_succ]
              apply till_take0 (i := 10) (d := some 110)
              case hi => exact rfl
              case hd => exact rfl
              case hchk => kernel_rfl
              case hS => exact (fun _ => hS)
              case hy => exact yields_skip (by kernel_rfl)
              case hQ => exact fun _ _ _ h => h
              simp only [Act.put, List.setIfInBounds_toArray, List.set_cons_zero, List.set_cons_succ]
              apply till_take0 (i := 11) (d := some 111)
              case hi => exact rfl
              case hd => exact rfl
              case hchk => kernel_rfl
              case hS => exact (fun _ => hS)
              case hy => exact yields_skip (by kernel_rfl)
              case hQ => exact fun _ _ _ h => h
              simp only [Act.put, List.setIfInBounds_toArray, List.set_cons_zero, List.set_cons_succ]
              apply till_take0 (i := 12) (d := some 112)
              case hi => exact rfl
              case hd => exact rfl
              case hchk => kernel_rfl
              case hS => exact (fun _ => hS)
              case hy => exact yields_skip (by kernel_rfl)
              case hQ => exact fun _ _ _ h => h
              simp only [Act.put, List.setIfInBounds_toArray, List.set_cons_zero, List.set_cons_succ]
              apply till_take0 (i := 13) (d := some 113)
              case hi => exact rfl
              case hd => exact rfl
              case hchk => kernel_rfl
              case hS => exact (fun _ => hS)
              case hy => exact yields_skip (by kernel_rfl)
              case hQ => exact fun _ _ _ h => h
              simp only [Act.put, List.setIfInBounds_toArray, List.set_cons_zero, List.set_cons_succ]
              apply till_take0 (i := 14) (d := some 114)
              case hi => exact rfl
              case hd => exact rfl
              case hchk => kernel_rfl
              case hS => exact (fun _ => hS)
              case hy => exact yields_skip (by kernel_rfl)
              case hQ => exact fun _ _ _ h => h
              simp only [Act.put, List.setIfInBounds_toArray, List.set_cons_zero, List.set_cons_succ]
              apply till_take0 (i := 15) (d := some 115)
              case hi => exact rfl
              case hd => exact rfl
              case hchk => kernel_rfl
              case hS => exact (fun _ => hS)
              case hy => exact yields_skip (by kernel_rfl)
              case hQ => exact fun _ _ _ h => h
              simp only [Act.put, List.setIfInBounds_toArray, List.set_cons_zero, List.set_cons_succ]
              apply till_take0 (i := 16) (d := some 116)
              case hi => exact rfl
              case hd => exact rfl
              case hchk => kernel_rfl
              case hS => exact (fun _ => hS)
              case hy => exact yields_skip (by kernel_rfl)
              case hQ => exact fun _ _ _ h => h
              simp only [Act.put, List.setIfInBounds_toArray, List.set_cons_zero, List.set_cons_succ]
              apply till_take0 (i := 17) (d := some 117)
              case hi => exact rfl
              case hd => exact rfl
              case hchk => kernel_rfl
              case hS => exact (fun _ => hS)
              case hy => exact yields_skip (by kernel_rfl)
              case hQ => exact fun _ _ _ h => h
              simp only [Act.put, List.setIfInBounds_toArray, List.set_cons_zero, List.set_cons_succ]
              apply till_take0 (i := 18) (d := some 118)
              case hi => exact rfl
              case hd => exact rfl
              case hchk => kernel_rfl
              case hS => exact (fun _ => hS)
              case hy => exact yields_skip (by kernel_rfl)
              case hQ => exact fun _ _ _ h => h
              simp only [Act.put, List.setIfInBounds_toArray, List.set_cons_zero, List.set_cons_succ]
              apply till_take0 (i := 19) (d := some 119)
              case hi => exact rfl
              case hd => exact rfl
              case hchk => kernel_rfl
              case hS => exact (fun _ => hS)
              case hy => exact yields_skip (by kernel_rfl)
              case hQ => exact fun _ _ _ h => h
              simp only [Act.put, List.setIfInBounds_toArray, List.set_cons_zero, List.set_cons_succ]
              apply till_take0 (i := 20) (d := some 120)
              case hi => exact rfl
              case hd => exact rfl
              case hchk => kernel_rfl
              case hS => exact (fun _ => hS)
              case hy => exact yields_skip (by kernel_rfl)
              case hQ => exact fun _ _ _ h => h
              simp only [Act.put, List.setIfInBounds_toArray, List.set_cons_zero, List.set_cons_succ]
              apply till_take0 (i := 21) (d := some 121)
              case hi => exact rfl
              case hd => exact rfl
              case hchk => kernel_rfl
              case hS => exact (fun _ => hS)
              case hy => exact yields_skip (by kernel_rfl)
              case hQ => exact fun _ _ _ h => h
              simp only [Act.put, List.setIfInBounds_toArray, List.set_cons_zero, List.set_cons_succ]
              apply till_take0 (i := 22) (d := some 122)
              case hi => exact rfl
              case hd => exact rfl
              case hchk => kernel_rfl
              case hS => exact (fun _ => hS)
              case hy => exact yields_skip (by kernel_rfl)
              case hQ => exact fun _ _ _ h => h
              simp only [Act.put, List.setIfInBounds_toArray, List.set_cons_zero, List.set_cons_succ]
              apply till_take0 (i := 23) (d := some 123)
              case hi => exact rfl
              case hd => exact rfl
              case hchk => kernel_rfl
              case hS => exact (fun _ => hS)
              case hy => exact yields_skip (by kernel_rfl)
              case hQ => exact fun _ _ _ h => h
              simp only [Act.put, List.setIfInBounds_toArray, List.set_cons_zero, List.set_cons_succ]
              apply till_take0 (i := 24) (d := some 124)
              case hi => exact rfl
              case hd => exact rfl
              case hchk => kernel_rfl
              case hS => exact (fun _ => hS)
              case hy => exact yields_skip (by kernel_rfl)
              case hQ => exact fun _ _ _ h => h
              simp only [Act.put, List.setIfInBounds_toArray, List.set_cons_zero, List.set_cons_succ]
              apply till_take0 (i := 25) (d := some 125)
              case hi => exact rfl
              case hd => exact rfl
              case hchk => kernel_rfl
              case hS => exact (fun _ => hS)
              case hy => apply yields_want; kernel_rfl; intro w _; go_simp <;> with_reducible rfl
              case hQ => exact fun _ _ _ h => h
              simp only [Act.put, List.setIfInBounds_toArray, List.set_cons_zero, List.set_cons_succ]
              apply till_take0 (i := 26) (d := some 126)
              case hi => exact rfl
              case hd => exact rfl
              case hchk => kernel_rfl
              case hS => exact (fun _ => hS)
              case hy => apply yields_plain; exact rfl; intro w _; go_simp <;> with_reducible rfl
              case hQ => exact fun _ _ _ h => h
              simp only [Act.put, List.setIfInBounds_toArray, List.set_cons_zero, List.set_cons_succ]
              apply till_take0 (i := 27) (d := some 127)
              case hi => exact rfl
              case hd => exact rfl
              case hchk => kernel_rfl
              case hS => exact (fun _ => hS)
              case hy => apply yields_plain; exact rfl; intro w _; go_simp <;> with_reducible rfl
              case hQ => exact fun _ _ _ h => h
              simp only [Act.put, List.setIfInBounds_toArray, List.set_cons_zero, List.set_cons_succ]
              apply till_take0 (i := 28) (d := some 128)
              case hi => exact rfl
              case hd => exact rfl
              case hchk => kernel_rfl
              case hS => exact (fun _ => hS)
              case hy => apply yields_want; kernel_rfl; intro w _; go_simp <;> with_reducible rfl
              case hQ => exact fun _ _ _ h => h
              simp only [Act.put, List.setIfInBounds_toArray, List.set_cons_zero, List.set_cons_succ]
              apply till_take0 (i := 29) (d := some 129)
              case hi => exact rfl
              case hd => exact rfl
              case hchk => kernel_rfl
              case hS => exact (fun _ => hS)
              case hy => apply yields_want; kernel_rfl; intro w _; go_simp <;> with_reducible rfl
              case hQ => exact fun _ _ _ h => h
              simp only [Act.put, List.setIfInBounds_toArray, List.set_cons_zero, List.set_cons_succ]
              apply till_take0 (i := 30) (d := some 130)
              case hi => exact rfl
              case hd => exact rfl
              case hchk => kernel_rfl
              case hS => exact (fun _ => hS)
              case hy => apply yields_want; kernel_rfl; intro w _; go_simp <;> with_reducible rfl
              case hQ => exact fun _ _ _ h => h
              simp only [Act.put, List.setIfInBounds_toArray, List.set_cons_zero, List.set_cons_succ]
              apply till_take0 (i := 31) (d := some 131)
              case hi => exact rfl
              case hd => exact rfl
              case hchk => kernel_rfl
              case hS => exact (fun _ => hS)
              case hy => apply yields_want; kernel_rfl; intro w _; go_simp <;> with_reducible rfl
              case hQ => exact fun _ _ _ h => h
              simp only [Act.put, List.setIfInBounds_toArray, List.set_cons_zero, List.set_cons_succ]
              refine till_all (rs := [32]) (by kernel_rfl) (by simp) (mem_more (till_opw (i := 32) (o := ⟨some 132, _, _, _, _, _⟩) rfl (by kernel_rfl) (fun K hK => ?_)) (mem_none))
              go_simp
              go_at_call 13
              refine (HKYr.out _ hC0).mono ?_
              rintro e w' ⟨rfl, rfl⟩
              refine hK.out _ _ (fun _ => ?_) (fun hS2 => ?_)
              · exact hC0.size
              have hS3 := hS2 (by kernel_rfl)
              clear hK K hS hS2
              have hS := hS3
              clear hS3
              try simp only [Act.put, List.setIfInBounds_toArray, List.set_cons_zero, List.set_cons_succ]
              apply till_take0 (i := 33) (d := some 133)
              case hi => exact rfl
              case hd => exact rfl
              case hchk => kernel_rfl
              case hS => exact (fun _ => hS)
              case hy => apply yields_want; kernel_rfl; intro w _; go_simp <;> with_reducible rfl
              case hQ => exact fun _ _ _ h => h
              simp only [Act.put, List.setIfInBounds_toArray, List.set_cons_zero, List.set_cons_succ]
              apply till_take0 (i := 34) (d := some 134)
              case hi => exact rfl
              case hd => exact rfl
              case hchk => kernel_rfl
              case hS => exact (fun _ => hS)
              case hy => apply yields_want; kernel_rfl; intro w _; go_simp <;> with_reducible rfl
              case hQ => exact fun _ _ _ h => h
              simp only [Act.put, List.setIfInBounds_toArray, List.set_cons_zero, List.set_cons_succ]
              apply till_take0 (i := 35) (d := some 135)
              case hi => exact rfl
              case hd => exact rfl
              case hchk => kernel_rfl
              case hS => exact (fun _ => hS)
              case hy => apply yields_want; kernel_rfl; intro w _; go_simp <;> with_reducible rfl
              case hQ => exact fun _ _ _ h => h
              simp only [Act.put, List.setIfInBounds_toArray, List.set_cons_zero, List.set_cons_succ]
              refine till_all (rs := [36]) (by kernel_rfl) (by simp) (mem_more (till_opw (i := 36) (o := ⟨some 136, _, _, _, _, _⟩) rfl (by kernel_rfl) (fun K hK => ?_)) (mem_none))
              go_simp
              go_at_call 18
              refine (HRWr.out _ hC0).mono ?_
              rintro e w' ⟨rfl, rfl⟩
              refine hK.out _ _ (fun _ => ?_) (fun hS2 => ?_)
              · exact hC0.size
              have hS3 := hS2 (by kernel_rfl)
              clear hK K hS hS2
              have hS := hS3
              clear hS3
              try simp only [Act.put, List.setIfInBounds_toArray, List.set_cons_zero, List.set_cons_succ]
              apply till_take0 (i := 37) (d := some 137)
              case hi => exact rfl
              case hd => exact rfl
              case hchk => kernel_rfl
              case hS => exact (fun _ => hS)
              case hy => apply yields_want; kernel_rfl; intro w _; go_simp <;> with_reducible rfl
              case hQ => exact fun _ _ _ h => h
              simp only [Act.put, List.setIfInBounds_toArray, List.set_cons_zero, List.set_cons_succ]
              apply till_take0 (i := 38) (d := some 138)
              case hi => exact rfl
              case hd => exact rfl
              case hchk => kernel_rfl
              case hS => exact (fun _ => hS)
              case hy => apply yields_want; kernel_rfl; intro w _; go_simp <;> with_reducible rfl
              case hQ => exact fun _ _ _ h => h
              simp only [Act.put, List.setIfInBounds_toArray, List.set_cons_zero, List.set_cons_succ]
              apply till_take0 (i := 39) (d := some 139)
              case hi => exact rfl
              case hd => exact rfl
              case hchk => kernel_rfl
              case hS => exact (fun _ => hS)
              case hy => apply yields_want; kernel_rfl; intro w _; go_simp <;> with_reducible rfl
              case hQ => exact fun _ _ _ h => h
              simp only [Act.put, List.setIfInBounds_toArray, List.set_cons_zero, List.set_cons_succ]
              refine till_all (rs := [40]) (by kernel_rfl) (by simp) (mem_more (till_op (i := 40) (o := ⟨some 140, _, _, _, _, _⟩) rfl rfl (fun K hK => ?_)) (mem_none))
              go_simp
              refine hK.out _ _ (fun h => by cases (show true = false from h)) (fun _ => ?_)
              clear hK K hS
              try simp only [Act.put, List.setIfInBounds_toArray, List.set_cons_zero, List.set_cons_succ]
              refine till_done (by kernel_rfl) ?_
              have HC0 := Lib.hid hC0
              clear hC0 HOKr HKYr HRWr
              rcases Nat.lt_or_ge i K with hiK2 | hiK2
              · obtain ⟨sa, hsa, hst⟩ := HST.out (by omega)
                subst hsa
                have hstc : w5.cell? (sa.add i) = some (.bool (St i)) := by
                  have h1 := hst i (by omega)
                  rw [((HC1.out.trans HCH.out).trans HC0.out).cell (World.block_lt_of_cell? _ _ h1) id]; exact h1
                obtain ⟨sti, hsti⟩ : ∃ sti, St i = sti := ⟨_, rfl⟩
                rw [hsti] at hstc
                have hi1 : (i : Int) < (sn : Int) := by omega
                have hi2 : (i : Int) < 60 := by omega
                have hs1 : ((i : Int) == (sn : Int)) = false := by rw [beq_eq_false_iff_ne]; omega
                have hs2 : ((i : Int) == 60) = false := by rw [beq_eq_false_iff_ne]; omega
                have HCU7 := Lib.hid (HCU.out.chg HC0.out fun _ _ h => h)
                clear hst hsti
                have HPV := Lib.hid (prev_none HCU7.out)
                have HNX := Lib.hid (next_none HCU7.out)
                unfold ptr at HPV HNX
                have hwm := HWM.out
                have hwp := HWP.out
                cases sti
                focus
                  go_wp2_with fail
                  refine HNX.out.mono ?_
                rotate_left
                focus
                  go_wp2_with fail
                  refine HPV.out.mono ?_
                all_goals
                  rintro e w8 ⟨rfl, fpc8, hc8, hs8, hch8⟩
                  have HOK8 : Hid (Calls Try.prog 12 #[.pointer (some ⟨c0, 0, none⟩)] w8 fun e w' => e = .returned (.bool false) ∧ w8 = w') := cur_ok hc8 rfl
                  have HCH8 := Lib.hid (((HC1.out.trans HCH.out).trans HC0.out).comp hch8 fun k hk h => by have h1 := HGE.out k h; have h2 := HC1.out.size; omega)
                  clear hc8 hs8 hch8
                  go_wp2_with fail
                  refine HOK8.out.mono ?_
                  rintro e w9 ⟨rfl, rfl⟩
                  go_wp2_with fail
                  refine (awake_calls w8).mono ?_
                  rintro e w9 ⟨rfl, hC9⟩
                  have HC9 := Lib.hid (HCH8.out.trans hC9)
                  clear hC9
                  go_wp2_with fail
                  exact HP.out _ _ rfl HC9.out
              · have hbr : (((i : Int) == (sn : Int)) = true ∧ (sn : Int) ≤ (i : Int)) ∨ (((i : Int) == (sn : Int)) = false ∧ ((i : Int) == 60) = true ∧ (i : Int) < (sn : Int) ∧ (60 : Int) ≤ (i : Int)) := by
                  by_cases h : (i : Int) = (sn : Int)
                  · exact .inl ⟨beq_iff_eq.2 h, by omega⟩
                  · exact .inr ⟨beq_eq_false_iff_ne.2 h, beq_iff_eq.2 (by omega), by omega, by omega⟩
                clear hK3
                rcases hbr with ⟨hb1, hb3⟩ | ⟨hb1, hb2, hb3, hb4⟩
                all_goals
                  go_wp2_with fail
                  refine (awake_calls w5).mono ?_
                  rintro e w8 ⟨rfl, hC8⟩
                  have HC8 := Lib.hid (((HC1.out.trans HCH.out).trans HC0.out).trans hC8)
                  clear hC8
                  go_wp2_with fail
                  exact HP.out _ _ rfl HC8.out
end Go.Proofs.Ythndplpbnfihdaa
