/-
  val.Read, walked. Conditions: the library's variables are laid.
-/
import Derived.Test.YtdmooacjllidhaaGreatDoorQd
set_option linter.unusedVariables false
set_option linter.unusedSimpArgs false
namespace Go.Proofs.YtdmooacjllidhaaGreatDoor
open Go.RowKit

theorem ne_isEmpty {l : List UInt8} (h : l ≠ []) : l.isEmpty = false := by cases l with
  | nil => exact absurd rfl h
  | cons _ _ => rfl

set_option maxHeartbeats 8000000 in
set_option maxRecDepth 100000 in
theorem vRead (w : World) (s : ByteArray) (hs : s.size ≤ 10000) (hL : Lay w) :
    Calls Tryz.prog 65 #[.string s] w fun e w' => (∃ k n t er ok, e = .returned (.tuple #[.agg #[.int .i64 k, .int .i64 n, .string t], .int .i64 er]) ∧ RSpec s.data.toList (k, n, t) ok ∧ er = (if ok = true then 0 else 3)) ∧ Chg (fun _ => False) w w' := by
  obtain ⟨R, hR⟩ : ∃ R : Ending → World → Prop, R = fun e w' => (∃ k n t er ok, e = .returned (.tuple #[.agg #[.int .i64 k, .int .i64 n, .string t], .int .i64 er]) ∧ RSpec s.data.toList (k, n, t) ok ∧ er = (if ok = true then 0 else 3)) ∧ Chg (fun _ => False) w w' := ⟨_, rfl⟩
  rw [← hR]
  have HPY : Hid (∀ e w' k n t, e = .returned (.tuple #[.agg #[.int .i64 k, .int .i64 n, .string t], .int .i64 0]) → RSpec s.data.toList (k, n, t) true → Chg (fun _ => False) w w' → R e w') := fun e w' k n t h1 h2 h3 => by rw [hR]; exact ⟨⟨k, n, t, 0, true, h1, h2, rfl⟩, h3⟩
  have HPN : Hid (∀ e w', e = .returned (.tuple #[.agg #[.int .i64 0, .int .i64 0, .string ⟨#[]⟩], .int .i64 3]) → RSpec s.data.toList (0, 0, ⟨#[]⟩) false → Chg (fun _ => False) w w' → R e w') := fun e w' h1 h2 h3 => by rw [hR]; exact ⟨⟨0, 0, ⟨#[]⟩, 3, false, h1, h2, rfl⟩, h3⟩
  have HPA : Hid (∀ W, Chg (fun _ => False) w W → Calls Tryz.prog 132 #[.string s] W fun e w' => (∃ n er, e = .returned (.tuple #[.int .i64 n, .int .i64 er]) ∧ PI s.data.toList n er) ∧ Chg (fun _ => False) W w') := fun W hW => iParse W s (by omega) (hL.chg hW)
  have HPR : Hid (∀ W k n t, Chg (fun _ => False) w W → CV (k, n, t) → t.size ≤ 100000 → Calls Tryz.prog 64 #[.agg #[.int .i64 k, .int .i64 n, .string t]] W fun e w' => (∃ u, e = .returned (.string u) ∧ u.data.toList = PB (k, n, t)) ∧ Chg (fun _ => False) W w') := fun W k n t hW hc ht => by
    have := vPrint W k n t hc.2.1 hc.2.2 ht (hL.chg hW)
    rw [hc.1] at this
    exact this
  have HL := Lib.hid hL
  have HS := Lib.hid hs
  clear hR hL
  have hs' : (s.size : Int) ≤ 10000 := by omega
  clear hs
  go_enter Tryz.func65, Tryz.ntmps65
  go_wp2_with fail
  obtain ⟨wa, br, hwa, hbr, hBr, hCa, hsa⟩ := alloc_named w #[.int .i64 0, .int .i64 0, .string ⟨#[]⟩] 67
  rw [hwa, hbr]
  have hwbr : w.heap.size ≤ br := by omega
  have HBR := Lib.hid hBr
  have HCA := Lib.hid hCa
  have hsa2 : br < wa.heap.size := by omega
  clear hwa hbr hBr hCa hsa
  refine (vNull wa).mono ?_
  rintro e wb ⟨rfl, hCb⟩
  have HBR := Lib.hid (HBR.out.chg hCb id)
  have HCA := Lib.hid (HCA.out.trans hCb)
  have hsb : br < wb.heap.size := Nat.lt_of_lt_of_le hsa2 hCb.size
  clear hCb hsa2
  go_wp2_with fail
  obtain ⟨wc, bv, hwc, hbv, hBv, hCc, hsc⟩ := alloc_named wb #[.int .i64 0, .int .i64 0, .string ⟨#[]⟩] 67
  have hlt : br < bv := by omega
  rw [hwc, hbv]
  have HBR := Lib.hid (HBR.out.chg hCc id)
  have HBV := Lib.hid hBv
  have HCA := Lib.hid (HCA.out.trans hCc)
  clear hwc hbv hBv hCc hsc hsb
  refine (HPA.out wc HCA.out).mono ?_
  rintro e wd ⟨⟨n, er, rfl, hpi⟩, hCd⟩
  have HBR := Lib.hid (HBR.out.chg hCd id)
  have HBV := Lib.hid (HBV.out.chg hCd id)
  have HCA := Lib.hid (HCA.out.trans hCd)
  have HPI := Lib.hid hpi
  clear hCd hpi HPA
  have r0 := HBR.out.frozen 0
  have r1 := HBR.out.frozen 1
  have r2 := HBR.out.frozen 2
  have q0 := HBR.out.cell_ (i := 0) rfl
  have q1 := HBR.out.cell_ (i := 1) rfl
  have q2 := HBR.out.cell_ (i := 2) rfl
  have v0 := HBV.out.cell_ (i := 0) rfl
  have v1 := HBV.out.cell_ (i := 1) rfl
  have v2 := HBV.out.cell_ (i := 2) rfl
  by_cases hN : s.toList = [78, 85, 76, 76]
  · have HRS : Hid (RSpec s.data.toList (0, 0, ⟨#[]⟩) true) := ⟨fun _ => ⟨cv_null, by rw [← Lib.toList_data, hN]; rfl⟩, fun h => by cases h⟩
    go_wp2_with fail
    obtain ⟨we, hwe, hBe, hCe⟩ := set3_named HBR.out (.int .i64 0) (.int .i64 0) (.string ⟨#[]⟩)
    rw [hwe]
    have c0 := hBe.cell_ (i := 0) rfl
    have c1 := hBe.cell_ (i := 1) rfl
    have c2 := hBe.cell_ (i := 2) rfl
    refine bodyPost_ret (v := .tuple #[.agg #[.int .i64 0, .int .i64 0, .string ⟨#[]⟩], .int .i64 0]) (by simp [results, Tryz.results65, go_sem, c0, c1, c2]) rfl ?_
    exact HPY.out _ _ 0 0 ⟨#[]⟩ rfl HRS.out (HCA.out.comp hCe fun x hx h => by omega)
  · have hNb : (s.toList == [78, 85, 76, 76]) = false := by rw [beq_eq_false_iff_ne]; exact hN
    by_cases hT : s.toList = [84, 82, 85, 69]
    · have HCV := Lib.hid cv_true
      have HTS := Lib.hid (show (⟨#[]⟩ : ByteArray).size ≤ 100000 by decide)
      have HCAND : Hid (∀ c, CV c → PB c = s.data.toList → c = (1, 1, ⟨#[]⟩)) := fun c hc h => pb_inj hc cv_true (by rw [h, ← Lib.toList_data, hT]; rfl)
      clear r0 r1 r2 q0 q1 q2 v0 v1 v2
      go_wp2_with fail
      refine (vBool wd true).mono ?_
      simp only [if_true]
      rintro e w5 ⟨rfl, hC5⟩
      have HBR5 := Lib.hid (HBR.out.chg hC5 id)
      have HBV5 := Lib.hid (HBV.out.chg hC5 id)
      have HC5 := Lib.hid (HCA.out.trans hC5)
      clear hC5
      have r0 := HBV5.out.frozen 0
      have r1 := HBV5.out.frozen 1
      have r2 := HBV5.out.frozen 2
      have q0 := HBV5.out.cell_ (i := 0) rfl
      have q1 := HBV5.out.cell_ (i := 1) rfl
      have q2 := HBV5.out.cell_ (i := 2) rfl
      go_upto_region 12 with (fail)
      obtain ⟨wq, hwq, hBq, hCq⟩ := set3_named HBV5.out (.int .i64 1) (.int .i64 1) (.string ⟨#[]⟩)
      rw [hwq]
      have HBQ := Lib.hid hBq
      have HBRQ := Lib.hid (HBR5.out.chg hCq (by omega))
      have HCQ := Lib.hid (HC5.out.comp hCq fun x hx h => by omega)
      clear hwq hBq hCq r0 r1 r2 q0 q1 q2
      clear hT hN hNb
      have HQ := Lib.hid (HPR.out _ 1 1 ⟨#[]⟩ HCQ.out HCV.out HTS.out)
      have HM := Lib.hid (rspec_mk HCV.out HCAND.out)
      clear HPR HCAND HTS
      have v0 := HBQ.out.cell_ (i := 0) rfl
      have v1 := HBQ.out.cell_ (i := 1) rfl
      have v2 := HBQ.out.cell_ (i := 2) rfl
      go_wp2_with fail
      refine HQ.out.mono ?_
      rintro e w9 ⟨⟨u, rfl, hu⟩, hC9⟩
      have HBR9 := Lib.hid (HBRQ.out.chg hC9 id)
      have HBV9 := Lib.hid (HBQ.out.chg hC9 id)
      have HC9 := Lib.hid (HCQ.out.trans hC9)
      have HU := Lib.hid hu
      clear hC9 hu v0 v1 v2 HQ
      by_cases hus : u.toList = s.toList
      · have HRS : Hid (RSpec s.data.toList (1, 1, ⟨#[]⟩) true) := HM.out.1 (by rw [← HU.out, ← Lib.toList_data, hus, Lib.toList_data])
        have r0 := HBR9.out.frozen 0
        have r1 := HBR9.out.frozen 1
        have r2 := HBR9.out.frozen 2
        have q0 := HBR9.out.cell_ (i := 0) rfl
        have q1 := HBR9.out.cell_ (i := 1) rfl
        have q2 := HBR9.out.cell_ (i := 2) rfl
        have v0 := HBV9.out.cell_ (i := 0) rfl
        have v1 := HBV9.out.cell_ (i := 1) rfl
        have v2 := HBV9.out.cell_ (i := 2) rfl
        clear HM
        go_wp2_with fail
        obtain ⟨we, hwe, hBe, hCe⟩ := set3_named HBR9.out (.int .i64 1) (.int .i64 1) (.string ⟨#[]⟩)
        rw [hwe]
        have c0 := hBe.cell_ (i := 0) rfl
        have c1 := hBe.cell_ (i := 1) rfl
        have c2 := hBe.cell_ (i := 2) rfl
        refine bodyPost_ret (v := .tuple #[.agg #[.int .i64 1, .int .i64 1, .string ⟨#[]⟩], .int .i64 0]) (by simp [results, Tryz.results65, go_sem, c0, c1, c2]) rfl ?_
        exact HPY.out _ _ _ _ _ rfl HRS.out (HC9.out.comp hCe fun x hx h => by omega)
      · have HRS : Hid (RSpec s.data.toList (0, 0, ⟨#[]⟩) false) := HM.out.2 (by rw [← HU.out, ← Lib.toList_data, ← Lib.toList_data]; exact hus)
        have hus1 : (u.toList == s.toList) = false := by rw [beq_eq_false_iff_ne]; exact hus
        have hus2 : (u.toList != s.toList) = true := by rw [bne_iff_ne]; exact hus
        clear HM
        go_wp2_with fail
        refine (vNull w9).mono ?_
        rintro e wf ⟨rfl, hCf⟩
        have HBRf := Lib.hid (HBR9.out.chg hCf id)
        have HCf := Lib.hid (HC9.out.trans hCf)
        clear hCf
        have r0 := HBRf.out.frozen 0
        have r1 := HBRf.out.frozen 1
        have r2 := HBRf.out.frozen 2
        have q0 := HBRf.out.cell_ (i := 0) rfl
        have q1 := HBRf.out.cell_ (i := 1) rfl
        have q2 := HBRf.out.cell_ (i := 2) rfl
        go_wp2_with fail
        obtain ⟨we, hwe, hBe, hCe⟩ := set3_named HBRf.out (.int .i64 0) (.int .i64 0) (.string ⟨#[]⟩)
        rw [hwe]
        have c0 := hBe.cell_ (i := 0) rfl
        have c1 := hBe.cell_ (i := 1) rfl
        have c2 := hBe.cell_ (i := 2) rfl
        refine bodyPost_ret (v := .tuple #[.agg #[.int .i64 0, .int .i64 0, .string ⟨#[]⟩], .int .i64 3]) (by simp [results, Tryz.results65, go_sem, c0, c1, c2]) rfl ?_
        exact HPN.out _ _ rfl HRS.out (HCf.out.comp hCe fun x hx h => by omega)
    · have hTb : (s.toList == [84, 82, 85, 69]) = false := by rw [beq_eq_false_iff_ne]; exact hT
      by_cases hF : s.toList = [70, 65, 76, 83, 69]
      · have HCV := Lib.hid cv_false
        have HTS := Lib.hid (show (⟨#[]⟩ : ByteArray).size ≤ 100000 by decide)
        have HCAND : Hid (∀ c, CV c → PB c = s.data.toList → c = (1, 0, ⟨#[]⟩)) := fun c hc h => pb_inj hc cv_false (by rw [h, ← Lib.toList_data, hF]; rfl)
        clear r0 r1 r2 q0 q1 q2 v0 v1 v2
        go_wp2_with fail
        refine (vBool wd false).mono ?_
        simp only [Bool.false_eq_true, if_false]
        rintro e w5 ⟨rfl, hC5⟩
        have HBR5 := Lib.hid (HBR.out.chg hC5 id)
        have HBV5 := Lib.hid (HBV.out.chg hC5 id)
        have HC5 := Lib.hid (HCA.out.trans hC5)
        clear hC5
        have r0 := HBV5.out.frozen 0
        have r1 := HBV5.out.frozen 1
        have r2 := HBV5.out.frozen 2
        have q0 := HBV5.out.cell_ (i := 0) rfl
        have q1 := HBV5.out.cell_ (i := 1) rfl
        have q2 := HBV5.out.cell_ (i := 2) rfl
        go_upto_region 12 with (fail)
        obtain ⟨wq, hwq, hBq, hCq⟩ := set3_named HBV5.out (.int .i64 1) (.int .i64 0) (.string ⟨#[]⟩)
        rw [hwq]
        have HBQ := Lib.hid hBq
        have HBRQ := Lib.hid (HBR5.out.chg hCq (by omega))
        have HCQ := Lib.hid (HC5.out.comp hCq fun x hx h => by omega)
        clear hwq hBq hCq r0 r1 r2 q0 q1 q2
        clear hF hT hN hNb hTb
        have HQ := Lib.hid (HPR.out _ 1 0 ⟨#[]⟩ HCQ.out HCV.out HTS.out)
        have HM := Lib.hid (rspec_mk HCV.out HCAND.out)
        clear HPR HCAND HTS
        have v0 := HBQ.out.cell_ (i := 0) rfl
        have v1 := HBQ.out.cell_ (i := 1) rfl
        have v2 := HBQ.out.cell_ (i := 2) rfl
        go_wp2_with fail
        refine HQ.out.mono ?_
        rintro e w9 ⟨⟨u, rfl, hu⟩, hC9⟩
        have HBR9 := Lib.hid (HBRQ.out.chg hC9 id)
        have HBV9 := Lib.hid (HBQ.out.chg hC9 id)
        have HC9 := Lib.hid (HCQ.out.trans hC9)
        have HU := Lib.hid hu
        clear hC9 hu v0 v1 v2 HQ
        by_cases hus : u.toList = s.toList
        · have HRS : Hid (RSpec s.data.toList (1, 0, ⟨#[]⟩) true) := HM.out.1 (by rw [← HU.out, ← Lib.toList_data, hus, Lib.toList_data])
          have r0 := HBR9.out.frozen 0
          have r1 := HBR9.out.frozen 1
          have r2 := HBR9.out.frozen 2
          have q0 := HBR9.out.cell_ (i := 0) rfl
          have q1 := HBR9.out.cell_ (i := 1) rfl
          have q2 := HBR9.out.cell_ (i := 2) rfl
          have v0 := HBV9.out.cell_ (i := 0) rfl
          have v1 := HBV9.out.cell_ (i := 1) rfl
          have v2 := HBV9.out.cell_ (i := 2) rfl
          clear HM
          go_wp2_with fail
          obtain ⟨we, hwe, hBe, hCe⟩ := set3_named HBR9.out (.int .i64 1) (.int .i64 0) (.string ⟨#[]⟩)
          rw [hwe]
          have c0 := hBe.cell_ (i := 0) rfl
          have c1 := hBe.cell_ (i := 1) rfl
          have c2 := hBe.cell_ (i := 2) rfl
          refine bodyPost_ret (v := .tuple #[.agg #[.int .i64 1, .int .i64 0, .string ⟨#[]⟩], .int .i64 0]) (by simp [results, Tryz.results65, go_sem, c0, c1, c2]) rfl ?_
          exact HPY.out _ _ _ _ _ rfl HRS.out (HC9.out.comp hCe fun x hx h => by omega)
        · have HRS : Hid (RSpec s.data.toList (0, 0, ⟨#[]⟩) false) := HM.out.2 (by rw [← HU.out, ← Lib.toList_data, ← Lib.toList_data]; exact hus)
          have hus1 : (u.toList == s.toList) = false := by rw [beq_eq_false_iff_ne]; exact hus
          have hus2 : (u.toList != s.toList) = true := by rw [bne_iff_ne]; exact hus
          clear HM
          go_wp2_with fail
          refine (vNull w9).mono ?_
          rintro e wf ⟨rfl, hCf⟩
          have HBRf := Lib.hid (HBR9.out.chg hCf id)
          have HCf := Lib.hid (HC9.out.trans hCf)
          clear hCf
          have r0 := HBRf.out.frozen 0
          have r1 := HBRf.out.frozen 1
          have r2 := HBRf.out.frozen 2
          have q0 := HBRf.out.cell_ (i := 0) rfl
          have q1 := HBRf.out.cell_ (i := 1) rfl
          have q2 := HBRf.out.cell_ (i := 2) rfl
          go_wp2_with fail
          obtain ⟨we, hwe, hBe, hCe⟩ := set3_named HBRf.out (.int .i64 0) (.int .i64 0) (.string ⟨#[]⟩)
          rw [hwe]
          have c0 := hBe.cell_ (i := 0) rfl
          have c1 := hBe.cell_ (i := 1) rfl
          have c2 := hBe.cell_ (i := 2) rfl
          refine bodyPost_ret (v := .tuple #[.agg #[.int .i64 0, .int .i64 0, .string ⟨#[]⟩], .int .i64 3]) (by simp [results, Tryz.results65, go_sem, c0, c1, c2]) rfl ?_
          exact HPN.out _ _ rfl HRS.out (HCf.out.comp hCe fun x hx h => by omega)
      · have hFb : (s.toList == [70, 65, 76, 83, 69]) = false := by rw [beq_eq_false_iff_ne]; exact hF
        have HNN : Hid (∀ c, CV c → PB c = s.data.toList → (c = (2, n, ⟨#[]⟩) ∧ er = 0) ∨ (∃ u, c = (3, 0, u) ∧ er ≠ 0 ∧ s.data.toList = 39 :: (escL u.data.toList ++ [39]))) := fun c hc h => by
          rcases cand_of HPI.out hc h with ⟨_, h⟩ | ⟨_, h⟩ | ⟨_, h⟩ | h | h
          · exact absurd (by rw [Lib.toList_data]; exact h) hN
          · exact absurd (by rw [Lib.toList_data]; exact h) hF
          · exact absurd (by rw [Lib.toList_data]; exact h) hT
          · exact .inl h
          · exact .inr h
        by_cases hE : er = 0
        · subst hE
          have HCV := Lib.hid (cv_int HPI.out.lo HPI.out.hi)
          have HTS := Lib.hid (show (⟨#[]⟩ : ByteArray).size ≤ 100000 by decide)
          have HCAND : Hid (∀ c, CV c → PB c = s.data.toList → c = (2, n, ⟨#[]⟩)) := fun c hc h => by
            rcases HNN.out c hc h with ⟨h, _⟩ | ⟨u, _, h, _⟩
            · exact h
            · exact absurd rfl h
          clear r0 r1 r2 q0 q1 q2 v0 v1 v2 HNN
          go_wp2_with fail
          refine (vInt wd n).mono ?_
          rintro e w5 ⟨rfl, hC5⟩
          have HBR5 := Lib.hid (HBR.out.chg hC5 id)
          have HBV5 := Lib.hid (HBV.out.chg hC5 id)
          have HC5 := Lib.hid (HCA.out.trans hC5)
          clear hC5
          have r0 := HBV5.out.frozen 0
          have r1 := HBV5.out.frozen 1
          have r2 := HBV5.out.frozen 2
          have q0 := HBV5.out.cell_ (i := 0) rfl
          have q1 := HBV5.out.cell_ (i := 1) rfl
          have q2 := HBV5.out.cell_ (i := 2) rfl
          go_upto_region 12 with (fail)
          obtain ⟨wq, hwq, hBq, hCq⟩ := set3_named HBV5.out (.int .i64 2) (.int .i64 n) (.string ⟨#[]⟩)
          rw [hwq]
          have HBQ := Lib.hid hBq
          have HBRQ := Lib.hid (HBR5.out.chg hCq (by omega))
          have HCQ := Lib.hid (HC5.out.comp hCq fun x hx h => by omega)
          clear hwq hBq hCq r0 r1 r2 q0 q1 q2
          have HQ := Lib.hid (HPR.out _ 2 n ⟨#[]⟩ HCQ.out HCV.out HTS.out)
          have HM := Lib.hid (rspec_mk HCV.out HCAND.out)
          clear HPR HCAND HTS
          have v0 := HBQ.out.cell_ (i := 0) rfl
          have v1 := HBQ.out.cell_ (i := 1) rfl
          have v2 := HBQ.out.cell_ (i := 2) rfl
          go_wp2_with fail
          refine HQ.out.mono ?_
          rintro e w9 ⟨⟨u, rfl, hu⟩, hC9⟩
          have HBR9 := Lib.hid (HBRQ.out.chg hC9 id)
          have HBV9 := Lib.hid (HBQ.out.chg hC9 id)
          have HC9 := Lib.hid (HCQ.out.trans hC9)
          have HU := Lib.hid hu
          clear hC9 hu v0 v1 v2 HQ
          by_cases hus : u.toList = s.toList
          · have HRS : Hid (RSpec s.data.toList (2, n, ⟨#[]⟩) true) := HM.out.1 (by rw [← HU.out, ← Lib.toList_data, hus, Lib.toList_data])
            have r0 := HBR9.out.frozen 0
            have r1 := HBR9.out.frozen 1
            have r2 := HBR9.out.frozen 2
            have q0 := HBR9.out.cell_ (i := 0) rfl
            have q1 := HBR9.out.cell_ (i := 1) rfl
            have q2 := HBR9.out.cell_ (i := 2) rfl
            have v0 := HBV9.out.cell_ (i := 0) rfl
            have v1 := HBV9.out.cell_ (i := 1) rfl
            have v2 := HBV9.out.cell_ (i := 2) rfl
            clear HM
            go_wp2_with fail
            obtain ⟨we, hwe, hBe, hCe⟩ := set3_named HBR9.out (.int .i64 2) (.int .i64 n) (.string ⟨#[]⟩)
            rw [hwe]
            have c0 := hBe.cell_ (i := 0) rfl
            have c1 := hBe.cell_ (i := 1) rfl
            have c2 := hBe.cell_ (i := 2) rfl
            refine bodyPost_ret (v := .tuple #[.agg #[.int .i64 2, .int .i64 n, .string ⟨#[]⟩], .int .i64 0]) (by simp [results, Tryz.results65, go_sem, c0, c1, c2]) rfl ?_
            exact HPY.out _ _ _ _ _ rfl HRS.out (HC9.out.comp hCe fun x hx h => by omega)
          · have HRS : Hid (RSpec s.data.toList (0, 0, ⟨#[]⟩) false) := HM.out.2 (by rw [← HU.out, ← Lib.toList_data, ← Lib.toList_data]; exact hus)
            have hus1 : (u.toList == s.toList) = false := by rw [beq_eq_false_iff_ne]; exact hus
            have hus2 : (u.toList != s.toList) = true := by rw [bne_iff_ne]; exact hus
            clear HM
            go_wp2_with fail
            refine (vNull w9).mono ?_
            rintro e wf ⟨rfl, hCf⟩
            have HBRf := Lib.hid (HBR9.out.chg hCf id)
            have HCf := Lib.hid (HC9.out.trans hCf)
            clear hCf
            have r0 := HBRf.out.frozen 0
            have r1 := HBRf.out.frozen 1
            have r2 := HBRf.out.frozen 2
            have q0 := HBRf.out.cell_ (i := 0) rfl
            have q1 := HBRf.out.cell_ (i := 1) rfl
            have q2 := HBRf.out.cell_ (i := 2) rfl
            go_wp2_with fail
            obtain ⟨we, hwe, hBe, hCe⟩ := set3_named HBRf.out (.int .i64 0) (.int .i64 0) (.string ⟨#[]⟩)
            rw [hwe]
            have c0 := hBe.cell_ (i := 0) rfl
            have c1 := hBe.cell_ (i := 1) rfl
            have c2 := hBe.cell_ (i := 2) rfl
            refine bodyPost_ret (v := .tuple #[.agg #[.int .i64 0, .int .i64 0, .string ⟨#[]⟩], .int .i64 3]) (by simp [results, Tryz.results65, go_sem, c0, c1, c2]) rfl ?_
            exact HPN.out _ _ rfl HRS.out (HCf.out.comp hCe fun x hx h => by omega)
        · have hE' : (er == 0) = false := by rw [beq_eq_false_iff_ne]; exact hE
          by_cases hl : 2 ≤ s.size
          · obtain ⟨m, hm⟩ := (HL.out.chg HCA.out).max
            have HM2 := Lib.hid hm
            clear hm
            obtain ⟨x, hx⟩ : ∃ x : ByteArray, s.extract 1 (s.size - 1) = x := ⟨_, rfl⟩
            have hxl : x.data.toList = (s.data.toList.take (s.size - 1)).drop 1 := by rw [← hx, Lib.extract_data]; first | rfl | (rw [List.drop_take]) | (rw [List.take_drop])
            have hxs : x.size ≤ 10000 := by
              have e1 : x.size = x.data.toList.length := rfl
              rw [e1, hxl, List.length_drop]
              have := List.length_take_le (s.size - 1) s.data.toList
              omega
            obtain ⟨t, ht⟩ : ∃ t : ByteArray, ⟨(Lib.replaceAll x.data.toList (⟨#[39, 39]⟩ : ByteArray).data.toList (⟨#[39]⟩ : ByteArray).data.toList).toArray⟩ = t := ⟨_, rfl⟩
            have htl : t.data.toList = Lib.replaceAll x.data.toList [39, 39] [39] := by rw [← ht]
            have HCV := Lib.hid (cv_text t)
            have HTS : Hid (t.size ≤ 100000) := by
              have h1 := replaceAll_len x.data.toList [39, 39] [39]
              have e : x.data.toList.length = x.size := rfl
              have e2 : t.size = t.data.toList.length := rfl
              show t.size ≤ 100000
              rw [e2, htl]
              rw [e] at h1
              simp only [List.length_cons, List.length_nil] at h1
              omega
            have HCAND : Hid (∀ c, CV c → PB c = s.data.toList → c = (3, 0, t)) := fun c hc h => by
              rcases HNN.out c hc h with ⟨_, h⟩ | ⟨u, h, _, h2⟩
              · exact absurd h hE
              · rw [h]
                have e : x.data.toList = escL u.data.toList := by
                  have e1 : s.size = s.data.toList.length := rfl
                  rw [hxl, e1, h2]
                  simp
                have : u = t := Go.WideShapes.bytes_inj (by rw [htl, e, replaceAll_unesc])
                rw [this]
            have HRA := Lib.hid (Tryz.strings_ReplaceAll x ⟨#[39, 39]⟩ ⟨#[39]⟩ m wd (by omega) HM2.out (by show 1 ≤ (⟨#[39, 39]⟩ : ByteArray).size; decide) (by
              have h1 : Lib.countB x ⟨#[39, 39]⟩ ≤ x.size + 1 := by
                have := Lib.count_le x.data.toList (⟨#[39, 39]⟩ : ByteArray).data.toList
                have e : x.data.toList.length = x.size := rfl
                rw [e] at this; exact this
              have h2 : (⟨#[39]⟩ : ByteArray).size = 1 := rfl
              rw [h2]; omega))
            rw [ht] at HRA
            clear r0 r1 r2 q0 q1 q2 v0 v1 v2 HNN ht htl hxl hxs
            have HX := Lib.hid hx
            clear hx
            have hl2 : (1 : Int) ≤ (s.size : Int) - 1 := by omega
            have hl3 : (2 : Int) ≤ (s.size : Int) := by omega
            go_wp2_with fail
            rw [HX.out]
            refine HRA.out.mono ?_
            rintro e w4 ⟨rfl, hb4⟩
            have hC4 : Chg (fun _ => False) wd w4 := Chg.of_below hb4
            have HBR := Lib.hid (HBR.out.chg hC4 id)
            have HBV := Lib.hid (HBV.out.chg hC4 id)
            have HCA := Lib.hid (HCA.out.trans hC4)
            clear hC4 hb4 HRA
            go_wp2_with fail
            refine (vText w4 t).mono ?_
            rintro e w5 ⟨rfl, hC5⟩
            have HBR5 := Lib.hid (HBR.out.chg hC5 id)
            have HBV5 := Lib.hid (HBV.out.chg hC5 id)
            have HC5 := Lib.hid (HCA.out.trans hC5)
            clear hC5
            have r0 := HBV5.out.frozen 0
            have r1 := HBV5.out.frozen 1
            have r2 := HBV5.out.frozen 2
            have q0 := HBV5.out.cell_ (i := 0) rfl
            have q1 := HBV5.out.cell_ (i := 1) rfl
            have q2 := HBV5.out.cell_ (i := 2) rfl
            go_upto_region 12 with (fail)
            obtain ⟨wq, hwq, hBq, hCq⟩ := set3_named HBV5.out (.int .i64 3) (.int .i64 0) (.string t)
            rw [hwq]
            have HBQ := Lib.hid hBq
            have HBRQ := Lib.hid (HBR5.out.chg hCq (by omega))
            have HCQ := Lib.hid (HC5.out.comp hCq fun x hx h => by omega)
            clear hwq hBq hCq r0 r1 r2 q0 q1 q2
            have HQ := Lib.hid (HPR.out _ 3 0 t HCQ.out HCV.out HTS.out)
            have HM := Lib.hid (rspec_mk HCV.out HCAND.out)
            clear HPR HCAND HTS
            have v0 := HBQ.out.cell_ (i := 0) rfl
            have v1 := HBQ.out.cell_ (i := 1) rfl
            have v2 := HBQ.out.cell_ (i := 2) rfl
            go_wp2_with fail
            refine HQ.out.mono ?_
            rintro e w9 ⟨⟨u, rfl, hu⟩, hC9⟩
            have HBR9 := Lib.hid (HBRQ.out.chg hC9 id)
            have HBV9 := Lib.hid (HBQ.out.chg hC9 id)
            have HC9 := Lib.hid (HCQ.out.trans hC9)
            have HU := Lib.hid hu
            clear hC9 hu v0 v1 v2 HQ
            by_cases hus : u.toList = s.toList
            · have HRS : Hid (RSpec s.data.toList (3, 0, t) true) := HM.out.1 (by rw [← HU.out, ← Lib.toList_data, hus, Lib.toList_data])
              have r0 := HBR9.out.frozen 0
              have r1 := HBR9.out.frozen 1
              have r2 := HBR9.out.frozen 2
              have q0 := HBR9.out.cell_ (i := 0) rfl
              have q1 := HBR9.out.cell_ (i := 1) rfl
              have q2 := HBR9.out.cell_ (i := 2) rfl
              have v0 := HBV9.out.cell_ (i := 0) rfl
              have v1 := HBV9.out.cell_ (i := 1) rfl
              have v2 := HBV9.out.cell_ (i := 2) rfl
              clear HM
              go_wp2_with fail
              obtain ⟨we, hwe, hBe, hCe⟩ := set3_named HBR9.out (.int .i64 3) (.int .i64 0) (.string t)
              rw [hwe]
              have c0 := hBe.cell_ (i := 0) rfl
              have c1 := hBe.cell_ (i := 1) rfl
              have c2 := hBe.cell_ (i := 2) rfl
              refine bodyPost_ret (v := .tuple #[.agg #[.int .i64 3, .int .i64 0, .string t], .int .i64 0]) (by simp [results, Tryz.results65, go_sem, c0, c1, c2]) rfl ?_
              exact HPY.out _ _ _ _ _ rfl HRS.out (HC9.out.comp hCe fun x hx h => by omega)
            · have HRS : Hid (RSpec s.data.toList (0, 0, ⟨#[]⟩) false) := HM.out.2 (by rw [← HU.out, ← Lib.toList_data, ← Lib.toList_data]; exact hus)
              have hus1 : (u.toList == s.toList) = false := by rw [beq_eq_false_iff_ne]; exact hus
              have hus2 : (u.toList != s.toList) = true := by rw [bne_iff_ne]; exact hus
              clear HM
              go_wp2_with fail
              refine (vNull w9).mono ?_
              rintro e wf ⟨rfl, hCf⟩
              have HBRf := Lib.hid (HBR9.out.chg hCf id)
              have HCf := Lib.hid (HC9.out.trans hCf)
              clear hCf
              have r0 := HBRf.out.frozen 0
              have r1 := HBRf.out.frozen 1
              have r2 := HBRf.out.frozen 2
              have q0 := HBRf.out.cell_ (i := 0) rfl
              have q1 := HBRf.out.cell_ (i := 1) rfl
              have q2 := HBRf.out.cell_ (i := 2) rfl
              go_wp2_with fail
              obtain ⟨we, hwe, hBe, hCe⟩ := set3_named HBRf.out (.int .i64 0) (.int .i64 0) (.string ⟨#[]⟩)
              rw [hwe]
              have c0 := hBe.cell_ (i := 0) rfl
              have c1 := hBe.cell_ (i := 1) rfl
              have c2 := hBe.cell_ (i := 2) rfl
              refine bodyPost_ret (v := .tuple #[.agg #[.int .i64 0, .int .i64 0, .string ⟨#[]⟩], .int .i64 3]) (by simp [results, Tryz.results65, go_sem, c0, c1, c2]) rfl ?_
              exact HPN.out _ _ rfl HRS.out (HCf.out.comp hCe fun x hx h => by omega)
          · have HCV := Lib.hid cv_null
            have HTS := Lib.hid (show (⟨#[]⟩ : ByteArray).size ≤ 100000 by decide)
            have HCAND : Hid (∀ c, CV c → PB c = s.data.toList → c = (0, 0, ⟨#[]⟩)) := fun c hc h => by
              rcases HNN.out c hc h with ⟨_, h⟩ | ⟨u, h, _, h2⟩
              · exact absurd h hE
              · exfalso
                have e1 : s.size = s.data.toList.length := rfl
                rw [e1, h2] at hl
                simp only [List.length_cons, List.length_append, List.length_nil] at hl
                omega
            have hl3 : (s.size : Int) < 2 := by omega
            have HBQ := HBV
            have HBRQ := HBR
            have HCQ := HCA
            clear r0 r1 r2 q0 q1 q2 v0 v1 v2 HNN
            go_upto_region 12 with (fail)
            have HQ := Lib.hid (HPR.out _ 0 0 ⟨#[]⟩ HCQ.out HCV.out HTS.out)
            have HM := Lib.hid (rspec_mk HCV.out HCAND.out)
            clear HPR HCAND HTS
            have v0 := HBQ.out.cell_ (i := 0) rfl
            have v1 := HBQ.out.cell_ (i := 1) rfl
            have v2 := HBQ.out.cell_ (i := 2) rfl
            go_wp2_with fail
            refine HQ.out.mono ?_
            rintro e w9 ⟨⟨u, rfl, hu⟩, hC9⟩
            have HBR9 := Lib.hid (HBRQ.out.chg hC9 id)
            have HBV9 := Lib.hid (HBQ.out.chg hC9 id)
            have HC9 := Lib.hid (HCQ.out.trans hC9)
            have HU := Lib.hid hu
            clear hC9 hu v0 v1 v2 HQ
            by_cases hus : u.toList = s.toList
            · have HRS : Hid (RSpec s.data.toList (0, 0, ⟨#[]⟩) true) := HM.out.1 (by rw [← HU.out, ← Lib.toList_data, hus, Lib.toList_data])
              have r0 := HBR9.out.frozen 0
              have r1 := HBR9.out.frozen 1
              have r2 := HBR9.out.frozen 2
              have q0 := HBR9.out.cell_ (i := 0) rfl
              have q1 := HBR9.out.cell_ (i := 1) rfl
              have q2 := HBR9.out.cell_ (i := 2) rfl
              have v0 := HBV9.out.cell_ (i := 0) rfl
              have v1 := HBV9.out.cell_ (i := 1) rfl
              have v2 := HBV9.out.cell_ (i := 2) rfl
              clear HM
              go_wp2_with fail
              obtain ⟨we, hwe, hBe, hCe⟩ := set3_named HBR9.out (.int .i64 0) (.int .i64 0) (.string ⟨#[]⟩)
              rw [hwe]
              have c0 := hBe.cell_ (i := 0) rfl
              have c1 := hBe.cell_ (i := 1) rfl
              have c2 := hBe.cell_ (i := 2) rfl
              refine bodyPost_ret (v := .tuple #[.agg #[.int .i64 0, .int .i64 0, .string ⟨#[]⟩], .int .i64 0]) (by simp [results, Tryz.results65, go_sem, c0, c1, c2]) rfl ?_
              exact HPY.out _ _ _ _ _ rfl HRS.out (HC9.out.comp hCe fun x hx h => by omega)
            · have HRS : Hid (RSpec s.data.toList (0, 0, ⟨#[]⟩) false) := HM.out.2 (by rw [← HU.out, ← Lib.toList_data, ← Lib.toList_data]; exact hus)
              have hus1 : (u.toList == s.toList) = false := by rw [beq_eq_false_iff_ne]; exact hus
              have hus2 : (u.toList != s.toList) = true := by rw [bne_iff_ne]; exact hus
              clear HM
              go_wp2_with fail
              refine (vNull w9).mono ?_
              rintro e wf ⟨rfl, hCf⟩
              have HBRf := Lib.hid (HBR9.out.chg hCf id)
              have HCf := Lib.hid (HC9.out.trans hCf)
              clear hCf
              have r0 := HBRf.out.frozen 0
              have r1 := HBRf.out.frozen 1
              have r2 := HBRf.out.frozen 2
              have q0 := HBRf.out.cell_ (i := 0) rfl
              have q1 := HBRf.out.cell_ (i := 1) rfl
              have q2 := HBRf.out.cell_ (i := 2) rfl
              go_wp2_with fail
              obtain ⟨we, hwe, hBe, hCe⟩ := set3_named HBRf.out (.int .i64 0) (.int .i64 0) (.string ⟨#[]⟩)
              rw [hwe]
              have c0 := hBe.cell_ (i := 0) rfl
              have c1 := hBe.cell_ (i := 1) rfl
              have c2 := hBe.cell_ (i := 2) rfl
              refine bodyPost_ret (v := .tuple #[.agg #[.int .i64 0, .int .i64 0, .string ⟨#[]⟩], .int .i64 3]) (by simp [results, Tryz.results65, go_sem, c0, c1, c2]) rfl ?_
              exact HPN.out _ _ rfl HRS.out (HCf.out.comp hCe fun x hx h => by omega)
end Go.Proofs.YtdmooacjllidhaaGreatDoor
