/-
  The document's functions on values, called; ValPrints, walked. Conditions: the library's variables are laid.
-/
import Derived.Test.YtdmooacjllidhaaGreatDoorQe
import Derived.Test.YtdmooacjllidhaaGreatDoorQf
import Derived.Test.YtdmooacjllidhaaGreatDoorVg
set_option linter.unusedVariables false
set_option linter.unusedSimpArgs false
namespace Go.Proofs.YtdmooacjllidhaaGreatDoor
open Go.RowKit Go.Proofs.YtdmooacjllidhaaGreatDoorW.PrintWords

theorem refPrint (w : World) (k n : Int) (s : ByteArray) (hn : I64 n) (hs : s.size ≤ 100000) :
    Calls Tryz.prog 67 #[.agg #[.int .i64 k, .int .i64 n, .string s]] w fun e w' => (∃ t, e = .returned (.string t) ∧ t.data.toList = PB (cln k n s)) ∧ Chg (fun _ => False) w w' := by
  obtain ⟨r, hr, hl⟩ := print_ev k n s hn.1 hn.2 (by omega)
  obtain ⟨m, hm⟩ := Ev.rounds hr
  refine (PRead.umlautref11_Print.calls m k n s r w hm).mono ?_
  rintro e w' ⟨he, hb⟩
  exact ⟨⟨r, he, hl⟩, Chg.of_below hb⟩

theorem refClean (w : World) (k n : Int) (s : ByteArray) :
    Calls Tryz.prog 70 #[.agg #[.int .i64 k, .int .i64 n, .string s]] w fun e w' => e = .returned (.agg #[.int .i64 (cln k n s).1, .int .i64 (cln k n s).2.1, .string (cln k n s).2.2]) ∧ Chg (fun _ => False) w w' := by
  refine (PRead.umlautref11_Clean.calls k n s _ _ _ w (clean_f k n s)).mono ?_
  rintro e w' ⟨he, hb⟩
  exact ⟨he, Chg.of_below hb⟩

theorem refRead (w : World) (s : ByteArray) (hs : s.size ≤ 100000) :
    Calls Tryz.prog 66 #[.string s] w fun e w' => (∃ k n t ok, e = .returned (.tuple #[.agg #[.int .i64 k, .int .i64 n, .string t], .bool ok]) ∧ RSpec s.data.toList (k, n, t) ok) ∧ Chg (fun _ => False) w w' := by
  obtain ⟨k, n, t, ok, hr, hl⟩ := read_ev s hs
  obtain ⟨m, hm⟩ := Ev.rounds hr
  refine (PRead.umlautref11_Read.calls m s k n t ok w hm).mono ?_
  rintro e w' ⟨he, hb⟩
  exact ⟨⟨k, n, t, ok, he, hl⟩, Chg.of_below hb⟩

theorem field67 (a b : Int) (c : ByteArray) (w : World) : (Instr.field 67 (.agg #[.int .i64 a, .int .i64 b, .string c]) 0).run Tryz.prog w = .ok (.int .i64 a) w := by kernel_rfl

set_option maxRecDepth 100000 in
theorem refShow (w : World) (k n : Int) (s : ByteArray) (hn : I64 n) (hs : s.size ≤ 100000) :
    Calls Tryz.prog 69 #[.agg #[.int .i64 k, .int .i64 n, .string s]] w fun e w' => (∃ t, e = .returned (.string t) ∧ t.data.toList = SB (cln k n s)) ∧ Chg (fun _ => False) w w' := by
  obtain ⟨R, hR⟩ : ∃ R : Ending → World → Prop, R = fun e w' => (∃ t, e = .returned (.string t) ∧ t.data.toList = SB (cln k n s)) ∧ Chg (fun _ => False) w w' := ⟨_, rfl⟩
  rw [← hR]
  have HI := Lib.hid (fun W => refClean W k n s)
  have HPR : Hid (∀ W, Calls Tryz.prog 67 #[.agg #[.int .i64 k, .int .i64 n, .string s]] W fun e w' => (∃ t, e = .returned (.string t) ∧ t.data.toList = PB (cln k n s)) ∧ Chg (fun _ => False) W w') := fun W => refPrint W k n s hn hs
  have hor : (cln k n s).1 = 3 → (cln k n s).2.2 = s := fun h => by
    rcases cln_or k n s with h' | h'
    · rw [h']
    · rw [h'] at h; simp at h
  obtain ⟨V, hV⟩ : ∃ V, cln k n s = V := ⟨_, rfl⟩
  rw [hV] at HI HPR hor hR
  obtain ⟨A1, A2, A3⟩ := V
  have HI : Hid (∀ W, Calls Tryz.prog 70 #[.agg #[.int .i64 k, .int .i64 n, .string s]] W fun e w' => e = .returned (.agg #[.int .i64 A1, .int .i64 A2, .string A3]) ∧ Chg (fun _ => False) W w') := HI
  have hor : A1 = 3 → A3 = s := hor
  have HP : Hid (∀ e w' t, e = .returned (.string t) → t.data.toList = SB (A1, A2, A3) → Chg (fun _ => False) w w' → R e w') := fun e w' t h1 h2 h3 => by rw [hR]; exact ⟨⟨t, h1, h2⟩, h3⟩
  clear hR hV hn hs
  have hfl := fun W => field67 A1 A2 A3 W
  go_enter Tryz.func69, Tryz.ntmps69
  go_wp2_with fail
  obtain ⟨wa, ba, hwa, hba, hBa, hCa, hsa⟩ := alloc_named w #[.int .i64 k, .int .i64 n, .string s] 67
  rw [hwa, hba]
  have HBA := Lib.hid hBa
  have HCA := Lib.hid hCa
  clear hwa hba hBa hCa hsa
  refine (HI.out wa).mono ?_
  rintro e w1 ⟨rfl, hC1⟩
  have HB1 := Lib.hid (HBA.out.chg hC1 id)
  have HC1 := Lib.hid (HCA.out.trans hC1)
  clear hC1
  have c0 := HB1.out.cell_ (i := 0) rfl
  have c1 := HB1.out.cell_ (i := 1) rfl
  have c2 := HB1.out.cell_ (i := 2) rfl
  by_cases h3 : A1 = 3
  · have h4 := hor h3
    subst h3
    subst h4
    clear hor
    go_wp2_with fail
    exact HP.out _ _ A3 rfl (by simp [SB]) HC1.out
  · have h3' : (A1 == 3) = false := by rw [beq_eq_false_iff_ne]; exact h3
    have HPR2 := Lib.hid (HPR.out w1)
    have hsb : SB (A1, A2, A3) = PB (A1, A2, A3) := by simp [SB, h3]
    rw [hsb] at HP
    clear HPR hsb hor
    go_wp2_with fail
    refine HPR2.out.mono ?_
    rintro e w3 ⟨⟨t, rfl, ht⟩, hC3⟩
    have HC3 := Lib.hid (HC1.out.trans hC3)
    have HT := Lib.hid ht
    clear hC3 ht
    go_wp2_with fail
    exact HP.out _ _ t rfl HT.out HC3.out

theorem pb_len {k n : Int} {s : ByteArray} (hn : I64 n) (hs : s.size ≤ 1000) : (PB (cln k n s)).length ≤ 5000 := by
  have ha3 : (cln k n s).2.2.size ≤ 1000 := by
    rcases cln_or k n s with h | h <;> rw [h]
    · exact hs
    · decide
  have ha2 : I64 (cln k n s).2.1 := by
    rcases cln_or k n s with h | h <;> rw [h]
    · exact hn
    · show I64 0
      unfold I64; omega
  unfold PB
  split
  · decide
  · split
    · split <;> decide
    · split
      · have := Lib.itoa_length_le _ ha2.1 ha2.2
        omega
      · have := escL_len (cln k n s).2.2.data.toList
        rw [size_list] at ha3
        simp only [List.length_append, List.length_cons, List.length_nil]
        omega

set_option maxHeartbeats 8000000 in
set_option maxRecDepth 100000 in
theorem prints_walk (w : World) (hL : Lay w) (k n : Int) (t s : ByteArray) (hn : I64 n) (ht : t.size ≤ 140737488351232) (hs : s.size ≤ 140737488351232) :
    Calls Tryz.prog 12 #[.agg #[.int .i64 k, .int .i64 n, .string t], .string s] w fun e w' => e = .returned (.bool true) ∧ Chg (fun _ => False) w w' := by
  obtain ⟨R, hR⟩ : ∃ R : Ending → World → Prop, R = fun e w' => e = .returned (.bool true) ∧ Chg (fun _ => False) w w' := ⟨_, rfl⟩
  rw [← hR]
  have HP : Hid (∀ e w', e = .returned (.bool true) → Chg (fun _ => False) w w' → R e w') := fun e w' h1 h2 => by rw [hR]; exact ⟨h1, h2⟩
  have HAW : Hid (∀ W, Chg (fun _ => False) w W → Calls Tryz.prog 42 #[] W fun e w' => e = .returned (.bool true) ∧ Chg (fun _ => False) W w') := fun W hW => by
    obtain ⟨m, hm⟩ := (hL.chg hW).max
    exact awake11 W m hm
  have HL := Lib.hid hL
  clear hR hL
  by_cases hbig : 1000 < t.size + s.size
  · have hb : (1000 : Int) < (t.size : Int) + (s.size : Int) := by omega
    go_enter Tryz.func12, Tryz.ntmps12
    go_wp2_with fail
    refine (HAW.out _ ((Chg.refl _ w).alloc _)).mono ?_
    rintro e w1 ⟨rfl, hC1⟩
    have HC1 := Lib.hid (((Chg.refl (fun _ => False) w).alloc (.cells #[.int .i64 k, .int .i64 n, .string t] 67)).trans hC1)
    clear hC1
    go_wp2_with fail
    exact HP.out _ _ rfl HC1.out
  · have hb : (t.size : Int) + (s.size : Int) ≤ 1000 := by omega
    have ht1 : t.size ≤ 1000 := by omega
    have hs1 : s.size ≤ 1000 := by omega
    have HVP : Hid (∀ W, Chg (fun _ => False) w W → Calls Tryz.prog 64 #[.agg #[.int .i64 k, .int .i64 n, .string t]] W fun e w' => (∃ u, e = .returned (.string u) ∧ u.data.toList = PB (cln k n t)) ∧ Chg (fun _ => False) W w') := fun W hW => vPrint W k n t hn.1 hn.2 (by omega) (HL.out.chg hW)
    have HVS : Hid (∀ W, Chg (fun _ => False) w W → Calls Tryz.prog 68 #[.agg #[.int .i64 k, .int .i64 n, .string t]] W fun e w' => (∃ u, e = .returned (.string u) ∧ u.data.toList = SB (cln k n t)) ∧ Chg (fun _ => False) W w') := fun W hW => vShow W k n t hn.1 hn.2 (by omega) (HL.out.chg hW)
    have HVR : Hid (∀ W (x : ByteArray), Chg (fun _ => False) w W → x.size ≤ 10000 → Calls Tryz.prog 65 #[.string x] W fun e w' => (∃ k n t er ok, e = .returned (.tuple #[.agg #[.int .i64 k, .int .i64 n, .string t], .int .i64 er]) ∧ RSpec x.data.toList (k, n, t) ok ∧ er = (if ok = true then 0 else 3)) ∧ Chg (fun _ => False) W w') := fun W x hW hx => vRead W x hx (HL.out.chg hW)
    have HRP : Hid (∀ W, Calls Tryz.prog 67 #[.agg #[.int .i64 k, .int .i64 n, .string t]] W fun e w' => (∃ u, e = .returned (.string u) ∧ u.data.toList = PB (cln k n t)) ∧ Chg (fun _ => False) W w') := fun W => refPrint W k n t hn (by omega)
    have HRS : Hid (∀ W, Calls Tryz.prog 69 #[.agg #[.int .i64 k, .int .i64 n, .string t]] W fun e w' => (∃ u, e = .returned (.string u) ∧ u.data.toList = SB (cln k n t)) ∧ Chg (fun _ => False) W w') := fun W => refShow W k n t hn (by omega)
    have HRC := Lib.hid (fun W => refClean W k n t)
    have HRR := Lib.hid (fun W => refRead W s (by omega))
    have HPL := Lib.hid (pb_len (k := k) hn ht1)
    have HS1 := Lib.hid hs1
    have HCV : Hid (CV (cln k n t)) := by
      refine ⟨cln_cln k n t, ?_⟩
      rcases cln_or k n t with h | h <;> rw [h]
      · exact hn
      · exact ⟨by decide, by decide⟩
    obtain ⟨V, hV⟩ : ∃ V, cln k n t = V := ⟨_, rfl⟩
    rw [hV] at HVP HVS HRP HRS HRC HPL HCV
    obtain ⟨A1, A2, A3⟩ := V
    have HRC : Hid (∀ W, Calls Tryz.prog 70 #[.agg #[.int .i64 k, .int .i64 n, .string t]] W fun e w' => e = .returned (.agg #[.int .i64 A1, .int .i64 A2, .string A3]) ∧ Chg (fun _ => False) W w') := HRC
    clear hV hn hs1 ht1 hbig
    go_enter Tryz.func12, Tryz.ntmps12
    go_wp2_with fail
    obtain ⟨wa, ba, hwa, hba, hBa, hCa, hsa⟩ := alloc_named w #[.int .i64 k, .int .i64 n, .string t] 67
    rw [hwa, hba]
    have HBA := Lib.hid hBa
    have HCA := Lib.hid hCa
    clear hwa hba hBa hCa hsa
    refine (HVP.out wa HCA.out).mono ?_
    rintro e w1 ⟨⟨p, rfl, hp⟩, hC1⟩
    have HB1 := Lib.hid (HBA.out.chg hC1 id)
    have HC1 := Lib.hid (HCA.out.trans hC1)
    have HPP := Lib.hid hp
    have hps : p.size ≤ 10000 := by
      have := HPL.out
      rw [size_list, hp]; omega
    have HPS := Lib.hid hps
    clear hC1 hp hps HVP
    go_wp2_with fail
    refine (HVR.out w1 p HC1.out HPS.out).mono ?_
    rintro e w2 ⟨⟨k2, n2, t2, er2, ok2, rfl, hr2, he2⟩, hC2⟩
    have HX : Hid (k2 = A1 ∧ n2 = A2 ∧ t2 = A3 ∧ er2 = 0) := by
      have h := rspec_fun hr2 (v' := (A1, A2, A3)) (ok' := true) ⟨fun _ => ⟨HCV.out, HPP.out.symm⟩, fun h => by cases h⟩
      obtain ⟨h1, h2⟩ := h
      injection h1 with h1 h3
      injection h3 with h3 h4
      exact ⟨h1, h3, h4, by rw [he2, h2]; rfl⟩
    obtain ⟨rfl, rfl, rfl, rfl⟩ := HX.out
    have HB2 := Lib.hid (HB1.out.chg hC2 id)
    have HC2 := Lib.hid (HC1.out.trans hC2)
    clear hC2 hr2 he2 HX
    go_wp2_with fail
    obtain ⟨wb, bb, hwb, hbb, hBb, hCb, hsb⟩ := alloc_named w2 #[.int .i64 k2, .int .i64 n2, .string t2] 67
    rw [hwb, hbb]
    have HBB := Lib.hid hBb
    have HBA := Lib.hid (HB2.out.chg hCb id)
    have HCB := Lib.hid (HC2.out.trans hCb)
    clear hwb hbb hBb hCb hsb
    refine (HVR.out wb s HCB.out (by have := HS1.out; omega)).mono ?_
    rintro e w3 ⟨⟨k3, n3, t3, er3, ok3, rfl, hr3, he3⟩, hC3⟩
    have HBA := Lib.hid (HBA.out.chg hC3 id)
    have HBB := Lib.hid (HBB.out.chg hC3 id)
    have HC3 := Lib.hid (HCB.out.trans hC3)
    have HR3 := Lib.hid hr3
    have HE3 := Lib.hid he3
    clear hC3 hr3 he3
    go_wp2_with fail
    obtain ⟨wc, bc, hwc, hbc, hBc, hCc, hsc⟩ := alloc_named w3 #[.int .i64 k3, .int .i64 n3, .string t3] 67
    rw [hwc, hbc]
    have HBC := Lib.hid hBc
    have HBA := Lib.hid (HBA.out.chg hCc id)
    have HBB := Lib.hid (HBB.out.chg hCc id)
    have HCC := Lib.hid (HC3.out.trans hCc)
    clear hwc hbc hBc hCc hsc
    refine (HRR.out wc).mono ?_
    rintro e w4 ⟨⟨k4, n4, t4, ok4, rfl, hr4⟩, hC4⟩
    have HX : Hid (k4 = k3 ∧ n4 = n3 ∧ t4 = t3 ∧ ok4 = ok3) := by
      have h := rspec_fun hr4 HR3.out
      obtain ⟨h1, h2⟩ := h
      injection h1 with h1 h3
      injection h3 with h3 h4
      exact ⟨h1, h3, h4, h2⟩
    obtain ⟨rfl, rfl, rfl, rfl⟩ := HX.out
    have HBA := Lib.hid (HBA.out.chg hC4 id)
    have HBB := Lib.hid (HBB.out.chg hC4 id)
    have HBC := Lib.hid (HBC.out.chg hC4 id)
    have HC4 := Lib.hid (HCC.out.trans hC4)
    clear hC4 hr4 HX HR3
    have HVS2 : Hid (∃ q : ByteArray, (∀ W, Chg (fun _ => False) w W → Calls Tryz.prog 68 #[.agg #[.int .i64 k, .int .i64 n, .string t]] W fun e w' => e = .returned (.string q) ∧ Chg (fun _ => False) W w') ∧ (∀ W, Calls Tryz.prog 69 #[.agg #[.int .i64 k, .int .i64 n, .string t]] W fun e w' => e = .returned (.string q) ∧ Chg (fun _ => False) W w')) := by
      refine ⟨⟨(SB (k2, n2, t2)).toArray⟩, fun W hW => (HVS.out W hW).mono ?_, fun W => (HRS.out W).mono ?_⟩
      · rintro e w' ⟨⟨u, he, hu⟩, hc⟩
        have : u = ⟨(SB (k2, n2, t2)).toArray⟩ := Go.WideShapes.bytes_inj (by rw [hu])
        rw [he, this]
        exact ⟨rfl, hc⟩
      · rintro e w' ⟨⟨u, he, hu⟩, hc⟩
        have : u = ⟨(SB (k2, n2, t2)).toArray⟩ := Go.WideShapes.bytes_inj (by rw [hu])
        rw [he, this]
        exact ⟨rfl, hc⟩
    obtain ⟨q, hq1, hq2⟩ := HVS2.out
    have HQ1 := Lib.hid hq1
    have HQ2 := Lib.hid hq2
    have HRP2 : Hid (∀ W, Calls Tryz.prog 67 #[.agg #[.int .i64 k, .int .i64 n, .string t]] W fun e w' => e = .returned (.string p) ∧ Chg (fun _ => False) W w') := fun W => by
      refine (HRP.out W).mono ?_
      rintro e w' ⟨⟨u, he, hu⟩, hc⟩
      have : u = p := Go.WideShapes.bytes_inj (by rw [hu, HPP.out])
      rw [he, this]
      exact ⟨rfl, hc⟩
    clear hq1 hq2 HVS2 HVS HRS HRP HPP HPS HPL HVR HRR HCV HS1 hb
    go_upto_region 7 with (fail)
    obtain ⟨wd, bd, hwd, hbd, hBd, hCd, hsd⟩ := alloc_named w4 #[.int .i64 k4, .int .i64 n4, .string t4] 67
    rw [hwd, hbd]
    have HBD := Lib.hid hBd
    have HBA := Lib.hid (HBA.out.chg hCd id)
    have HBB := Lib.hid (HBB.out.chg hCd id)
    have HBC := Lib.hid (HBC.out.chg hCd id)
    have HCD := Lib.hid (HC4.out.trans hCd)
    clear hwd hbd hBd hCd hsd
    obtain ⟨w5, hw5, hC5⟩ := drew_named wd
    have hC0 : Chg (fun _ => False) wd w5 := hC5
    have SP : Hid (∀ W, Chg (fun _ => False) wd W → W.cell? ⟨ba, 0, none⟩ = some (.int .i64 k) ∧ W.cell? ⟨ba, 1, none⟩ = some (.int .i64 n) ∧ W.cell? ⟨ba, 2, none⟩ = some (.string t) ∧ W.cell? ⟨bb, 0, none⟩ = some (.int .i64 k2) ∧ W.cell? ⟨bb, 1, none⟩ = some (.int .i64 n2) ∧ W.cell? ⟨bb, 2, none⟩ = some (.string t2)) := fun W hW => ⟨(HBA.out.chg hW id).cell_ rfl, (HBA.out.chg hW id).cell_ rfl, (HBA.out.chg hW id).cell_ rfl, (HBB.out.chg hW id).cell_ rfl, (HBB.out.chg hW id).cell_ rfl, (HBB.out.chg hW id).cell_ rfl⟩
    have hS := SP.out _ hC0
    refine wp_region_till (s := 19) (S := (fun W => W.cell? ⟨ba, 0, none⟩ = some (.int .i64 k) ∧ W.cell? ⟨ba, 1, none⟩ = some (.int .i64 n) ∧ W.cell? ⟨ba, 2, none⟩ = some (.string t) ∧ W.cell? ⟨bb, 0, none⟩ = some (.int .i64 k2) ∧ W.cell? ⟨bb, 1, none⟩ = some (.int .i64 n2) ∧ W.cell? ⟨bb, 2, none⟩ = some (.string t2))) (by kernel_rfl) ?_
    rw [hw5]
    clear hw5 hC5
    apply till_take0 (i := 0) (d := some 37)
    case hi => exact rfl
    case hd => exact rfl
    case hchk => kernel_rfl
    case hS => exact (fun _ => hS)
    case hy => apply yields_plain; exact rfl; intro w _; go_simp <;> with_reducible rfl
    case hQ => exact fun _ _ _ h => h
    simp only [Act.put, List.setIfInBounds_toArray, List.set_cons_zero, List.set_cons_succ]
    apply till_take (i := 1) (d := some 38) [19, 15, 11, 8, 4, 2, 1]
    case hi => exact rfl
    case hd => exact rfl
    case hchk => kernel_rfl
    case hS => exact hS
    case hy => apply yields_plain; exact rfl; intro w hSw; (try dsimp only at hSw); go_split_ands; go_simp <;> with_reducible rfl
    case hQ => exact fun _ _ _ h => h
    simp only [Act.put, List.setIfInBounds_toArray, List.set_cons_zero, List.set_cons_succ]
    refine till_all (rs := [2]) (by kernel_rfl) (by simp) (mem_more (till_op (i := 2) (o := ⟨some 39, _, _, _, _, _⟩) rfl rfl (fun K hK => ?_)) (mem_none))
    go_simp
    go_at_call 67
    refine (HRP2.out _).mono ?_
    rintro e wr2 ⟨rfl, hck⟩
    have hC0 := hC0.trans hck
    clear hck
    refine hK.out _ _ (fun _ => ?_) (fun hS2 => ?_)
    · exact SP.out _ hC0
    have hS3 := hS2 (by kernel_rfl)
    clear hK K hS hS2
    have hS := hS3
    clear hS3
    try simp only [Act.put, List.setIfInBounds_toArray, List.set_cons_zero, List.set_cons_succ]
    apply till_take0 (i := 3) (d := some 40)
    case hi => exact rfl
    case hd => exact rfl
    case hchk => kernel_rfl
    case hS => exact (fun _ => hS)
    case hy => apply yields_plain; exact rfl; intro w _; go_simp <;> with_reducible rfl
    case hQ => exact fun _ _ _ h => h
    simp only [Act.put, List.setIfInBounds_toArray, List.set_cons_zero, List.set_cons_succ]
    apply till_take0 (i := 4) (d := some 41)
    case hi => exact rfl
    case hd => exact rfl
    case hchk => kernel_rfl
    case hS => exact (fun _ => hS)
    case hy => apply yields_plain; exact rfl; intro w _; go_simp <;> with_reducible rfl
    case hQ => exact fun _ _ _ h => h
    simp only [Act.put, List.setIfInBounds_toArray, List.set_cons_zero, List.set_cons_succ]
    apply till_take (i := 5) (d := some 42) [19, 15, 11, 8, 6, 5]
    case hi => exact rfl
    case hd => exact rfl
    case hchk => kernel_rfl
    case hS => exact hS
    case hy => apply yields_want; kernel_rfl; intro w hSw; (try dsimp only at hSw); go_split_ands; go_simp <;> with_reducible rfl
    case hQ => exact fun _ _ _ h => h
    simp only [Act.put, List.setIfInBounds_toArray, List.set_cons_zero, List.set_cons_succ]
    apply till_take (i := 7) (d := some 44) [19, 15, 11, 8, 7]
    case hi => exact rfl
    case hd => exact rfl
    case hchk => kernel_rfl
    case hS => exact hS
    case hy => apply yields_want; kernel_rfl; intro w hSw; (try dsimp only at hSw); go_split_ands; go_simp <;> with_reducible rfl
    case hQ => exact fun _ _ _ h => h
    simp only [Act.put, List.setIfInBounds_toArray, List.set_cons_zero, List.set_cons_succ]
    refine till_all (rs := [6]) (by kernel_rfl) (by simp) (mem_more (till_opw (i := 6) (o := ⟨some 43, _, _, _, _, _⟩) rfl (by kernel_rfl) (fun K hK => ?_)) (mem_none))
    go_simp
    go_at_call 68
    refine (HQ1.out _ (HCD.out.trans hC0)).mono ?_
    rintro e wr6 ⟨rfl, hck⟩
    have hC0 := hC0.trans hck
    clear hck
    refine hK.out _ _ (fun _ => ?_) (fun hS2 => ?_)
    · exact SP.out _ hC0
    have hS3 := hS2 (by kernel_rfl)
    clear hK K hS hS2
    have hS := hS3
    clear hS3
    try simp only [Act.put, List.setIfInBounds_toArray, List.set_cons_zero, List.set_cons_succ]
    refine till_all (rs := [8]) (by kernel_rfl) (by simp) (mem_more (till_opw (i := 8) (o := ⟨some 45, _, _, _, _, _⟩) rfl (by kernel_rfl) (fun K hK => ?_)) (mem_none))
    go_simp
    go_at_call 69
    refine (HQ2.out _).mono ?_
    rintro e wr8 ⟨rfl, hck⟩
    have hC0 := hC0.trans hck
    clear hck
    refine hK.out _ _ (fun _ => ?_) (fun hS2 => ?_)
    · exact SP.out _ hC0
    have hS3 := hS2 (by kernel_rfl)
    clear hK K hS hS2
    have hS := hS3
    clear hS3
    try simp only [Act.put, List.setIfInBounds_toArray, List.set_cons_zero, List.set_cons_succ]
    apply till_take0 (i := 9) (d := some 46)
    case hi => exact rfl
    case hd => exact rfl
    case hchk => kernel_rfl
    case hS => exact (fun _ => hS)
    case hy => apply yields_want; kernel_rfl; intro w _; go_simp <;> with_reducible rfl
    case hQ => exact fun _ _ _ h => h
    simp only [Act.put, List.setIfInBounds_toArray, List.set_cons_zero, List.set_cons_succ]
    apply till_take0 (i := 10) (d := some 47)
    case hi => exact rfl
    case hd => exact rfl
    case hchk => kernel_rfl
    case hS => exact (fun _ => hS)
    case hy => apply yields_plain; exact rfl; intro w _; go_simp <;> with_reducible rfl
    case hQ => exact fun _ _ _ h => h
    simp only [Act.put, List.setIfInBounds_toArray, List.set_cons_zero, List.set_cons_succ]
    apply till_take0 (i := 11) (d := some 48)
    case hi => exact rfl
    case hd => exact rfl
    case hchk => kernel_rfl
    case hS => exact (fun _ => hS)
    case hy => apply yields_plain; exact rfl; intro w _; go_simp <;> with_reducible rfl
    case hQ => exact fun _ _ _ h => h
    simp only [Act.put, List.setIfInBounds_toArray, List.set_cons_zero, List.set_cons_succ]
    apply till_take0 (i := 12) (d := some 49)
    case hi => exact rfl
    case hd => exact rfl
    case hchk => kernel_rfl
    case hS => exact (fun _ => hS)
    case hy => apply yields_want; kernel_rfl; intro w _; go_simp <;> with_reducible rfl
    case hQ => exact fun _ _ _ h => h
    simp only [Act.put, List.setIfInBounds_toArray, List.set_cons_zero, List.set_cons_succ]
    apply till_take0 (i := 13) (d := some 50)
    case hi => exact rfl
    case hd => exact rfl
    case hchk => kernel_rfl
    case hS => exact (fun _ => hS)
    case hy => apply yields_want; kernel_rfl; intro w _; go_simp <;> with_reducible rfl
    case hQ => exact fun _ _ _ h => h
    simp only [Act.put, List.setIfInBounds_toArray, List.set_cons_zero, List.set_cons_succ]
    apply till_take0 (i := 14) (d := some 51)
    case hi => exact rfl
    case hd => exact rfl
    case hchk => kernel_rfl
    case hS => exact (fun _ => hS)
    case hy => apply yields_plain; exact rfl; intro w _; go_simp <;> with_reducible rfl
    case hQ => exact fun _ _ _ h => h
    simp only [Act.put, List.setIfInBounds_toArray, List.set_cons_zero, List.set_cons_succ]
    apply till_take0 (i := 15) (d := some 52)
    case hi => exact rfl
    case hd => exact rfl
    case hchk => kernel_rfl
    case hS => exact (fun _ => hS)
    case hy => apply yields_plain; exact rfl; intro w _; go_simp <;> with_reducible rfl
    case hQ => exact fun _ _ _ h => h
    simp only [Act.put, List.setIfInBounds_toArray, List.set_cons_zero, List.set_cons_succ]
    apply till_take (i := 16) (d := some 53) [19, 16]
    case hi => exact rfl
    case hd => exact rfl
    case hchk => kernel_rfl
    case hS => exact hS
    case hy => apply yields_want; kernel_rfl; intro w hSw; (try dsimp only at hSw); go_split_ands; go_simp <;> with_reducible rfl
    case hQ => exact fun _ _ _ h => h
    simp only [Act.put, List.setIfInBounds_toArray, List.set_cons_zero, List.set_cons_succ]
    apply till_take (i := 17) (d := some 54) [19, 18, 17]
    case hi => exact rfl
    case hd => exact rfl
    case hchk => kernel_rfl
    case hS => exact hS
    case hy => apply yields_want; kernel_rfl; intro w hSw; (try dsimp only at hSw); go_split_ands; go_simp <;> with_reducible rfl
    case hQ => exact fun _ _ _ h => h
    simp only [Act.put, List.setIfInBounds_toArray, List.set_cons_zero, List.set_cons_succ]
    refine till_all (rs := [18]) (by kernel_rfl) (by simp) (mem_more (till_opw (i := 18) (o := ⟨some 55, _, _, _, _, _⟩) rfl (by kernel_rfl) (fun K hK => ?_)) (mem_none))
    go_simp
    go_at_call 70
    refine (HRC.out _).mono ?_
    rintro e wr18 ⟨rfl, hck⟩
    have hC0 := hC0.trans hck
    clear hck
    refine hK.out _ _ (fun _ => ?_) (fun hS2 => ?_)
    · exact SP.out _ hC0
    have hS3 := hS2 (by kernel_rfl)
    clear hK K hS hS2
    have hS := hS3
    clear hS3
    try simp only [Act.put, List.setIfInBounds_toArray, List.set_cons_zero, List.set_cons_succ]
    refine till_all (rs := [19]) (by kernel_rfl) (by simp) (mem_more (till_opw (i := 19) (o := ⟨some 56, _, _, _, _, _⟩) rfl (by kernel_rfl) (fun K hK => ?_)) (mem_none))
    go_simp
    go_at_call 35
    refine (rSame _ k2 n2 t2).mono ?_
    rintro e wr19 ⟨rfl, hck⟩
    have hC0 := hC0.trans hck
    clear hck
    refine hK.out _ _ (fun h => by cases (show true = false from h)) (fun _ => ?_)
    clear hK K hS
    try simp only [Act.put, List.setIfInBounds_toArray, List.set_cons_zero, List.set_cons_succ]
    apply till_take0 (i := 20) (d := some 57)
    case hi => exact rfl
    case hd => exact rfl
    case hchk => kernel_rfl
    case hS => exact (fun h => by cases (show true = false from h))
    case hy => apply yields_want; kernel_rfl; intro w _; go_simp <;> with_reducible rfl
    case hQ => exact fun _ _ _ h => h
    simp only [Act.put, List.setIfInBounds_toArray, List.set_cons_zero, List.set_cons_succ]
    apply till_take0 (i := 21) (d := some 58)
    case hi => exact rfl
    case hd => exact rfl
    case hchk => kernel_rfl
    case hS => exact (fun h => by cases (show true = false from h))
    case hy => apply yields_plain; exact rfl; intro w _; go_simp <;> with_reducible rfl
    case hQ => exact fun _ _ _ h => h
    simp only [Act.put, List.setIfInBounds_toArray, List.set_cons_zero, List.set_cons_succ]
    refine till_done (by kernel_rfl) ?_
    have HBC2 := Lib.hid (HBC.out.chg hC0 id)
    have HBD2 := Lib.hid (HBD.out.chg hC0 id)
    have HCE := Lib.hid (HCD.out.trans hC0)
    have hE3 := HE3.out
    clear hC0 HE3
    have c0 := HBC2.out.cell_ (i := 0) rfl
    have c1 := HBC2.out.cell_ (i := 1) rfl
    have c2 := HBC2.out.cell_ (i := 2) rfl
    have d0 := HBD2.out.cell_ (i := 0) rfl
    have d1 := HBD2.out.cell_ (i := 1) rfl
    have d2 := HBD2.out.cell_ (i := 2) rfl
    cases ok4
    all_goals
      simp only [if_true, Bool.false_eq_true, if_false] at hE3
      subst hE3
      go_wp2_with fail
      refine (rSame _ k4 n4 t4).mono ?_
      rintro e w8 ⟨rfl, hC8⟩
      have HC8 := Lib.hid (HCE.out.trans hC8)
      clear hC8
      go_wp2_with fail
      refine (HAW.out _ HC8.out).mono ?_
      rintro e w9 ⟨rfl, hC9⟩
      have HC9 := Lib.hid (HC8.out.trans hC9)
      clear hC9
      go_wp2_with fail
      exact HP.out _ _ rfl HC9.out
end Go.Proofs.YtdmooacjllidhaaGreatDoor
