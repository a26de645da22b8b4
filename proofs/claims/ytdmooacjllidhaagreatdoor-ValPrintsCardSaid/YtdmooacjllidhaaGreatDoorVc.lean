/-
  val.Order, Same, Cmp. Conditions: the collation's comparison is given.
-/
import Derived.Test.YtdmooacjllidhaaGreatDoorVb
set_option linter.unusedVariables false
set_option linter.unusedSimpArgs false
namespace Go.Proofs.YtdmooacjllidhaaGreatDoor
open Go.RowKit

def ordV (cc : ByteArray → ByteArray → Int) (a b : Int × Int × ByteArray) : Int := if a.1 = b.1 then alikeV cc a.1 a.2.1 a.2.2 b.2.1 b.2.2 else Lib.compareInt a.1 b.1

theorem compare_self (x : Int) : Lib.compareInt x x = 0 := by simp [Lib.compareInt]
theorem compare_ne {x y : Int} (h : x ≠ y) : Lib.compareInt x y ≠ 0 := by
  unfold Lib.compareInt
  split
  · decide
  · split
    · decide
    · omega

set_option maxHeartbeats 4000000 in
set_option maxRecDepth 100000 in
theorem vOrder (w : World) (k1 n1 k2 n2 : Int) (s1 s2 : ByteArray) (ck cl : Int) (sh bk : Bool) (tb : Option Addr) (cc : ByteArray → ByteArray → Int) (hC : (cln k1 n1 s1).1 = 3 → CmpAs (.agg #[.int .i64 ck, .int .i64 cl, .bool sh, .bool bk, .pointer tb]) cc w) :
    Calls Tryz.prog 47 #[.agg #[.int .i64 k1, .int .i64 n1, .string s1], .agg #[.int .i64 k2, .int .i64 n2, .string s2], .agg #[.int .i64 ck, .int .i64 cl, .bool sh, .bool bk, .pointer tb]] w
      fun e w' => e = .returned (.int .i64 (ordV cc (cln k1 n1 s1) (cln k2 n2 s2))) ∧ Chg (fun _ => False) w w' := by
  obtain ⟨R, hR⟩ : ∃ R : Ending → World → Prop, R = fun e w' => e = .returned (.int .i64 (ordV cc (cln k1 n1 s1) (cln k2 n2 s2))) ∧ Chg (fun _ => False) w w' := ⟨_, rfl⟩
  rw [← hR]
  have HI1 : Hid (∀ W, Calls Tryz.prog 98 #[.agg #[.int .i64 k1, .int .i64 n1, .string s1]] W fun e w' => e = .returned (.agg #[.int .i64 (cln k1 n1 s1).1, .int .i64 (cln k1 n1 s1).2.1, .string (cln k1 n1 s1).2.2]) ∧ Chg (fun _ => False) W w') := fun W => vIs W k1 n1 s1
  have HI2 : Hid (∀ W, Calls Tryz.prog 98 #[.agg #[.int .i64 k2, .int .i64 n2, .string s2]] W fun e w' => e = .returned (.agg #[.int .i64 (cln k2 n2 s2).1, .int .i64 (cln k2 n2 s2).2.1, .string (cln k2 n2 s2).2.2]) ∧ Chg (fun _ => False) W w') := fun W => vIs W k2 n2 s2
  obtain ⟨X, hX⟩ : ∃ X, cln k1 n1 s1 = X := ⟨_, rfl⟩
  obtain ⟨Y, hY⟩ : ∃ Y, cln k2 n2 s2 = Y := ⟨_, rfl⟩
  rw [hX] at HI1 hC hR
  rw [hY] at HI2 hR
  obtain ⟨A1, A2, A3⟩ := X
  obtain ⟨B1, B2, B3⟩ := Y
  have HI1 : Hid (∀ W, Calls Tryz.prog 98 #[.agg #[.int .i64 k1, .int .i64 n1, .string s1]] W fun e w' => e = .returned (.agg #[.int .i64 A1, .int .i64 A2, .string A3]) ∧ Chg (fun _ => False) W w') := HI1
  have HI2 : Hid (∀ W, Calls Tryz.prog 98 #[.agg #[.int .i64 k2, .int .i64 n2, .string s2]] W fun e w' => e = .returned (.agg #[.int .i64 B1, .int .i64 B2, .string B3]) ∧ Chg (fun _ => False) W w') := HI2
  have HC : Hid (A1 = 3 → CmpAs (.agg #[.int .i64 ck, .int .i64 cl, .bool sh, .bool bk, .pointer tb]) cc w) := hC
  have HP : Hid (∀ e w', e = .returned (.int .i64 (if A1 = B1 then alikeV cc A1 A2 A3 B2 B3 else Lib.compareInt A1 B1)) → Chg (fun _ => False) w w' → R e w') := fun e w' h1 h2 => by rw [hR]; exact ⟨h1, h2⟩
  clear hR hX hY hC
  go_enter Tryz.func47, Tryz.ntmps47
  go_wp2_with fail
  obtain ⟨wa, ba, hwa, hba, hBa, hCa, hsa⟩ := alloc_named w #[.int .i64 k1, .int .i64 n1, .string s1] 67
  rw [hwa]
  obtain ⟨wb, bb, hwb, hbb, hBb, hCb, hsb⟩ := alloc_named wa #[.int .i64 k2, .int .i64 n2, .string s2] 67
  rw [hwb]
  obtain ⟨wc, bc, hwc, hbc, hBc, hCc, hsc⟩ := alloc_named wb #[.int .i64 ck, .int .i64 cl, .bool sh, .bool bk, .pointer tb] 25
  rw [hwc]
  have e1 : w.heap.size + 1 = bb := by omega
  have e2 : bb + 1 = bc := by omega
  simp only [hba] at e1 ⊢
  simp only [e1, e2]
  have hab : ba < bb := by omega
  have hbc' : bb < bc := by omega
  have hwba : w.heap.size ≤ ba := by omega
  have hA0 := (hBa.chg hCb id).chg hCc id
  have hB0 := hBb.chg hCc id
  have hK0 := hBc
  have hCC := (hCa.trans hCb).trans hCc
  clear hwa hba hBa hCa hsa hwb hbb hBb hCb hsb hwc hbc hBc hCc hsc e1 e2
  obtain ⟨w5, hw5, hC5⟩ := drew_named wc
  have hC0 : Chg (fun _ => False) w w5 := hCC.trans hC5
  have hA := hA0.chg hC5 id
  have hB := hB0.chg hC5 id
  have hKb := hK0.chg hC5 id
  have hS : w5.cell? ⟨ba, 0, none⟩ = some (.int .i64 k1) ∧ w5.cell? ⟨ba, 1, none⟩ = some (.int .i64 n1) ∧ w5.cell? ⟨ba, 2, none⟩ = some (.string s1) ∧ w5.cell? ⟨bb, 0, none⟩ = some (.int .i64 k2) ∧ w5.cell? ⟨bb, 1, none⟩ = some (.int .i64 n2) ∧ w5.cell? ⟨bb, 2, none⟩ = some (.string s2) :=
    ⟨hA.cell_ rfl, hA.cell_ rfl, hA.cell_ rfl, hB.cell_ rfl, hB.cell_ rfl, hB.cell_ rfl⟩
  refine wp_region_till (s := 4) (S := (fun W => W.cell? ⟨ba, 0, none⟩ = some (.int .i64 k1) ∧ W.cell? ⟨ba, 1, none⟩ = some (.int .i64 n1) ∧ W.cell? ⟨ba, 2, none⟩ = some (.string s1) ∧ W.cell? ⟨bb, 0, none⟩ = some (.int .i64 k2) ∧ W.cell? ⟨bb, 1, none⟩ = some (.int .i64 n2) ∧ W.cell? ⟨bb, 2, none⟩ = some (.string s2))) (by kernel_rfl) ?_
  rw [hw5]
  clear hw5 hC5 hA0 hB0 hK0 hCC
  apply till_take (i := 0) (d := some 8) [4, 0]
  case hi => exact rfl
  case hd => exact rfl
  case hchk => kernel_rfl
  case hS => exact hS
  case hy => apply yields_plain; exact rfl; intro w hSw; (try dsimp only at hSw); go_split_ands; go_simp <;> with_reducible rfl
  case hQ => exact fun _ _ _ h => h
  simp only [Act.put, List.setIfInBounds_toArray, List.set_cons_zero, List.set_cons_succ]
  apply till_take (i := 2) (d := some 10) [4, 3, 2]
  case hi => exact rfl
  case hd => exact rfl
  case hchk => kernel_rfl
  case hS => exact hS
  case hy => apply yields_plain; exact rfl; intro w hSw; (try dsimp only at hSw); go_split_ands; go_simp <;> with_reducible rfl
  case hQ => exact fun _ _ _ h => h
  simp only [Act.put, List.setIfInBounds_toArray, List.set_cons_zero, List.set_cons_succ]
  refine till_all (rs := [1]) (by kernel_rfl) (by simp) (mem_more (till_op (i := 1) (o := ⟨some 9, _, _, _, _, _⟩) rfl rfl (fun K hK => ?_)) (mem_none))
  go_simp
  go_at_call 98
  refine (HI1.out _).mono ?_
  rintro e w6 ⟨rfl, hck⟩
  have hC0 := hC0.trans hck
  have hA := hA.chg hck id
  have hB := hB.chg hck id
  have hKb := hKb.chg hck id
  clear hck
  refine hK.out _ _ (fun _ => ?_) (fun hS2 => ?_)
  · exact ⟨hA.cell_ rfl, hA.cell_ rfl, hA.cell_ rfl, hB.cell_ rfl, hB.cell_ rfl, hB.cell_ rfl⟩
  have hS3 := hS2 (by kernel_rfl)
  clear hK K hS hS2
  have hS := hS3
  clear hS3
  try simp only [Act.put, List.setIfInBounds_toArray, List.set_cons_zero, List.set_cons_succ]
  refine till_all (rs := [3]) (by kernel_rfl) (by simp) (mem_more (till_op (i := 3) (o := ⟨some 11, _, _, _, _, _⟩) rfl rfl (fun K hK => ?_)) (mem_none))
  go_simp
  go_at_call 98
  refine (HI2.out _).mono ?_
  rintro e w7 ⟨rfl, hck⟩
  have hC0 := hC0.trans hck
  have hA := hA.chg hck id
  have hB := hB.chg hck id
  have hKb := hKb.chg hck id
  clear hck
  refine hK.out _ _ (fun _ => ?_) (fun hS2 => ?_)
  · exact ⟨hA.cell_ rfl, hA.cell_ rfl, hA.cell_ rfl, hB.cell_ rfl, hB.cell_ rfl, hB.cell_ rfl⟩
  have hS3 := hS2 (by kernel_rfl)
  clear hK K hS hS2
  have hS := hS3
  clear hS3
  try simp only [Act.put, List.setIfInBounds_toArray, List.set_cons_zero, List.set_cons_succ]
  refine till_all (rs := [4]) (by kernel_rfl) (by simp) (mem_more (till_op (i := 4) (o := ⟨none, _, _, _, _, _⟩) rfl rfl (fun K hK => ?_)) (mem_none))
  have f0 := hA.frozen 0
  have f1 := hA.frozen 1
  have f2 := hA.frozen 2
  have c0 := hA.cell_ (i := 0) rfl
  have c1 := hA.cell_ (i := 1) rfl
  have c2 := hA.cell_ (i := 2) rfl
  go_simp
  obtain ⟨w8, hw8, hA8, hC8⟩ := set3_named hA (.int .i64 A1) (.int .i64 A2) (.string A3)
  rw [hw8]
  have hB := hB.chg hC8 (by omega)
  have hKb := hKb.chg hC8 (by omega)
  have hC0 := hC0.comp hC8 (fun x hx h => by omega)
  have hA := hA8
  clear f0 f1 f2 c0 c1 c2 hw8 hA8 hC8
  refine hK.out _ _ (fun h => by cases (show true = false from h)) (fun _ => ?_)
  clear hK K hS
  try simp only [Act.put, List.setIfInBounds_toArray, List.set_cons_zero, List.set_cons_succ]
  refine till_all (rs := [5]) (by kernel_rfl) (by simp) (mem_more (till_op (i := 5) (o := ⟨none, _, _, _, _, _⟩) rfl rfl (fun K hK => ?_)) (mem_none))
  have f0 := hB.frozen 0
  have f1 := hB.frozen 1
  have f2 := hB.frozen 2
  have c0 := hB.cell_ (i := 0) rfl
  have c1 := hB.cell_ (i := 1) rfl
  have c2 := hB.cell_ (i := 2) rfl
  go_simp
  obtain ⟨w9, hw9, hB9, hC9⟩ := set3_named hB (.int .i64 B1) (.int .i64 B2) (.string B3)
  rw [hw9]
  have hA := hA.chg hC9 (by omega)
  have hKb := hKb.chg hC9 (by omega)
  have hC0 := hC0.comp hC9 (fun x hx h => by omega)
  have hB := hB9
  clear f0 f1 f2 c0 c1 c2 hw9 hB9 hC9
  refine hK.out _ _ (fun h => by cases (show true = false from h)) (fun _ => ?_)
  clear hK K
  try simp only [Act.put, List.setIfInBounds_toArray, List.set_cons_zero, List.set_cons_succ]
  refine till_done (by kernel_rfl) ?_
  have c0 := hA.cell_ (i := 0) rfl
  have c1 := hA.cell_ (i := 1) rfl
  have c2 := hA.cell_ (i := 2) rfl
  have d0 := hB.cell_ (i := 0) rfl
  have d1 := hB.cell_ (i := 1) rfl
  have d2 := hB.cell_ (i := 2) rfl
  have g0 := hKb.cell_ (i := 0) rfl
  have g1 := hKb.cell_ (i := 1) rfl
  have g2 := hKb.cell_ (i := 2) rfl
  have g3 := hKb.cell_ (i := 3) rfl
  have g4 := hKb.cell_ (i := 4) rfl
  have HC0 := Lib.hid hC0
  clear hC0 hA hB hKb
  go_wp2_with fail
  refine (Tryz.cmp_Compare_int A1 B1 _).mono ?_
  rintro e wz ⟨rfl, rfl⟩
  by_cases hAB : A1 = B1
  · subst hAB
    rw [compare_self]
    have HP' : Hid (∀ e w', e = .returned (.int .i64 (alikeV cc A1 A2 A3 B2 B3)) → Chg (fun _ => False) w w' → R e w') := fun e w' h1 h2 => HP.out e w' (by rw [h1, if_pos rfl]) h2
    have HAL := Lib.hid (vAlike wz A1 A2 A1 B2 A3 B3 ck cl sh bk tb cc fun h W x y hW => HC.out h W x y (HC0.out.trans hW))
    clear HP HC
    go_wp2_with fail
    refine HAL.out.mono ?_
    rintro e w10 ⟨rfl, hC10⟩
    have HC10 := Lib.hid (HC0.out.trans hC10)
    clear hC10
    go_wp2_with fail
    exact HP'.out _ _ rfl HC10.out
  · have HP' : Hid (∀ e w', e = .returned (.int .i64 (Lib.compareInt A1 B1)) → Chg (fun _ => False) w w' → R e w') := fun e w' h1 h2 => HP.out e w' (by rw [h1, if_neg hAB]) h2
    have hne := compare_ne hAB
    obtain ⟨cv, hcv⟩ : ∃ cv, Lib.compareInt A1 B1 = cv := ⟨_, rfl⟩
    rw [hcv] at HP' hne ⊢
    have hne2 : (cv == 0) = false := by rw [beq_eq_false_iff_ne]; exact hne
    clear HP HC hcv hAB
    go_wp2_with fail
    exact HP'.out _ _ rfl HC0.out
theorem vSame (w : World) (k1 n1 k2 n2 : Int) (s1 s2 : ByteArray) (ck cl : Int) (sh bk : Bool) (tb : Option Addr) (cc : ByteArray → ByteArray → Int) (hC : (cln k1 n1 s1).1 = 3 → CmpAs (.agg #[.int .i64 ck, .int .i64 cl, .bool sh, .bool bk, .pointer tb]) cc w) :
    Calls Tryz.prog 48 #[.agg #[.int .i64 k1, .int .i64 n1, .string s1], .agg #[.int .i64 k2, .int .i64 n2, .string s2], .agg #[.int .i64 ck, .int .i64 cl, .bool sh, .bool bk, .pointer tb]] w
      fun e w' => e = .returned (.bool (ordV cc (cln k1 n1 s1) (cln k2 n2 s2) == 0)) ∧ Chg (fun _ => False) w w' := by
  obtain ⟨ov, hov⟩ : ∃ ov, ordV cc (cln k1 n1 s1) (cln k2 n2 s2) = ov := ⟨_, rfl⟩
  obtain ⟨R, hR⟩ : ∃ R : Ending → World → Prop, R = fun e w' => e = .returned (.bool (ov == 0)) ∧ Chg (fun _ => False) w w' := ⟨_, rfl⟩
  have HO := Lib.hid (vOrder (((w.alloc (.cells #[.int .i64 k1, .int .i64 n1, .string s1] 67)).alloc (.cells #[.int .i64 k2, .int .i64 n2, .string s2] 67)).alloc (.cells #[.int .i64 ck, .int .i64 cl, .bool sh, .bool bk, .pointer tb] 25)) k1 n1 k2 n2 s1 s2 ck cl sh bk tb cc
    fun h W x y hW => hC h W x y (((((Chg.refl _ w).alloc _).alloc _).alloc _).trans hW))
  rw [hov] at HO ⊢
  rw [← hR]
  have HP : Hid (∀ e w', e = .returned (.bool (ov == 0)) → Chg (fun _ => False) w w' → R e w') := fun e w' h1 h2 => by rw [hR]; exact ⟨h1, h2⟩
  clear hR hov hC
  go_enter Tryz.func48, Tryz.ntmps48
  go_wp2_with fail
  refine HO.out.mono ?_
  rintro e w1 ⟨rfl, hC1⟩
  have HC1 := Lib.hid (((((Chg.refl _ w).alloc _).alloc _).alloc _).trans hC1)
  clear hC1
  go_wp2_with fail
  exact HP.out _ _ rfl HC1.out
end Go.Proofs.YtdmooacjllidhaaGreatDoor
