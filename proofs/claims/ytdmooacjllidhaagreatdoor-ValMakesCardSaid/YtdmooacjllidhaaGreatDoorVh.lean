/-
  ValMakes, walked. Conditions: the library's variable is laid.
-/
import Derived.Test.YtdmooacjllidhaaGreatDoorVg
set_option linter.unusedVariables false
set_option linter.unusedSimpArgs false
namespace Go.Proofs.YtdmooacjllidhaaGreatDoor
open Go.RowKit

set_option maxHeartbeats 4000000 in
set_option maxRecDepth 100000 in
theorem makes_walk (w : World) (m : Int) (hm : w.cell? ⟨2, 0, none⟩ = some (.int .i64 m)) (n : Int) (s : ByteArray) (b : Bool) (vk vn : Int) (vs : ByteArray) :
    Calls Tryz.prog 6 #[.int .i64 n, .string s, .bool b, .agg #[.int .i64 vk, .int .i64 vn, .string vs]] w fun e w' => e = .returned (.bool true) ∧ Chg (fun _ => False) w w' := by
  obtain ⟨R, hR⟩ : ∃ R : Ending → World → Prop, R = fun e w' => e = .returned (.bool true) ∧ Chg (fun _ => False) w w' := ⟨_, rfl⟩
  rw [← hR]
  have HP : Hid (∀ e w', e = .returned (.bool true) → Chg (fun _ => False) w w' → R e w') := fun e w' h1 h2 => by rw [hR]; exact ⟨h1, h2⟩
  have HAW : Hid (∀ W, Chg (fun _ => False) w W → Calls Tryz.prog 42 #[] W fun e w' => e = .returned (.bool true) ∧ Chg (fun _ => False) W w') :=
    fun W hW => awake11 W m ((hW.cell (World.block_lt_of_cell? _ _ hm) id).trans hm)
  obtain ⟨nb, hnb⟩ : ∃ nb : Int, (if b = true then (1 : Int) else 0) = nb := ⟨_, rfl⟩
  obtain ⟨q, hq⟩ : ∃ q, okV vk vn vs = q := ⟨_, rfl⟩
  have HVB : Hid (∀ W, Calls Tryz.prog 34 #[.bool b] W fun e w' => e = .returned (.agg #[.int .i64 1, .int .i64 nb, .string ⟨#[]⟩]) ∧ Chg (fun _ => False) W w') := fun W => by rw [← hnb]; exact vBool W b
  have HRB : Hid (∀ W, Calls Tryz.prog 38 #[.bool b] W fun e w' => e = .returned (.agg #[.int .i64 1, .int .i64 nb, .string ⟨#[]⟩]) ∧ Chg (fun _ => False) W w') := fun W => by rw [← hnb]; exact rBool W b
  have HOV : Hid (∀ W, Calls Tryz.prog 40 #[.agg #[.int .i64 vk, .int .i64 vn, .string vs]] W fun e w' => e = .returned (.bool q) ∧ Chg (fun _ => False) W w') := fun W => by rw [← hq]; exact vOk W vk vn vs
  have HOR : Hid (∀ W, Calls Tryz.prog 41 #[.agg #[.int .i64 vk, .int .i64 vn, .string vs]] W fun e w' => e = .returned (.bool q) ∧ Chg (fun _ => False) W w') := fun W => by rw [← hq]; exact rOk W vk vn vs
  have HO1 : Hid (∀ W, Calls Tryz.prog 40 #[.agg #[.int .i64 2, .int .i64 n, .string ⟨#[]⟩]] W fun e w' => e = .returned (.bool true) ∧ Chg (fun _ => False) W w') := fun W => by
    have := vOk W 2 n ⟨#[]⟩
    rw [show okV 2 n ⟨#[]⟩ = true by simp [okV, empty_list]] at this
    exact this
  have HO2 : Hid (∀ W, Calls Tryz.prog 40 #[.agg #[.int .i64 3, .int .i64 0, .string s]] W fun e w' => e = .returned (.bool true) ∧ Chg (fun _ => False) W w') := fun W => vOk W 3 0 s
  have HO3 : Hid (∀ W, Calls Tryz.prog 40 #[.agg #[.int .i64 1, .int .i64 nb, .string ⟨#[]⟩]] W fun e w' => e = .returned (.bool true) ∧ Chg (fun _ => False) W w') := fun W => by
    have := vOk W 1 nb ⟨#[]⟩
    rw [show okV 1 nb ⟨#[]⟩ = true by rw [← hnb]; cases b <;> simp [okV, empty_list]] at this
    exact this
  clear hR hm hnb hq
  go_enter Tryz.func6, Tryz.ntmps6
  go_wp2_with fail
  obtain ⟨wa, ba, hwa, hba, hBa, hCa, hsa⟩ := alloc_named w #[.int .i64 vk, .int .i64 vn, .string vs] 67
  rw [hwa, hba]
  have HBA := Lib.hid hBa
  have HCA := Lib.hid hCa
  clear hwa hba hBa hCa hsa
  refine (vInt wa n).mono ?_
  rintro e w1 ⟨rfl, hC1⟩
  have HBA := Lib.hid (HBA.out.chg hC1 id)
  have HCA := Lib.hid (HCA.out.trans hC1)
  clear hC1
  go_wp2_with fail
  refine (vText w1 s).mono ?_
  rintro e w2 ⟨rfl, hC1⟩
  have HBA := Lib.hid (HBA.out.chg hC1 id)
  have HCA := Lib.hid (HCA.out.trans hC1)
  clear hC1
  go_wp2_with fail
  refine (HVB.out w2).mono ?_
  rintro e w3 ⟨rfl, hC1⟩
  have HBA := Lib.hid (HBA.out.chg hC1 id)
  have HCA := Lib.hid (HCA.out.trans hC1)
  clear hC1
  go_upto_region 2 with (fail)
  obtain ⟨x1, b1, hx1, hb1, hB1, hC1, hs1⟩ := alloc_named w3 #[.int .i64 2, .int .i64 n, .string ⟨#[]⟩] 67
  rw [hx1]
  obtain ⟨x2, b2, hx2, hb2, hB2, hC2, hs2⟩ := alloc_named x1 #[.int .i64 3, .int .i64 0, .string s] 67
  rw [hx2]
  obtain ⟨x3, b3, hx3, hb3, hB3, hC3, hs3⟩ := alloc_named x2 #[.int .i64 1, .int .i64 nb, .string ⟨#[]⟩] 67
  rw [hx3]
  have e1 : w3.heap.size + 1 = b2 := by omega
  have e2 : b2 + 1 = b3 := by omega
  simp only [hb1] at e1 ⊢
  simp only [e1, e2]
  have HBA := Lib.hid (((HBA.out.chg hC1 id).chg hC2 id).chg hC3 id)
  have HB1 := Lib.hid ((hB1.chg hC2 id).chg hC3 id)
  have HB2 := Lib.hid (hB2.chg hC3 id)
  have HB3 := Lib.hid hB3
  have HCZ := Lib.hid (((HCA.out.trans hC1).trans hC2).trans hC3)
  clear hx1 hb1 hB1 hC1 hs1 hx2 hb2 hB2 hC2 hs2 hx3 hb3 hB3 hC3 hs3 e1 e2 HCA
  obtain ⟨w5, hw5, hC5⟩ := drew_named x3
  have hC0 : Chg (fun _ => False) x3 w5 := hC5
  have SP : Hid (∀ W, Chg (fun _ => False) x3 W → W.cell? ⟨ba, 0, none⟩ = some (.int .i64 vk) ∧ W.cell? ⟨ba, 1, none⟩ = some (.int .i64 vn) ∧ W.cell? ⟨ba, 2, none⟩ = some (.string vs) ∧ W.cell? ⟨b1, 0, none⟩ = some (.int .i64 2) ∧ W.cell? ⟨b1, 1, none⟩ = some (.int .i64 n) ∧ W.cell? ⟨b1, 2, none⟩ = some (.string ⟨#[]⟩) ∧ W.cell? ⟨b2, 0, none⟩ = some (.int .i64 3) ∧ W.cell? ⟨b2, 1, none⟩ = some (.int .i64 0) ∧ W.cell? ⟨b2, 2, none⟩ = some (.string s) ∧ W.cell? ⟨b3, 0, none⟩ = some (.int .i64 1) ∧ W.cell? ⟨b3, 1, none⟩ = some (.int .i64 nb) ∧ W.cell? ⟨b3, 2, none⟩ = some (.string ⟨#[]⟩)) := fun W hW => ⟨(HBA.out.chg hW id).cell_ rfl, (HBA.out.chg hW id).cell_ rfl, (HBA.out.chg hW id).cell_ rfl, (HB1.out.chg hW id).cell_ rfl, (HB1.out.chg hW id).cell_ rfl, (HB1.out.chg hW id).cell_ rfl, (HB2.out.chg hW id).cell_ rfl, (HB2.out.chg hW id).cell_ rfl, (HB2.out.chg hW id).cell_ rfl, (HB3.out.chg hW id).cell_ rfl, (HB3.out.chg hW id).cell_ rfl, (HB3.out.chg hW id).cell_ rfl⟩
  have hS := SP.out _ hC0
  refine wp_region_till (s := 41) (S := (fun W => W.cell? ⟨ba, 0, none⟩ = some (.int .i64 vk) ∧ W.cell? ⟨ba, 1, none⟩ = some (.int .i64 vn) ∧ W.cell? ⟨ba, 2, none⟩ = some (.string vs) ∧ W.cell? ⟨b1, 0, none⟩ = some (.int .i64 2) ∧ W.cell? ⟨b1, 1, none⟩ = some (.int .i64 n) ∧ W.cell? ⟨b1, 2, none⟩ = some (.string ⟨#[]⟩) ∧ W.cell? ⟨b2, 0, none⟩ = some (.int .i64 3) ∧ W.cell? ⟨b2, 1, none⟩ = some (.int .i64 0) ∧ W.cell? ⟨b2, 2, none⟩ = some (.string s) ∧ W.cell? ⟨b3, 0, none⟩ = some (.int .i64 1) ∧ W.cell? ⟨b3, 1, none⟩ = some (.int .i64 nb) ∧ W.cell? ⟨b3, 2, none⟩ = some (.string ⟨#[]⟩))) (by kernel_rfl) ?_
  rw [hw5]
  clear hw5 hC5
  apply till_take0 (i := 1) (d := some 19)
  case hi => exact rfl
  case hd => exact rfl
  case hchk => kernel_rfl
  case hS => exact (fun _ => hS)
  case hy => apply yields_plain; exact rfl; intro w _; go_simp <;> with_reducible rfl
  case hQ => exact fun _ _ _ h => h
  simp only [Act.put, List.setIfInBounds_toArray, List.set_cons_zero, List.set_cons_succ]
  apply till_take (i := 0) (d := some 18) [41, 40, 38, 36, 34, 32, 30, 28, 25, 21, 19, 16, 14, 10, 8, 4, 3, 0]
  case hi => exact rfl
  case hd => exact rfl
  case hchk => kernel_rfl
  case hS => exact hS
  case hy => apply yields_plain; exact rfl; intro w hSw; (try dsimp only at hSw); go_split_ands; go_simp <;> with_reducible rfl
  case hQ => exact fun _ _ _ h => h
  simp only [Act.put, List.setIfInBounds_toArray, List.set_cons_zero, List.set_cons_succ]
  refine till_all (rs := [2]) (by kernel_rfl) (by simp) (mem_more (till_op (i := 2) (o := ⟨some 20, _, _, _, _, _⟩) rfl rfl (fun K hK => ?_)) (mem_none))
  go_simp
  go_at_call 36
  refine (rInt _ n).mono ?_
  rintro e wr2 ⟨rfl, hck⟩
  have hC0 := hC0.trans hck
  clear hck
  refine hK.out _ _ (fun _ => ?_) (fun hS2 => ?_)
  · exact SP.out _ hC0
  have hS3 := hS2 (by kernel_rfl)
  clear hK K hS hS2
  have hS := hS3
  clear hS3
  try simp only [Act.put, List.setIfInBounds_toArray, List.set_cons_zero, List.set_cons_succ]
  refine till_all (rs := [3]) (by kernel_rfl) (by simp) (mem_more (till_op (i := 3) (o := ⟨some 21, _, _, _, _, _⟩) rfl rfl (fun K hK => ?_)) (mem_none))
  go_simp
  go_at_call 35
  refine (rSame _ 2 n ⟨#[]⟩).mono ?_
  rintro e wr3 ⟨rfl, hck⟩
  have hC0 := hC0.trans hck
  clear hck
  refine hK.out _ _ (fun _ => ?_) (fun hS2 => ?_)
  · exact SP.out _ hC0
  have hS3 := hS2 (by kernel_rfl)
  clear hK K hS hS2
  have hS := hS3
  clear hS3
  try simp only [Act.put, List.setIfInBounds_toArray, List.set_cons_zero, List.set_cons_succ]
  apply till_take0 (i := 4) (d := some 22)
  case hi => exact rfl
  case hd => exact rfl
  case hchk => kernel_rfl
  case hS => exact (fun _ => hS)
  case hy => apply yields_plain; exact rfl; intro w _; go_simp <;> with_reducible rfl
  case hQ => exact fun _ _ _ h => h
  simp only [Act.put, List.setIfInBounds_toArray, List.set_cons_zero, List.set_cons_succ]
  apply till_take0 (i := 6) (d := some 24)
  case hi => exact rfl
  case hd => exact rfl
  case hchk => kernel_rfl
  case hS => exact (fun _ => hS)
  case hy => apply yields_want; kernel_rfl; intro w _; go_simp <;> with_reducible rfl
  case hQ => exact fun _ _ _ h => h
  simp only [Act.put, List.setIfInBounds_toArray, List.set_cons_zero, List.set_cons_succ]
  apply till_take (i := 5) (d := some 23) [41, 40, 38, 36, 34, 32, 30, 28, 25, 21, 19, 16, 14, 10, 8, 5]
  case hi => exact rfl
  case hd => exact rfl
  case hchk => kernel_rfl
  case hS => exact hS
  case hy => apply yields_want; kernel_rfl; intro w hSw; (try dsimp only at hSw); go_split_ands; go_simp <;> with_reducible rfl
  case hQ => exact fun _ _ _ h => h
  simp only [Act.put, List.setIfInBounds_toArray, List.set_cons_zero, List.set_cons_succ]
  refine till_all (rs := [7]) (by kernel_rfl) (by simp) (mem_more (till_opw (i := 7) (o := ⟨some 25, _, _, _, _, _⟩) rfl (by kernel_rfl) (fun K hK => ?_)) (mem_none))
  go_simp
  go_at_call 37
  refine (rText _ s).mono ?_
  rintro e wr7 ⟨rfl, hck⟩
  have hC0 := hC0.trans hck
  clear hck
  refine hK.out _ _ (fun _ => ?_) (fun hS2 => ?_)
  · exact SP.out _ hC0
  have hS3 := hS2 (by kernel_rfl)
  clear hK K hS hS2
  have hS := hS3
  clear hS3
  try simp only [Act.put, List.setIfInBounds_toArray, List.set_cons_zero, List.set_cons_succ]
  refine till_all (rs := [8]) (by kernel_rfl) (by simp) (mem_more (till_opw (i := 8) (o := ⟨some 26, _, _, _, _, _⟩) rfl (by kernel_rfl) (fun K hK => ?_)) (mem_none))
  go_simp
  go_at_call 35
  refine (rSame _ 3 0 s).mono ?_
  rintro e wr8 ⟨rfl, hck⟩
  have hC0 := hC0.trans hck
  clear hck
  refine hK.out _ _ (fun _ => ?_) (fun hS2 => ?_)
  · exact SP.out _ hC0
  have hS3 := hS2 (by kernel_rfl)
  clear hK K hS hS2
  have hS := hS3
  clear hS3
  try simp only [Act.put, List.setIfInBounds_toArray, List.set_cons_zero, List.set_cons_succ]
  apply till_take0 (i := 9) (d := some 27)
  case hi => exact rfl
  case hd => exact rfl
  case hchk => kernel_rfl
  case hS => exact (fun _ => hS)
  case hy => apply yields_plain; exact rfl; intro w _; go_simp <;> with_reducible rfl
  case hQ => exact fun _ _ _ h => h
  simp only [Act.put, List.setIfInBounds_toArray, List.set_cons_zero, List.set_cons_succ]
  apply till_take0 (i := 10) (d := some 28)
  case hi => exact rfl
  case hd => exact rfl
  case hchk => kernel_rfl
  case hS => exact (fun _ => hS)
  case hy => apply yields_plain; exact rfl; intro w _; go_simp <;> with_reducible rfl
  case hQ => exact fun _ _ _ h => h
  simp only [Act.put, List.setIfInBounds_toArray, List.set_cons_zero, List.set_cons_succ]
  apply till_take0 (i := 12) (d := some 30)
  case hi => exact rfl
  case hd => exact rfl
  case hchk => kernel_rfl
  case hS => exact (fun _ => hS)
  case hy => apply yields_want; kernel_rfl; intro w _; go_simp <;> with_reducible rfl
  case hQ => exact fun _ _ _ h => h
  simp only [Act.put, List.setIfInBounds_toArray, List.set_cons_zero, List.set_cons_succ]
  apply till_take (i := 11) (d := some 29) [41, 40, 38, 36, 34, 32, 30, 28, 25, 21, 19, 16, 14, 11]
  case hi => exact rfl
  case hd => exact rfl
  case hchk => kernel_rfl
  case hS => exact hS
  case hy => apply yields_want; kernel_rfl; intro w hSw; (try dsimp only at hSw); go_split_ands; go_simp <;> with_reducible rfl
  case hQ => exact fun _ _ _ h => h
  simp only [Act.put, List.setIfInBounds_toArray, List.set_cons_zero, List.set_cons_succ]
  refine till_all (rs := [13]) (by kernel_rfl) (by simp) (mem_more (till_opw (i := 13) (o := ⟨some 31, _, _, _, _, _⟩) rfl (by kernel_rfl) (fun K hK => ?_)) (mem_none))
  go_simp
  go_at_call 38
  refine (HRB.out _).mono ?_
  rintro e wr13 ⟨rfl, hck⟩
  have hC0 := hC0.trans hck
  clear hck
  refine hK.out _ _ (fun _ => ?_) (fun hS2 => ?_)
  · exact SP.out _ hC0
  have hS3 := hS2 (by kernel_rfl)
  clear hK K hS hS2
  have hS := hS3
  clear hS3
  try simp only [Act.put, List.setIfInBounds_toArray, List.set_cons_zero, List.set_cons_succ]
  refine till_all (rs := [14]) (by kernel_rfl) (by simp) (mem_more (till_opw (i := 14) (o := ⟨some 32, _, _, _, _, _⟩) rfl (by kernel_rfl) (fun K hK => ?_)) (mem_none))
  go_simp
  go_at_call 35
  refine (rSame _ 1 nb ⟨#[]⟩).mono ?_
  rintro e wr14 ⟨rfl, hck⟩
  have hC0 := hC0.trans hck
  clear hck
  refine hK.out _ _ (fun _ => ?_) (fun hS2 => ?_)
  · exact SP.out _ hC0
  have hS3 := hS2 (by kernel_rfl)
  clear hK K hS hS2
  have hS := hS3
  clear hS3
  try simp only [Act.put, List.setIfInBounds_toArray, List.set_cons_zero, List.set_cons_succ]
  apply till_take0 (i := 15) (d := some 33)
  case hi => exact rfl
  case hd => exact rfl
  case hchk => kernel_rfl
  case hS => exact (fun _ => hS)
  case hy => apply yields_plain; exact rfl; intro w _; go_simp <;> with_reducible rfl
  case hQ => exact fun _ _ _ h => h
  simp only [Act.put, List.setIfInBounds_toArray, List.set_cons_zero, List.set_cons_succ]
  apply till_take0 (i := 16) (d := some 34)
  case hi => exact rfl
  case hd => exact rfl
  case hchk => kernel_rfl
  case hS => exact (fun _ => hS)
  case hy => apply yields_plain; exact rfl; intro w _; go_simp <;> with_reducible rfl
  case hQ => exact fun _ _ _ h => h
  simp only [Act.put, List.setIfInBounds_toArray, List.set_cons_zero, List.set_cons_succ]
  apply till_take0 (i := 18) (d := some 36)
  case hi => exact rfl
  case hd => exact rfl
  case hchk => kernel_rfl
  case hS => exact (fun _ => hS)
  case hy => apply yields_want; kernel_rfl; intro w _; go_simp <;> with_reducible rfl
  case hQ => exact fun _ _ _ h => h
  simp only [Act.put, List.setIfInBounds_toArray, List.set_cons_zero, List.set_cons_succ]
  refine till_all (rs := [17]) (by kernel_rfl) (by simp) (mem_more (till_opw (i := 17) (o := ⟨some 35, _, _, _, _, _⟩) rfl (by kernel_rfl) (fun K hK => ?_)) (mem_none))
  go_simp
  go_at_call 39
  refine (vNull _).mono ?_
  rintro e wr17 ⟨rfl, hck⟩
  have hC0 := hC0.trans hck
  clear hck
  refine hK.out _ _ (fun _ => ?_) (fun hS2 => ?_)
  · exact SP.out _ hC0
  have hS3 := hS2 (by kernel_rfl)
  clear hK K hS hS2
  have hS := hS3
  clear hS3
  try simp only [Act.put, List.setIfInBounds_toArray, List.set_cons_zero, List.set_cons_succ]
  refine till_all (rs := [19]) (by kernel_rfl) (by simp) (mem_more (till_opw (i := 19) (o := ⟨some 37, _, _, _, _, _⟩) rfl (by kernel_rfl) (fun K hK => ?_)) (mem_none))
  go_simp
  go_at_call 35
  refine (rSame _ 0 0 ⟨#[]⟩).mono ?_
  rintro e wr19 ⟨rfl, hck⟩
  have hC0 := hC0.trans hck
  clear hck
  refine hK.out _ _ (fun _ => ?_) (fun hS2 => ?_)
  · exact SP.out _ hC0
  have hS3 := hS2 (by kernel_rfl)
  clear hK K hS hS2
  have hS := hS3
  clear hS3
  try simp only [Act.put, List.setIfInBounds_toArray, List.set_cons_zero, List.set_cons_succ]
  apply till_take0 (i := 20) (d := some 38)
  case hi => exact rfl
  case hd => exact rfl
  case hchk => kernel_rfl
  case hS => exact (fun _ => hS)
  case hy => apply yields_plain; exact rfl; intro w _; go_simp <;> with_reducible rfl
  case hQ => exact fun _ _ _ h => h
  simp only [Act.put, List.setIfInBounds_toArray, List.set_cons_zero, List.set_cons_succ]
  apply till_take0 (i := 21) (d := some 39)
  case hi => exact rfl
  case hd => exact rfl
  case hchk => kernel_rfl
  case hS => exact (fun _ => hS)
  case hy => apply yields_plain; exact rfl; intro w _; go_simp <;> with_reducible rfl
  case hQ => exact fun _ _ _ h => h
  simp only [Act.put, List.setIfInBounds_toArray, List.set_cons_zero, List.set_cons_succ]
  apply till_take (i := 22) (d := some 40) [41, 40, 38, 36, 34, 32, 30, 28, 25, 23, 22]
  case hi => exact rfl
  case hd => exact rfl
  case hchk => kernel_rfl
  case hS => exact hS
  case hy => apply yields_want; kernel_rfl; intro w hSw; (try dsimp only at hSw); go_split_ands; go_simp <;> with_reducible rfl
  case hQ => exact fun _ _ _ h => h
  simp only [Act.put, List.setIfInBounds_toArray, List.set_cons_zero, List.set_cons_succ]
  apply till_take (i := 24) (d := some 42) [41, 40, 38, 36, 34, 32, 30, 28, 25, 24]
  case hi => exact rfl
  case hd => exact rfl
  case hchk => kernel_rfl
  case hS => exact hS
  case hy => apply yields_want; kernel_rfl; intro w hSw; (try dsimp only at hSw); go_split_ands; go_simp <;> with_reducible rfl
  case hQ => exact fun _ _ _ h => h
  simp only [Act.put, List.setIfInBounds_toArray, List.set_cons_zero, List.set_cons_succ]
  refine till_all (rs := [23]) (by kernel_rfl) (by simp) (mem_more (till_opw (i := 23) (o := ⟨some 41, _, _, _, _, _⟩) rfl (by kernel_rfl) (fun K hK => ?_)) (mem_none))
  go_simp
  go_at_call 40
  refine (HOV.out _).mono ?_
  rintro e wr23 ⟨rfl, hck⟩
  have hC0 := hC0.trans hck
  clear hck
  refine hK.out _ _ (fun _ => ?_) (fun hS2 => ?_)
  · exact SP.out _ hC0
  have hS3 := hS2 (by kernel_rfl)
  clear hK K hS hS2
  have hS := hS3
  clear hS3
  try simp only [Act.put, List.setIfInBounds_toArray, List.set_cons_zero, List.set_cons_succ]
  refine till_all (rs := [25]) (by kernel_rfl) (by simp) (mem_more (till_opw (i := 25) (o := ⟨some 43, _, _, _, _, _⟩) rfl (by kernel_rfl) (fun K hK => ?_)) (mem_none))
  go_simp
  go_at_call 41
  refine (HOR.out _).mono ?_
  rintro e wr25 ⟨rfl, hck⟩
  have hC0 := hC0.trans hck
  clear hck
  refine hK.out _ _ (fun _ => ?_) (fun hS2 => ?_)
  · exact SP.out _ hC0
  have hS3 := hS2 (by kernel_rfl)
  clear hK K hS hS2
  have hS := hS3
  clear hS3
  try simp only [Act.put, List.setIfInBounds_toArray, List.set_cons_zero, List.set_cons_succ]
  apply till_take0 (i := 26) (d := some 44)
  case hi => exact rfl
  case hd => exact rfl
  case hchk => kernel_rfl
  case hS => exact (fun _ => hS)
  case hy => apply yields_want; kernel_rfl; intro w _; go_simp <;> with_reducible rfl
  case hQ => exact fun _ _ _ h => h
  simp only [Act.put, List.setIfInBounds_toArray, List.set_cons_zero, List.set_cons_succ]
  apply till_take0 (i := 27) (d := some 45)
  case hi => exact rfl
  case hd => exact rfl
  case hchk => kernel_rfl
  case hS => exact (fun _ => hS)
  case hy => apply yields_plain; exact rfl; intro w _; go_simp <;> with_reducible rfl
  case hQ => exact fun _ _ _ h => h
  simp only [Act.put, List.setIfInBounds_toArray, List.set_cons_zero, List.set_cons_succ]
  apply till_take0 (i := 28) (d := some 46)
  case hi => exact rfl
  case hd => exact rfl
  case hchk => kernel_rfl
  case hS => exact (fun _ => hS)
  case hy => apply yields_plain; exact rfl; intro w _; go_simp <;> with_reducible rfl
  case hQ => exact fun _ _ _ h => h
  simp only [Act.put, List.setIfInBounds_toArray, List.set_cons_zero, List.set_cons_succ]
  apply till_take (i := 29) (d := some 47) [41, 40, 38, 36, 34, 32, 30, 29]
  case hi => exact rfl
  case hd => exact rfl
  case hchk => kernel_rfl
  case hS => exact hS
  case hy => apply yields_want; kernel_rfl; intro w hSw; (try dsimp only at hSw); go_split_ands; go_simp <;> with_reducible rfl
  case hQ => exact fun _ _ _ h => h
  simp only [Act.put, List.setIfInBounds_toArray, List.set_cons_zero, List.set_cons_succ]
  refine till_all (rs := [30]) (by kernel_rfl) (by simp) (mem_more (till_opw (i := 30) (o := ⟨some 48, _, _, _, _, _⟩) rfl (by kernel_rfl) (fun K hK => ?_)) (mem_none))
  go_simp
  go_at_call 40
  refine (HO1.out _).mono ?_
  rintro e wr30 ⟨rfl, hck⟩
  have hC0 := hC0.trans hck
  clear hck
  refine hK.out _ _ (fun _ => ?_) (fun hS2 => ?_)
  · exact SP.out _ hC0
  have hS3 := hS2 (by kernel_rfl)
  clear hK K hS hS2
  have hS := hS3
  clear hS3
  try simp only [Act.put, List.setIfInBounds_toArray, List.set_cons_zero, List.set_cons_succ]
  apply till_take0 (i := 31) (d := some 49)
  case hi => exact rfl
  case hd => exact rfl
  case hchk => kernel_rfl
  case hS => exact (fun _ => hS)
  case hy => apply yields_plain; exact rfl; intro w _; go_simp <;> with_reducible rfl
  case hQ => exact fun _ _ _ h => h
  simp only [Act.put, List.setIfInBounds_toArray, List.set_cons_zero, List.set_cons_succ]
  apply till_take0 (i := 32) (d := some 50)
  case hi => exact rfl
  case hd => exact rfl
  case hchk => kernel_rfl
  case hS => exact (fun _ => hS)
  case hy => apply yields_plain; exact rfl; intro w _; go_simp <;> with_reducible rfl
  case hQ => exact fun _ _ _ h => h
  simp only [Act.put, List.setIfInBounds_toArray, List.set_cons_zero, List.set_cons_succ]
  apply till_take (i := 33) (d := some 51) [41, 40, 38, 36, 34, 33]
  case hi => exact rfl
  case hd => exact rfl
  case hchk => kernel_rfl
  case hS => exact hS
  case hy => apply yields_want; kernel_rfl; intro w hSw; (try dsimp only at hSw); go_split_ands; go_simp <;> with_reducible rfl
  case hQ => exact fun _ _ _ h => h
  simp only [Act.put, List.setIfInBounds_toArray, List.set_cons_zero, List.set_cons_succ]
  refine till_all (rs := [34]) (by kernel_rfl) (by simp) (mem_more (till_opw (i := 34) (o := ⟨some 52, _, _, _, _, _⟩) rfl (by kernel_rfl) (fun K hK => ?_)) (mem_none))
  go_simp
  go_at_call 40
  refine (HO2.out _).mono ?_
  rintro e wr34 ⟨rfl, hck⟩
  have hC0 := hC0.trans hck
  clear hck
  refine hK.out _ _ (fun _ => ?_) (fun hS2 => ?_)
  · exact SP.out _ hC0
  have hS3 := hS2 (by kernel_rfl)
  clear hK K hS hS2
  have hS := hS3
  clear hS3
  try simp only [Act.put, List.setIfInBounds_toArray, List.set_cons_zero, List.set_cons_succ]
  apply till_take0 (i := 35) (d := some 53)
  case hi => exact rfl
  case hd => exact rfl
  case hchk => kernel_rfl
  case hS => exact (fun _ => hS)
  case hy => apply yields_plain; exact rfl; intro w _; go_simp <;> with_reducible rfl
  case hQ => exact fun _ _ _ h => h
  simp only [Act.put, List.setIfInBounds_toArray, List.set_cons_zero, List.set_cons_succ]
  apply till_take0 (i := 36) (d := some 54)
  case hi => exact rfl
  case hd => exact rfl
  case hchk => kernel_rfl
  case hS => exact (fun _ => hS)
  case hy => apply yields_plain; exact rfl; intro w _; go_simp <;> with_reducible rfl
  case hQ => exact fun _ _ _ h => h
  simp only [Act.put, List.setIfInBounds_toArray, List.set_cons_zero, List.set_cons_succ]
  apply till_take (i := 37) (d := some 55) [41, 40, 38, 37]
  case hi => exact rfl
  case hd => exact rfl
  case hchk => kernel_rfl
  case hS => exact hS
  case hy => apply yields_want; kernel_rfl; intro w hSw; (try dsimp only at hSw); go_split_ands; go_simp <;> with_reducible rfl
  case hQ => exact fun _ _ _ h => h
  simp only [Act.put, List.setIfInBounds_toArray, List.set_cons_zero, List.set_cons_succ]
  refine till_all (rs := [38]) (by kernel_rfl) (by simp) (mem_more (till_opw (i := 38) (o := ⟨some 56, _, _, _, _, _⟩) rfl (by kernel_rfl) (fun K hK => ?_)) (mem_none))
  go_simp
  go_at_call 40
  refine (HO3.out _).mono ?_
  rintro e wr38 ⟨rfl, hck⟩
  have hC0 := hC0.trans hck
  clear hck
  refine hK.out _ _ (fun _ => ?_) (fun hS2 => ?_)
  · exact SP.out _ hC0
  have hS3 := hS2 (by kernel_rfl)
  clear hK K hS hS2
  have hS := hS3
  clear hS3
  try simp only [Act.put, List.setIfInBounds_toArray, List.set_cons_zero, List.set_cons_succ]
  apply till_take0 (i := 39) (d := some 57)
  case hi => exact rfl
  case hd => exact rfl
  case hchk => kernel_rfl
  case hS => exact (fun _ => hS)
  case hy => apply yields_plain; exact rfl; intro w _; go_simp <;> with_reducible rfl
  case hQ => exact fun _ _ _ h => h
  simp only [Act.put, List.setIfInBounds_toArray, List.set_cons_zero, List.set_cons_succ]
  apply till_take0 (i := 40) (d := some 58)
  case hi => exact rfl
  case hd => exact rfl
  case hchk => kernel_rfl
  case hS => exact (fun _ => hS)
  case hy => apply yields_plain; exact rfl; intro w _; go_simp <;> with_reducible rfl
  case hQ => exact fun _ _ _ h => h
  simp only [Act.put, List.setIfInBounds_toArray, List.set_cons_zero, List.set_cons_succ]
  refine till_all (rs := [41]) (by kernel_rfl) (by simp) (mem_more (till_opw (i := 41) (o := ⟨some 59, _, _, _, _, _⟩) rfl (by kernel_rfl) (fun K hK => ?_)) (mem_none))
  go_simp
  go_at_call 42
  refine (HAW.out _ (HCZ.out.trans hC0)).mono ?_
  rintro e wr41 ⟨rfl, hck⟩
  have hC0 := hC0.trans hck
  clear hck
  refine hK.out _ _ (fun h => by cases (show true = false from h)) (fun _ => ?_)
  clear hK K hS
  try simp only [Act.put, List.setIfInBounds_toArray, List.set_cons_zero, List.set_cons_succ]
  apply till_take0 (i := 42) (d := some 60)
  case hi => exact rfl
  case hd => exact rfl
  case hchk => kernel_rfl
  case hS => exact (fun h => by cases (show true = false from h))
  case hy => apply yields_plain; exact rfl; intro w _; go_simp <;> with_reducible rfl
  case hQ => exact fun _ _ _ h => h
  simp only [Act.put, List.setIfInBounds_toArray, List.set_cons_zero, List.set_cons_succ]
  refine till_all (rs := [43]) (by kernel_rfl) (by simp) (mem_more (till_op (i := 43) (o := ⟨some 8, _, _, _, _, _⟩) rfl rfl (fun K hK => ?_)) (mem_none))
  go_simp
  refine hK.out _ _ (fun h => by cases (show true = false from h)) (fun _ => ?_)
  clear hK K
  try simp only [Act.put, List.setIfInBounds_toArray, List.set_cons_zero, List.set_cons_succ]
  refine till_done (by kernel_rfl) ?_
  have HCE := Lib.hid (HCZ.out.trans hC0)
  clear hC0
  go_wp2_with fail
  exact HP.out _ _ rfl HCE.out
end Go.Proofs.YtdmooacjllidhaaGreatDoor
