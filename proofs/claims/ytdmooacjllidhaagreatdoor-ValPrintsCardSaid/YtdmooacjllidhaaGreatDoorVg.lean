/-
  What the document fixes of values. Conditions: the library's variable is laid.
-/
import Derived.Test.YtdmooacjllidhaaGreatDoorVf
set_option linter.unusedVariables false
set_option linter.unusedSimpArgs false
namespace Go.Proofs.YtdmooacjllidhaaGreatDoor
open Go.RowKit

theorem empty_list : (⟨#[]⟩ : ByteArray).toList = [] := by rw [Lib.toList_data]
theorem cln_int (n : Int) : cln 2 n ⟨#[]⟩ = (2, n, ⟨#[]⟩) := by simp [cln, okV, empty_list]
theorem cln_null : cln 0 0 ⟨#[]⟩ = (0, 0, ⟨#[]⟩) := by simp [cln]

set_option maxHeartbeats 4000000 in
set_option maxRecDepth 100000 in
theorem awake11 (w : World) (m : Int) (hm : w.cell? ⟨2, 0, none⟩ = some (.int .i64 m)) : Calls Tryz.prog 42 #[] w fun e w' => e = .returned (.bool true) ∧ Chg (fun _ => False) w w' := by
  obtain ⟨R, hR⟩ : ∃ R : Ending → World → Prop, R = fun e w' => e = .returned (.bool true) ∧ Chg (fun _ => False) w w' := ⟨_, rfl⟩
  rw [← hR]
  have HP : Hid (∀ e w', e = .returned (.bool true) → Chg (fun _ => False) w w' → R e w') := fun e w' h1 h2 => by rw [hR]; exact ⟨h1, h2⟩
  have HPR : Hid (∀ W, Chg (fun _ => False) w W → Calls Tryz.prog 64 #[.agg #[.int .i64 3, .int .i64 0, .string ⟨#[105, 116, 39, 115]⟩]] W fun e w' => e = .returned (.string ⟨#[39, 105, 116, 39, 39, 115, 39]⟩) ∧ Chg (fun _ => False) W w') :=
    fun W hW => print_its W m ((hW.cell (World.block_lt_of_cell? _ _ hm) id).trans hm)
  have HCM : Hid (∀ W, Calls Tryz.prog 44 #[.agg #[.int .i64 2, .int .i64 3, .string ⟨#[]⟩], .agg #[.int .i64 2, .int .i64 5, .string ⟨#[]⟩], .agg #[.int .i64 1, .int .i64 0, .bool false, .bool false, .pointer none]] W fun e w' => e = .returned (.tuple #[.int .i64 (-1), .bool true, .int .i64 0]) ∧ Chg (fun _ => False) W w') :=
    fun W => by
      have := vCmp W 2 3 2 5 ⟨#[]⟩ ⟨#[]⟩ 1 0 false false none (fun _ _ => 0) (fun h => by rw [cln_int] at h; cases h)
      rw [cln_int, cln_int] at this
      exact this
  have HSM : Hid (∀ W, Calls Tryz.prog 48 #[.agg #[.int .i64 0, .int .i64 0, .string ⟨#[]⟩], .agg #[.int .i64 0, .int .i64 0, .string ⟨#[]⟩], .agg #[.int .i64 1, .int .i64 0, .bool false, .bool false, .pointer none]] W fun e w' => e = .returned (.bool true) ∧ Chg (fun _ => False) W w') :=
    fun W => by
      have := vSame W 0 0 0 0 ⟨#[]⟩ ⟨#[]⟩ 1 0 false false none (fun _ _ => 0) (fun h => by rw [cln_null] at h; cases h)
      rw [cln_null] at this
      exact this
  have HVB : Hid (∀ W, Calls Tryz.prog 34 #[.bool true] W fun e w' => e = .returned (.agg #[.int .i64 1, .int .i64 1, .string ⟨#[]⟩]) ∧ Chg (fun _ => False) W w') := fun W => vBool W true
  clear hR hm
  go_enter Tryz.func42, Tryz.ntmps42
  go_wp2_with fail
  refine (make1 w 1 0 false false ⟨#[]⟩ (.inl rfl)).mono ?_
  rintro e w1 ⟨rfl, hC1⟩
  have HC1 := Lib.hid hC1
  clear hC1
  go_upto_region 2 with (fail)
  obtain ⟨w2, b2, hw2, hb2, hB2, hC2, hs2⟩ := alloc_named w1 #[.int .i64 1, .int .i64 0, .bool false, .bool false, .pointer none] 25
  rw [hw2]
  obtain ⟨w3, b3, hw3, hb3, hB3, hC3, hs3⟩ := alloc_named w2 #[.int .i64 1, .int .i64 0, .bool false, .bool false, .slice none 0 0] 31
  rw [hw3]
  have e1 : w1.heap.size + 1 = b3 := by omega
  simp only [hb2] at e1 ⊢
  simp only [e1]
  have HB2 := Lib.hid (hB2.chg hC3 id)
  have HC3 := Lib.hid ((HC1.out.trans hC2).trans hC3)
  clear hw2 hb2 hB2 hC2 hs2 hw3 hb3 hB3 hC3 hs3 e1
  go_wp2_with fail
  obtain ⟨w5, hw5, hC5⟩ := drew_named w3
  have hC0 : Chg (fun _ => False) w3 w5 := hC5
  have SP : Hid (∀ W, Chg (fun _ => False) w3 W → W.cell? ⟨b2, 0, none⟩ = some (.int .i64 1) ∧ W.cell? ⟨b2, 1, none⟩ = some (.int .i64 0) ∧ W.cell? ⟨b2, 2, none⟩ = some (.bool false) ∧ W.cell? ⟨b2, 3, none⟩ = some (.bool false) ∧ W.cell? ⟨b2, 4, none⟩ = some (.pointer none)) := fun W hW => by
    have h := HB2.out.chg hW id
    exact ⟨h.cell_ rfl, h.cell_ rfl, h.cell_ rfl, h.cell_ rfl, h.cell_ rfl⟩
  have hS := SP.out _ hC0
  refine wp_region_till (s := 3) (S := (fun W => W.cell? ⟨b2, 0, none⟩ = some (.int .i64 1) ∧ W.cell? ⟨b2, 1, none⟩ = some (.int .i64 0) ∧ W.cell? ⟨b2, 2, none⟩ = some (.bool false) ∧ W.cell? ⟨b2, 3, none⟩ = some (.bool false) ∧ W.cell? ⟨b2, 4, none⟩ = some (.pointer none))) (by kernel_rfl) ?_
  rw [hw5]
  clear hw5 hC5
  apply till_take (i := 2) (d := some 15) [3, 2]
  case hi => exact rfl
  case hd => exact rfl
  case hchk => kernel_rfl
  case hS => exact hS
  case hy => apply yields_plain; exact rfl; intro w hSw; (try dsimp only at hSw); go_split_ands; go_simp <;> with_reducible rfl
  case hQ => exact fun _ _ _ h => h
  simp only [Act.put, List.setIfInBounds_toArray, List.set_cons_zero, List.set_cons_succ]
  refine till_all (rs := [0]) (by kernel_rfl) (by simp) (mem_more (till_op (i := 0) (o := ⟨some 13, _, _, _, _, _⟩) rfl rfl (fun K hK => ?_)) (mem_none))
  go_simp
  go_at_call 32
  refine (vInt _ 3).mono ?_
  rintro e wi ⟨rfl, hck⟩
  have hC0 := hC0.trans hck
  clear hck
  refine hK.out _ _ (fun _ => ?_) (fun hS2 => ?_)
  · exact SP.out _ hC0
  have hS3 := hS2 (by kernel_rfl)
  clear hK K hS hS2
  have hS := hS3
  clear hS3
  try simp only [Act.put, List.setIfInBounds_toArray, List.set_cons_zero, List.set_cons_succ]
  refine till_all (rs := [1]) (by kernel_rfl) (by simp) (mem_more (till_op (i := 1) (o := ⟨some 14, _, _, _, _, _⟩) rfl rfl (fun K hK => ?_)) (mem_none))
  go_simp
  go_at_call 32
  refine (vInt _ 5).mono ?_
  rintro e wj ⟨rfl, hck⟩
  have hC0 := hC0.trans hck
  clear hck
  refine hK.out _ _ (fun _ => ?_) (fun hS2 => ?_)
  · exact SP.out _ hC0
  have hS3 := hS2 (by kernel_rfl)
  clear hK K hS hS2
  have hS := hS3
  clear hS3
  try simp only [Act.put, List.setIfInBounds_toArray, List.set_cons_zero, List.set_cons_succ]
  refine till_all (rs := [3]) (by kernel_rfl) (by simp) (mem_more (till_op (i := 3) (o := ⟨some 16, _, _, _, _, _⟩) rfl rfl (fun K hK => ?_)) (mem_none))
  go_simp
  go_at_call 44
  refine (HCM.out _).mono ?_
  rintro e wk ⟨rfl, hck⟩
  have hC0 := hC0.trans hck
  clear hck
  refine hK.out _ _ (fun h => by cases (show true = false from h)) (fun _ => ?_)
  clear hK K hS
  try simp only [Act.put, List.setIfInBounds_toArray, List.set_cons_zero, List.set_cons_succ]
  apply till_take0 (i := 4) (d := some 12)
  case hi => exact rfl
  case hd => exact rfl
  case hchk => kernel_rfl
  case hS => exact (fun h => by cases (show true = false from h))
  case hy => apply yields_plain; exact rfl; intro w _; go_simp <;> with_reducible rfl
  case hQ => exact fun _ _ _ h => h
  simp only [Act.put, List.setIfInBounds_toArray, List.set_cons_zero, List.set_cons_succ]
  apply till_take0 (i := 5) (d := some 17)
  case hi => exact rfl
  case hd => exact rfl
  case hchk => kernel_rfl
  case hS => exact (fun h => by cases (show true = false from h))
  case hy => apply yields_plain; exact rfl; intro w _; go_simp <;> with_reducible rfl
  case hQ => exact fun _ _ _ h => h
  simp only [Act.put, List.setIfInBounds_toArray, List.set_cons_zero, List.set_cons_succ]
  apply till_take0 (i := 6) (d := some 18)
  case hi => exact rfl
  case hd => exact rfl
  case hchk => kernel_rfl
  case hS => exact (fun h => by cases (show true = false from h))
  case hy => apply yields_plain; exact rfl; intro w _; go_simp <;> with_reducible rfl
  case hQ => exact fun _ _ _ h => h
  simp only [Act.put, List.setIfInBounds_toArray, List.set_cons_zero, List.set_cons_succ]
  apply till_take0 (i := 7) (d := some 19)
  case hi => exact rfl
  case hd => exact rfl
  case hchk => kernel_rfl
  case hS => exact (fun h => by cases (show true = false from h))
  case hy => apply yields_plain; exact rfl; intro w _; go_simp <;> with_reducible rfl
  case hQ => exact fun _ _ _ h => h
  simp only [Act.put, List.setIfInBounds_toArray, List.set_cons_zero, List.set_cons_succ]
  refine till_all (rs := [8]) (by kernel_rfl) (by simp) (mem_more (till_op (i := 8) (o := ⟨some 4, _, _, _, _, _⟩) rfl rfl (fun K hK => ?_)) (mem_none))
  go_simp
  refine hK.out _ _ (fun h => by cases (show true = false from h)) (fun _ => ?_)
  clear hK K
  try simp only [Act.put, List.setIfInBounds_toArray, List.set_cons_zero, List.set_cons_succ]
  refine till_all (rs := [9]) (by kernel_rfl) (by simp) (mem_more (till_op (i := 9) (o := ⟨some 5, _, _, _, _, _⟩) rfl rfl (fun K hK => ?_)) (mem_none))
  go_simp
  refine hK.out _ _ (fun h => by cases (show true = false from h)) (fun _ => ?_)
  clear hK K
  try simp only [Act.put, List.setIfInBounds_toArray, List.set_cons_zero, List.set_cons_succ]
  refine till_all (rs := [10]) (by kernel_rfl) (by simp) (mem_more (till_op (i := 10) (o := ⟨some 6, _, _, _, _, _⟩) rfl rfl (fun K hK => ?_)) (mem_none))
  go_simp
  refine hK.out _ _ (fun h => by cases (show true = false from h)) (fun _ => ?_)
  clear hK K
  try simp only [Act.put, List.setIfInBounds_toArray, List.set_cons_zero, List.set_cons_succ]
  refine till_done (by kernel_rfl) ?_
  have HC0 := Lib.hid hC0
  clear hC0
  go_wp2_with fail
  obtain ⟨w7, hw7, hC7⟩ := drew_named wk
  have hC0 : Chg (fun _ => False) w3 w7 := HC0.out.trans hC7
  have hfd : ∀ W, (Instr.field 67 (.agg #[.int .i64 1, .int .i64 1, .string ⟨#[]⟩]) 1).run Tryz.prog W = .ok (.int .i64 1) W := fun W => by kernel_rfl
  have hS := SP.out _ hC0
  refine wp_region_till (s := 21) (S := (fun W => W.cell? ⟨b2, 0, none⟩ = some (.int .i64 1) ∧ W.cell? ⟨b2, 1, none⟩ = some (.int .i64 0) ∧ W.cell? ⟨b2, 2, none⟩ = some (.bool false) ∧ W.cell? ⟨b2, 3, none⟩ = some (.bool false) ∧ W.cell? ⟨b2, 4, none⟩ = some (.pointer none))) (by kernel_rfl) ?_
  rw [hw7]
  clear hw7 hC7
  apply till_take0 (i := 0) (d := some 20)
  case hi => exact rfl
  case hd => exact rfl
  case hchk => kernel_rfl
  case hS => exact (fun _ => hS)
  case hy => apply yields_plain; exact rfl; intro w _; go_simp <;> with_reducible rfl
  case hQ => exact fun _ _ _ h => h
  simp only [Act.put, List.setIfInBounds_toArray, List.set_cons_zero, List.set_cons_succ]
  apply till_take0 (i := 1) (d := some 21)
  case hi => exact rfl
  case hd => exact rfl
  case hchk => kernel_rfl
  case hS => exact (fun _ => hS)
  case hy => apply yields_plain; exact rfl; intro w _; go_simp <;> with_reducible rfl
  case hQ => exact fun _ _ _ h => h
  simp only [Act.put, List.setIfInBounds_toArray, List.set_cons_zero, List.set_cons_succ]
  refine till_all (rs := [2]) (by kernel_rfl) (by simp) (mem_more (till_opw (i := 2) (o := ⟨some 22, _, _, _, _, _⟩) rfl (by kernel_rfl) (fun K hK => ?_)) (mem_none))
  go_simp
  go_at_call 33
  refine (vText _ _).mono ?_
  rintro e wi ⟨rfl, hck⟩
  have hC0 := hC0.trans hck
  clear hck
  refine hK.out _ _ (fun _ => ?_) (fun hS2 => ?_)
  · exact SP.out _ hC0
  have hS3 := hS2 (by kernel_rfl)
  clear hK K hS hS2
  have hS := hS3
  clear hS3
  try simp only [Act.put, List.setIfInBounds_toArray, List.set_cons_zero, List.set_cons_succ]
  refine till_all (rs := [3]) (by kernel_rfl) (by simp) (mem_more (till_opw (i := 3) (o := ⟨some 23, _, _, _, _, _⟩) rfl (by kernel_rfl) (fun K hK => ?_)) (mem_none))
  go_simp
  go_at_call 64
  refine (HPR.out _ (HC3.out.trans hC0)).mono ?_
  rintro e wj ⟨rfl, hck⟩
  have hC0 := hC0.trans hck
  clear hck
  refine hK.out _ _ (fun _ => ?_) (fun hS2 => ?_)
  · exact SP.out _ hC0
  have hS3 := hS2 (by kernel_rfl)
  clear hK K hS hS2
  have hS := hS3
  clear hS3
  try simp only [Act.put, List.setIfInBounds_toArray, List.set_cons_zero, List.set_cons_succ]
  apply till_take0 (i := 4) (d := some 24)
  case hi => exact rfl
  case hd => exact rfl
  case hchk => kernel_rfl
  case hS => exact (fun _ => hS)
  case hy => apply yields_want; kernel_rfl; intro w _; go_simp <;> with_reducible rfl
  case hQ => exact fun _ _ _ h => h
  simp only [Act.put, List.setIfInBounds_toArray, List.set_cons_zero, List.set_cons_succ]
  apply till_take0 (i := 5) (d := some 25)
  case hi => exact rfl
  case hd => exact rfl
  case hchk => kernel_rfl
  case hS => exact (fun _ => hS)
  case hy => apply yields_plain; exact rfl; intro w _; go_simp <;> with_reducible rfl
  case hQ => exact fun _ _ _ h => h
  simp only [Act.put, List.setIfInBounds_toArray, List.set_cons_zero, List.set_cons_succ]
  apply till_take0 (i := 6) (d := some 26)
  case hi => exact rfl
  case hd => exact rfl
  case hchk => kernel_rfl
  case hS => exact (fun _ => hS)
  case hy => apply yields_plain; exact rfl; intro w _; go_simp <;> with_reducible rfl
  case hQ => exact fun _ _ _ h => h
  simp only [Act.put, List.setIfInBounds_toArray, List.set_cons_zero, List.set_cons_succ]
  apply till_take0 (i := 7) (d := some 27)
  case hi => exact rfl
  case hd => exact rfl
  case hchk => kernel_rfl
  case hS => exact (fun _ => hS)
  case hy => apply yields_want; kernel_rfl; intro w _; go_simp <;> with_reducible rfl
  case hQ => exact fun _ _ _ h => h
  simp only [Act.put, List.setIfInBounds_toArray, List.set_cons_zero, List.set_cons_succ]
  apply till_take0 (i := 8) (d := some 28)
  case hi => exact rfl
  case hd => exact rfl
  case hchk => kernel_rfl
  case hS => exact (fun _ => hS)
  case hy => apply yields_want; kernel_rfl; intro w _; go_simp <;> with_reducible rfl
  case hQ => exact fun _ _ _ h => h
  simp only [Act.put, List.setIfInBounds_toArray, List.set_cons_zero, List.set_cons_succ]
  apply till_take0 (i := 9) (d := some 29)
  case hi => exact rfl
  case hd => exact rfl
  case hchk => kernel_rfl
  case hS => exact (fun _ => hS)
  case hy => apply yields_plain; exact rfl; intro w _; go_simp <;> with_reducible rfl
  case hQ => exact fun _ _ _ h => h
  simp only [Act.put, List.setIfInBounds_toArray, List.set_cons_zero, List.set_cons_succ]
  apply till_take0 (i := 10) (d := some 30)
  case hi => exact rfl
  case hd => exact rfl
  case hchk => kernel_rfl
  case hS => exact (fun _ => hS)
  case hy => apply yields_plain; exact rfl; intro w _; go_simp <;> with_reducible rfl
  case hQ => exact fun _ _ _ h => h
  simp only [Act.put, List.setIfInBounds_toArray, List.set_cons_zero, List.set_cons_succ]
  apply till_take0 (i := 11) (d := some 31)
  case hi => exact rfl
  case hd => exact rfl
  case hchk => kernel_rfl
  case hS => exact (fun _ => hS)
  case hy => apply yields_want; kernel_rfl; intro w _; go_simp <;> with_reducible rfl
  case hQ => exact fun _ _ _ h => h
  simp only [Act.put, List.setIfInBounds_toArray, List.set_cons_zero, List.set_cons_succ]
  apply till_take0 (i := 12) (d := some 32)
  case hi => exact rfl
  case hd => exact rfl
  case hchk => kernel_rfl
  case hS => exact (fun _ => hS)
  case hy => apply yields_plain; exact rfl; intro w _; go_simp <;> with_reducible rfl
  case hQ => exact fun _ _ _ h => h
  simp only [Act.put, List.setIfInBounds_toArray, List.set_cons_zero, List.set_cons_succ]
  apply till_take0 (i := 13) (d := some 33)
  case hi => exact rfl
  case hd => exact rfl
  case hchk => kernel_rfl
  case hS => exact (fun _ => hS)
  case hy => apply yields_plain; exact rfl; intro w _; go_simp <;> with_reducible rfl
  case hQ => exact fun _ _ _ h => h
  simp only [Act.put, List.setIfInBounds_toArray, List.set_cons_zero, List.set_cons_succ]
  apply till_take0 (i := 14) (d := some 34)
  case hi => exact rfl
  case hd => exact rfl
  case hchk => kernel_rfl
  case hS => exact (fun _ => hS)
  case hy => apply yields_want; kernel_rfl; intro w _; go_simp <;> with_reducible rfl
  case hQ => exact fun _ _ _ h => h
  simp only [Act.put, List.setIfInBounds_toArray, List.set_cons_zero, List.set_cons_succ]
  apply till_take0 (i := 15) (d := some 35)
  case hi => exact rfl
  case hd => exact rfl
  case hchk => kernel_rfl
  case hS => exact (fun _ => hS)
  case hy => apply yields_want; kernel_rfl; intro w _; go_simp <;> with_reducible rfl
  case hQ => exact fun _ _ _ h => h
  simp only [Act.put, List.setIfInBounds_toArray, List.set_cons_zero, List.set_cons_succ]
  apply till_take0 (i := 16) (d := some 36)
  case hi => exact rfl
  case hd => exact rfl
  case hchk => kernel_rfl
  case hS => exact (fun _ => hS)
  case hy => apply yields_plain; exact rfl; intro w _; go_simp <;> with_reducible rfl
  case hQ => exact fun _ _ _ h => h
  simp only [Act.put, List.setIfInBounds_toArray, List.set_cons_zero, List.set_cons_succ]
  apply till_take0 (i := 17) (d := some 37)
  case hi => exact rfl
  case hd => exact rfl
  case hchk => kernel_rfl
  case hS => exact (fun _ => hS)
  case hy => apply yields_plain; exact rfl; intro w _; go_simp <;> with_reducible rfl
  case hQ => exact fun _ _ _ h => h
  simp only [Act.put, List.setIfInBounds_toArray, List.set_cons_zero, List.set_cons_succ]
  apply till_take (i := 20) (d := some 40) [21, 20]
  case hi => exact rfl
  case hd => exact rfl
  case hchk => kernel_rfl
  case hS => exact hS
  case hy => apply yields_want; kernel_rfl; intro w hSw; (try dsimp only at hSw); go_split_ands; go_simp <;> with_reducible rfl
  case hQ => exact fun _ _ _ h => h
  simp only [Act.put, List.setIfInBounds_toArray, List.set_cons_zero, List.set_cons_succ]
  refine till_all (rs := [18]) (by kernel_rfl) (by simp) (mem_more (till_opw (i := 18) (o := ⟨some 38, _, _, _, _, _⟩) rfl (by kernel_rfl) (fun K hK => ?_)) (mem_none))
  go_simp
  go_at_call 39
  refine (vNull _).mono ?_
  rintro e wl ⟨rfl, hck⟩
  have hC0 := hC0.trans hck
  clear hck
  refine hK.out _ _ (fun _ => ?_) (fun hS2 => ?_)
  · exact SP.out _ hC0
  have hS3 := hS2 (by kernel_rfl)
  clear hK K hS hS2
  have hS := hS3
  clear hS3
  try simp only [Act.put, List.setIfInBounds_toArray, List.set_cons_zero, List.set_cons_succ]
  refine till_all (rs := [19]) (by kernel_rfl) (by simp) (mem_more (till_opw (i := 19) (o := ⟨some 39, _, _, _, _, _⟩) rfl (by kernel_rfl) (fun K hK => ?_)) (mem_none))
  go_simp
  go_at_call 39
  refine (vNull _).mono ?_
  rintro e wn ⟨rfl, hck⟩
  have hC0 := hC0.trans hck
  clear hck
  refine hK.out _ _ (fun _ => ?_) (fun hS2 => ?_)
  · exact SP.out _ hC0
  have hS3 := hS2 (by kernel_rfl)
  clear hK K hS hS2
  have hS := hS3
  clear hS3
  try simp only [Act.put, List.setIfInBounds_toArray, List.set_cons_zero, List.set_cons_succ]
  refine till_all (rs := [21]) (by kernel_rfl) (by simp) (mem_more (till_opw (i := 21) (o := ⟨some 41, _, _, _, _, _⟩) rfl (by kernel_rfl) (fun K hK => ?_)) (mem_none))
  go_simp
  go_at_call 48
  refine (HSM.out _).mono ?_
  rintro e wo ⟨rfl, hck⟩
  have hC0 := hC0.trans hck
  clear hck
  refine hK.out _ _ (fun h => by cases (show true = false from h)) (fun _ => ?_)
  clear hK K hS
  try simp only [Act.put, List.setIfInBounds_toArray, List.set_cons_zero, List.set_cons_succ]
  apply till_take0 (i := 22) (d := some 42)
  case hi => exact rfl
  case hd => exact rfl
  case hchk => kernel_rfl
  case hS => exact (fun h => by cases (show true = false from h))
  case hy => apply yields_plain; exact rfl; intro w _; go_simp <;> with_reducible rfl
  case hQ => exact fun _ _ _ h => h
  simp only [Act.put, List.setIfInBounds_toArray, List.set_cons_zero, List.set_cons_succ]
  apply till_take0 (i := 23) (d := some 43)
  case hi => exact rfl
  case hd => exact rfl
  case hchk => kernel_rfl
  case hS => exact (fun h => by cases (show true = false from h))
  case hy => apply yields_plain; exact rfl; intro w _; go_simp <;> with_reducible rfl
  case hQ => exact fun _ _ _ h => h
  simp only [Act.put, List.setIfInBounds_toArray, List.set_cons_zero, List.set_cons_succ]
  refine till_all (rs := [24]) (by kernel_rfl) (by simp) (mem_more (till_opw (i := 24) (o := ⟨some 44, _, _, _, _, _⟩) rfl (by kernel_rfl) (fun K hK => ?_)) (mem_none))
  go_simp
  go_at_call 34
  refine (HVB.out _).mono ?_
  rintro e wp ⟨rfl, hck⟩
  have hC0 := hC0.trans hck
  clear hck
  refine hK.out _ _ (fun h => by cases (show true = false from h)) (fun _ => ?_)
  clear hK K
  try simp only [Act.put, List.setIfInBounds_toArray, List.set_cons_zero, List.set_cons_succ]
  apply till_take0 (i := 25) (d := some 45)
  case hi => exact rfl
  case hd => exact rfl
  case hchk => kernel_rfl
  case hS => exact (fun h => by cases (show true = false from h))
  case hy => apply yields_want; kernel_rfl; intro w _; go_simp <;> with_reducible rfl
  case hQ => exact fun _ _ _ h => h
  simp only [Act.put, List.setIfInBounds_toArray, List.set_cons_zero, List.set_cons_succ]
  apply till_take0 (i := 26) (d := some 46)
  case hi => exact rfl
  case hd => exact rfl
  case hchk => kernel_rfl
  case hS => exact (fun h => by cases (show true = false from h))
  case hy => apply yields_want; kernel_rfl; intro w _; go_simp <;> with_reducible rfl
  case hQ => exact fun _ _ _ h => h
  simp only [Act.put, List.setIfInBounds_toArray, List.set_cons_zero, List.set_cons_succ]
  apply till_take0 (i := 27) (d := some 47)
  case hi => exact rfl
  case hd => exact rfl
  case hchk => kernel_rfl
  case hS => exact (fun h => by cases (show true = false from h))
  case hy => apply yields_plain; exact rfl; intro w _; go_simp <;> with_reducible rfl
  case hQ => exact fun _ _ _ h => h
  simp only [Act.put, List.setIfInBounds_toArray, List.set_cons_zero, List.set_cons_succ]
  refine till_all (rs := [28]) (by kernel_rfl) (by simp) (mem_more (till_op (i := 28) (o := ⟨some 0, _, _, _, _, _⟩) rfl rfl (fun K hK => ?_)) (mem_none))
  go_simp
  refine hK.out _ _ (fun h => by cases (show true = false from h)) (fun _ => ?_)
  clear hK K
  try simp only [Act.put, List.setIfInBounds_toArray, List.set_cons_zero, List.set_cons_succ]
  refine till_done (by kernel_rfl) ?_
  have HCZ := Lib.hid (HC3.out.trans hC0)
  clear hC0
  go_wp2_with fail
  exact HP.out _ _ rfl HCZ.out
end Go.Proofs.YtdmooacjllidhaaGreatDoor
