/-
  val.Print of a text; the collation that is by bytes. Conditions: the library's variable is laid.
-/
import Derived.Test.YtdmooacjllidhaaGreatDoorVd
set_option linter.unusedVariables false
set_option linter.unusedSimpArgs false
namespace Go.Proofs.YtdmooacjllidhaaGreatDoor
open Go.RowKit

theorem replaceK_len (old new : List UInt8) : ∀ (k : Nat) (s : List UInt8), (Lib.replaceK old new k s).length ≤ s.length + k * new.length
  | 0, s => by simp [Lib.replaceK]
  | k + 1, s => by
    rw [Lib.replaceK]
    split
    · exact Nat.le_add_right _ _
    · have ih := replaceK_len old new k (s.drop ((Lib.index s old).toNat + old.length))
      simp only [List.length_append, List.length_take, List.length_drop] at ih ⊢
      rw [Nat.succ_mul]
      omega

theorem replaceAll_len (s old new : List UInt8) : (Lib.replaceAll s old new).length ≤ s.length + (s.length + 1) * new.length := by
  unfold Lib.replaceAll Lib.replace
  split
  · exact Nat.le_add_right _ _
  · refine Nat.le_trans (replaceK_len old new _ s) ?_
    have h1 : Lib.replaceNum s old (-1) ≤ s.length + 1 := by
      unfold Lib.replaceNum
      rw [if_pos (.inl (by omega))]
      exact Lib.count_le s old
    have := Nat.mul_le_mul_right new.length h1
    omega

set_option maxRecDepth 100000 in
theorem vPrintText (w : World) (s : ByteArray) (m : Int) (hs : s.size ≤ 100000) (hm : w.cell? ⟨2, 0, none⟩ = some (.int .i64 m)) :
    Calls Tryz.prog 64 #[.agg #[.int .i64 3, .int .i64 0, .string s]] w fun e w' => (∃ t, e = .returned (.string t) ∧ t.data.toList = [39] ++ Lib.replaceAll s.data.toList [39] [39, 39] ++ [39]) ∧ Chg (fun _ => False) w w' := by
  obtain ⟨R, hR⟩ : ∃ R : Ending → World → Prop, R = fun e w' => (∃ t, e = .returned (.string t) ∧ t.data.toList = [39] ++ Lib.replaceAll s.data.toList [39] [39, 39] ++ [39]) ∧ Chg (fun _ => False) w w' := ⟨_, rfl⟩
  rw [← hR]
  have HP : Hid (∀ e w' t, e = .returned (.string t) → t.data.toList = [39] ++ Lib.replaceAll s.data.toList [39] [39, 39] ++ [39] → Chg (fun _ => False) w w' → R e w') := fun e w' t h1 h2 h3 => by rw [hR]; exact ⟨⟨t, h1, h2⟩, h3⟩
  have HI : Hid (∀ W, Calls Tryz.prog 98 #[.agg #[.int .i64 3, .int .i64 0, .string s]] W fun e w' => e = .returned (.agg #[.int .i64 3, .int .i64 0, .string s]) ∧ Chg (fun _ => False) W w') := fun W => vIs W 3 0 s
  have HM := Lib.hid hm
  clear hR hm
  go_enter Tryz.func64, Tryz.ntmps64
  go_wp2_with fail
  obtain ⟨wa, ba, hwa, hba, hBa, hCa, hsa⟩ := alloc_named w #[.int .i64 3, .int .i64 0, .string s] 67
  rw [hwa, hba]
  have hwba : w.heap.size ≤ ba := by omega
  have HBA := Lib.hid hBa
  have HCA := Lib.hid hCa
  clear hwa hba hBa hCa hsa
  refine (HI.out wa).mono ?_
  rintro e w1 ⟨rfl, hC1⟩
  have HB1 := Lib.hid (HBA.out.chg hC1 id)
  have HC1 := Lib.hid (HCA.out.trans hC1)
  clear hC1
  have f0 := HB1.out.frozen 0
  have f1 := HB1.out.frozen 1
  have f2 := HB1.out.frozen 2
  have c0 := HB1.out.cell_ (i := 0) rfl
  have c1 := HB1.out.cell_ (i := 1) rfl
  have c2 := HB1.out.cell_ (i := 2) rfl
  go_upto_region 2 with (fail)
  obtain ⟨w2, hw2, hB2, hC2⟩ := set3_named HB1.out (.int .i64 3) (.int .i64 0) (.string s)
  rw [hw2]
  have HB2 := Lib.hid hB2
  have HC2 := Lib.hid (HC1.out.comp hC2 fun x hx h => by omega)
  clear f0 f1 f2 c0 c1 c2 hw2 hB2 hC2
  have c0 := HB2.out.cell_ (i := 0) rfl
  have c1 := HB2.out.cell_ (i := 1) rfl
  have c2 := HB2.out.cell_ (i := 2) rfl
  have hm2 : w2.cell? ⟨2, 0, none⟩ = some (.int .i64 m) := (HC2.out.cell (World.block_lt_of_cell? _ _ HM.out) id).trans HM.out
  have HM2 := Lib.hid hm2
  clear hm2
  have hcnt : s.size + Lib.countB s ⟨#[39]⟩ * (⟨#[39, 39]⟩ : ByteArray).size ≤ 140737488355328 := by
    have h1 : Lib.countB s ⟨#[39]⟩ ≤ s.size + 1 := by
      have := Lib.count_le s.data.toList (⟨#[39]⟩ : ByteArray).data.toList
      have e : s.data.toList.length = s.size := rfl
      rw [e] at this; exact this
    have h2 : (⟨#[39, 39]⟩ : ByteArray).size = 2 := rfl
    rw [h2]; omega
  have HRA := Lib.hid (Tryz.strings_ReplaceAll s ⟨#[39]⟩ ⟨#[39, 39]⟩ m w2 (by omega) HM2.out (by show 1 ≤ (⟨#[39]⟩ : ByteArray).size; decide) hcnt)
  clear hcnt
  go_wp2_with fail
  refine HRA.out.mono ?_
  rintro e w3 ⟨rfl, hC3⟩
  have HC3 := Lib.hid (HC2.out.trans (Chg.of_below hC3))
  clear hC3
  obtain ⟨t0, ht0⟩ : ∃ t0 : ByteArray, ⟨(Lib.replaceAll s.data.toList (⟨#[39]⟩ : ByteArray).data.toList (⟨#[39, 39]⟩ : ByteArray).data.toList).toArray⟩ = t0 := ⟨_, rfl⟩
  have hT : t0.data.toList = Lib.replaceAll s.data.toList [39] [39, 39] := by rw [← ht0]
  have ht1 : t0.size ≤ 400000 := by
    have h1 := replaceAll_len s.data.toList [39] [39, 39]
    have e : s.data.toList.length = s.size := rfl
    have e2 : t0.size = t0.data.toList.length := rfl
    rw [e2, hT]
    rw [e] at h1
    simp only [List.length_cons, List.length_nil] at h1
    omega
  have HT := Lib.hid hT
  rw [ht0]
  clear ht0 hT
  have hb1 : ¬ (9223372036854775807 < 1 + t0.size) := by omega
  have hb2 : ¬ (9223372036854775807 < 1 + t0.size + 1) := by omega
  go_wp2_with fail
  all_goals first
    | (refine HP.out _ _ (⟨#[39]⟩ ++ t0 ++ ⟨#[39]⟩) rfl ?_ HC3.out
       have h5 := HT.out
       simp [ByteArray.data_append, h5])
    | (exfalso; omega)
end Go.Proofs.YtdmooacjllidhaaGreatDoor
