/-
  val.Print, val.Show at every value. Conditions: the library's variables are laid.
-/
import Derived.Test.YtdmooacjllidhaaGreatDoorQb
set_option linter.unusedVariables false
set_option linter.unusedSimpArgs false
namespace Go.Proofs.YtdmooacjllidhaaGreatDoor
open Go.RowKit

/-- The bytes that a clean value prints as. -/
def PB (v : Int × Int × ByteArray) : List UInt8 :=
  if v.1 = 0 then [78, 85, 76, 76] else if v.1 = 1 then (if v.2.1 = 1 then [84, 82, 85, 69] else [70, 65, 76, 83, 69]) else if v.1 = 2 then Lib.itoa v.2.1 else [39] ++ escL v.2.2.data.toList ++ [39]

theorem cln_kind (k n : Int) (s : ByteArray) : (cln k n s).1 = 0 ∨ (cln k n s).1 = 1 ∨ (cln k n s).1 = 2 ∨ (cln k n s).1 = 3 := by
  unfold cln
  split
  · rename_i h
    unfold okV at h
    split at h
    · exact .inl (by assumption)
    · split at h
      · exact .inr (.inl (by assumption))
      · split at h
        · exact .inr (.inr (.inl (by assumption)))
        · simp at h
          exact .inr (.inr (.inr h.1))
  · exact .inl rfl

theorem cln_or (k n : Int) (s : ByteArray) : cln k n s = (k, n, s) ∨ cln k n s = (0, 0, ⟨#[]⟩) := by
  unfold cln
  split
  · exact .inl rfl
  · exact .inr rfl

set_option maxHeartbeats 2000000 in
set_option maxRecDepth 100000 in
theorem vPrint (w : World) (k n : Int) (s : ByteArray) (h0 : -9223372036854775808 ≤ n) (h1 : n ≤ 9223372036854775807) (hs : s.size ≤ 100000) (hL : Lay w) :
    Calls Tryz.prog 64 #[.agg #[.int .i64 k, .int .i64 n, .string s]] w fun e w' => (∃ t, e = .returned (.string t) ∧ t.data.toList = PB (cln k n s)) ∧ Chg (fun _ => False) w w' := by
  obtain ⟨R, hR⟩ : ∃ R : Ending → World → Prop, R = fun e w' => (∃ t, e = .returned (.string t) ∧ t.data.toList = PB (cln k n s)) ∧ Chg (fun _ => False) w w' := ⟨_, rfl⟩
  rw [← hR]
  have HI : Hid (∀ W, Calls Tryz.prog 98 #[.agg #[.int .i64 k, .int .i64 n, .string s]] W fun e w' => e = .returned (.agg #[.int .i64 (cln k n s).1, .int .i64 (cln k n s).2.1, .string (cln k n s).2.2]) ∧ Chg (fun _ => False) W w') := fun W => vIs W k n s
  have hkd := cln_kind k n s
  have hor := cln_or k n s
  obtain ⟨V, hV⟩ : ∃ V, cln k n s = V := ⟨_, rfl⟩
  rw [hV] at HI hkd hor hR
  obtain ⟨A1, A2, A3⟩ := V
  have HI : Hid (∀ W, Calls Tryz.prog 98 #[.agg #[.int .i64 k, .int .i64 n, .string s]] W fun e w' => e = .returned (.agg #[.int .i64 A1, .int .i64 A2, .string A3]) ∧ Chg (fun _ => False) W w') := HI
  have ha2 : -9223372036854775808 ≤ A2 ∧ A2 ≤ 9223372036854775807 := by
    rcases hor with h | h <;> (injection h with _ h; injection h with h _; subst h) <;> omega
  have ha3 : A3.size ≤ 100000 := by
    rcases hor with h | h <;> (injection h with _ h; injection h with _ h; subst h)
    · exact hs
    · decide
  have HP : Hid (∀ e w' t, e = .returned (.string t) → t.data.toList = PB (A1, A2, A3) → Chg (fun _ => False) w w' → R e w') := fun e w' t h1 h2 h3 => by rw [hR]; exact ⟨⟨t, h1, h2⟩, h3⟩
  have HL := Lib.hid hL
  have HA2 := Lib.hid ha2
  have HA3 := Lib.hid ha3
  clear hR hL hV hor h0 h1 hs ha2 ha3
  have hkd : A1 = 0 ∨ A1 = 1 ∨ A1 = 2 ∨ A1 = 3 := hkd
  go_enter Tryz.func64, Tryz.ntmps64
  go_wp2_with fail
  obtain ⟨wa, ba, hwa, hba, hBa, hCa, hsa⟩ := alloc_named w #[.int .i64 k, .int .i64 n, .string s] 67
  rw [hwa, hba]
  have hwba : w.heap.size ≤ ba := by omega
  have HBA := Lib.hid hBa
  have HCA := Lib.hid hCa
  clear hwa hba hBa hCa hsa
  refine (HI.out wa).mono ?_
  rintro e w1 ⟨rfl, hC1⟩
  have HB1 := Lib.hid (HBA.out.chg hC1 id)
  have HC1 := Lib.hid (HCA.out.trans hC1)
  clear hC1
  have f0 := HB1.out.frozen 0
  have f1 := HB1.out.frozen 1
  have f2 := HB1.out.frozen 2
  have c0 := HB1.out.cell_ (i := 0) rfl
  have c1 := HB1.out.cell_ (i := 1) rfl
  have c2 := HB1.out.cell_ (i := 2) rfl
  go_upto_region 2 with (fail)
  obtain ⟨w2, hw2, hB2, hC2⟩ := set3_named HB1.out (.int .i64 A1) (.int .i64 A2) (.string A3)
  rw [hw2]
  have HB2 := Lib.hid hB2
  have HC2 := Lib.hid (HC1.out.comp hC2 fun x hx h => by omega)
  clear f0 f1 f2 c0 c1 c2 hw2 hB2 hC2
  have c0 := HB2.out.cell_ (i := 0) rfl
  have c1 := HB2.out.cell_ (i := 1) rfl
  have c2 := HB2.out.cell_ (i := 2) rfl
  rcases hkd with rfl | rfl | rfl | rfl
  · go_wp2_with fail
    exact HP.out _ _ ⟨#[78, 85, 76, 76]⟩ rfl rfl HC2.out
  · by_cases hA2 : A2 = 1
    · subst hA2
      go_wp2_with fail
      exact HP.out _ _ ⟨#[84, 82, 85, 69]⟩ rfl rfl HC2.out
    · have hA2' : (A2 == 1) = false := by rw [beq_eq_false_iff_ne]; exact hA2
      go_wp2_with fail
      exact HP.out _ _ ⟨#[70, 65, 76, 83, 69]⟩ rfl (by simp [PB, hA2]) HC2.out
  · have HIT := Lib.hid (iText w2 A2 HA2.out.1 HA2.out.2 (HL.out.chg HC2.out))
    go_wp2_with fail
    refine HIT.out.mono ?_
    rintro e w3 ⟨rfl, hC3⟩
    have HC3 := Lib.hid (HC2.out.trans hC3)
    clear hC3
    go_wp2_with fail
    exact HP.out _ _ ⟨(Lib.itoa A2).toArray⟩ rfl (by simp [PB]) HC3.out
  · obtain ⟨m, hm⟩ := HL.out.max
    have hm2 : w2.cell? ⟨2, 0, none⟩ = some (.int .i64 m) := (HC2.out.cell (World.block_lt_of_cell? _ _ hm) id).trans hm
    have HM2 := Lib.hid hm2
    clear hm2 hm
    have hcnt : A3.size + Lib.countB A3 ⟨#[39]⟩ * (⟨#[39, 39]⟩ : ByteArray).size ≤ 140737488355328 := by
      have h1 : Lib.countB A3 ⟨#[39]⟩ ≤ A3.size + 1 := by
        have := Lib.count_le A3.data.toList (⟨#[39]⟩ : ByteArray).data.toList
        have e : A3.data.toList.length = A3.size := rfl
        rw [e] at this; exact this
      have h2 : (⟨#[39, 39]⟩ : ByteArray).size = 2 := rfl
      have := HA3.out
      rw [h2]; omega
    have HRA := Lib.hid (Tryz.strings_ReplaceAll A3 ⟨#[39]⟩ ⟨#[39, 39]⟩ m w2 (by have := HA3.out; omega) HM2.out (by show 1 ≤ (⟨#[39]⟩ : ByteArray).size; decide) hcnt)
    clear hcnt
    go_wp2_with fail
    refine HRA.out.mono ?_
    rintro e w3 ⟨rfl, hC3⟩
    have HC3 := Lib.hid (HC2.out.trans (Chg.of_below hC3))
    clear hC3
    obtain ⟨t0, ht0⟩ : ∃ t0 : ByteArray, ⟨(Lib.replaceAll A3.data.toList (⟨#[39]⟩ : ByteArray).data.toList (⟨#[39, 39]⟩ : ByteArray).data.toList).toArray⟩ = t0 := ⟨_, rfl⟩
    have hT : t0.data.toList = escL A3.data.toList := by
      rw [← ht0, ← replaceAll_esc]
    have ht1 : t0.size ≤ 400000 := by
      have h1 := escL_len A3.data.toList
      have e : A3.data.toList.length = A3.size := rfl
      have e2 : t0.size = t0.data.toList.length := rfl
      rw [e2, hT]
      rw [e] at h1
      have := HA3.out
      omega
    have HT := Lib.hid hT
    rw [ht0]
    clear ht0 hT
    have hb1 : ¬ (9223372036854775807 < 1 + t0.size) := by omega
    have hb2 : ¬ (9223372036854775807 < 1 + t0.size + 1) := by omega
    go_wp2_with fail
    all_goals first
      | (refine HP.out _ _ (⟨#[39]⟩ ++ t0 ++ ⟨#[39]⟩) rfl ?_ HC3.out
         have h5 := HT.out
         simp [ByteArray.data_append, h5, PB])
      | (exfalso; omega)

/-- What is shown. -/
def SB (v : Int × Int × ByteArray) : List UInt8 := if v.1 = 3 then v.2.2.data.toList else PB v

theorem cln_cln (k n : Int) (s : ByteArray) : cln (cln k n s).1 (cln k n s).2.1 (cln k n s).2.2 = cln k n s := by
  rcases cln_or k n s with h | h
  · rw [h]; exact h
  · rw [h]; simp [cln]

theorem vShow (w : World) (k n : Int) (s : ByteArray) (h0 : -9223372036854775808 ≤ n) (h1 : n ≤ 9223372036854775807) (hs : s.size ≤ 100000) (hL : Lay w) :
    Calls Tryz.prog 68 #[.agg #[.int .i64 k, .int .i64 n, .string s]] w fun e w' => (∃ t, e = .returned (.string t) ∧ t.data.toList = SB (cln k n s)) ∧ Chg (fun _ => False) w w' := by
  obtain ⟨R, hR⟩ : ∃ R : Ending → World → Prop, R = fun e w' => (∃ t, e = .returned (.string t) ∧ t.data.toList = SB (cln k n s)) ∧ Chg (fun _ => False) w w' := ⟨_, rfl⟩
  rw [← hR]
  have HI : Hid (∀ W, Calls Tryz.prog 98 #[.agg #[.int .i64 k, .int .i64 n, .string s]] W fun e w' => e = .returned (.agg #[.int .i64 (cln k n s).1, .int .i64 (cln k n s).2.1, .string (cln k n s).2.2]) ∧ Chg (fun _ => False) W w') := fun W => vIs W k n s
  have hor := cln_or k n s
  have hcc := cln_cln k n s
  obtain ⟨V, hV⟩ : ∃ V, cln k n s = V := ⟨_, rfl⟩
  rw [hV] at HI hor hR hcc
  obtain ⟨A1, A2, A3⟩ := V
  have HI : Hid (∀ W, Calls Tryz.prog 98 #[.agg #[.int .i64 k, .int .i64 n, .string s]] W fun e w' => e = .returned (.agg #[.int .i64 A1, .int .i64 A2, .string A3]) ∧ Chg (fun _ => False) W w') := HI
  have ha2 : -9223372036854775808 ≤ A2 ∧ A2 ≤ 9223372036854775807 := by
    rcases hor with h | h <;> (injection h with _ h; injection h with h _; subst h) <;> omega
  have ha3 : A3.size ≤ 100000 := by
    rcases hor with h | h <;> (injection h with _ h; injection h with _ h; subst h)
    · exact hs
    · decide
  have HPR : Hid (∀ W, Chg (fun _ => False) w W → Calls Tryz.prog 64 #[.agg #[.int .i64 A1, .int .i64 A2, .string A3]] W fun e w' => (∃ t, e = .returned (.string t) ∧ t.data.toList = PB (A1, A2, A3)) ∧ Chg (fun _ => False) W w') := fun W hW => by
    have := vPrint W A1 A2 A3 ha2.1 ha2.2 ha3 (hL.chg hW)
    rw [hcc] at this
    exact this
  have HP : Hid (∀ e w' t, e = .returned (.string t) → t.data.toList = SB (A1, A2, A3) → Chg (fun _ => False) w w' → R e w') := fun e w' t h1 h2 h3 => by rw [hR]; exact ⟨⟨t, h1, h2⟩, h3⟩
  clear hR hL hV hor h0 h1 hs ha2 ha3 hcc
  go_enter Tryz.func68, Tryz.ntmps68
  go_wp2_with fail
  obtain ⟨wa, ba, hwa, hba, hBa, hCa, hsa⟩ := alloc_named w #[.int .i64 k, .int .i64 n, .string s] 67
  rw [hwa, hba]
  have hwba : w.heap.size ≤ ba := by omega
  have HBA := Lib.hid hBa
  have HCA := Lib.hid hCa
  clear hwa hba hBa hCa hsa
  refine (HI.out wa).mono ?_
  rintro e w1 ⟨rfl, hC1⟩
  have HB1 := Lib.hid (HBA.out.chg hC1 id)
  have HC1 := Lib.hid (HCA.out.trans hC1)
  clear hC1
  have f0 := HB1.out.frozen 0
  have f1 := HB1.out.frozen 1
  have f2 := HB1.out.frozen 2
  have c0 := HB1.out.cell_ (i := 0) rfl
  have c1 := HB1.out.cell_ (i := 1) rfl
  have c2 := HB1.out.cell_ (i := 2) rfl
  go_upto_region 2 with (fail)
  obtain ⟨w2, hw2, hB2, hC2⟩ := set3_named HB1.out (.int .i64 A1) (.int .i64 A2) (.string A3)
  rw [hw2]
  have HB2 := Lib.hid hB2
  have HC2 := Lib.hid (HC1.out.comp hC2 fun x hx h => by omega)
  clear f0 f1 f2 c0 c1 c2 hw2 hB2 hC2
  have c0 := HB2.out.cell_ (i := 0) rfl
  have c1 := HB2.out.cell_ (i := 1) rfl
  have c2 := HB2.out.cell_ (i := 2) rfl
  by_cases h3 : A1 = 3
  · subst h3
    go_wp2_with fail
    exact HP.out _ _ A3 rfl (by simp [SB]) HC2.out
  · have h3' : (A1 == 3) = false := by rw [beq_eq_false_iff_ne]; exact h3
    have HPR2 := Lib.hid (HPR.out w2 HC2.out)
    have hsb : SB (A1, A2, A3) = PB (A1, A2, A3) := by simp [SB, h3]
    rw [hsb] at HP
    clear HPR hsb
    go_wp2_with fail
    refine HPR2.out.mono ?_
    rintro e w3 ⟨⟨t, rfl, ht⟩, hC3⟩
    have HC3 := Lib.hid (HC2.out.trans hC3)
    have HT := Lib.hid ht
    clear hC3 ht
    go_wp2_with fail
    exact HP.out _ _ t rfl HT.out HC3.out
end Go.Proofs.YtdmooacjllidhaaGreatDoor
