/-
  val.Cmp. Conditions: the collation's comparison is given.
-/
import Derived.Test.YtdmooacjllidhaaGreatDoorVc
import Derived.Deep.Cut
set_option linter.unusedVariables false
set_option linter.unusedSimpArgs false
namespace Go.Proofs.YtdmooacjllidhaaGreatDoor
open Go.RowKit

def cmpV (cc : ByteArray → ByteArray → Int) (a b : Int × Int × ByteArray) : Int × Bool × Int :=
  if a.1 = b.1 ∧ (a.1 = 1 ∨ a.1 = 2 ∨ a.1 = 3) then (alikeV cc a.1 a.2.1 a.2.2 b.2.1 b.2.2, true, 0) else if a.1 = 0 ∨ b.1 = 0 then (0, false, 0) else (0, false, 12)

theorem equal_two (w : World) (m : Nat) (a b c d : Int) : (Op.equalIn (m + 2) 170 (.agg #[.int .i64 a, .int .i64 b]) (.agg #[.int .i64 c, .int .i64 d])).run Tryz.prog w = .ok (a == c && b == d) w := by
  have hp : Tryz.prog.underlying 170 = some (.array 2 3) := Tryz.underlying170
  have hi : ∀ x y : Int, (Op.equalIn (m + 1) 3 (.int .i64 x) (.int .i64 y)).run Tryz.prog w = .ok (x == y) w := fun x y => run_equalIn_int w m _ _ _ x y Tryz.underlying3
  have hs : (sizeOf 3).run Tryz.prog w = .ok 1 w := by kernel_rfl
  have p0 : ∀ x y : Int, (part 3 #[.int .i64 x, .int .i64 y] (0 * 1)).run Tryz.prog w = .ok (.int .i64 x) w := fun x y => by kernel_rfl
  have p1 : ∀ x y : Int, (part 3 #[.int .i64 x, .int .i64 y] (1 * 1)).run Tryz.prog w = .ok (.int .i64 y) w := fun x y => by kernel_rfl
  rw [show m + 2 = (m + 1) + 1 from rfl, Op.equalIn]
  simp only [Sem.run_bind, run_underlying hp, Result.andThen, hs]
  simp only [Std.Legacy.Range.forIn_eq_forIn_range', Std.Legacy.Range.size, Nat.sub_zero, Nat.add_sub_cancel, Nat.div_one, List.range'_succ, List.range'_zero, List.forIn_cons, List.forIn_nil, Nat.zero_add, Sem.run_bind, Result.andThen, p0, p1, hi]
  cases hac : (a == c)
  · simp
  · cases hbd : (b == d) <;> simp [Sem.run_bind, Result.andThen, p1, hi, hbd]

theorem eql_two (w : World) (a b c d : Int) : (binOp .eql 170 (.agg #[.int .i64 a, .int .i64 b]) (.agg #[.int .i64 c, .int .i64 d])).run Tryz.prog w = .ok (.bool (a == c && b == d)) w := by
  rw [run_eql_struct, equal_two w 9998 a b c d]
  rfl

set_option maxHeartbeats 4000000 in
set_option maxRecDepth 100000 in
theorem vCmp (w : World) (k1 n1 k2 n2 : Int) (s1 s2 : ByteArray) (ck cl : Int) (sh bk : Bool) (tb : Option Addr) (cc : ByteArray → ByteArray → Int) (hC : (cln k1 n1 s1).1 = 3 → CmpAs (.agg #[.int .i64 ck, .int .i64 cl, .bool sh, .bool bk, .pointer tb]) cc w) :
    Calls Tryz.prog 44 #[.agg #[.int .i64 k1, .int .i64 n1, .string s1], .agg #[.int .i64 k2, .int .i64 n2, .string s2], .agg #[.int .i64 ck, .int .i64 cl, .bool sh, .bool bk, .pointer tb]] w
      fun e w' => e = .returned (.tuple #[.int .i64 (cmpV cc (cln k1 n1 s1) (cln k2 n2 s2)).1, .bool (cmpV cc (cln k1 n1 s1) (cln k2 n2 s2)).2.1, .int .i64 (cmpV cc (cln k1 n1 s1) (cln k2 n2 s2)).2.2]) ∧ Chg (fun _ => False) w w' := by
  obtain ⟨R, hR⟩ : ∃ R : Ending → World → Prop, R = fun e w' => e = .returned (.tuple #[.int .i64 (cmpV cc (cln k1 n1 s1) (cln k2 n2 s2)).1, .bool (cmpV cc (cln k1 n1 s1) (cln k2 n2 s2)).2.1, .int .i64 (cmpV cc (cln k1 n1 s1) (cln k2 n2 s2)).2.2]) ∧ Chg (fun _ => False) w w' := ⟨_, rfl⟩
  rw [← hR]
  have HI1 : Hid (∀ W, Calls Tryz.prog 98 #[.agg #[.int .i64 k1, .int .i64 n1, .string s1]] W fun e w' => e = .returned (.agg #[.int .i64 (cln k1 n1 s1).1, .int .i64 (cln k1 n1 s1).2.1, .string (cln k1 n1 s1).2.2]) ∧ Chg (fun _ => False) W w') := fun W => vIs W k1 n1 s1
  have HI2 : Hid (∀ W, Calls Tryz.prog 98 #[.agg #[.int .i64 k2, .int .i64 n2, .string s2]] W fun e w' => e = .returned (.agg #[.int .i64 (cln k2 n2 s2).1, .int .i64 (cln k2 n2 s2).2.1, .string (cln k2 n2 s2).2.2]) ∧ Chg (fun _ => False) W w') := fun W => vIs W k2 n2 s2
  obtain ⟨X, hX⟩ : ∃ X, cln k1 n1 s1 = X := ⟨_, rfl⟩
  obtain ⟨Y, hY⟩ : ∃ Y, cln k2 n2 s2 = Y := ⟨_, rfl⟩
  rw [hX] at HI1 hC hR
  rw [hY] at HI2 hR
  obtain ⟨A1, A2, A3⟩ := X
  obtain ⟨B1, B2, B3⟩ := Y
  have HI1 : Hid (∀ W, Calls Tryz.prog 98 #[.agg #[.int .i64 k1, .int .i64 n1, .string s1]] W fun e w' => e = .returned (.agg #[.int .i64 A1, .int .i64 A2, .string A3]) ∧ Chg (fun _ => False) W w') := HI1
  have HI2 : Hid (∀ W, Calls Tryz.prog 98 #[.agg #[.int .i64 k2, .int .i64 n2, .string s2]] W fun e w' => e = .returned (.agg #[.int .i64 B1, .int .i64 B2, .string B3]) ∧ Chg (fun _ => False) W w') := HI2
  have HC : Hid (A1 = 3 → CmpAs (.agg #[.int .i64 ck, .int .i64 cl, .bool sh, .bool bk, .pointer tb]) cc w) := hC
  have HP : Hid (∀ e w', e = .returned (.tuple #[.int .i64 (cmpV cc (A1, A2, A3) (B1, B2, B3)).1, .bool (cmpV cc (A1, A2, A3) (B1, B2, B3)).2.1, .int .i64 (cmpV cc (A1, A2, A3) (B1, B2, B3)).2.2]) → Chg (fun _ => False) w w' → R e w') := fun e w' h1 h2 => by rw [hR]; exact ⟨h1, h2⟩
  clear hR hX hY hC
  go_enter Tryz.func44, Tryz.ntmps44
  go_wp2_with fail
  obtain ⟨wa, ba, hwa, hba, hBa, hCa, hsa⟩ := alloc_named w #[.int .i64 k1, .int .i64 n1, .string s1] 67
  rw [hwa]
  obtain ⟨wb, bb, hwb, hbb, hBb, hCb, hsb⟩ := alloc_named wa #[.int .i64 k2, .int .i64 n2, .string s2] 67
  rw [hwb]
  obtain ⟨wc, bc, hwc, hbc, hBc, hCc, hsc⟩ := alloc_named wb #[.int .i64 ck, .int .i64 cl, .bool sh, .bool bk, .pointer tb] 25
  rw [hwc]
  have e1 : w.heap.size + 1 = bb := by omega
  have e2 : bb + 1 = bc := by omega
  simp only [hba] at e1 ⊢
  simp only [e1, e2]
  have hab : ba < bb := by omega
  have hbc' : bb < bc := by omega
  have hwba : w.heap.size ≤ ba := by omega
  have hA0 := (hBa.chg hCb id).chg hCc id
  have hB0 := hBb.chg hCc id
  have hK0 := hBc
  have hCC := (hCa.trans hCb).trans hCc
  clear hwa hba hBa hCa hsa hwb hbb hBb hCb hsb hwc hbc hBc hCc hsc e1 e2
  obtain ⟨w5, hw5, hC5⟩ := drew_named wc
  have hC0 : Chg (fun _ => False) w w5 := hCC.trans hC5
  have hA := hA0.chg hC5 id
  have hB := hB0.chg hC5 id
  have hKb := hK0.chg hC5 id
  have hS : w5.cell? ⟨ba, 0, none⟩ = some (.int .i64 k1) ∧ w5.cell? ⟨ba, 1, none⟩ = some (.int .i64 n1) ∧ w5.cell? ⟨ba, 2, none⟩ = some (.string s1) ∧ w5.cell? ⟨bb, 0, none⟩ = some (.int .i64 k2) ∧ w5.cell? ⟨bb, 1, none⟩ = some (.int .i64 n2) ∧ w5.cell? ⟨bb, 2, none⟩ = some (.string s2) :=
    ⟨hA.cell_ rfl, hA.cell_ rfl, hA.cell_ rfl, hB.cell_ rfl, hB.cell_ rfl, hB.cell_ rfl⟩
  refine wp_region_till (s := 4) (S := (fun W => W.cell? ⟨ba, 0, none⟩ = some (.int .i64 k1) ∧ W.cell? ⟨ba, 1, none⟩ = some (.int .i64 n1) ∧ W.cell? ⟨ba, 2, none⟩ = some (.string s1) ∧ W.cell? ⟨bb, 0, none⟩ = some (.int .i64 k2) ∧ W.cell? ⟨bb, 1, none⟩ = some (.int .i64 n2) ∧ W.cell? ⟨bb, 2, none⟩ = some (.string s2))) (by kernel_rfl) ?_
  rw [hw5]
  clear hw5 hC5 hA0 hB0 hK0 hCC
  apply till_take (i := 0) (d := some 9) [4, 0]
  case hi => exact rfl
  case hd => exact rfl
  case hchk => kernel_rfl
  case hS => exact hS
  case hy => apply yields_plain; exact rfl; intro w hSw; (try dsimp only at hSw); go_split_ands; go_simp <;> with_reducible rfl
  case hQ => exact fun _ _ _ h => h
  simp only [Act.put, List.setIfInBounds_toArray, List.set_cons_zero, List.set_cons_succ]
  apply till_take (i := 2) (d := some 11) [4, 3, 2]
  case hi => exact rfl
  case hd => exact rfl
  case hchk => kernel_rfl
  case hS => exact hS
  case hy => apply yields_plain; exact rfl; intro w hSw; (try dsimp only at hSw); go_split_ands; go_simp <;> with_reducible rfl
  case hQ => exact fun _ _ _ h => h
  simp only [Act.put, List.setIfInBounds_toArray, List.set_cons_zero, List.set_cons_succ]
  refine till_all (rs := [1]) (by kernel_rfl) (by simp) (mem_more (till_op (i := 1) (o := ⟨some 10, _, _, _, _, _⟩) rfl rfl (fun K hK => ?_)) (mem_none))
  go_simp
  go_at_call 98
  refine (HI1.out _).mono ?_
  rintro e w6 ⟨rfl, hck⟩
  have hC0 := hC0.trans hck
  have hA := hA.chg hck id
  have hB := hB.chg hck id
  have hKb := hKb.chg hck id
  clear hck
  refine hK.out _ _ (fun _ => ?_) (fun hS2 => ?_)
  · exact ⟨hA.cell_ rfl, hA.cell_ rfl, hA.cell_ rfl, hB.cell_ rfl, hB.cell_ rfl, hB.cell_ rfl⟩
  have hS3 := hS2 (by kernel_rfl)
  clear hK K hS hS2
  have hS := hS3
  clear hS3
  try simp only [Act.put, List.setIfInBounds_toArray, List.set_cons_zero, List.set_cons_succ]
  refine till_all (rs := [3]) (by kernel_rfl) (by simp) (mem_more (till_op (i := 3) (o := ⟨some 12, _, _, _, _, _⟩) rfl rfl (fun K hK => ?_)) (mem_none))
  go_simp
  go_at_call 98
  refine (HI2.out _).mono ?_
  rintro e w7 ⟨rfl, hck⟩
  have hC0 := hC0.trans hck
  have hA := hA.chg hck id
  have hB := hB.chg hck id
  have hKb := hKb.chg hck id
  clear hck
  refine hK.out _ _ (fun _ => ?_) (fun hS2 => ?_)
  · exact ⟨hA.cell_ rfl, hA.cell_ rfl, hA.cell_ rfl, hB.cell_ rfl, hB.cell_ rfl, hB.cell_ rfl⟩
  have hS3 := hS2 (by kernel_rfl)
  clear hK K hS hS2
  have hS := hS3
  clear hS3
  try simp only [Act.put, List.setIfInBounds_toArray, List.set_cons_zero, List.set_cons_succ]
  refine till_all (rs := [4]) (by kernel_rfl) (by simp) (mem_more (till_op (i := 4) (o := ⟨none, _, _, _, _, _⟩) rfl rfl (fun K hK => ?_)) (mem_none))
  have f0 := hA.frozen 0
  have f1 := hA.frozen 1
  have f2 := hA.frozen 2
  have c0 := hA.cell_ (i := 0) rfl
  have c1 := hA.cell_ (i := 1) rfl
  have c2 := hA.cell_ (i := 2) rfl
  go_simp
  obtain ⟨w8, hw8, hA8, hC8⟩ := set3_named hA (.int .i64 A1) (.int .i64 A2) (.string A3)
  rw [hw8]
  have hB := hB.chg hC8 (by omega)
  have hKb := hKb.chg hC8 (by omega)
  have hC0 := hC0.comp hC8 (fun x hx h => by omega)
  have hA := hA8
  clear f0 f1 f2 c0 c1 c2 hw8 hA8 hC8
  refine hK.out _ _ (fun h => by cases (show true = false from h)) (fun _ => ?_)
  clear hK K hS
  try simp only [Act.put, List.setIfInBounds_toArray, List.set_cons_zero, List.set_cons_succ]
  refine till_all (rs := [5]) (by kernel_rfl) (by simp) (mem_more (till_op (i := 5) (o := ⟨none, _, _, _, _, _⟩) rfl rfl (fun K hK => ?_)) (mem_none))
  have f0 := hB.frozen 0
  have f1 := hB.frozen 1
  have f2 := hB.frozen 2
  have c0 := hB.cell_ (i := 0) rfl
  have c1 := hB.cell_ (i := 1) rfl
  have c2 := hB.cell_ (i := 2) rfl
  go_simp
  obtain ⟨w9, hw9, hB9, hC9⟩ := set3_named hB (.int .i64 B1) (.int .i64 B2) (.string B3)
  rw [hw9]
  have hA := hA.chg hC9 (by omega)
  have hKb := hKb.chg hC9 (by omega)
  have hC0 := hC0.comp hC9 (fun x hx h => by omega)
  have hB := hB9
  clear f0 f1 f2 c0 c1 c2 hw9 hB9 hC9
  refine hK.out _ _ (fun h => by cases (show true = false from h)) (fun _ => ?_)
  clear hK K
  try simp only [Act.put, List.setIfInBounds_toArray, List.set_cons_zero, List.set_cons_succ]
  refine till_done (by kernel_rfl) ?_
  have c0 := hA.cell_ (i := 0) rfl
  have c1 := hA.cell_ (i := 1) rfl
  have c2 := hA.cell_ (i := 2) rfl
  have d0 := hB.cell_ (i := 0) rfl
  have d1 := hB.cell_ (i := 1) rfl
  have d2 := hB.cell_ (i := 2) rfl
  have g0 := hKb.cell_ (i := 0) rfl
  have g1 := hKb.cell_ (i := 1) rfl
  have g2 := hKb.cell_ (i := 2) rfl
  have g3 := hKb.cell_ (i := 3) rfl
  have g4 := hKb.cell_ (i := 4) rfl
  have HC0 := Lib.hid hC0
  clear hC0 hA hB hKb
  go_upto_region 3 with (fail)
  have he := fun W a b c d => eql_two W a b c d
  by_cases hx : A1 = B1 ∧ (A1 = 1 ∨ A1 = 2 ∨ A1 = 3)
  · have hcv : cmpV cc (A1, A2, A3) (B1, B2, B3) = (alikeV cc A1 A2 A3 B2 B3, true, 0) := by unfold cmpV; rw [if_pos hx]
    rw [hcv] at HP
    obtain ⟨hAB, hx⟩ := hx
    subst hAB
    have HP' : Hid (∀ e w', e = .returned (.tuple #[.int .i64 (alikeV cc A1 A2 A3 B2 B3), .bool true, .int .i64 0]) → Chg (fun _ => False) w w' → R e w') := HP
    have HAL : Hid (∀ W, Chg (fun _ => False) w W → Calls Tryz.prog 99 #[.agg #[.int .i64 A1, .int .i64 A2, .string A3], .agg #[.int .i64 A1, .int .i64 B2, .string B3], .agg #[.int .i64 ck, .int .i64 cl, .bool sh, .bool bk, .pointer tb]] W fun e w' => e = .returned (.int .i64 (alikeV cc A1 A2 A3 B2 B3)) ∧ Chg (fun _ => False) W w') :=
      fun W hW => vAlike W A1 A2 A1 B2 A3 B3 ck cl sh bk tb cc fun h W' x y hW' => HC.out h W' x y (hW.trans hW')
    obtain ⟨av, hav⟩ : ∃ av, alikeV cc A1 A2 A3 B2 B3 = av := ⟨_, rfl⟩
    rw [hav] at HP' HAL
    clear HP HC hcv hav
    rcases hx with rfl | rfl | rfl
    all_goals
      go_wp2_with fail
      refine (HAL.out _ HC0.out).mono ?_
      rintro e w10 ⟨rfl, hC10⟩
      have HC10 := Lib.hid (HC0.out.trans hC10)
      clear hC10
      go_wp2_with fail
      exact HP'.out _ _ rfl HC10.out
  · have h1 : (A1 == 1 && B1 == 1) = false := by
      rw [Bool.and_eq_false_iff, beq_eq_false_iff_ne, beq_eq_false_iff_ne]
      omega
    have h2 : (A1 == 2 && B1 == 2) = false := by
      rw [Bool.and_eq_false_iff, beq_eq_false_iff_ne, beq_eq_false_iff_ne]
      omega
    have h3 : (A1 == 3 && B1 == 3) = false := by
      rw [Bool.and_eq_false_iff, beq_eq_false_iff_ne, beq_eq_false_iff_ne]
      omega
    by_cases h0 : A1 = 0 ∨ B1 = 0
    · have hcv : cmpV cc (A1, A2, A3) (B1, B2, B3) = (0, false, 0) := by unfold cmpV; rw [if_neg hx, if_pos h0]
      rw [hcv] at HP
      have HP' : Hid (∀ e w', e = .returned (.tuple #[.int .i64 0, .bool false, .int .i64 0]) → Chg (fun _ => False) w w' → R e w') := HP
      clear HP HC hcv hx
      have h0' : A1 = 0 ∨ (¬ (A1 = 0) ∧ B1 = 0) := by omega
      clear h0
      rcases h0' with rfl | ⟨h4, rfl⟩
      · go_wp2_with fail
        exact HP'.out _ _ rfl HC0.out
      · have h5 : (A1 == 0) = false := by rw [beq_eq_false_iff_ne]; exact h4
        go_wp2_with fail
        exact HP'.out _ _ rfl HC0.out
    · have hcv : cmpV cc (A1, A2, A3) (B1, B2, B3) = (0, false, 12) := by unfold cmpV; rw [if_neg hx, if_neg h0]
      rw [hcv] at HP
      have HP' : Hid (∀ e w', e = .returned (.tuple #[.int .i64 0, .bool false, .int .i64 12]) → Chg (fun _ => False) w w' → R e w') := HP
      clear HP HC hcv hx
      have h4 : ¬ (A1 = 0) := fun h => h0 (.inl h)
      have h6 : ¬ (B1 = 0) := fun h => h0 (.inr h)
      have h5 : (A1 == 0) = false := by rw [beq_eq_false_iff_ne]; exact h4
      have h7 : (B1 == 0) = false := by rw [beq_eq_false_iff_ne]; exact h6
      clear h0
      go_wp2_with fail
      exact HP'.out _ _ rfl HC0.out
end Go.Proofs.YtdmooacjllidhaaGreatDoor
