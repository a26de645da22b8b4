-- PRINTED BY print.sh 35421559b90ae4d0a3588c463048766b98c2df88dd9212a6774a882060cdf62d: not written by this session
import Derived.Test.YtdmooacjllidhaaGreatDoorPReadx0
import Derived.Test.YtdmooacjllidhaaGreatDoorPReadx1
namespace Go.Proofs.YtdmooacjllidhaaGreatDoor.PRead
open Go.RowKit Go.Proofs.YtdmooacjllidhaaGreatDoorW.PrintWords Go.Proofs.YtdmooacjllidhaaGreatDoorW.PrintLast Go.Proofs.YtdmooacjllidhaaGreatDoorW.PrintMore
attribute [local go_sem] max2_int min2_int max_two min_two max_three min_three max_four min_four   -- for this text's walks alone
set_option linter.unusedVariables false
set_option linter.unusedSimpArgs false

/-! ### umlautref1_Mul: function 212 -/
def umlautref1_Mul.j0 : Nat → Int → Int → Bool → Option (Int × Int)
  | 0, _, _, _ => none
  | k + 1, x0, x1, x12 => if x12 = true then (some (0, 0)) else (if x0 = (-1) then ((umlautref1_Neg.f x1).bind fun bt116 => (some (bt116.1, bt116.2))) else (if x1 = (-1) then ((umlautref1_Neg.f x0).bind fun bt118 => (some (bt118.1, bt118.2))) else (if x1 = 0 then (none) else (if (wrap64 (Int.tdiv (wrap64 (x0 * x1)) x1)) = x0 then (some (wrap64 (x0 * x1), 0)) else (some (0, 17))))))
def umlautref1_Mul.f (k : Nat) (a0 : Int) (a1 : Int) : Option (Int × Int) := if a0 = 0 then (umlautref1_Mul.j0 k a0 a1 true) else (umlautref1_Mul.j0 k a0 a1 (a1 == 0))
theorem umlautref1_Mul.mono_l : ∀ k, (∀ y0 y1 y2, LeO (umlautref1_Mul.j0 k y0 y1 y2) (umlautref1_Mul.j0 (k + 1) y0 y1 y2))
  | 0 => fun _ _ _ r h => by simp [umlautref1_Mul.j0] at h
  | k + 1 => by
    have ih0 := umlautref1_Mul.mono_l k
    · intro y0 y1 y2
      unfold umlautref1_Mul.j0
      repeat' first
      | (with_reducible exact ih0 _ _ _)
      | (with_reducible exact LeO.refl _)
      | (with_reducible exact LeO.none _)
      | (with_reducible refine LeO.ite ?_ ?_)
      | (with_reducible refine LeO.bind ?_ (fun _ => ?_))
      | exact ih0 _ _ _
      | exact LeO.none _
      | refine LeO.ite ?_ ?_
      | refine LeO.bind ?_ (fun _ => ?_)
theorem umlautref1_Mul.mono : ∀ a0 a1 k, LeO (umlautref1_Mul.f k a0 a1) (umlautref1_Mul.f (k + 1) a0 a1) := by
  intro a0 a1 k
  have ih0 := umlautref1_Mul.mono_l k
  unfold umlautref1_Mul.f
  repeat' first
      | (with_reducible exact ih0 _ _ _)
      | (with_reducible exact LeO.refl _)
      | (with_reducible exact LeO.none _)
      | (with_reducible refine LeO.ite ?_ ?_)
      | (with_reducible refine LeO.bind ?_ (fun _ => ?_))
      | exact ih0 _ _ _
      | exact LeO.none _
      | refine LeO.ite ?_ ?_
      | refine LeO.bind ?_ (fun _ => ?_)
set_option maxHeartbeats 8000000 in
set_option maxRecDepth 100000 in
theorem umlautref1_Mul.calls (k : Nat) (a0 : Int) (a1 : Int) (r1 : Int) (r2 : Int) (w : World) (h : umlautref1_Mul.f k a0 a1 = some (r1, r2)) :
    Calls Tryz.prog 212 #[.int .i64 a0, .int .i64 a1] w fun e w' => e = .returned (.tuple #[.int .i64 r1, .int .i64 r2]) ∧ Drawn0 w w' := by
  have H : (if a0 = 0 then (umlautref1_Mul.j0 k a0 a1 true) else (umlautref1_Mul.j0 k a0 a1 (a1 == 0))) = some (r1, r2) := h
  clear h
  have HC3 := Aside0.mk H
  clear H
  go_enter Tryz.func212, Tryz.ntmps212
  go_upto_region 1 with (fail)
  go_cut [12] (fun v12 wc => ∃ (kq : Nat) (x12_2 : Bool), v12 = .bool x12_2 ∧ Aside0 (umlautref1_Mul.j0 kq a0 a1 x12_2 = some (r1, r2)) ∧ Aside0 (kq ≤ k) ∧ Drawn0 w wc)
  case first =>
    have H := HC3.out
    clear HC3
    by_cases c4 : a0 = 0
    · rw [if_pos c4] at H
      have c4b0 : (a0 == 0) = true := beq_iff_eq.mpr c4
      have c4b1 : (a0 != 0) = false := bne_eq_false_iff_eq.mpr c4
      clear c4
      (first | rw [c4b0] | (simp only [i64_w, i32_w]; rw [c4b0]) | skip)
      have H' := Aside0.mk H
      clear H
      go_wp2
      go_meet
      case rel => exact ⟨_, (true), (by first | rfl | (simp; done) | (simp [*]; done)), H', ⟨by first | omega | exact Nat.le_refl _⟩, by repeat (first | exact Drawn0.refl _ | apply Drawn0.step)⟩
    · rw [if_neg c4] at H
      have c4b0 : (a0 == 0) = false := beq_eq_false_iff_ne.mpr c4
      have c4b1 : (a0 != 0) = true := bne_iff_ne.mpr c4
      (first | rw [c4b0] | (simp only [i64_w, i32_w]; rw [c4b0]) | skip)
      have H' := Aside0.mk H
      clear H
      go_wp2
      go_meet
      case rel => exact ⟨_, ((a1 == 0)), (by first | rfl | (simp; done) | (simp [*]; done)), H', ⟨by first | omega | exact Nat.le_refl _⟩, by repeat (first | exact Drawn0.refl _ | apply Drawn0.step)⟩
  case rest =>
    clear HC3
    try clear c2
    try clear p2
    try clear c4
    try clear c4b0
    try clear c4b1
    obtain ⟨kq, x12_2, rfl, HA, HJ2, ⟨mc2, rfl⟩⟩ := hcut
    cases kq with
    | zero => exact absurd HA.out (by simp [umlautref1_Mul.j0])
    | succ kj2 =>
      have H := HA.out
      clear HA
      simp only [umlautref1_Mul.j0] at H
      by_cases c5 : x12_2 = true
      · subst c5
        have H1 : (some (0, 0)) = some (r1, r2) := by rw [if_pos rfl] at H; exact H
        clear H
        have H := H1
        clear H1
        simp only [Option.some.injEq, Prod.mk.injEq] at H
        obtain ⟨rfl, rfl⟩ := H
        go_wp2
        go_ret2
        exact ⟨by first | rfl | (simp; done) | (simp [*]; done), by repeat (first | exact Drawn0.refl _ | apply Drawn0.step)⟩
      · replace c5 := Bool.eq_false_iff.mpr c5
        subst c5
        have H1 : (if a0 = (-1) then ((umlautref1_Neg.f a1).bind fun bt116 => (some (bt116.1, bt116.2))) else (if a1 = (-1) then ((umlautref1_Neg.f a0).bind fun bt118 => (some (bt118.1, bt118.2))) else (if a1 = 0 then (none) else (if (wrap64 (Int.tdiv (wrap64 (a0 * a1)) a1)) = a0 then (some (wrap64 (a0 * a1), 0)) else (some (0, 17)))))) = some (r1, r2) := by rw [if_neg (show ¬ (false = true) by decide)] at H; exact H
        clear H
        have H := H1
        clear H1
        by_cases c6 : a0 = (-1)
        · rw [if_pos c6] at H
          have c6b0 : (a0 == (-1)) = true := beq_iff_eq.mpr c6
          have c6b1 : (a0 != (-1)) = false := bne_eq_false_iff_eq.mpr c6
          clear c6
          replace H := Option.bind_eq_some_iff.mp H
          obtain ⟨⟨t116, t117⟩, A70, H⟩ := H
          replace H : (some (t116, t117)) = some (r1, r2) := H
          have A7 := Aside0.mk A70
          clear A70
          simp only [Option.some.injEq, Prod.mk.injEq] at H
          obtain ⟨rfl, rfl⟩ := H
          go_wp2_with (first | ((with_reducible refine gate_callee (f := 283) rfl ?_); refine goesL_ (some 16) rfl rfl Tryz.func283 (by kernel_rfl) rfl #[.int .i64 a1] rfl (by (try simp only [List.map_toArray, List.map_cons, List.map_nil]); first | done | rfl | (simp only [List.length_drop, List.length_take]; rfl)) ?_; (with_reducible refine (umlautref1_Neg.calls a1 t116 t117 _ A7.out).mono ?_); rintro e w' ⟨rfl, ⟨nd, rfl⟩⟩; refine ⟨_, rfl, ?_⟩))
          go_ret2
          exact ⟨by first | rfl | (simp; done) | (simp [*]; done), by repeat (first | exact Drawn0.refl _ | apply Drawn0.step)⟩
        · rw [if_neg c6] at H
          have c6b0 : (a0 == (-1)) = false := beq_eq_false_iff_ne.mpr c6
          have c6b1 : (a0 != (-1)) = true := bne_iff_ne.mpr c6
          by_cases c8 : a1 = (-1)
          · rw [if_pos c8] at H
            have c8b0 : (a1 == (-1)) = true := beq_iff_eq.mpr c8
            have c8b1 : (a1 != (-1)) = false := bne_eq_false_iff_eq.mpr c8
            clear c8
            replace H := Option.bind_eq_some_iff.mp H
            obtain ⟨⟨t118, t119⟩, A90, H⟩ := H
            replace H : (some (t118, t119)) = some (r1, r2) := H
            have A9 := Aside0.mk A90
            clear A90
            simp only [Option.some.injEq, Prod.mk.injEq] at H
            obtain ⟨rfl, rfl⟩ := H
            go_wp2_with (first | ((with_reducible refine gate_callee (f := 283) rfl ?_); refine goesL_ (some 22) rfl rfl Tryz.func283 (by kernel_rfl) rfl #[.int .i64 a0] rfl (by (try simp only [List.map_toArray, List.map_cons, List.map_nil]); first | done | rfl | (simp only [List.length_drop, List.length_take]; rfl)) ?_; (with_reducible refine (umlautref1_Neg.calls a0 t118 t119 _ A9.out).mono ?_); rintro e w' ⟨rfl, ⟨nd, rfl⟩⟩; refine ⟨_, rfl, ?_⟩))
            go_ret2
            exact ⟨by first | rfl | (simp; done) | (simp [*]; done), by repeat (first | exact Drawn0.refl _ | apply Drawn0.step)⟩
          · rw [if_neg c8] at H
            have c8b0 : (a1 == (-1)) = false := beq_eq_false_iff_ne.mpr c8
            have c8b1 : (a1 != (-1)) = true := bne_iff_ne.mpr c8
            by_cases c10 : a1 = 0
            · rw [if_pos c10] at H
              exact absurd H (by simp)
            · rw [if_neg c10] at H
              have c10b0 : (a1 == 0) = false := beq_eq_false_iff_ne.mpr c10
              have c10b1 : (a1 != 0) = true := bne_iff_ne.mpr c10
              by_cases c11 : (wrap64 (Int.tdiv (wrap64 (a0 * a1)) a1)) = a0
              · rw [if_pos c11] at H
                have c11b0 : ((wrap64 (Int.tdiv (wrap64 (a0 * a1)) a1)) == a0) = true := beq_iff_eq.mpr c11
                have c11b1 : ((wrap64 (Int.tdiv (wrap64 (a0 * a1)) a1)) != a0) = false := bne_eq_false_iff_eq.mpr c11
                clear c11
                simp only [Option.some.injEq, Prod.mk.injEq] at H
                obtain ⟨rfl, rfl⟩ := H
                go_wp2
                go_ret2
                exact ⟨by first | rfl | (simp; done) | (simp [*]; done), by repeat (first | exact Drawn0.refl _ | apply Drawn0.step)⟩
              · rw [if_neg c11] at H
                have c11b0 : ((wrap64 (Int.tdiv (wrap64 (a0 * a1)) a1)) == a0) = false := beq_eq_false_iff_ne.mpr c11
                have c11b1 : ((wrap64 (Int.tdiv (wrap64 (a0 * a1)) a1)) != a0) = true := bne_iff_ne.mpr c11
                simp only [Option.some.injEq, Prod.mk.injEq] at H
                obtain ⟨rfl, rfl⟩ := H
                go_wp2
                go_ret2
                exact ⟨by first | rfl | (simp; done) | (simp [*]; done), by repeat (first | exact Drawn0.refl _ | apply Drawn0.step)⟩

/-! ### umlautref1_Add: function 213 -/
def umlautref1_Add.f (a0 : Int) (a1 : Int) : Option (Int × Int) := if a1 > 0 then (if a0 > (wrap64 (9223372036854775807 - a1)) then (some (0, 17)) else (if a1 < 0 then (if a0 < (wrap64 ((-9223372036854775808) - a1)) then (some (0, 17)) else (some (wrap64 (a0 + a1), 0))) else (some (wrap64 (a0 + a1), 0)))) else (if a1 < 0 then (if a0 < (wrap64 ((-9223372036854775808) - a1)) then (some (0, 17)) else (some (wrap64 (a0 + a1), 0))) else (some (wrap64 (a0 + a1), 0)))
set_option maxHeartbeats 8000000 in
set_option maxRecDepth 100000 in
theorem umlautref1_Add.calls (a0 : Int) (a1 : Int) (r1 : Int) (r2 : Int) (w : World) (h : umlautref1_Add.f a0 a1 = some (r1, r2)) :
    Calls Tryz.prog 213 #[.int .i64 a0, .int .i64 a1] w fun e w' => e = .returned (.tuple #[.int .i64 r1, .int .i64 r2]) ∧ Drawn0 w w' := by
  have H : (if a1 > 0 then (if a0 > (wrap64 (9223372036854775807 - a1)) then (some (0, 17)) else (if a1 < 0 then (if a0 < (wrap64 ((-9223372036854775808) - a1)) then (some (0, 17)) else (some (wrap64 (a0 + a1), 0))) else (some (wrap64 (a0 + a1), 0)))) else (if a1 < 0 then (if a0 < (wrap64 ((-9223372036854775808) - a1)) then (some (0, 17)) else (some (wrap64 (a0 + a1), 0))) else (some (wrap64 (a0 + a1), 0)))) = some (r1, r2) := h
  clear h
  by_cases c3 : a1 > 0
  · rw [if_pos c3] at H
    have c3b0 : decide (0 < a1) = true := decide_eq_true c3
    clear c3
    by_cases c4 : a0 > (wrap64 (9223372036854775807 - a1))
    · rw [if_pos c4] at H
      have c4b0 : decide ((wrap64 (9223372036854775807 - a1)) < a0) = true := decide_eq_true c4
      clear c4
      simp only [Option.some.injEq, Prod.mk.injEq] at H
      obtain ⟨rfl, rfl⟩ := H
      go_enter Tryz.func213, Tryz.ntmps213
      go_wp2
      go_ret2
      exact ⟨by first | rfl | (simp; done) | (simp [*]; done), by repeat (first | exact Drawn0.refl _ | apply Drawn0.step)⟩
    · rw [if_neg c4] at H
      have c4b0 : decide ((wrap64 (9223372036854775807 - a1)) < a0) = false := decide_eq_false c4
      clear c4
      by_cases c5 : a1 < 0
      · rw [if_pos c5] at H
        have c5b0 : decide (a1 < 0) = true := decide_eq_true c5
        clear c5
        by_cases c6 : a0 < (wrap64 ((-9223372036854775808) - a1))
        · rw [if_pos c6] at H
          have c6b0 : decide (a0 < (wrap64 ((-9223372036854775808) - a1))) = true := decide_eq_true c6
          clear c6
          simp only [Option.some.injEq, Prod.mk.injEq] at H
          obtain ⟨rfl, rfl⟩ := H
          go_enter Tryz.func213, Tryz.ntmps213
          go_wp2
          go_ret2
          exact ⟨by first | rfl | (simp; done) | (simp [*]; done), by repeat (first | exact Drawn0.refl _ | apply Drawn0.step)⟩
        · rw [if_neg c6] at H
          have c6b0 : decide (a0 < (wrap64 ((-9223372036854775808) - a1))) = false := decide_eq_false c6
          clear c6
          simp only [Option.some.injEq, Prod.mk.injEq] at H
          obtain ⟨rfl, rfl⟩ := H
          go_enter Tryz.func213, Tryz.ntmps213
          go_wp2
          go_ret2
          exact ⟨by first | rfl | (simp; done) | (simp [*]; done), by repeat (first | exact Drawn0.refl _ | apply Drawn0.step)⟩
      · rw [if_neg c5] at H
        have c5b0 : decide (a1 < 0) = false := decide_eq_false c5
        clear c5
        simp only [Option.some.injEq, Prod.mk.injEq] at H
        obtain ⟨rfl, rfl⟩ := H
        go_enter Tryz.func213, Tryz.ntmps213
        go_wp2
        go_ret2
        exact ⟨by first | rfl | (simp; done) | (simp [*]; done), by repeat (first | exact Drawn0.refl _ | apply Drawn0.step)⟩
  · rw [if_neg c3] at H
    have c3b0 : decide (0 < a1) = false := decide_eq_false c3
    clear c3
    by_cases c7 : a1 < 0
    · rw [if_pos c7] at H
      have c7b0 : decide (a1 < 0) = true := decide_eq_true c7
      clear c7
      by_cases c8 : a0 < (wrap64 ((-9223372036854775808) - a1))
      · rw [if_pos c8] at H
        have c8b0 : decide (a0 < (wrap64 ((-9223372036854775808) - a1))) = true := decide_eq_true c8
        clear c8
        simp only [Option.some.injEq, Prod.mk.injEq] at H
        obtain ⟨rfl, rfl⟩ := H
        go_enter Tryz.func213, Tryz.ntmps213
        go_wp2
        go_ret2
        exact ⟨by first | rfl | (simp; done) | (simp [*]; done), by repeat (first | exact Drawn0.refl _ | apply Drawn0.step)⟩
      · rw [if_neg c8] at H
        have c8b0 : decide (a0 < (wrap64 ((-9223372036854775808) - a1))) = false := decide_eq_false c8
        clear c8
        simp only [Option.some.injEq, Prod.mk.injEq] at H
        obtain ⟨rfl, rfl⟩ := H
        go_enter Tryz.func213, Tryz.ntmps213
        go_wp2
        go_ret2
        exact ⟨by first | rfl | (simp; done) | (simp [*]; done), by repeat (first | exact Drawn0.refl _ | apply Drawn0.step)⟩
    · rw [if_neg c7] at H
      have c7b0 : decide (a1 < 0) = false := decide_eq_false c7
      clear c7
      simp only [Option.some.injEq, Prod.mk.injEq] at H
      obtain ⟨rfl, rfl⟩ := H
      go_enter Tryz.func213, Tryz.ntmps213
      go_wp2
      go_ret2
      exact ⟨by first | rfl | (simp; done) | (simp [*]; done), by repeat (first | exact Drawn0.refl _ | apply Drawn0.step)⟩

/-! ### umlautref1_Parse: function 133 -/
mutual
def umlautref1_Parse.j0 : Nat → ByteArray → Bool → Option (Int × Int)
  | 0, _, _ => none
  | k + 1, x0, x4 => if x4 = true then (if 1 ≤ (x0.size : Int) then (umlautref1_Parse.j1 k (x0.extract 1 x0.size) x4) else (none)) else (umlautref1_Parse.j1 k x0 x4)
def umlautref1_Parse.j1 : Nat → ByteArray → Bool → Option (Int × Int)
  | 0, _, _ => none
  | k + 1, x0, x4 => umlautref1_Parse.l0 k x0 x4 0
def umlautref1_Parse.l0 : Nat → ByteArray → Bool → Int → Option (Int × Int)
  | 0, _, _, _ => none
  | k + 1, x0, x4, x5 => if x5 < (x0.size : Int) then (if 0 ≤ x5 then (if (bt x0 x5) < 48 then (some (0, 3)) else (if (bt x0 x5) > 57 then (some (0, 3)) else (umlautref1_Parse.l0 k x0 x4 (wrap64 (x5 + 1))))) else (none)) else (if x0.toList = ([] : List UInt8) then (some (0, 3)) else (umlautref1_Parse.l1 k x0 x4 0 0))
def umlautref1_Parse.l1 : Nat → ByteArray → Bool → Int → Int → Option (Int × Int)
  | 0, _, _, _, _ => none
  | k + 1, x0, x4, x6, x7 => if x7 < (x0.size : Int) then ((umlautref1_Mul.f k x6 10).bind fun bt120 => (if bt120.2 = 0 then (if 0 ≤ x7 then (if x4 = true then ((umlautref1_Add.f bt120.1 (-(((bt x0 x7) - 48) % 256))).bind fun bt122 => (if bt122.2 = 0 then (umlautref1_Parse.l1 k x0 x4 bt122.1 (wrap64 (x7 + 1))) else (some (0, bt122.2)))) else ((umlautref1_Add.f bt120.1 (((bt x0 x7) - 48) % 256)).bind fun bt124 => (if bt124.2 = 0 then (umlautref1_Parse.l1 k x0 x4 bt124.1 (wrap64 (x7 + 1))) else (some (0, bt124.2))))) else (none)) else (some (0, bt120.2)))) else (some (x6, 0))
end
def umlautref1_Parse.f (k : Nat) (a0 : ByteArray) : Option (Int × Int) := if (a0.size : Int) > 0 then (if 0 < (a0.size : Int) then (umlautref1_Parse.j0 k a0 ((bt a0 0) == 45)) else (none)) else (umlautref1_Parse.j0 k a0 false)
theorem umlautref1_Parse.mono_l : ∀ k, (∀ y0 y1, LeO (umlautref1_Parse.j0 k y0 y1) (umlautref1_Parse.j0 (k + 1) y0 y1)) ∧ (∀ y0 y1, LeO (umlautref1_Parse.j1 k y0 y1) (umlautref1_Parse.j1 (k + 1) y0 y1)) ∧ (∀ y0 y1 y2, LeO (umlautref1_Parse.l0 k y0 y1 y2) (umlautref1_Parse.l0 (k + 1) y0 y1 y2)) ∧ (∀ y0 y1 y2 y3, LeO (umlautref1_Parse.l1 k y0 y1 y2 y3) (umlautref1_Parse.l1 (k + 1) y0 y1 y2 y3))
  | 0 => ⟨fun _ _ r h => by simp [umlautref1_Parse.j0] at h, fun _ _ r h => by simp [umlautref1_Parse.j1] at h, fun _ _ _ r h => by simp [umlautref1_Parse.l0] at h, fun _ _ _ _ r h => by simp [umlautref1_Parse.l1] at h⟩
  | k + 1 => by
    obtain ⟨ih0, ih1, ih2, ih3⟩ := umlautref1_Parse.mono_l k
    refine ⟨?_, ?_, ?_, ?_⟩
    · intro y0 y1
      unfold umlautref1_Parse.j0
      repeat' first
      | (with_reducible exact ih0 _ _)
      | (with_reducible exact ih1 _ _)
      | (with_reducible exact ih2 _ _ _)
      | (with_reducible exact ih3 _ _ _ _)
      | (with_reducible exact umlautref1_Mul.mono _ _ _)
      | (with_reducible exact LeO.refl _)
      | (with_reducible exact LeO.none _)
      | (with_reducible refine LeO.ite ?_ ?_)
      | (with_reducible refine LeO.bind ?_ (fun _ => ?_))
      | exact ih0 _ _
      | exact ih1 _ _
      | exact ih2 _ _ _
      | exact ih3 _ _ _ _
      | exact umlautref1_Mul.mono _ _ _
      | exact LeO.none _
      | refine LeO.ite ?_ ?_
      | refine LeO.bind ?_ (fun _ => ?_)
    · intro y0 y1
      unfold umlautref1_Parse.j1
      repeat' first
      | (with_reducible exact ih0 _ _)
      | (with_reducible exact ih1 _ _)
      | (with_reducible exact ih2 _ _ _)
      | (with_reducible exact ih3 _ _ _ _)
      | (with_reducible exact umlautref1_Mul.mono _ _ _)
      | (with_reducible exact LeO.refl _)
      | (with_reducible exact LeO.none _)
      | (with_reducible refine LeO.ite ?_ ?_)
      | (with_reducible refine LeO.bind ?_ (fun _ => ?_))
      | exact ih0 _ _
      | exact ih1 _ _
      | exact ih2 _ _ _
      | exact ih3 _ _ _ _
      | exact umlautref1_Mul.mono _ _ _
      | exact LeO.none _
      | refine LeO.ite ?_ ?_
      | refine LeO.bind ?_ (fun _ => ?_)
    · intro y0 y1 y2
      unfold umlautref1_Parse.l0
      repeat' first
      | (with_reducible exact ih0 _ _)
      | (with_reducible exact ih1 _ _)
      | (with_reducible exact ih2 _ _ _)
      | (with_reducible exact ih3 _ _ _ _)
      | (with_reducible exact umlautref1_Mul.mono _ _ _)
      | (with_reducible exact LeO.refl _)
      | (with_reducible exact LeO.none _)
      | (with_reducible refine LeO.ite ?_ ?_)
      | (with_reducible refine LeO.bind ?_ (fun _ => ?_))
      | exact ih0 _ _
      | exact ih1 _ _
      | exact ih2 _ _ _
      | exact ih3 _ _ _ _
      | exact umlautref1_Mul.mono _ _ _
      | exact LeO.none _
      | refine LeO.ite ?_ ?_
      | refine LeO.bind ?_ (fun _ => ?_)
    · intro y0 y1 y2 y3
      unfold umlautref1_Parse.l1
      repeat' first
      | (with_reducible exact ih0 _ _)
      | (with_reducible exact ih1 _ _)
      | (with_reducible exact ih2 _ _ _)
      | (with_reducible exact ih3 _ _ _ _)
      | (with_reducible exact umlautref1_Mul.mono _ _ _)
      | (with_reducible exact LeO.refl _)
      | (with_reducible exact LeO.none _)
      | (with_reducible refine LeO.ite ?_ ?_)
      | (with_reducible refine LeO.bind ?_ (fun _ => ?_))
      | exact ih0 _ _
      | exact ih1 _ _
      | exact ih2 _ _ _
      | exact ih3 _ _ _ _
      | exact umlautref1_Mul.mono _ _ _
      | exact LeO.none _
      | refine LeO.ite ?_ ?_
      | refine LeO.bind ?_ (fun _ => ?_)
theorem umlautref1_Parse.mono : ∀ a0 k, LeO (umlautref1_Parse.f k a0) (umlautref1_Parse.f (k + 1) a0) := by
  intro a0 k
  obtain ⟨ih0, ih1, ih2, ih3⟩ := umlautref1_Parse.mono_l k
  unfold umlautref1_Parse.f
  repeat' first
      | (with_reducible exact ih0 _ _)
      | (with_reducible exact ih1 _ _)
      | (with_reducible exact ih2 _ _ _)
      | (with_reducible exact ih3 _ _ _ _)
      | (with_reducible exact umlautref1_Mul.mono _ _ _)
      | (with_reducible exact LeO.refl _)
      | (with_reducible exact LeO.none _)
      | (with_reducible refine LeO.ite ?_ ?_)
      | (with_reducible refine LeO.bind ?_ (fun _ => ?_))
      | exact ih0 _ _
      | exact ih1 _ _
      | exact ih2 _ _ _
      | exact ih3 _ _ _ _
      | exact umlautref1_Mul.mono _ _ _
      | exact LeO.none _
      | refine LeO.ite ?_ ?_
      | refine LeO.bind ?_ (fun _ => ?_)
set_option maxHeartbeats 8000000 in
set_option maxRecDepth 100000 in
theorem umlautref1_Parse.calls (k : Nat) (a0 : ByteArray) (r1 : Int) (r2 : Int) (w : World) (h : umlautref1_Parse.f k a0 = some (r1, r2)) :
    Calls Tryz.prog 133 #[.string a0] w fun e w' => e = .returned (.tuple #[.int .i64 r1, .int .i64 r2]) ∧ Drawn0 w w' := by
  have H : (if (a0.size : Int) > 0 then (if 0 < (a0.size : Int) then (umlautref1_Parse.j0 k a0 ((bt a0 0) == 45)) else (none)) else (umlautref1_Parse.j0 k a0 false)) = some (r1, r2) := h
  clear h
  have HC2 := Aside0.mk H
  clear H
  go_enter Tryz.func133, Tryz.ntmps133
  go_upto_region 1 with (fail)
  go_cut [4] (fun v4 wc => ∃ (kq : Nat) (x4_1 : Bool), v4 = .bool x4_1 ∧ Aside0 (umlautref1_Parse.j0 kq a0 x4_1 = some (r1, r2)) ∧ Aside0 (kq ≤ k) ∧ Drawn0 w wc)
  case first =>
    have H := HC2.out
    clear HC2
    by_cases c3 : (a0.size : Int) > 0
    · rw [if_pos c3] at H
      have c3b0 : decide (0 < (a0.size : Int)) = true := decide_eq_true c3
      have c3b1 : decide (0 < a0.size) = true := decide_eq_true (by omega)
      clear c3
      (first | rw [c3b0] | (simp only [i64_w, i32_w]; rw [c3b0]) | skip)
      by_cases c4 : 0 < (a0.size : Int)
      · rw [if_pos c4] at H
        have c4b0 : decide (0 < (a0.size : Int)) = true := decide_eq_true c4
        have c4b1 : decide (0 < a0.size) = true := decide_eq_true (by omega)
        clear c4
        have H' := Aside0.mk H
        clear H
        have p5 : 0 ≤ (0 : Int) := (by omega)
        have q5 : 0 < a0.size := (by have : (0 : Int) < (a0.size : Int) := of_decide_eq_true (by first | (with_reducible assumption) | assumption); omega)
        have hx5 : ∀ h : 0 < a0.size, ((a0[0]'h).toNat : Int) = bt a0 0 := bt_at a0 0
        clear p5
        have qi5 : (0 < (a0.size : Int)) = True := eq_true (of_decide_eq_true (by first | (with_reducible assumption) | assumption))
        replace q5 := eq_true q5
        go_wp2
        go_meet
        case rel => exact ⟨_, (((bt a0 0) == 45)), (by first | rfl | (simp; done) | (simp [*]; done)), H', ⟨by first | omega | exact Nat.le_refl _⟩, by repeat (first | exact Drawn0.refl _ | apply Drawn0.step)⟩
      · rw [if_neg c4] at H
        exact absurd H (by simp)
    · rw [if_neg c3] at H
      have c3b0 : decide (0 < (a0.size : Int)) = false := decide_eq_false c3
      have c3b1 : decide (0 < a0.size) = false := decide_eq_false (by omega)
      clear c3
      (first | rw [c3b0] | (simp only [i64_w, i32_w]; rw [c3b0]) | skip)
      have H' := Aside0.mk H
      clear H
      go_wp2
      go_meet
      case rel => exact ⟨_, (false), (by first | rfl | (simp; done) | (simp [*]; done)), H', ⟨by first | omega | exact Nat.le_refl _⟩, by repeat (first | exact Drawn0.refl _ | apply Drawn0.step)⟩
  case rest =>
    clear HC2
    try clear c1
    try clear p2
    try clear c3
    try clear c3b0
    try clear c3b1
    try clear c4
    try clear c4b0
    try clear c4b1
    try clear p5
    try clear q5
    try clear hx5
    try clear qi5
    try clear p5
    try clear q5
    obtain ⟨kq, x4_1, rfl, HA, HJ1, ⟨mc1, rfl⟩⟩ := hcut
    cases kq with
    | zero => exact absurd HA.out (by simp [umlautref1_Parse.j0])
    | succ kj1 =>
      have H := HA.out
      clear HA
      simp only [umlautref1_Parse.j0] at H
      have HC6 := Aside0.mk H
      clear H
      go_upto_if 19 with (fail)
      go_cut [0] (fun v0 wc => ∃ (kq : Nat) (x0_5 : ByteArray), v0 = .string x0_5 ∧ Aside0 (umlautref1_Parse.j1 kq x0_5 x4_1 = some (r1, r2)) ∧ Aside0 (kq ≤ kj1) ∧ Drawn0 w wc)
      case first =>
        have H := HC6.out
        clear HC6
        by_cases c7 : x4_1 = true
        · subst c7
          have H1 : (if 1 ≤ (a0.size : Int) then (umlautref1_Parse.j1 kj1 (a0.extract 1 a0.size) true) else (none)) = some (r1, r2) := by rw [if_pos rfl] at H; exact H
          clear H
          have H := H1
          clear H1
          by_cases c8 : 1 ≤ (a0.size : Int)
          · rw [if_pos c8] at H
            have c8b0 := eq_true c8
            have c8b1 : decide (1 ≤ (a0.size : Int)) = true := decide_eq_true c8
            clear c8
            have H' := Aside0.mk H
            clear H
            go_wp2
            go_meet
            case rel => exact ⟨_, (a0.extract 1 a0.size), (by first | rfl | (simp; done) | (simp [*]; done)), H', ⟨by have := HJ1.out; first | omega | exact Nat.le_refl _⟩, by repeat (first | exact Drawn0.refl _ | apply Drawn0.step)⟩
          · rw [if_neg c8] at H
            exact absurd H (by simp)
        · replace c7 := Bool.eq_false_iff.mpr c7
          subst c7
          have H1 : (umlautref1_Parse.j1 kj1 a0 false) = some (r1, r2) := by rw [if_neg (show ¬ (false = true) by decide)] at H; exact H
          clear H
          have H := H1
          clear H1
          have H' := Aside0.mk H
          clear H
          go_wp2
          go_meet
          case rel => exact ⟨_, (a0), (by first | rfl | (simp; done) | (simp [*]; done)), H', ⟨by have := HJ1.out; first | omega | exact Nat.le_refl _⟩, by repeat (first | exact Drawn0.refl _ | apply Drawn0.step)⟩
      case rest =>
        clear HC6
        try clear c1
        try clear p2
        try clear c3
        try clear c3b0
        try clear c3b1
        try clear c4
        try clear c4b0
        try clear c4b1
        try clear p5
        try clear q5
        try clear hx5
        try clear qi5
        try clear c7
        try clear c8
        try clear c8b0
        try clear c8b1
        try clear p2
        try clear p5
        try clear q5
        obtain ⟨kq, x0_5, rfl, HA, HJ5, ⟨mc5, rfl⟩⟩ := hcut
        cases kq with
        | zero => exact absurd HA.out (by simp [umlautref1_Parse.j1])
        | succ kj5 =>
          have H := HA.out
          clear HA
          simp only [umlautref1_Parse.j1] at H
          have H' := Aside0.mk H
          clear H
          go_wp2
          go_loopg [5] kj5 (fun kq v5 w' => ∃ (x5_3 : Int), v5 = .int .i64 x5_3 ∧ Aside0 (umlautref1_Parse.l0 kq x0_5 x4_1 x5_3 = some (r1, r2)) ∧ Aside0 (kq ≤ kj5) ∧ Drawn0 w w')
          case atStart => exact ⟨(0), (by first | rfl | (simp; done) | (simp [*]; done)), H', ⟨Nat.le_refl _⟩, by repeat (first | exact Drawn0.refl _ | apply Drawn0.step)⟩
          case round =>
            clear H'
            try clear c1
            try clear p2
            try clear c3
            try clear c3b0
            try clear c3b1
            try clear c4
            try clear c4b0
            try clear c4b1
            try clear c5
            try clear p5
            try clear q5
            try clear hx5
            try clear qi5
            try clear c7
            try clear c8
            try clear c8b0
            try clear c8b1
            try clear p2
            try clear p5
            try clear q5
            obtain ⟨x5_3, rfl, HA, HK3, ⟨m3, rfl⟩⟩ := hrel
            cases gk with
            | zero => exact absurd HA.out (by simp [umlautref1_Parse.l0])
            | succ k3 =>
              have H := HA.out
              clear HA
              simp only [umlautref1_Parse.l0] at H
              by_cases c9 : x5_3 < (x0_5.size : Int)
              · rw [if_pos c9] at H
                have c9b0 : decide (x5_3 < (x0_5.size : Int)) = true := decide_eq_true c9
                clear c9
                by_cases c10 : 0 ≤ x5_3
                · rw [if_pos c10] at H
                  have c10b0 : decide (0 ≤ x5_3) = true := decide_eq_true c10
                  clear c10
                  by_cases c12 : (bt x0_5 x5_3) < 48
                  · rw [if_pos c12] at H
                    have c12b0 : decide ((bt x0_5 x5_3) < 48) = true := decide_eq_true c12
                    clear c12
                    simp only [Option.some.injEq, Prod.mk.injEq] at H
                    obtain ⟨rfl, rfl⟩ := H
                    have p11 : 0 ≤ (x5_3 : Int) := of_decide_eq_true (by first | (with_reducible assumption) | assumption)
                    have q11 : x5_3 < (x0_5.size : Int) := of_decide_eq_true (by first | (with_reducible assumption) | assumption)
                    have hx11 := bt_at x0_5 x5_3
                    replace p11 := eq_true p11
                    replace q11 := eq_true q11
                    go_wp2
                    go_ret2
                    exact ⟨by first | rfl | (simp; done) | (simp [*]; done), by repeat (first | exact Drawn0.refl _ | apply Drawn0.step)⟩
                  · rw [if_neg c12] at H
                    have c12b0 : decide ((bt x0_5 x5_3) < 48) = false := decide_eq_false c12
                    clear c12
                    by_cases c14 : (bt x0_5 x5_3) > 57
                    · rw [if_pos c14] at H
                      have c14b0 : decide (57 < (bt x0_5 x5_3)) = true := decide_eq_true c14
                      clear c14
                      simp only [Option.some.injEq, Prod.mk.injEq] at H
                      obtain ⟨rfl, rfl⟩ := H
                      have p11 : 0 ≤ (x5_3 : Int) := of_decide_eq_true (by first | (with_reducible assumption) | assumption)
                      have q11 : x5_3 < (x0_5.size : Int) := of_decide_eq_true (by first | (with_reducible assumption) | assumption)
                      have hx11 := bt_at x0_5 x5_3
                      replace p11 := eq_true p11
                      replace q11 := eq_true q11
                      have p13 : 0 ≤ (x5_3 : Int) := of_decide_eq_true (by first | (with_reducible assumption) | assumption)
                      have q13 : x5_3 < (x0_5.size : Int) := of_decide_eq_true (by first | (with_reducible assumption) | assumption)
                      have hx13 := bt_at x0_5 x5_3
                      replace p13 := eq_true p13
                      replace q13 := eq_true q13
                      go_wp2
                      go_ret2
                      exact ⟨by first | rfl | (simp; done) | (simp [*]; done), by repeat (first | exact Drawn0.refl _ | apply Drawn0.step)⟩
                    · rw [if_neg c14] at H
                      have c14b0 : decide (57 < (bt x0_5 x5_3)) = false := decide_eq_false c14
                      clear c14
                      have H' := Aside0.mk H
                      clear H
                      have p11 : 0 ≤ (x5_3 : Int) := of_decide_eq_true (by first | (with_reducible assumption) | assumption)
                      have q11 : x5_3 < (x0_5.size : Int) := of_decide_eq_true (by first | (with_reducible assumption) | assumption)
                      have hx11 := bt_at x0_5 x5_3
                      replace p11 := eq_true p11
                      replace q11 := eq_true q11
                      have p13 : 0 ≤ (x5_3 : Int) := of_decide_eq_true (by first | (with_reducible assumption) | assumption)
                      have q13 : x5_3 < (x0_5.size : Int) := of_decide_eq_true (by first | (with_reducible assumption) | assumption)
                      have hx13 := bt_at x0_5 x5_3
                      replace p13 := eq_true p13
                      replace q13 := eq_true q13
                      go_wp2
                      go_roundg k3
                      case measure => have := HJ1.out; have := HJ5.out; have := HK3.out; omega
                      case rel => exact ⟨(wrap64 (x5_3 + 1)), (by first | rfl | (simp; done) | (simp [*]; done)), H', ⟨by have := HJ1.out; have := HJ5.out; have := HK3.out; omega⟩, by repeat (first | exact Drawn0.refl _ | apply Drawn0.step)⟩
                · rw [if_neg c10] at H
                  exact absurd H (by simp)
              · rw [if_neg c9] at H
                have c9b0 : decide (x5_3 < (x0_5.size : Int)) = false := decide_eq_false c9
                clear c9
                by_cases c15 : x0_5.toList = ([] : List UInt8)
                · rw [if_pos c15] at H
                  have c15b0 : (x0_5.toList == ([] : List UInt8)) = true := beq_iff_eq.mpr c15
                  have c15b1 : (x0_5.toList != ([] : List UInt8)) = false := bne_eq_false_iff_eq.mpr c15
                  clear c15
                  simp only [Option.some.injEq, Prod.mk.injEq] at H
                  obtain ⟨rfl, rfl⟩ := H
                  go_wp2
                  go_ret2
                  exact ⟨by first | rfl | (simp; done) | (simp [*]; done), by repeat (first | exact Drawn0.refl _ | apply Drawn0.step)⟩
                · rw [if_neg c15] at H
                  have c15b0 : (x0_5.toList == ([] : List UInt8)) = false := beq_eq_false_iff_ne.mpr c15
                  have c15b1 : (x0_5.toList != ([] : List UInt8)) = true := bne_iff_ne.mpr c15
                  have H' := Aside0.mk H
                  clear H
                  go_wp2
                  go_loopg [6, 7] k3 (fun kq v6 v7 w' => ∃ (x6_4 : Int) (x7_4 : Int), v6 = .int .i64 x6_4 ∧ v7 = .int .i64 x7_4 ∧ Aside0 (umlautref1_Parse.l1 kq x0_5 x4_1 x6_4 x7_4 = some (r1, r2)) ∧ Aside0 (kq ≤ k3) ∧ Drawn0 w w')
                  case atStart => exact ⟨(0), (0), (by first | rfl | (simp; done) | (simp [*]; done)), (by first | rfl | (simp; done) | (simp [*]; done)), H', ⟨Nat.le_refl _⟩, by repeat (first | exact Drawn0.refl _ | apply Drawn0.step)⟩
                  case round =>
                    clear H'
                    try clear c1
                    try clear p1
                    try clear q1
                    try clear hx1
                    try clear p2
                    try clear c3
                    try clear c3b0
                    try clear c3b1
                    try clear c4
                    try clear c4b0
                    try clear c4b1
                    try clear c5
                    try clear p5
                    try clear q5
                    try clear hx5
                    try clear qi5
                    try clear p6
                    try clear c7
                    try clear c8
                    try clear c8b0
                    try clear c8b1
                    try clear c9
                    try clear c9b0
                    try clear c10
                    try clear c10b0
                    try clear p11
                    try clear q11
                    try clear hx11
                    try clear c12
                    try clear c12b0
                    try clear c13
                    try clear p13
                    try clear q13
                    try clear hx13
                    try clear c14
                    try clear c14b0
                    try clear c15
                    try clear c15b0
                    try clear c15b1
                    try clear p11
                    try clear p13
                    try clear p2
                    try clear p5
                    try clear q11
                    try clear q13
                    try clear q5
                    obtain ⟨x6_4, x7_4, rfl, rfl, HA, HK4, ⟨m4, rfl⟩⟩ := hrel
                    cases gk with
                    | zero => exact absurd HA.out (by simp [umlautref1_Parse.l1])
                    | succ k4 =>
                      have H := HA.out
                      clear HA
                      simp only [umlautref1_Parse.l1] at H
                      by_cases c16 : x7_4 < (x0_5.size : Int)
                      · rw [if_pos c16] at H
                        have c16b0 : decide (x7_4 < (x0_5.size : Int)) = true := decide_eq_true c16
                        clear c16
                        replace H := Option.bind_eq_some_iff.mp H
                        obtain ⟨⟨t120, t121⟩, A170, H⟩ := H
                        replace H : (if t121 = 0 then (if 0 ≤ x7_4 then (if x4_1 = true then ((umlautref1_Add.f t120 (-(((bt x0_5 x7_4) - 48) % 256))).bind fun bt122 => (if bt122.2 = 0 then (umlautref1_Parse.l1 k4 x0_5 x4_1 bt122.1 (wrap64 (x7_4 + 1))) else (some (0, bt122.2)))) else ((umlautref1_Add.f t120 (((bt x0_5 x7_4) - 48) % 256)).bind fun bt124 => (if bt124.2 = 0 then (umlautref1_Parse.l1 k4 x0_5 x4_1 bt124.1 (wrap64 (x7_4 + 1))) else (some (0, bt124.2))))) else (none)) else (some (0, t121))) = some (r1, r2) := H
                        have A17 := Aside0.mk A170
                        clear A170
                        by_cases c18 : t121 = 0
                        · rw [if_pos c18] at H
                          have c18b0 : (t121 == 0) = true := beq_iff_eq.mpr c18
                          have c18b1 : (t121 != 0) = false := bne_eq_false_iff_eq.mpr c18
                          clear c18
                          by_cases c19 : 0 ≤ x7_4
                          · rw [if_pos c19] at H
                            have c19b0 : decide (0 ≤ x7_4) = true := decide_eq_true c19
                            clear c19
                            by_cases c21 : x4_1 = true
                            · subst c21
                              have H1 : ((umlautref1_Add.f t120 (-(((bt x0_5 x7_4) - 48) % 256))).bind fun bt122 => (if bt122.2 = 0 then (umlautref1_Parse.l1 k4 x0_5 true bt122.1 (wrap64 (x7_4 + 1))) else (some (0, bt122.2)))) = some (r1, r2) := by rw [if_pos rfl] at H; exact H
                              clear H
                              have H := H1
                              clear H1
                              replace H := Option.bind_eq_some_iff.mp H
                              obtain ⟨⟨t122, t123⟩, A220, H⟩ := H
                              replace H : (if t123 = 0 then (umlautref1_Parse.l1 k4 x0_5 true t122 (wrap64 (x7_4 + 1))) else (some (0, t123))) = some (r1, r2) := H
                              have A22 := Aside0.mk A220
                              clear A220
                              by_cases c23 : t123 = 0
                              · rw [if_pos c23] at H
                                have c23b0 : (t123 == 0) = true := beq_iff_eq.mpr c23
                                have c23b1 : (t123 != 0) = false := bne_eq_false_iff_eq.mpr c23
                                clear c23
                                have H' := Aside0.mk H
                                clear H
                                go_wp2_with (first | ((with_reducible refine gate_callee (f := 212) rfl ?_); refine goesL_ (some 48) rfl rfl Tryz.func212 (by kernel_rfl) rfl #[.int .i64 x6_4, .int .i64 10] rfl (by (try simp only [List.map_toArray, List.map_cons, List.map_nil]); first | done | rfl | (simp only [List.length_drop, List.length_take]; rfl)) ?_; (with_reducible refine (umlautref1_Mul.calls k4 x6_4 10 t120 t121 _ A17.out).mono ?_); rintro e w' ⟨rfl, ⟨nd, rfl⟩⟩; refine ⟨_, rfl, ?_⟩; have p20 : 0 ≤ (x7_4 : Int) := of_decide_eq_true (by first | (with_reducible assumption) | assumption); have q20 : x7_4 < (x0_5.size : Int) := of_decide_eq_true (by first | (with_reducible assumption) | assumption); have hx20 := bt_at x0_5 x7_4; replace p20 := eq_true p20; replace q20 := eq_true q20) | ((with_reducible refine gate_callee (f := 213) rfl ?_); refine goesL_ (some 65) rfl rfl Tryz.func213 (by kernel_rfl) rfl #[.int .i64 t120, .int .i64 (-(((bt x0_5 x7_4) - 48) % 256))] rfl (by (try simp only [List.map_toArray, List.map_cons, List.map_nil]); first | done | rfl | (simp only [List.length_drop, List.length_take]; rfl)) ?_; (with_reducible refine (umlautref1_Add.calls t120 (-(((bt x0_5 x7_4) - 48) % 256)) t122 t123 _ A22.out).mono ?_); rintro e w' ⟨rfl, ⟨nd, rfl⟩⟩; refine ⟨_, rfl, ?_⟩))
                                go_roundg k4
                                case measure => have := HJ1.out; have := HJ5.out; have := HK3.out; have := HK4.out; omega
                                case rel => exact ⟨(t122), (wrap64 (x7_4 + 1)), (by first | rfl | (simp; done) | (simp [*]; done)), (by first | rfl | (simp; done) | (simp [*]; done)), H', ⟨by have := HJ1.out; have := HJ5.out; have := HK3.out; have := HK4.out; omega⟩, by repeat (first | exact Drawn0.refl _ | apply Drawn0.step)⟩
                              · rw [if_neg c23] at H
                                have c23b0 : (t123 == 0) = false := beq_eq_false_iff_ne.mpr c23
                                have c23b1 : (t123 != 0) = true := bne_iff_ne.mpr c23
                                simp only [Option.some.injEq, Prod.mk.injEq] at H
                                obtain ⟨rfl, rfl⟩ := H
                                go_wp2_with (first | ((with_reducible refine gate_callee (f := 212) rfl ?_); refine goesL_ (some 48) rfl rfl Tryz.func212 (by kernel_rfl) rfl #[.int .i64 x6_4, .int .i64 10] rfl (by (try simp only [List.map_toArray, List.map_cons, List.map_nil]); first | done | rfl | (simp only [List.length_drop, List.length_take]; rfl)) ?_; (with_reducible refine (umlautref1_Mul.calls k4 x6_4 10 t120 t121 _ A17.out).mono ?_); rintro e w' ⟨rfl, ⟨nd, rfl⟩⟩; refine ⟨_, rfl, ?_⟩; have p20 : 0 ≤ (x7_4 : Int) := of_decide_eq_true (by first | (with_reducible assumption) | assumption); have q20 : x7_4 < (x0_5.size : Int) := of_decide_eq_true (by first | (with_reducible assumption) | assumption); have hx20 := bt_at x0_5 x7_4; replace p20 := eq_true p20; replace q20 := eq_true q20) | ((with_reducible refine gate_callee (f := 213) rfl ?_); refine goesL_ (some 65) rfl rfl Tryz.func213 (by kernel_rfl) rfl #[.int .i64 t120, .int .i64 (-(((bt x0_5 x7_4) - 48) % 256))] rfl (by (try simp only [List.map_toArray, List.map_cons, List.map_nil]); first | done | rfl | (simp only [List.length_drop, List.length_take]; rfl)) ?_; (with_reducible refine (umlautref1_Add.calls t120 (-(((bt x0_5 x7_4) - 48) % 256)) t122 t123 _ A22.out).mono ?_); rintro e w' ⟨rfl, ⟨nd, rfl⟩⟩; refine ⟨_, rfl, ?_⟩))
                                go_ret2
                                exact ⟨by first | rfl | (simp; done) | (simp [*]; done), by repeat (first | exact Drawn0.refl _ | apply Drawn0.step)⟩
                            · replace c21 := Bool.eq_false_iff.mpr c21
                              subst c21
                              have H1 : ((umlautref1_Add.f t120 (((bt x0_5 x7_4) - 48) % 256)).bind fun bt124 => (if bt124.2 = 0 then (umlautref1_Parse.l1 k4 x0_5 false bt124.1 (wrap64 (x7_4 + 1))) else (some (0, bt124.2)))) = some (r1, r2) := by rw [if_neg (show ¬ (false = true) by decide)] at H; exact H
                              clear H
                              have H := H1
                              clear H1
                              replace H := Option.bind_eq_some_iff.mp H
                              obtain ⟨⟨t124, t125⟩, A240, H⟩ := H
                              replace H : (if t125 = 0 then (umlautref1_Parse.l1 k4 x0_5 false t124 (wrap64 (x7_4 + 1))) else (some (0, t125))) = some (r1, r2) := H
                              have A24 := Aside0.mk A240
                              clear A240
                              by_cases c25 : t125 = 0
                              · rw [if_pos c25] at H
                                have c25b0 : (t125 == 0) = true := beq_iff_eq.mpr c25
                                have c25b1 : (t125 != 0) = false := bne_eq_false_iff_eq.mpr c25
                                clear c25
                                have H' := Aside0.mk H
                                clear H
                                go_wp2_with (first | ((with_reducible refine gate_callee (f := 212) rfl ?_); refine goesL_ (some 48) rfl rfl Tryz.func212 (by kernel_rfl) rfl #[.int .i64 x6_4, .int .i64 10] rfl (by (try simp only [List.map_toArray, List.map_cons, List.map_nil]); first | done | rfl | (simp only [List.length_drop, List.length_take]; rfl)) ?_; (with_reducible refine (umlautref1_Mul.calls k4 x6_4 10 t120 t121 _ A17.out).mono ?_); rintro e w' ⟨rfl, ⟨nd, rfl⟩⟩; refine ⟨_, rfl, ?_⟩; have p20 : 0 ≤ (x7_4 : Int) := of_decide_eq_true (by first | (with_reducible assumption) | assumption); have q20 : x7_4 < (x0_5.size : Int) := of_decide_eq_true (by first | (with_reducible assumption) | assumption); have hx20 := bt_at x0_5 x7_4; replace p20 := eq_true p20; replace q20 := eq_true q20) | ((with_reducible refine gate_callee (f := 213) rfl ?_); refine goesL_ (some 65) rfl rfl Tryz.func213 (by kernel_rfl) rfl #[.int .i64 t120, .int .i64 (((bt x0_5 x7_4) - 48) % 256)] rfl (by (try simp only [List.map_toArray, List.map_cons, List.map_nil]); first | done | rfl | (simp only [List.length_drop, List.length_take]; rfl)) ?_; (with_reducible refine (umlautref1_Add.calls t120 (((bt x0_5 x7_4) - 48) % 256) t124 t125 _ A24.out).mono ?_); rintro e w' ⟨rfl, ⟨nd, rfl⟩⟩; refine ⟨_, rfl, ?_⟩))
                                go_roundg k4
                                case measure => have := HJ1.out; have := HJ5.out; have := HK3.out; have := HK4.out; omega
                                case rel => exact ⟨(t124), (wrap64 (x7_4 + 1)), (by first | rfl | (simp; done) | (simp [*]; done)), (by first | rfl | (simp; done) | (simp [*]; done)), H', ⟨by have := HJ1.out; have := HJ5.out; have := HK3.out; have := HK4.out; omega⟩, by repeat (first | exact Drawn0.refl _ | apply Drawn0.step)⟩
                              · rw [if_neg c25] at H
                                have c25b0 : (t125 == 0) = false := beq_eq_false_iff_ne.mpr c25
                                have c25b1 : (t125 != 0) = true := bne_iff_ne.mpr c25
                                simp only [Option.some.injEq, Prod.mk.injEq] at H
                                obtain ⟨rfl, rfl⟩ := H
                                go_wp2_with (first | ((with_reducible refine gate_callee (f := 212) rfl ?_); refine goesL_ (some 48) rfl rfl Tryz.func212 (by kernel_rfl) rfl #[.int .i64 x6_4, .int .i64 10] rfl (by (try simp only [List.map_toArray, List.map_cons, List.map_nil]); first | done | rfl | (simp only [List.length_drop, List.length_take]; rfl)) ?_; (with_reducible refine (umlautref1_Mul.calls k4 x6_4 10 t120 t121 _ A17.out).mono ?_); rintro e w' ⟨rfl, ⟨nd, rfl⟩⟩; refine ⟨_, rfl, ?_⟩; have p20 : 0 ≤ (x7_4 : Int) := of_decide_eq_true (by first | (with_reducible assumption) | assumption); have q20 : x7_4 < (x0_5.size : Int) := of_decide_eq_true (by first | (with_reducible assumption) | assumption); have hx20 := bt_at x0_5 x7_4; replace p20 := eq_true p20; replace q20 := eq_true q20) | ((with_reducible refine gate_callee (f := 213) rfl ?_); refine goesL_ (some 65) rfl rfl Tryz.func213 (by kernel_rfl) rfl #[.int .i64 t120, .int .i64 (((bt x0_5 x7_4) - 48) % 256)] rfl (by (try simp only [List.map_toArray, List.map_cons, List.map_nil]); first | done | rfl | (simp only [List.length_drop, List.length_take]; rfl)) ?_; (with_reducible refine (umlautref1_Add.calls t120 (((bt x0_5 x7_4) - 48) % 256) t124 t125 _ A24.out).mono ?_); rintro e w' ⟨rfl, ⟨nd, rfl⟩⟩; refine ⟨_, rfl, ?_⟩))
                                go_ret2
                                exact ⟨by first | rfl | (simp; done) | (simp [*]; done), by repeat (first | exact Drawn0.refl _ | apply Drawn0.step)⟩
                          · rw [if_neg c19] at H
                            exact absurd H (by simp)
                        · rw [if_neg c18] at H
                          have c18b0 : (t121 == 0) = false := beq_eq_false_iff_ne.mpr c18
                          have c18b1 : (t121 != 0) = true := bne_iff_ne.mpr c18
                          simp only [Option.some.injEq, Prod.mk.injEq] at H
                          obtain ⟨rfl, rfl⟩ := H
                          go_wp2_with (first | ((with_reducible refine gate_callee (f := 212) rfl ?_); refine goesL_ (some 48) rfl rfl Tryz.func212 (by kernel_rfl) rfl #[.int .i64 x6_4, .int .i64 10] rfl (by (try simp only [List.map_toArray, List.map_cons, List.map_nil]); first | done | rfl | (simp only [List.length_drop, List.length_take]; rfl)) ?_; (with_reducible refine (umlautref1_Mul.calls k4 x6_4 10 t120 t121 _ A17.out).mono ?_); rintro e w' ⟨rfl, ⟨nd, rfl⟩⟩; refine ⟨_, rfl, ?_⟩))
                          go_ret2
                          exact ⟨by first | rfl | (simp; done) | (simp [*]; done), by repeat (first | exact Drawn0.refl _ | apply Drawn0.step)⟩
                      · rw [if_neg c16] at H
                        have c16b0 : decide (x7_4 < (x0_5.size : Int)) = false := decide_eq_false c16
                        clear c16
                        simp only [Option.some.injEq, Prod.mk.injEq] at H
                        obtain ⟨rfl, rfl⟩ := H
                        go_wp2
                        go_ret2
                        exact ⟨by first | rfl | (simp; done) | (simp [*]; done), by repeat (first | exact Drawn0.refl _ | apply Drawn0.step)⟩

end Go.Proofs.YtdmooacjllidhaaGreatDoor.PRead
