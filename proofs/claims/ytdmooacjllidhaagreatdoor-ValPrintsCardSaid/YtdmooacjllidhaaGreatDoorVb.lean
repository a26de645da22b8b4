/-
  val.Is, alike, Order, Same. Conditions: the collation's comparison is given.
-/
import Derived.Test.YtdmooacjllidhaaGreatDoorVa
import Derived.Test.YtdmooacjllidhaaGreatDoorRg
import Derived.Test.YtdmooacjllidhaaGreatDoorShelf
import Derived.Test.YtdmooacjllidhaaGreatDoorCm
set_option linter.unusedVariables false
set_option linter.unusedSimpArgs false
namespace Go.Proofs.YtdmooacjllidhaaGreatDoor
open Go.RowKit

/-- A value as it lies in a slot. -/
abbrev vv (k n : Int) (s : ByteArray) : Value := .agg #[.int .i64 k, .int .i64 n, .string s]

def cln (k n : Int) (s : ByteArray) : Int × Int × ByteArray := if okV k n s = true then (k, n, s) else (0, 0, ⟨#[]⟩)

theorem set3_named {W : World} {b : Nat} {t : TypeId} {c0 c1 c2 : Value} (h : Blk W b t #[c0, c1, c2]) (v0 v1 v2 : Value) :
    ∃ w', ((W.setCell ⟨b, 0, none⟩ v0).setCell ⟨b, 1, none⟩ v1).setCell ⟨b, 2, none⟩ v2 = w' ∧ Blk w' b t #[v0, v1, v2] ∧ Chg (fun k => k = b) W w' := by
  obtain ⟨w1, e1, h1, k1⟩ := set_named h 0 v0
  obtain ⟨w2, e2, h2, k2⟩ := set_named h1 1 v1
  obtain ⟨w3, e3, h3, k3⟩ := set_named h2 2 v2
  exact ⟨w3, by rw [e1, e2, e3], h3, (k1.trans k2).trans k3⟩

theorem vIs (w : World) (k n : Int) (s : ByteArray) : Calls Tryz.prog 98 #[.agg #[.int .i64 k, .int .i64 n, .string s]] w fun e w' => e = .returned (.agg #[.int .i64 (cln k n s).1, .int .i64 (cln k n s).2.1, .string (cln k n s).2.2]) ∧ Chg (fun _ => False) w w' := by
  obtain ⟨R, hR⟩ : ∃ R : Ending → World → Prop, R = fun e w' => e = .returned (.agg #[.int .i64 (cln k n s).1, .int .i64 (cln k n s).2.1, .string (cln k n s).2.2]) ∧ Chg (fun _ => False) w w' := ⟨_, rfl⟩
  rw [← hR]
  obtain ⟨q, hq⟩ : ∃ q, okV k n s = q := ⟨_, rfl⟩
  have HP1 : Hid (∀ e w', q = true → e = .returned (.agg #[.int .i64 k, .int .i64 n, .string s]) → Chg (fun _ => False) w w' → R e w') := fun e w' h0 h1 h2 => by rw [hR]; unfold cln; rw [hq, if_pos h0]; exact ⟨h1, h2⟩
  have HP2 : Hid (∀ e w', q = false → e = .returned (.agg #[.int .i64 0, .int .i64 0, .string ⟨#[]⟩]) → Chg (fun _ => False) w w' → R e w') := fun e w' h0 h1 h2 => by rw [hR]; unfold cln; rw [hq, if_neg (by rw [h0]; simp)]; exact ⟨h1, h2⟩
  clear hR
  have HQ := Lib.hid hq
  clear hq
  go_enter Tryz.func98, Tryz.ntmps98
  go_wp2_with fail
  obtain ⟨wa, ba, hwa, hba, hBa, hCa, hsa⟩ := alloc_named w #[.int .i64 k, .int .i64 n, .string s] 67
  rw [hwa]
  obtain ⟨wb, bb, hwb, hbb, hBb, hCb, hsb⟩ := alloc_named wa #[.int .i64 0, .int .i64 0, .string ⟨#[]⟩] 67
  rw [hwb]
  have e1 : w.heap.size + 1 = bb := by omega
  simp only [hba] at e1 ⊢
  simp only [e1]
  have hab : ba < bb := by omega
  have hwba : w.heap.size ≤ ba := by omega
  have hBa := hBa.chg hCb id
  have hCab := hCa.trans hCb
  clear hwa hba hCa hsa hwb hbb hCb hsb e1
  refine (vOk _ k n s).mono ?_
  rintro e w1 ⟨rfl, hC1⟩
  rw [HQ.out]
  have HBA := Lib.hid (hBa.chg hC1 id)
  have HBB := Lib.hid (hBb.chg hC1 id)
  have HC1 := Lib.hid (hCab.trans hC1)
  clear hBa hBb hCab hC1
  have h1 := HBA.out.cell_ (i := 0) rfl
  have h2 := HBA.out.cell_ (i := 1) rfl
  have h3 := HBA.out.cell_ (i := 2) rfl
  have h4 := HBB.out.frozen 0
  have h5 := HBB.out.frozen 1
  have h6 := HBB.out.frozen 2
  have h7 := HBB.out.cell_ (i := 0) rfl
  have h8 := HBB.out.cell_ (i := 1) rfl
  have h9 := HBB.out.cell_ (i := 2) rfl
  cases q
  · go_wp2_with fail
    refine (vNull _).mono ?_
    rintro e w2 ⟨rfl, hC2⟩
    have HBB := Lib.hid (HBB.out.chg hC2 id)
    have HC1 := Lib.hid (HC1.out.trans hC2)
    have h4 := HBB.out.frozen 0
    have h5 := HBB.out.frozen 1
    have h6 := HBB.out.frozen 2
    have h7 := HBB.out.cell_ (i := 0) rfl
    have h8 := HBB.out.cell_ (i := 1) rfl
    have h9 := HBB.out.cell_ (i := 2) rfl
    clear h1 h2 h3 hC2
    go_wp2_with fail
    obtain ⟨w3, hw3, hB3, hC3⟩ := set3_named HBB.out (.int .i64 0) (.int .i64 0) (.string ⟨#[]⟩)
    rw [hw3]
    have c0 := hB3.cell_ (i := 0) rfl
    have c1 := hB3.cell_ (i := 1) rfl
    have c2 := hB3.cell_ (i := 2) rfl
    refine bodyPost_ret (v := .agg #[.int .i64 0, .int .i64 0, .string ⟨#[]⟩]) (by simp [results, Tryz.results98, go_sem, c0, c1, c2]) rfl ?_
    exact HP2.out _ _ (by first | rfl | trivial) rfl (HC1.out.comp hC3 fun x hx h => by omega)
  · go_wp2_with fail
    obtain ⟨w3, hw3, hB3, hC3⟩ := set3_named HBB.out (.int .i64 k) (.int .i64 n) (.string s)
    rw [hw3]
    have c0 := hB3.cell_ (i := 0) rfl
    have c1 := hB3.cell_ (i := 1) rfl
    have c2 := hB3.cell_ (i := 2) rfl
    refine bodyPost_ret (v := .agg #[.int .i64 k, .int .i64 n, .string s]) (by simp [results, Tryz.results98, go_sem, c0, c1, c2]) rfl ?_
    exact HP1.out _ _ (by first | rfl | trivial) rfl (HC1.out.comp hC3 fun x hx h => by omega)
/-- A collation's comparison, as a function of the texts. -/
def CmpAs (c : Value) (cc : ByteArray → ByteArray → Int) (w : World) : Prop :=
  ∀ W a b, Chg (fun _ => False) w W → Calls Tryz.prog 17 #[c, .string a, .string b] W fun e w' => e = .returned (.int .i64 (cc a b)) ∧ Chg (fun _ => False) W w'

def alikeV (cc : ByteArray → ByteArray → Int) (k n1 : Int) (s1 : ByteArray) (n2 : Int) (s2 : ByteArray) : Int := if k = 3 then cc s1 s2 else Lib.compareInt n1 n2

theorem vAlike (w : World) (k1 n1 k2 n2 : Int) (s1 s2 : ByteArray) (ck cl : Int) (sh bk : Bool) (tb : Option Addr) (cc : ByteArray → ByteArray → Int) (hC : k1 = 3 → CmpAs (.agg #[.int .i64 ck, .int .i64 cl, .bool sh, .bool bk, .pointer tb]) cc w) :
    Calls Tryz.prog 99 #[.agg #[.int .i64 k1, .int .i64 n1, .string s1], .agg #[.int .i64 k2, .int .i64 n2, .string s2], .agg #[.int .i64 ck, .int .i64 cl, .bool sh, .bool bk, .pointer tb]] w
      fun e w' => e = .returned (.int .i64 (alikeV cc k1 n1 s1 n2 s2)) ∧ Chg (fun _ => False) w w' := by
  obtain ⟨R, hR⟩ : ∃ R : Ending → World → Prop, R = fun e w' => e = .returned (.int .i64 (alikeV cc k1 n1 s1 n2 s2)) ∧ Chg (fun _ => False) w w' := ⟨_, rfl⟩
  rw [← hR]
  have HP : Hid (∀ e w', e = .returned (.int .i64 (alikeV cc k1 n1 s1 n2 s2)) → Chg (fun _ => False) w w' → R e w') := fun e w' h1 h2 => by rw [hR]; exact ⟨h1, h2⟩
  clear hR
  by_cases h3 : k1 = 3
  · subst h3
    have HC := Lib.hid (hC rfl)
    have HP' : Hid (∀ e w', e = .returned (.int .i64 (cc s1 s2)) → Chg (fun _ => False) w w' → R e w') := HP
    clear HP hC
    go_enter Tryz.func99, Tryz.ntmps99
    go_wp2_with fail
    refine (HC.out _ s1 s2 ((((Chg.refl _ w).alloc _).alloc _).alloc _)).mono ?_
    rintro e w1 ⟨rfl, hC1⟩
    have HC1 := Lib.hid (((((Chg.refl _ w).alloc _).alloc _).alloc _).trans hC1)
    clear hC1
    go_wp2_with fail
    exact HP'.out _ _ rfl HC1.out
  · have HP' : Hid (∀ e w', e = .returned (.int .i64 (Lib.compareInt n1 n2)) → Chg (fun _ => False) w w' → R e w') := fun e w' h1 h2 => HP.out e w' (by rw [h1]; unfold alikeV; rw [if_neg h3]) h2
    clear HP hC
    have h4 : (k1 == 3) = false := by rw [beq_eq_false_iff_ne]; exact h3
    go_enter Tryz.func99, Tryz.ntmps99
    go_wp2_with fail
    refine (cmp64 n1 n2 _).mono ?_
    rintro e w1 ⟨rfl, rfl⟩
    go_wp2_with fail
    exact HP'.out _ _ rfl ((((Chg.refl _ w).alloc _).alloc _).alloc _)
end Go.Proofs.YtdmooacjllidhaaGreatDoor
