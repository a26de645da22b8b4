/-
  (*Tree).Get, walked; New. Conditions: a sound tree that is read.
-/
import Derived.Test.YthndplpbnfihdaaCy
set_option linter.unusedVariables false
set_option linter.unusedSimpArgs false
namespace Go.Proofs.Ythndplpbnfihdaa
open Go.RowKit

theorem cnt_pos {key : ByteArray} {l : List (ByteArray × Int)} (h : Rising (keysT l)) : cntL key false l = pos (keysT l) key := by
  rw [← leafAt_cnt h]; simp [leafAt]

theorem has_at {key : ByteArray} {l : List (ByteArray × Int)} (h : Rising (keysT l)) : hasL key l = decide ((keysT l)[pos (keysT l) key]? = some key) := by
  have hf := fresh_has (fan := 0) key 0 l ⟨trivial, trivial, h⟩
  have hf' : (!decide ((keysT l)[pos (keysT l) key]? = some key)) = !hasL key l := hf
  rw [← Bool.not_not (hasL key l), ← hf', Bool.not_not]

/-- What Get answers. -/
def GetPost (w : World) (L : List (ByteArray × Int)) (key : ByteArray) (e : Ending) (w' : World) : Prop :=
  ∃ r : Int, e = .returned (.tuple #[.int .i64 r, .bool (hasL key L)]) ∧ (hasL key L = true → (key, r) ∈ L) ∧ (hasL key L = false → r = 0) ∧ Chg (fun _ => False) w w'

set_option maxHeartbeats 1000000 in
set_option maxRecDepth 100000 in
theorem get_calls {w : World} {S : Nat → Prop} {fan tr d : Nat} {u : Nb d} {x0 x1 : Value} (key : ByteArray) (hV : View w S d u) (hs : Sound fan d (dat d u)) (htr : Blk w tr 64 #[x0, x1, ptr (blk d u)]) :
    Calls Try.prog 17 #[ptr tr, .string key] w (GetPost w (listU d u) key) := by
  have hrise : Rising (keysT (listU d u)) := by rw [← listU_dat]; exact hs.rise
  have HSK := Lib.hid (seek_calls key false hV hs htr)
  obtain ⟨R, hR⟩ : ∃ R, R = GetPost w (listU d u) key := ⟨_, rfl⟩
  rw [← hR]
  have HV := Lib.hid hV
  have HH := Lib.hid (has_at (key := key) hrise)
  rw [cnt_pos hrise] at HSK
  have HP : Hid (∀ e w' (r : Int) (b : Bool), e = .returned (.tuple #[.int .i64 r, .bool b]) → hasL key (listU d u) = b → (b = true → (key, r) ∈ listU d u) → (b = false → r = 0) → Chg (fun _ => False) w w' → R e w') := by
    intro e w' r b h1 h2 h3 h4 h5
    subst h2
    rw [hR]; exact ⟨r, h1, h3, h4, h5⟩
  unfold ptr at *
  clear hV hs htr hrise hR
  go_enter Try.func17, Try.ntmps17
  go_wp2_with fail
  go_at_call 11
  refine HSK.out.mono ?_
  rintro e w1 ⟨c, ps, fpc, rfl, hcur, hgo, hge, hch⟩
  rw [show ptr c = .pointer (some ⟨c, 0, none⟩) from rfl]
  have HCH := Lib.hid hch
  have HC := Lib.hid hcur
  have HV1 : Hid (View w1 S d u) := HV.out.chg hch fun _ _ h => h
  obtain ⟨P, hP⟩ : ∃ P, pos (keysT (listU d u)) key = P := ⟨_, rfl⟩
  rw [hP] at hgo HH
  have HGO : Hid (if 0 ≤ (P : Int) ∧ (P : Int) < (listU d u).length then Goes 0 d u ps P else ps = []) := hgo
  clear hch hcur hgo hge hP
  by_cases hlt : P < (listU d u).length
  · have hg := HGO.out
    rw [if_pos ⟨by omega, by omega⟩] at hg
    obtain ⟨p, hp⟩ : ∃ p, (listU d u)[P]? = some p := ⟨_, List.getElem?_eq_getElem hlt⟩
    have hp' : (listU d u)[(P : Int).toNat]? = some p := by rw [Int.toNat_natCast]; exact hp
    have HOK : Hid (∀ W, Chg (fun _ => False) w1 W → Calls Try.prog 12 #[.pointer (some ⟨c, 0, none⟩)] W fun e w' => e = .returned (.bool true) ∧ W = w') := fun W hW => by
      have h1 := ok_calls (HC.out.chg hW fun _ _ h => h)
      rw [show decide (0 < ps.length) = true from decide_eq_true (by rw [goes_len hg]; omega)] at h1
      exact h1
    have HKY : Hid (∀ W, Chg (fun _ => False) w1 W → Calls Try.prog 13 #[.pointer (some ⟨c, 0, none⟩)] W fun e w' => e = .returned (.string p.1) ∧ Chg (fun _ => False) W w') := fun W hW =>
      key_calls (HV1.out.chg hW fun _ _ h => h) (HC.out.chg hW fun _ _ h => h) hg hp'
    have HRW : Hid (∀ W, Chg (fun _ => False) w1 W → Calls Try.prog 18 #[.pointer (some ⟨c, 0, none⟩)] W fun e w' => e = .returned (.int .i64 p.2) ∧ Chg (fun _ => False) W w') := fun W hW =>
      row_calls (HV1.out.chg hW fun _ _ h => h) (HC.out.chg hW fun _ _ h => h) hg hp'
    have hk : (keysT (listU d u))[P]? = some p.1 := by rw [keysT, List.getElem?_map, hp]; rfl
    have hmem := List.mem_of_getElem? hp
    obtain ⟨k0, r0⟩ := p
    by_cases he : k0 = key
    · subst he
      have hB : hasL k0 (listU d u) = true := by rw [HH.out, hk]; simp
      have HB := Lib.hid hB
      have HM := Lib.hid hmem
      clear hg hp hp' hk hmem hlt hB
      go_wp2_with (first
        | (go_at_call 12; refine (HOK.out _ (Chg.refl _ _)).mono ?_; rintro e w' ⟨rfl, rfl⟩)
        | (go_at_call 13; refine (HKY.out _ (Chg.refl _ _)).mono ?_; rintro e w2 ⟨rfl, hch2⟩; have HC2 := Lib.hid hch2; clear hch2)
        | (go_at_call 18; refine (HRW.out _ HC2.out).mono ?_; rintro e w3 ⟨rfl, hch3⟩; have HC3 := Lib.hid hch3; clear hch3))
      try go_ret2
      exact HP.out _ _ _ true rfl HB.out (fun _ => HM.out) (fun h => by cases h) ((HCH.out.trans HC2.out).trans HC3.out)
    · have hB : hasL key (listU d u) = false := by rw [HH.out, hk]; simp [he]
      have HB := Lib.hid hB
      have hne : (k0.toList == key.toList) = false := by
        rw [beq_eq_false_iff_ne]; intro h; exact he (ba_ext h)
      clear hg hp hp' hk hmem hlt hB
      go_wp2_with (first
        | (go_at_call 12; refine (HOK.out _ (Chg.refl _ _)).mono ?_; rintro e w' ⟨rfl, rfl⟩)
        | (go_at_call 13; refine (HKY.out _ (Chg.refl _ _)).mono ?_; rintro e w2 ⟨rfl, hch2⟩; have HC2 := Lib.hid hch2; clear hch2))
      all_goals try go_ret2
      all_goals exact HP.out _ _ _ false rfl HB.out (fun h => by cases h) (fun _ => rfl) (HCH.out.trans HC2.out)
  · have hg := HGO.out
    rw [if_neg (fun h => by omega)] at hg
    subst hg
    have hB : hasL key (listU d u) = false := by
      rw [HH.out, List.getElem?_eq_none (by simp [keysT]; omega)]; simp
    have HB := Lib.hid hB
    have HOK : Hid (Calls Try.prog 12 #[.pointer (some ⟨c, 0, none⟩)] w1 fun e w' => e = .returned (.bool false) ∧ w1 = w') := ok_calls HC.out
    clear hlt hB
    go_wp2_with (go_at_call 12; refine HOK.out.mono ?_; rintro e w' ⟨rfl, rfl⟩)
    all_goals try go_ret2
    all_goals exact HP.out _ _ _ false rfl HB.out (fun h => by cases h) (fun _ => rfl) HCH.out
end Go.Proofs.Ythndplpbnfihdaa
