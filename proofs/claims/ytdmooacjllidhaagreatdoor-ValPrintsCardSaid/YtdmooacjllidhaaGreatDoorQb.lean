/-
  ints.Text, ints.Parse, val.Print, val.Show. Conditions: the library's variables are laid.
-/
import Derived.Test.YtdmooacjllidhaaGreatDoorVe
import Derived.Test.YtdmooacjllidhaaGreatDoorSp
import Derived.Test.YtdmooacjllidhaaGreatDoorQa
import Derived.Lib.SmallJoins
import Derived.Lib.AppendIntMem
set_option linter.unusedVariables false
set_option linter.unusedSimpArgs false
namespace Go.Proofs.YtdmooacjllidhaaGreatDoor
open Go.RowKit

/-- What the library's variables hold. -/
structure Lay (w : World) : Prop where
  max : ∃ m, w.cell? ⟨2, 0, none⟩ = some (.int .i64 m)
  tab : Lib.TabIs Tryz.prog w "internal/strconv.uint64pow10" .u64 Lib.pow10Tab
  rng : ∃ tp p, w.var? Tryz.prog "strconv.ErrRange" = some #[.iface tp p]

theorem var_chg {w W : World} (h : Chg (fun _ => False) w W) {P : Program} {n : String} {cs : Array Value} (hv : w.var? P n = some cs) : W.var? P n = some cs := by
  unfold World.var? at hv ⊢
  cases hg : P.globalNamed n with
  | none => rw [hg] at hv; cases hv
  | some g =>
    rw [hg] at hv
    simp only [Option.bind_some] at hv ⊢
    have hlt : g < w.heap.size := by
      rcases Nat.lt_or_ge g w.heap.size with h' | h'
      · exact h'
      · rw [Array.getElem?_eq_none h'] at hv; cases hv
    rw [h.block g hlt id]
    exact hv

theorem Lay.chg {w W : World} (h : Lay w) (hc : Chg (fun _ => False) w W) : Lay W := by
  obtain ⟨m, hm⟩ := h.max
  obtain ⟨tp, p, hr⟩ := h.rng
  exact ⟨⟨m, (hc.cell (World.block_lt_of_cell? _ _ hm) id).trans hm⟩, var_chg hc h.tab, ⟨tp, p, var_chg hc hr⟩⟩

theorem iText (w : World) (n : Int) (h0 : -9223372036854775808 ≤ n) (h1 : n ≤ 9223372036854775807) (hL : Lay w) :
    Calls Tryz.prog 130 #[.int .i64 n] w fun e w' => e = .returned (.string ⟨(Lib.itoa n).toArray⟩) ∧ Chg (fun _ => False) w w' := by
  have HT := Lib.hid hL.tab
  obtain ⟨r, hr⟩ : ∃ r : ByteArray, ⟨(Lib.itoa n).toArray⟩ = r := ⟨_, rfl⟩
  have HF : Hid (Calls Tryz.prog 208 #[.int .i64 n, .int .i64 10] w fun e w' => e = .returned (.string r) ∧ Chg (fun _ => False) w w') := by
    refine (Tryz.strconv_FormatInt_10 n h0 h1 w HT.out).mono ?_
    rintro e w' ⟨he, k, os, hw⟩
    rw [he, hw, hr]
    exact ⟨rfl, Chg.of_below (Lib.below_grow _ w (Nat.le_refl _) k os)⟩
  rw [hr]
  clear hr hL h0 h1
  go_enter Tryz.func130, Tryz.ntmps130
  go_wp2_with fail
  refine HF.out.mono ?_
  rintro e w1 ⟨rfl, hC⟩
  go_wp2_with fail
  go_ret
  exact ⟨rfl, hC⟩

/-- What ints.Parse tells of a text. -/
structure PI (l : List UInt8) (n er : Int) : Prop where
  ers : er = 0 ∨ er = 3 ∨ er = 17
  lo : -9223372036854775808 ≤ n
  hi : n ≤ 9223372036854775807
  num : ∀ m : Int, -9223372036854775808 ≤ m → m ≤ 9223372036854775807 → l = Lib.itoa m → n = m ∧ er = 0
  quo : ∀ r, l = 39 :: r → er ≠ 0

theorem quo_form {l r : List UInt8} (h : l = 39 :: r) : Lib.trimS (Lib.trimPrefix l [45]) digs ≠ [] := by
  subst h
  intro h0
  rw [trim_nil] at h0
  rcases trimPre (39 :: r) with ⟨r', e, _⟩ | ⟨_, e⟩
  · injection e with e _; exact absurd e (by decide)
  · rw [e] at h0
    exact absurd (h0 39 (by simp)) (by decide)

set_option maxHeartbeats 2000000 in
theorem iParse (w : World) (s : ByteArray) (hs : s.size ≤ 100000) (hL : Lay w) :
    Calls Tryz.prog 132 #[.string s] w fun e w' => (∃ n er, e = .returned (.tuple #[.int .i64 n, .int .i64 er]) ∧ PI s.data.toList n er) ∧ Chg (fun _ => False) w w' := by
  obtain ⟨R, hR⟩ : ∃ R : Ending → World → Prop, R = fun e w' => (∃ n er, e = .returned (.tuple #[.int .i64 n, .int .i64 er]) ∧ PI s.data.toList n er) ∧ Chg (fun _ => False) w w' := ⟨_, rfl⟩
  rw [← hR]
  have HP : Hid (∀ e w' n er, e = .returned (.tuple #[.int .i64 n, .int .i64 er]) → PI s.data.toList n er → Chg (fun _ => False) w w' → R e w') := fun e w' n er h1 h2 h3 => by rw [hR]; exact ⟨⟨n, er, h1, h2⟩, h3⟩
  have HL := Lib.hid hL
  clear hR hL
  obtain ⟨d, hd⟩ : ∃ d : ByteArray, ⟨(Lib.trimPrefix s.data.toList [45]).toArray⟩ = d := ⟨_, rfl⟩
  have hdl : d.data.toList = Lib.trimPrefix s.data.toList [45] := by rw [← hd]
  have hds : d.size ≤ 100000 := by
    have e1 : d.size = d.data.toList.length := rfl
    have e2 : s.size = s.data.toList.length := rfl
    rw [e1, hdl]
    rw [e2] at hs
    rcases trimPre s.data.toList with ⟨r, e, e'⟩ | ⟨_, e'⟩
    · rw [e']
      rw [e] at hs
      simp only [List.length_cons] at hs
      omega
    · rw [e']; exact hs
  have HTP : Hid (∀ W, Calls Tryz.prog 210 #[.string s, .string ⟨#[45]⟩] W fun e w' => e = .returned (.string d) ∧ w' = W) := fun W => by
    have := Tryz.strings_TrimPrefix s ⟨#[45]⟩ W
    rw [show (⟨#[45]⟩ : ByteArray).data.toList = [45] from rfl, hd] at this
    exact this
  obtain ⟨t, ht⟩ : ∃ t : ByteArray, ⟨(Lib.trimS d.data.toList digs).toArray⟩ = t := ⟨_, rfl⟩
  have htl : t.data.toList = Lib.trimS (Lib.trimPrefix s.data.toList [45]) digs := by rw [← ht, ← hdl]
  have HTR : Hid (∀ W, Calls Tryz.prog 97 #[.string d, .string ⟨#[48, 49, 50, 51, 52, 53, 54, 55, 56, 57]⟩] W fun e w' => e = .returned (.string t) ∧ Chg (fun _ => False) W w') := fun W => by
    refine (Tryz.strings_Trim_ascii d ⟨#[48, 49, 50, 51, 52, 53, 54, 55, 56, 57]⟩ W (by omega) (by decide) (Go.Proofs.ascii_of_all (by decide))).mono ?_
    rintro e w' ⟨he, hb⟩
    rw [he, show (⟨#[48, 49, 50, 51, 52, 53, 54, 55, 56, 57]⟩ : ByteArray).data.toList = digs from rfl, ht]
    exact ⟨rfl, Chg.of_below hb⟩
  have HNO : Hid ((d.toList = [] ∨ t.toList ≠ []) → PI s.data.toList 0 3) := fun h => by
    have h' : ¬ (Lib.trimPrefix s.data.toList [45] ≠ [] ∧ Lib.trimS (Lib.trimPrefix s.data.toList [45]) digs = []) := by
      rw [← htl, ← hdl, ← Lib.toList_data, ← Lib.toList_data]
      rcases h with h | h
      · exact fun h2 => h2.1 h
      · exact fun h2 => h h2.2
    exact ⟨.inr (.inl rfl), by omega, by omega, fun m _ _ e => absurd (by rw [e]; exact itoa_form m) h', fun r e => by omega⟩
  have HPA : Hid (d.toList ≠ [] → t.toList = [] → ∀ W, Chg (fun _ => False) w W → Calls Tryz.prog 211 #[.string s, .int .i64 10, .int .i64 64] W fun e w' =>
      ((∃ v, e = .returned (.tuple #[.int .i64 v, .nilIface]) ∧ PI s.data.toList v 0) ∨ (∃ v b, e = .returned (.tuple #[.int .i64 v, .iface 443 (.pointer (some ⟨b, 0, none⟩))]) ∧ PI s.data.toList 0 17)) ∧ Chg (fun _ => False) W w') := fun h1 h2 W hW => by
    rw [Lib.toList_data] at h1 h2
    rw [hdl] at h1
    rw [htl] at h2
    have hq : ∀ r, s.data.toList ≠ 39 :: r := fun r e => quo_form e h2
    rcases parse_form h1 h2 with h | ⟨v, h⟩
    · obtain ⟨tp, p, hv⟩ := (HL.out.chg hW).rng
      refine (Tryz.strconv_ParseInt_10_at64_range_var s (by omega) h tp p W hv).mono ?_
      rintro e w' ⟨N, he, _, _, hb⟩
      refine ⟨.inr ⟨_, N, he, ⟨.inr (.inr rfl), by omega, by omega, fun m g0 g1 e => ?_, fun r e => absurd e (hq r)⟩⟩, Chg.of_below hb⟩
      rw [e, parse_itoa m g0 g1] at h
      cases h
    · have hb := Lib.parseIntB_bounds h
      refine (Tryz.strconv_ParseInt_10_at64_ok s (by omega) v h W).mono ?_
      rintro e w' ⟨he, hw⟩
      refine ⟨.inl ⟨v, he, ⟨.inl rfl, ?_, ?_, fun m g0 g1 e => ?_, fun r e => absurd e (hq r)⟩⟩, ?_⟩
      · have := hb.1; simp only [show (64 - 1 : Nat) = 63 from rfl] at this; omega
      · have := hb.2; simp only [show (64 - 1 : Nat) = 63 from rfl] at this; omega
      · rw [e, parse_itoa m g0 g1] at h
        injection h with h
        exact ⟨h.symm, rfl⟩
      · rcases hw with hw | ⟨t', hw⟩
        · rw [hw]; exact Chg.refl _ _
        · rw [hw]; exact Chg.of_below (Go.Joins.below_bytesWorld _ _ _ _ (Nat.le_refl _))
  clear hd hdl hds ht htl hs
  by_cases hd0 : d.toList = []
  · have HPI := Lib.hid (HNO.out (.inl hd0))
    clear HNO HPA HTR
    go_enter Tryz.func132, Tryz.ntmps132
    go_wp2_with fail
    refine (HTP.out w).mono ?_
    rintro e w1 ⟨rfl, hw1⟩
    rw [hw1]
    clear hw1 w1
    go_wp2_with fail
    exact HP.out _ _ 0 3 rfl HPI.out (Chg.refl _ w)
  · have hd1 : d.toList.isEmpty = false := by cases h : d.toList with
      | nil => exact absurd h hd0
      | cons _ _ => rfl
    by_cases ht0 : t.toList = []
    · have HPI := Lib.hid (HPA.out hd0 ht0)
      clear HNO HPA
      go_enter Tryz.func132, Tryz.ntmps132
      go_wp2_with fail
      refine (HTP.out w).mono ?_
      rintro e w1 ⟨rfl, hw1⟩
      rw [hw1]
      clear hw1 w1
      go_wp2_with fail
      refine (HTR.out w).mono ?_
      rintro e w1 ⟨rfl, hC1⟩
      have HC1 := Lib.hid hC1
      clear hC1
      go_wp2_with fail
      refine (HPI.out w1 HC1.out).mono ?_
      rintro e w2 ⟨⟨v, rfl, hpi⟩ | ⟨v, b, rfl, hpi⟩, hC2⟩
      · have HC2 := Lib.hid (HC1.out.trans hC2)
        have HPI2 := Lib.hid hpi
        clear hC2 hpi
        go_wp2_with fail
        exact HP.out _ _ _ _ rfl HPI2.out HC2.out
      · have HC2 := Lib.hid (HC1.out.trans hC2)
        have HPI2 := Lib.hid hpi
        clear hC2 hpi
        go_wp2_with fail
        exact HP.out _ _ _ _ rfl HPI2.out HC2.out
    · have ht1 : t.toList.isEmpty = false := by cases h : t.toList with
        | nil => exact absurd h ht0
        | cons _ _ => rfl
      have HPI := Lib.hid (HNO.out (.inr ht0))
      clear HNO HPA
      go_enter Tryz.func132, Tryz.ntmps132
      go_wp2_with fail
      refine (HTP.out w).mono ?_
      rintro e w1 ⟨rfl, hw1⟩
      rw [hw1]
      clear hw1 w1
      go_wp2_with fail
      refine (HTR.out w).mono ?_
      rintro e w1 ⟨rfl, hC1⟩
      have HC1 := Lib.hid hC1
      clear hC1
      go_wp2_with fail
      exact HP.out _ _ 0 3 rfl HPI.out HC1.out
end Go.Proofs.YtdmooacjllidhaaGreatDoor
