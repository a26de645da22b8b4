/-
  slices.BinarySearch of a rising list of texts: where the text stands, and whether it is there. Conditions: the list rises and is short.
-/
import Derived.Test.YthndplpbnfihdaaProg
import Derived.Test.YthndplpbnfihdaaHp
import Derived.Test.YthndplpbnfihdaaOrd
import Derived.Deep.LoopGhost
import Derived.Deep.QuietTactic
import Derived.BigQuiet
set_option linter.unusedVariables false
set_option linter.unusedSimpArgs false
namespace Go.Proofs.Ythndplpbnfihdaa
open Go.RowKit

theorem cmp_isNaN (x : ByteArray) (w : World) : Calls Try.prog 56 #[.string x] w fun e w' => e = .returned (.bool false) ∧ w = w' := by
  go_enter Try.func56, Try.ntmps56
  go_wp2
  go_ret
  exact ⟨by simp, rfl⟩

theorem sl_isNaN (x : ByteArray) (w : World) : Calls Try.prog 45 #[.string x] w fun e w' => e = .returned (.bool false) ∧ w = w' := by
  go_enter Try.func45, Try.ntmps45
  go_wp2
  go_ret
  exact ⟨by simp, rfl⟩

theorem cmp_Less (x y : ByteArray) (w : World) : Calls Try.prog 44 #[.string x, .string y] w fun e w' => e = .returned (.bool (ltB x y)) ∧ w = w' := by
  go_enter Try.func44, Try.ntmps44
  go_wp2_with (go_at_call 56; refine (cmp_isNaN _ _).mono ?_; rintro e w' ⟨rfl, rfl⟩)
  go_ret
  exact ⟨rfl, rfl⟩

/-- The number and whether it's there. -/
def BsPost (ks : List ByteArray) (x : ByteArray) (w : World) (e : Ending) (w' : World) : Prop :=
  e = .returned (.tuple #[.int .i64 (pos ks x : Nat), .bool (decide (ks[pos ks x]? = some x))]) ∧ ∃ q, w' = w.drewN q

set_option maxHeartbeats 4000000 in
set_option maxRecDepth 1000000 in
theorem bs_some (b c : Nat) (ks : List ByteArray) (x : ByteArray) (w : World) (hr : Rising ks) (hbig : ks.length ≤ 1000000)
    (hc : ∀ j k, ks[j]? = some k → w.cell? ⟨b, j, none⟩ = some (.string k)) :
    Calls Try.prog 30 #[.slice (some ⟨b, 0, none⟩) ks.length c, .string x] w (BsPost ks x w) := by
  obtain ⟨n, hn⟩ : ∃ n, ks.length = n := ⟨_, rfl⟩
  obtain ⟨I, hI⟩ : ∃ I, pos ks x = I := ⟨_, rfl⟩
  have hIn : I ≤ n := by rw [← hI, ← hn]; exact pos_le _ _
  have H1 : Hid (∀ j k, j < I → ks[j]? = some k → ltB k x = true) := fun j k hj hk => lt_of_pos ks x j k (by omega) hk
  have H2 : Hid (∀ j k, I ≤ j → ks[j]? = some k → ltB k x = false) := fun j k hj hk => not_lt_of_pos ks x j k hr (by omega) hk
  have HN := Lib.hid hn
  have HC := Lib.hid hc
  have HE : Hid (∀ (e : Ending) (W : World) (d : Bool) (q : Nat), e = .returned (.tuple #[.int .i64 (I : Nat), .bool d]) → d = decide (ks[I]? = some x) → W = w.drewN q → BsPost ks x w e W) := by
    intro e W d q he hd hW
    exact ⟨by rw [he, hI, hd], q, hW⟩
  rw [hn] at hbig ⊢
  clear hI hn hr hc
  go_enter Try.func30, Try.ntmps30
  go_wp2
  go_loopg [7, 8] n (fun g s7 s8 wr => ∃ lo hi q : Nat, s7 = .int .i64 lo ∧ s8 = .int .i64 hi ∧ lo ≤ I ∧ I ≤ hi ∧ hi ≤ n ∧ hi - lo ≤ g ∧ wr = w.drewN q)
  case atStart => exact ⟨0, n, 0, rfl, rfl, Nat.zero_le _, hIn, Nat.le_refl _, by omega, rfl⟩
  case round =>
    obtain ⟨lo, hi, q, rfl, rfl, hl, hh, hin, hg, rfl⟩ := hrel
    by_cases hlt : lo < hi
    · have hm : (lo + hi) / 2 < n := by omega
      obtain ⟨y, hy⟩ : ∃ y, ks[(lo + hi) / 2]? = some y := ⟨_, List.getElem?_eq_getElem (by rw [HN.out]; exact hm)⟩
      have cm := HC.out _ _ hy
      have hb : ltB y x = decide ((lo + hi) / 2 < I) := by
        by_cases h : (lo + hi) / 2 < I
        · rw [H1.out _ _ h hy]; simp [h]
        · rw [H2.out _ _ (by omega) hy]; simp [h]
      have HB := Lib.hid hb
      clear hb hy
      cases hyx : ltB y x
      · have hle : I ≤ (lo + hi) / 2 := by
          have := HB.out; rw [hyx] at this; simp at this; exact this
        go_wp2_with (first | (go_at_call 44; refine (cmp_Less _ _ _).mono ?_; rintro e w' ⟨rfl, rfl⟩) | (go_at_call 45; refine (sl_isNaN _ _).mono ?_; rintro e w' ⟨rfl, rfl⟩))
        go_roundg ((lo + hi) / 2 - lo)
        case measure => omega
        case rel => exact ⟨lo, (lo + hi) / 2, _, rfl, by rw [show ((lo : Int) + (hi : Int)) / 2 = (((lo + hi) / 2 : Nat) : Int) by omega], hl, hle, by omega, Nat.le_refl _, rfl⟩
      · have hle : (lo + hi) / 2 + 1 ≤ I := by
          have := HB.out; rw [hyx] at this; simp at this; omega
        go_wp2_with (first | (go_at_call 44; refine (cmp_Less _ _ _).mono ?_; rintro e w' ⟨rfl, rfl⟩) | (go_at_call 45; refine (sl_isNaN _ _).mono ?_; rintro e w' ⟨rfl, rfl⟩))
        go_roundg (hi - ((lo + hi) / 2 + 1))
        case measure => omega
        case rel => exact ⟨(lo + hi) / 2 + 1, hi, _, by rw [show ((lo : Int) + (hi : Int)) / 2 + 1 = (((lo + hi) / 2 + 1 : Nat) : Int) by omega], rfl, hle, hh, hin, Nat.le_refl _, rfl⟩
    · have : hi = I := by omega
      subst this
      have : hi = lo := by omega
      subst this
      by_cases hn : hi < n
      · obtain ⟨y, hy⟩ : ∃ y, ks[hi]? = some y := ⟨_, List.getElem?_eq_getElem (by rw [HN.out]; exact hn)⟩
        have cl := HC.out _ _ hy
        have HY := Lib.hid hy
        clear hy
        by_cases hyx : y = x
        · go_wp2_with (first | (go_at_call 44; refine (cmp_Less _ _ _).mono ?_; rintro e w' ⟨rfl, rfl⟩) | (go_at_call 45; refine (sl_isNaN _ _).mono ?_; rintro e w' ⟨rfl, rfl⟩))
          go_ret2
          refine HE.out _ _ true _ ?_ (by rw [HY.out, hyx]; simp) rfl
          first | rfl | simp [*]
        · have hne : (y.toList == x.toList) = false := by
            rw [beq_eq_false_iff_ne]
            intro h
            exact hyx (ba_ext h)
          go_wp2_with (first | (go_at_call 44; refine (cmp_Less _ _ _).mono ?_; rintro e w' ⟨rfl, rfl⟩) | (go_at_call 45; refine (sl_isNaN _ _).mono ?_; rintro e w' ⟨rfl, rfl⟩))
          all_goals
            (go_ret2
             refine HE.out _ _ false _ ?_ (by rw [HY.out]; simp [hyx]) rfl
             first | rfl | simp [*])
      · go_wp2_with (first | (go_at_call 44; refine (cmp_Less _ _ _).mono ?_; rintro e w' ⟨rfl, rfl⟩) | (go_at_call 45; refine (sl_isNaN _ _).mono ?_; rintro e w' ⟨rfl, rfl⟩))
        go_ret2
        refine HE.out _ _ false _ ?_ (by rw [List.getElem?_eq_none (by rw [HN.out]; omega)]; simp) rfl
        first | rfl | simp [*]

set_option maxHeartbeats 1000000 in
theorem bs_empty (a : Option Addr) (c : Nat) (x : ByteArray) (w : World) : Calls Try.prog 30 #[.slice a 0 c, .string x] w (BsPost [] x w) := by
  have HE : Hid (∀ (e : Ending) (W : World), e = .returned (.tuple #[.int .i64 0, .bool false]) → ∀ q, W = w.drewN q → BsPost [] x w e W) := by
    intro e W he q hW
    exact ⟨by rw [he]; simp [pos], q, hW⟩
  go_enter Try.func30, Try.ntmps30
  go_wp2
  go_loop [7, 8] (fun s7 s8 => s7 = .int .i64 0 ∧ s8 = .int .i64 0) (fun _ _ => 0)
  case atStart => exact ⟨rfl, rfl⟩
  case round =>
    obtain ⟨rfl, rfl⟩ := hrel
    go_wp2
    go_ret2
    exact HE.out _ _ rfl 0 rfl

theorem bs_any (v : Value) (ks : List ByteArray) (x : ByteArray) (w : World) (hown : Own w 9 v (ks.map Value.string)) (hr : Rising ks) (hbig : ks.length ≤ 1000000) :
    Calls Try.prog 30 #[v, .string x] w (BsPost ks x w) := by
  obtain ⟨A, c, rfl, h1, h2⟩ := hown.shape
  rw [List.length_map] at *
  rcases ks with _ | ⟨k, ks⟩
  · exact bs_empty _ _ _ _
  · obtain ⟨g, cur, rfl, _⟩ := hown.open_ (hown.some_of_pos (by simp))
    exact bs_some _ _ _ _ _ hr hbig fun j k hk => hown.cell (by rw [List.getElem?_map, hk]; rfl)

end Go.Proofs.Ythndplpbnfihdaa
