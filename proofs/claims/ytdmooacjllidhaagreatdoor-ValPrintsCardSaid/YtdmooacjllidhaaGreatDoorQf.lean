/-
  What the document's own functions on values' texts come to: printing, the number of a text, reading. Conditions: none.
-/
import Derived.Test.YtdmooacjllidhaaGreatDoorPReadx3
import Derived.Test.YtdmooacjllidhaaGreatDoorQd
import Derived.KernelRfl
import Derived.Lib.Hide
set_option linter.unusedVariables false
set_option linter.unusedSimpArgs false
namespace Go.Proofs.YtdmooacjllidhaaGreatDoor
open Go.RowKit Go.Proofs.YtdmooacjllidhaaGreatDoorW.PrintWords

theorem w64_id {x : Int} (h0 : -9223372036854775808 ≤ x) (h1 : x ≤ 9223372036854775807) : wrap64 x = x := by unfold wrap64; omega
theorem w64_bnd (x : Int) : -9223372036854775808 ≤ wrap64 x ∧ wrap64 x ≤ 9223372036854775807 := by unfold wrap64; omega

theorem dig_piece (d : Int) (h0 : 0 ≤ d) (h1 : d ≤ 9) : ((⟨#[48, 49, 50, 51, 52, 53, 54, 55, 56, 57]⟩ : ByteArray).extract d.toNat (wrap64 (d + 1)).toNat).data.toList = [UInt8.ofNat (48 + d.toNat)] := by
  rw [w64_id (by omega) (by omega)]
  have h : d = 0 ∨ d = 1 ∨ d = 2 ∨ d = 3 ∨ d = 4 ∨ d = 5 ∨ d = 6 ∨ d = 7 ∨ d = 8 ∨ d = 9 := by omega
  rcases h with rfl | rfl | rfl | rfl | rfl | rfl | rfl | rfl | rfl | rfl <;> decide

theorem app_list (a b : ByteArray) : (a ++ b).data.toList = a.data.toList ++ b.data.toList := by simp [ByteArray.data_append]
theorem size_list (a : ByteArray) : a.size = a.data.toList.length := rfl

theorem text_l0 : ∀ (j k : Nat) (x : Int) (acc : ByteArray), 1 ≤ j → j ≤ k → 0 ≤ x → x ≤ 9223372036854775807 → x.toNat < 10 ^ j → acc.size + j ≤ 1000000 →
    ∃ r, PRead.umlautref1_Text.l0 k x acc = some r ∧ r.data.toList = Lib.decDigits x.toNat ++ acc.data.toList := by
  intro j
  induction j with
  | zero => intro k x acc h; omega
  | succ j ih =>
    intro k x acc _ hk h0 h1 hx ha
    obtain ⟨k, rfl⟩ : ∃ m, k = m + 1 := ⟨k - 1, by omega⟩
    simp only [PRead.umlautref1_Text.l0]
    have em : Int.tmod x 10 = x % 10 := Int.tmod_eq_emod_of_nonneg h0
    have ed : Int.tdiv x 10 = x / 10 := Int.tdiv_eq_ediv_of_nonneg h0
    by_cases h9 : x > 9
    · have hp := dig_piece (x % 10) (by omega) (by omega)
      have hs : ((⟨#[48, 49, 50, 51, 52, 53, 54, 55, 56, 57]⟩ : ByteArray).extract (x % 10).toNat (wrap64 (x % 10 + 1)).toNat).size = 1 := by rw [size_list, hp]; rfl
      rw [if_pos h9, em, ed, if_pos (by omega), if_pos (by rw [w64_id (by omega) (by omega)]; omega), if_pos (by rw [w64_id (by omega) (by omega)]; omega), if_pos (by rw [hs]; omega)]
      have hj : 1 ≤ j := by
        rcases Nat.eq_zero_or_pos j with rfl | h
        · simp at hx; omega
        · exact h
      rw [Nat.pow_succ] at hx
      obtain ⟨r, hr, hl⟩ := ih k (x / 10) (((⟨#[48, 49, 50, 51, 52, 53, 54, 55, 56, 57]⟩ : ByteArray).extract (x % 10).toNat (wrap64 (x % 10 + 1)).toNat) ++ acc) hj (by omega) (by omega) (by omega) (by omega) (by rw [ByteArray.size_append, hs]; omega)
      rw [w64_id (x := x / 10) (by omega) (by omega)]
      refine ⟨r, hr, ?_⟩
      rw [hl, app_list, hp, ← List.append_assoc]
      have e1 : (x / 10).toNat = x.toNat / 10 := by omega
      have e2 : (x % 10).toNat = x.toNat % 10 := by omega
      rw [e1, e2, ← dd_big (by omega)]
    · have hp := dig_piece x (by omega) (by omega)
      have hs : ((⟨#[48, 49, 50, 51, 52, 53, 54, 55, 56, 57]⟩ : ByteArray).extract x.toNat (wrap64 (x + 1)).toNat).size = 1 := by rw [size_list, hp]; rfl
      rw [if_neg h9, if_pos h0, if_pos (by rw [w64_id (by omega) (by omega)]; omega), if_pos (by rw [w64_id (by omega) (by omega)]; omega), if_pos (by rw [hs]; omega)]
      refine ⟨_, rfl, ?_⟩
      rw [app_list, hp, dd_small (by omega)]

theorem itoa_least : Lib.itoa (-9223372036854775808) = [45, 57, 50, 50, 51, 51, 55, 50, 48, 51, 54, 56, 53, 52, 55, 55, 53, 56, 48, 56] := by
  unfold Lib.itoa
  rw [if_pos (by decide), show (-9223372036854775808 : Int).natAbs = 9223372036854775808 from rfl]
  repeat rw [dd_big (by decide)]
  rw [dd_small (by decide)]
  decide

theorem text_ev (n : Int) (h0 : -9223372036854775808 ≤ n) (h1 : n ≤ 9223372036854775807) : ∃ r, Ev (fun k => PRead.umlautref1_Text.f k n) r ∧ r.data.toList = Lib.itoa n := by
  by_cases hm : n = -9223372036854775808
  · subst hm
    refine ⟨⟨#[45, 57, 50, 50, 51, 51, 55, 50, 48, 51, 54, 56, 53, 52, 55, 55, 53, 56, 48, 56]⟩, ⟨1, fun k hk => ?_⟩, itoa_least.symm⟩
    obtain ⟨k, rfl⟩ : ∃ m, k = m + 1 := ⟨k - 1, by omega⟩
    simp only [PRead.umlautref1_Text.f]
    rw [if_pos trivial]
  · by_cases hn : n < 0
    · obtain ⟨r0, _, hl⟩ := text_l0 20 20 (-n) ⟨#[]⟩ (by omega) (by omega) (by omega) (by omega) (by omega) (by decide)
      refine ⟨⟨#[45]⟩ ++ r0, ⟨23, fun k hk => ?_⟩, ?_⟩
      · obtain ⟨k, rfl⟩ : ∃ m, k = m + 2 := ⟨k - 2, by omega⟩
        obtain ⟨r, hr, hl'⟩ := text_l0 20 k (-n) ⟨#[]⟩ (by omega) (by omega) (by omega) (by omega) (by omega) (by decide)
        have e : r = r0 := Go.WideShapes.bytes_inj (by rw [hl, hl'])
        subst e
        have hlen : r.size ≤ 100 := by
          have := Lib.itoa_length_le n h0 h1
          unfold Lib.itoa at this
          rw [if_pos hn] at this
          rw [size_list, hl]
          simp only [List.length_append, List.length_cons, List.length_nil] at this ⊢
          have e3 : (-n).toNat = n.natAbs := by omega
          rw [e3]
          simp
          omega
        show PRead.umlautref1_Text.f (k + 1 + 1) n = _
        rw [PRead.umlautref1_Text.f, if_neg hm, if_pos hn, w64_id (by omega) (by omega), PRead.umlautref1_Text.f, if_neg (by omega), if_neg (by omega), hr]
        simp only [Option.bind_some]
        rw [if_pos (by omega)]
      · rw [app_list, hl]
        unfold Lib.itoa
        rw [if_pos hn]
        have e3 : (-n).toNat = n.natAbs := by omega
        rw [e3]
        simp
    · obtain ⟨r0, _, hl⟩ := text_l0 20 20 n ⟨#[]⟩ (by omega) (by omega) (by omega) (by omega) (by omega) (by decide)
      refine ⟨r0, ⟨22, fun k hk => ?_⟩, ?_⟩
      · obtain ⟨k, rfl⟩ : ∃ m, k = m + 1 := ⟨k - 1, by omega⟩
        obtain ⟨r, hr, hl'⟩ := text_l0 20 k n ⟨#[]⟩ (by omega) (by omega) (by omega) (by omega) (by omega) (by decide)
        have e : r = r0 := Go.WideShapes.bytes_inj (by rw [hl, hl'])
        subst e
        show PRead.umlautref1_Text.f (k + 1) n = _
        rw [PRead.umlautref1_Text.f, if_neg hm, if_neg hn]
        exact hr
      · rw [hl]
        unfold Lib.itoa
        rw [if_neg hn]
        simp

theorem drop_cons (s : ByteArray) {i : Nat} (h : i < s.size) : ∃ c, s.data.toList.drop i = c :: s.data.toList.drop (i + 1) ∧ bt s i = (c.toNat : Int) ∧ (s.extract i (i + 1)).data.toList = [c] := by
  have hl : i < s.data.toList.length := h
  refine ⟨s.data.toList[i], List.drop_eq_getElem_cons hl, ?_, ?_⟩
  · unfold bt
    rw [dif_pos (by simpa using h)]
    simp [ByteArray.getElem_eq_getElem_data]
  · rw [Lib.extract_data, List.drop_eq_getElem_cons hl]
    have e : i + 1 - i = 1 := by omega
    rw [e]
    rfl

theorem print_l0 (a b : Int) (s : ByteArray) (hs : s.size ≤ 200000) : ∀ (d k i : Nat) (acc : ByteArray), i + d = s.size → d < k → acc.size + 2 * d ≤ 1000000 →
    ∃ r, PRead.umlautref11_Print.l0 k acc i a b s = some r ∧ r.data.toList = acc.data.toList ++ escL (s.data.toList.drop i) ++ [39] := by
  intro d
  induction d with
  | zero =>
    intro k i acc hi hk ha
    obtain ⟨k, rfl⟩ : ∃ m, k = m + 1 := ⟨k - 1, by omega⟩
    simp only [PRead.umlautref11_Print.l0]
    rw [if_neg (by omega), if_pos (by omega)]
    refine ⟨_, rfl, ?_⟩
    have e : s.data.toList.drop i = [] := List.drop_eq_nil_of_le (by rw [← size_list]; omega)
    rw [app_list, e]
    simp [escL]
  | succ d ih =>
    intro k i acc hi hk ha
    obtain ⟨k, rfl⟩ : ∃ m, k = m + 1 := ⟨k - 1, by omega⟩
    simp only [PRead.umlautref11_Print.l0]
    obtain ⟨c, hd, hb, he⟩ := drop_cons s (show i < s.size by omega)
    have ei : wrap64 ((i : Int) + 1) = ((i + 1 : Nat) : Int) := by rw [w64_id (by omega) (by omega)]; rfl
    have et : ((i : Int)).toNat = i := by omega
    have et1 : (((i + 1 : Nat) : Int)).toNat = i + 1 := by omega
    have hz : (s.extract i (i + 1)).size = 1 := by rw [size_list, he]; rfl
    rw [if_pos (by omega), if_pos (by omega), hb, ei, et, et1]
    by_cases hc : c = 39
    · subst hc
      have h39 : (acc ++ (⟨#[39]⟩ : ByteArray)).size = acc.size + 1 := by rw [ByteArray.size_append]; rfl
      rw [if_pos (by decide), if_pos (by omega), if_pos (by omega), if_pos (by omega), if_pos (by rw [h39, hz]; omega)]
      obtain ⟨r, hr, hl⟩ := ih k (i + 1) ((acc ++ (⟨#[39]⟩ : ByteArray)) ++ s.extract i (i + 1)) (by omega) (by omega) (by rw [ByteArray.size_append, h39, hz]; omega)
      refine ⟨r, hr, ?_⟩
      rw [hl, app_list, app_list, he, hd]
      simp [escL]
    · have hc' : ¬ ((c.toNat : Int) = 39) := fun e => hc (by
        apply UInt8.toNat_inj.1
        have : c.toNat = 39 := by omega
        rw [this]; rfl)
      rw [if_neg hc', if_pos (by omega), if_pos (by omega), if_pos (by rw [hz]; omega)]
      obtain ⟨r, hr, hl⟩ := ih k (i + 1) (acc ++ s.extract i (i + 1)) (by omega) (by omega) (by rw [ByteArray.size_append, hz]; omega)
      refine ⟨r, hr, ?_⟩
      rw [hl, app_list, he, hd]
      simp [escL, hc]

theorem clean_f (k n : Int) (s : ByteArray) : PRead.umlautref11_Clean.f k n s = some (cln k n s) := by
  have ho : PRead.umlautref11_Ok.f k n s = some (okV k n s) := by
    unfold PRead.umlautref11_Ok.f okV
    have hE : (s.toList = []) ↔ s.toList.isEmpty = true := by rw [List.isEmpty_iff]
    obtain ⟨q, hq⟩ : ∃ q, s.toList.isEmpty = q := ⟨_, rfl⟩
    have hE' : (s.toList = []) ↔ q = true := by rw [hE, hq]
    rw [hq]
    have hk : k < 0 ∨ k = 0 ∨ k = 1 ∨ k = 2 ∨ k = 3 ∨ 3 < k := by omega
    rcases hk with h | rfl | rfl | rfl | rfl | h
    · rw [if_neg (by omega), if_neg (by omega), if_neg (by omega), if_neg (by omega)]
      have : (k == 3) = false := by rw [beq_eq_false_iff_ne]; omega
      rw [this]; rfl
    · by_cases hn : n = 0 <;> cases q <;> simp_all
    · by_cases hn : n = 0 <;> by_cases hn1 : n = 1 <;> cases q <;> simp_all
    · by_cases hn : n = 0 <;> cases q <;> simp_all
    · by_cases hn : n = 0 <;> cases q <;> simp_all
    · rw [if_pos (by omega), if_neg (by omega), if_neg (by omega), if_neg (by omega), if_neg (by omega)]
      have : (k == 3) = false := by rw [beq_eq_false_iff_ne]; omega
      rw [this]; rfl
  unfold PRead.umlautref11_Clean.f cln
  rw [ho]
  simp only [Option.bind_some]
  split <;> rfl

/-- The document's print. -/
theorem print_ev (k n : Int) (s : ByteArray) (h0 : -9223372036854775808 ≤ n) (h1 : n ≤ 9223372036854775807) (hs : s.size ≤ 200000) :
    ∃ r, Ev (fun m => PRead.umlautref11_Print.f m k n s) r ∧ r.data.toList = PB (cln k n s) := by
  have hf : ∀ m, PRead.umlautref11_Print.f m k n s = (some (cln k n s)).bind fun bt110 => (if bt110.1 = 0 then (some (⟨#[78, 85, 76, 76]⟩ : ByteArray)) else (if bt110.1 = 1 then (if bt110.2.1 = 1 then (some (⟨#[84, 82, 85, 69]⟩ : ByteArray)) else (some (⟨#[70, 65, 76, 83, 69]⟩ : ByteArray))) else (if bt110.1 = 2 then ((PRead.umlautref1_Text.f m bt110.2.1).bind fun t113 => (some t113)) else (PRead.umlautref11_Print.l0 m (⟨#[39]⟩ : ByteArray) 0 bt110.1 bt110.2.1 bt110.2.2)))) := fun m => by
    rw [← clean_f]; rfl
  have hkd := cln_kind k n s
  have hor := cln_or k n s
  obtain ⟨V, hV⟩ : ∃ V, cln k n s = V := ⟨_, rfl⟩
  rw [hV] at hf hkd hor ⊢
  obtain ⟨A1, A2, A3⟩ := V
  have ha2 : -9223372036854775808 ≤ A2 ∧ A2 ≤ 9223372036854775807 := by
    rcases hor with h | h <;> (injection h with _ h; injection h with h _; subst h) <;> omega
  have ha3 : A3.size ≤ 200000 := by
    rcases hor with h | h <;> (injection h with _ h; injection h with _ h; subst h)
    · exact hs
    · decide
  have hkd : A1 = 0 ∨ A1 = 1 ∨ A1 = 2 ∨ A1 = 3 := hkd
  simp only [Option.bind_some] at hf
  rcases hkd with rfl | rfl | rfl | rfl
  · exact ⟨⟨#[78, 85, 76, 76]⟩, ⟨0, fun m _ => by show PRead.umlautref11_Print.f m k n s = _; rw [hf]; rfl⟩, rfl⟩
  · by_cases hA : A2 = 1
    · subst hA
      exact ⟨⟨#[84, 82, 85, 69]⟩, ⟨0, fun m _ => by show PRead.umlautref11_Print.f m k n s = _; rw [hf]; rfl⟩, rfl⟩
    · exact ⟨⟨#[70, 65, 76, 83, 69]⟩, ⟨0, fun m _ => by show PRead.umlautref11_Print.f m k n s = _; rw [hf, if_neg (by decide), if_pos rfl, if_neg hA]⟩, by simp [PB, hA]⟩
  · obtain ⟨r, ⟨K, hK⟩, hl⟩ := text_ev A2 ha2.1 ha2.2
    refine ⟨r, ⟨K, fun m hm => ?_⟩, by rw [hl]; simp [PB]⟩
    show PRead.umlautref11_Print.f m k n s = _
    rw [hf, if_neg (by decide), if_neg (by decide), if_pos rfl]
    have := hK m hm
    dsimp only at this ⊢
    rw [this]
    rfl
  · obtain ⟨r0, hr0, hl0⟩ := print_l0 3 A2 A3 ha3 A3.size (A3.size + 1) 0 ⟨#[39]⟩ (by omega) (by omega) (by show 1 + _ ≤ _; omega)
    refine ⟨r0, ⟨A3.size + 1, fun m hm => ?_⟩, by rw [hl0]; simp [PB]⟩
    obtain ⟨r, hr, hl⟩ := print_l0 3 A2 A3 ha3 A3.size m 0 ⟨#[39]⟩ (by omega) (by omega) (by show 1 + _ ≤ _; omega)
    have e : r = r0 := Go.WideShapes.bytes_inj (by rw [hl, hl0])
    show PRead.umlautref11_Print.f m k n s = _
    rw [hf, if_neg (by decide), if_neg (by decide), if_neg (by decide), ← e]
    exact hr

def I64 (n : Int) : Prop := -9223372036854775808 ≤ n ∧ n ≤ 9223372036854775807

theorem mul10 (k : Nat) (x : Int) (hx : I64 x) : ∃ n e, PRead.umlautref1_Mul.f (k + 1) x 10 = some (n, e) ∧ I64 n ∧ (I64 (x * 10) → n = x * 10 ∧ e = 0) := by
  unfold PRead.umlautref1_Mul.f
  by_cases h0 : x = 0
  · subst h0
    exact ⟨0, 0, by rw [if_pos rfl]; rfl, by unfold I64; omega, fun _ => ⟨rfl, rfl⟩⟩
  · rw [if_neg h0]
    simp only [PRead.umlautref1_Mul.j0]
    rw [if_neg (by decide)]
    by_cases h1 : x = -1
    · subst h1
      refine ⟨-10, 0, ?_, by unfold I64; omega, fun _ => ⟨rfl, rfl⟩⟩
      rw [if_pos rfl]
      have : PRead.umlautref1_Neg.f 10 = some (-10, 0) := by kernel_rfl
      rw [this]
      rfl
    · rw [if_neg h1, if_neg (by decide), if_neg (by decide)]
      by_cases h2 : wrap64 (Int.tdiv (wrap64 (x * 10)) 10) = x
      · refine ⟨wrap64 (x * 10), 0, by rw [if_pos h2], w64_bnd _, fun h => ⟨w64_id h.1 h.2, rfl⟩⟩
      · refine ⟨0, 17, by rw [if_neg h2], by unfold I64; omega, fun h => ?_⟩
        exfalso
        apply h2
        rw [w64_id (x := x * 10) h.1 h.2, Int.mul_tdiv_cancel _ (by decide), w64_id hx.1 hx.2]

theorem add_ (y d : Int) (hy : I64 y) (hd : -9 ≤ d ∧ d ≤ 9) : ∃ n e, PRead.umlautref1_Add.f y d = some (n, e) ∧ I64 n ∧ (I64 (y + d) → n = y + d ∧ e = 0) := by
  unfold I64 at *
  unfold PRead.umlautref1_Add.f
  have e1 : wrap64 (9223372036854775807 - d) = 9223372036854775807 - d ∨ d < 0 := by unfold wrap64; omega
  have e2 : wrap64 ((-9223372036854775808) - d) = -9223372036854775808 - d ∨ 0 < d := by unfold wrap64; omega
  have e3 := w64_bnd (y + d)
  have e4 : (-9223372036854775808 ≤ y + d ∧ y + d ≤ 9223372036854775807) → wrap64 (y + d) = y + d := fun h => w64_id h.1 h.2
  by_cases hp : d > 0
  · rw [if_pos hp]
    have e1 : wrap64 (9223372036854775807 - d) = 9223372036854775807 - d := by rcases e1 with h | h <;> omega
    rw [e1]
    by_cases ho : y > 9223372036854775807 - d
    · rw [if_pos ho]; exact ⟨0, 17, rfl, by omega, fun h => by omega⟩
    · rw [if_neg ho, if_neg (by omega)]; exact ⟨_, _, rfl, e3, fun h => ⟨e4 h, rfl⟩⟩
  · rw [if_neg hp]
    by_cases hn : d < 0
    · rw [if_pos hn]
      have e2 : wrap64 ((-9223372036854775808) - d) = -9223372036854775808 - d := by rcases e2 with h | h <;> omega
      rw [e2]
      by_cases ho : y < -9223372036854775808 - d
      · rw [if_pos ho]; exact ⟨0, 17, rfl, by omega, fun h => by omega⟩
      · rw [if_neg ho]; exact ⟨_, _, rfl, e3, fun h => ⟨e4 h, rfl⟩⟩
    · rw [if_neg hn]; exact ⟨_, _, rfl, e3, fun h => ⟨e4 h, rfl⟩⟩

/-- The number that digits spell, behind others. -/
def dv (a : Nat) : List UInt8 → Nat
  | [] => a
  | c :: r => dv (a * 10 + (c.toNat - 48)) r

theorem dv_le : ∀ (l : List UInt8) (a : Nat), a ≤ dv a l
  | [], a => Nat.le_refl _
  | c :: r, a => Nat.le_trans (by omega) (dv_le r _)

theorem dv_app : ∀ (l r : List UInt8) (a : Nat), dv a (l ++ r) = dv (dv a l) r
  | [], r, a => rfl
  | c :: l, r, a => dv_app l r _

theorem dv_one (a d : Nat) (h : d < 10) : dv a [UInt8.ofNat (48 + d)] = a * 10 + d := by
  show a * 10 + ((UInt8.ofNat (48 + d)).toNat - 48) = _
  rw [dig_toNat h]
  omega

theorem dv_dd : ∀ (u : Nat), dv 0 (Lib.decDigits u) = u := by
  intro u
  induction u using Nat.strongRecOn with
  | ind u ih =>
    by_cases h : u < 10
    · rw [dd_small h, dv_one 0 u h]
      omega
    · have h1 := ih (u / 10) (by omega)
      have h2 := dv_one (u / 10) (u % 10) (by omega)
      rw [dd_big h, dv_app, h1, h2]
      omega

/-- With its sign. -/
def sg (neg : Bool) (a : Nat) : Int := if neg = true then -(a : Int) else (a : Int)

theorem parse_l1 (neg : Bool) (s : ByteArray) (hs : s.size ≤ 200000) (hdig : ∀ c ∈ s.data.toList, 48 ≤ c.toNat ∧ c.toNat ≤ 57) :
    ∀ (d k i : Nat) (x : Int), i + d = s.size → d + 1 < k → I64 x →
      ∃ n e, PRead.umlautref1_Parse.l1 k s neg x i = some (n, e) ∧ I64 n ∧ (∀ a : Nat, x = sg neg a → I64 (sg neg (dv a (s.data.toList.drop i))) → n = sg neg (dv a (s.data.toList.drop i)) ∧ e = 0) := by
  intro d
  induction d with
  | zero =>
    intro k i x hi hk hx
    obtain ⟨k, rfl⟩ : ∃ m, k = m + 1 := ⟨k - 1, by omega⟩
    simp only [PRead.umlautref1_Parse.l1]
    rw [if_neg (by omega)]
    refine ⟨x, 0, rfl, hx, fun a ha _ => ?_⟩
    have e : s.data.toList.drop i = [] := List.drop_eq_nil_of_le (by rw [← size_list]; omega)
    rw [e]
    exact ⟨ha, rfl⟩
  | succ d ih =>
    intro k i x hi hk hx
    obtain ⟨k, rfl⟩ : ∃ m, k = m + 2 := ⟨k - 2, by omega⟩
    show ∃ n e, PRead.umlautref1_Parse.l1 (k + 1 + 1) s neg x i = some (n, e) ∧ _
    rw [PRead.umlautref1_Parse.l1]
    obtain ⟨c, hd, hb, -⟩ := drop_cons s (show i < s.size by omega)
    have hc := hdig c (by
      have : c ∈ s.data.toList.drop i := by rw [hd]; simp
      exact List.mem_of_mem_drop this)
    have ei : wrap64 ((i : Int) + 1) = ((i + 1 : Nat) : Int) := by rw [w64_id (by omega) (by omega)]; rfl
    obtain ⟨n1, e1, hm, hn1, hm'⟩ := mul10 k x hx
    rw [if_pos (by omega), hm, hb, ei]
    simp only [Option.bind_some]
    have hdg : ((c.toNat : Int) - 48) % 256 = (c.toNat : Int) - 48 := by omega
    -- the value, if it fits, fits on the way
    have hfit : ∀ a : Nat, x = sg neg a → I64 (sg neg (dv a (s.data.toList.drop i))) → I64 (x * 10) ∧ I64 (sg neg (a * 10 + (c.toNat - 48))) ∧ dv a (s.data.toList.drop i) = dv (a * 10 + (c.toNat - 48)) (s.data.toList.drop (i + 1)) := fun a ha hI => by
      rw [hd] at hI
      have e0 : dv a (c :: s.data.toList.drop (i + 1)) = dv (a * 10 + (c.toNat - 48)) (s.data.toList.drop (i + 1)) := rfl
      have hle := dv_le (s.data.toList.drop (i + 1)) (a * 10 + (c.toNat - 48))
      rw [e0] at hI
      refine ⟨?_, ?_, by rw [hd]; rfl⟩
      · subst ha
        unfold I64 sg at *
        split at hI <;> simp_all <;> omega
      · unfold I64 sg at *
        split at hI <;> simp_all <;> omega
    by_cases he1 : e1 = 0
    · subst he1
      rw [if_pos rfl, if_pos (by omega)]
      cases neg with
      | true =>
        rw [if_pos rfl, hdg]
        obtain ⟨n2, e2, ha, hn2, ha'⟩ := add_ n1 (-((c.toNat : Int) - 48)) hn1 (by omega)
        rw [ha]
        simp only [Option.bind_some]
        by_cases he2 : e2 = 0
        · subst he2
          rw [if_pos rfl]
          obtain ⟨n, e, hr, hn, hv⟩ := ih (k + 1) (i + 1) n2 (by omega) (by omega) hn2
          refine ⟨n, e, hr, hn, fun a hxa hI => ?_⟩
          obtain ⟨f1, f2, f3⟩ := hfit a hxa hI
          have g1 := (hm' f1).1
          have hsum : n1 + -((c.toNat : Int) - 48) = sg true (a * 10 + (c.toNat - 48)) := by rw [g1, hxa]; unfold sg; simp; omega
          have g2 := (ha' (by rw [hsum]; exact f2)).1
          rw [f3] at hI ⊢
          exact hv _ (by rw [g2, hsum]) hI
        · rw [if_neg he2]
          refine ⟨0, e2, rfl, by unfold I64; omega, fun a hxa hI => ?_⟩
          obtain ⟨f1, f2, f3⟩ := hfit a hxa hI
          have g1 := (hm' f1).1
          have hsum : n1 + -((c.toNat : Int) - 48) = sg true (a * 10 + (c.toNat - 48)) := by rw [g1, hxa]; unfold sg; simp; omega
          exact absurd (ha' (by rw [hsum]; exact f2)).2 he2
      | false =>
        rw [if_neg (by decide), hdg]
        obtain ⟨n2, e2, ha, hn2, ha'⟩ := add_ n1 ((c.toNat : Int) - 48) hn1 (by omega)
        rw [ha]
        simp only [Option.bind_some]
        by_cases he2 : e2 = 0
        · subst he2
          rw [if_pos rfl]
          obtain ⟨n, e, hr, hn, hv⟩ := ih (k + 1) (i + 1) n2 (by omega) (by omega) hn2
          refine ⟨n, e, hr, hn, fun a hxa hI => ?_⟩
          obtain ⟨f1, f2, f3⟩ := hfit a hxa hI
          have g1 := (hm' f1).1
          have hsum : n1 + ((c.toNat : Int) - 48) = sg false (a * 10 + (c.toNat - 48)) := by rw [g1, hxa]; unfold sg; simp; omega
          have g2 := (ha' (by rw [hsum]; exact f2)).1
          rw [f3] at hI ⊢
          exact hv _ (by rw [g2, hsum]) hI
        · rw [if_neg he2]
          refine ⟨0, e2, rfl, by unfold I64; omega, fun a hxa hI => ?_⟩
          obtain ⟨f1, f2, f3⟩ := hfit a hxa hI
          have g1 := (hm' f1).1
          have hsum : n1 + ((c.toNat : Int) - 48) = sg false (a * 10 + (c.toNat - 48)) := by rw [g1, hxa]; unfold sg; simp; omega
          exact absurd (ha' (by rw [hsum]; exact f2)).2 he2
    · rw [if_neg he1]
      refine ⟨0, e1, rfl, by unfold I64; omega, fun a hxa hI => ?_⟩
      exact absurd (hm' (hfit a hxa hI).1).2 he1

theorem parse_l0 (neg : Bool) (s : ByteArray) (hs : s.size ≤ 200000) :
    ∀ (d k i : Nat), i + d = s.size → 2 * d + s.size + 5 < k + d → (∀ c ∈ s.data.toList.take i, 48 ≤ c.toNat ∧ c.toNat ≤ 57) →
      ∃ n e, PRead.umlautref1_Parse.l0 k s neg i = some (n, e) ∧ I64 n ∧ (s.data.toList ≠ [] → (∀ c ∈ s.data.toList, 48 ≤ c.toNat ∧ c.toNat ≤ 57) → I64 (sg neg (dv 0 s.data.toList)) → n = sg neg (dv 0 s.data.toList) ∧ e = 0) := by
  intro d
  induction d with
  | zero =>
    intro k i hi hk hpre
    obtain ⟨k, rfl⟩ : ∃ m, k = m + 1 := ⟨k - 1, by omega⟩
    simp only [PRead.umlautref1_Parse.l0]
    rw [if_neg (by omega)]
    by_cases h0 : s.toList = []
    · rw [if_pos h0]
      refine ⟨0, 3, rfl, by unfold I64; omega, fun h => absurd (by rw [← Lib.toList_data]; exact h0) h⟩
    · rw [if_neg h0]
      have hdig : ∀ c ∈ s.data.toList, 48 ≤ c.toNat ∧ c.toNat ≤ 57 := by
        rw [List.take_of_length_le (by rw [← size_list]; omega)] at hpre
        exact hpre
      obtain ⟨n, e, hr, hn, hv⟩ := parse_l1 neg s hs hdig s.size k 0 0 (by omega) (by omega) (by unfold I64; omega)
      exact ⟨n, e, hr, hn, fun _ _ hI => hv 0 (by unfold sg; split <;> rfl) hI⟩
  | succ d ih =>
    intro k i hi hk hpre
    obtain ⟨k, rfl⟩ : ∃ m, k = m + 1 := ⟨k - 1, by omega⟩
    simp only [PRead.umlautref1_Parse.l0]
    obtain ⟨c, hd, hb, -⟩ := drop_cons s (show i < s.size by omega)
    have hmem : c ∈ s.data.toList := by
      have : c ∈ s.data.toList.drop i := by rw [hd]; simp
      exact List.mem_of_mem_drop this
    have ei : wrap64 ((i : Int) + 1) = ((i + 1 : Nat) : Int) := by rw [w64_id (by omega) (by omega)]; rfl
    rw [if_pos (by omega), if_pos (by omega), hb, ei]
    by_cases h1 : (c.toNat : Int) < 48
    · rw [if_pos h1]
      exact ⟨0, 3, rfl, by unfold I64; omega, fun _ h _ => by have := h c hmem; omega⟩
    · rw [if_neg h1]
      by_cases h2 : (c.toNat : Int) > 57
      · rw [if_pos h2]
        exact ⟨0, 3, rfl, by unfold I64; omega, fun _ h _ => by have := h c hmem; omega⟩
      · rw [if_neg h2]
        refine ih k (i + 1) (by omega) (by omega) fun x hx => ?_
        have hl : i < s.data.toList.length := by rw [← size_list]; omega
        have ec : s.data.toList[i] = c := by
          have := List.drop_eq_getElem_cons hl
          rw [hd] at this
          injection this with h _
          exact h.symm
        rw [List.take_succ_eq_append_getElem hl, List.mem_append] at hx
        rcases hx with hx | hx
        · exact hpre x hx
        · rw [List.mem_singleton, ec] at hx
          rw [hx]
          omega

theorem parse_ev (s : ByteArray) (hs : s.size ≤ 100000) : ∃ n e, Ev (fun k => PRead.umlautref1_Parse.f k s) (n, e) ∧ I64 n ∧ (∀ m, I64 m → s.data.toList = Lib.itoa m → n = m ∧ e = 0) := by
  -- enough rounds: one number of them tells
  have key : ∃ n e, PRead.umlautref1_Parse.f (4 * s.size + 20) s = some (n, e) ∧ I64 n ∧ (∀ m, I64 m → s.data.toList = Lib.itoa m → n = m ∧ e = 0) := by
    have hj1 : ∀ (k : Nat) (x : ByteArray) (neg : Bool), PRead.umlautref1_Parse.j1 (k + 1) x neg = PRead.umlautref1_Parse.l0 k x neg 0 := fun _ _ _ => rfl
    unfold PRead.umlautref1_Parse.f
    by_cases h0 : s.data.toList = []
    · have hz : s.size = 0 := by rw [size_list, h0]; rfl
      rw [if_neg (by omega), hz]
      obtain ⟨n, e, hr, hn, -⟩ := parse_l0 false s (by omega) s.size 18 0 (by omega) (by omega) (by simp)
      refine ⟨n, e, ?_, hn, fun m _ he => ?_⟩
      · show PRead.umlautref1_Parse.j0 (19 + 1) s false = _
        rw [PRead.umlautref1_Parse.j0, if_neg (by decide), hj1]
        exact hr
      · obtain ⟨c, r, hc, _⟩ := itoa_head m
        rw [h0, hc] at he; cases he
    · have hz : 0 < s.size := by
        rw [size_list]
        exact List.length_pos_iff.2 h0
      obtain ⟨c, hd, hb, -⟩ := drop_cons s hz
      rw [List.drop_zero] at hd
      rw [if_pos (by omega), if_pos (by omega)]
      have hb' : bt s 0 = (c.toNat : Int) := hb
      rw [hb']
      by_cases h45 : c = 45
      · subst h45
        have e45 : (((45 : UInt8).toNat : Int) == 45) = true := rfl
        rw [e45]
        show ∃ n e, PRead.umlautref1_Parse.j0 (4 * s.size + 19 + 1) s true = _ ∧ _
        rw [PRead.umlautref1_Parse.j0, if_pos rfl, if_pos (by omega), hj1]
        have hx : (s.extract 1 s.size).data.toList = s.data.toList.drop 1 := Lib.extract_to_end s 1
        have hxs : (s.extract 1 s.size).size = s.size - 1 := by rw [size_list, hx, List.length_drop, ← size_list]
        obtain ⟨n, e, hr, hn, hv⟩ := parse_l0 true (s.extract 1 s.size) (by omega) (s.size - 1) (4 * s.size + 18) 0 (by omega) (by omega) (by simp)
        refine ⟨n, e, hr, hn, fun m hm he => ?_⟩
        rw [hx] at hv
        have hneg : m < 0 := by
          rcases Int.lt_or_le m 0 with h | h
          · exact h
          · exfalso
            unfold Lib.itoa at he
            rw [if_neg (by omega)] at he
            have := dd_digits m.toNat 45 (by rw [← he, hd]; simp)
            exact absurd this (by decide)
        have hdr : s.data.toList.drop 1 = Lib.decDigits m.natAbs := by
          rw [he]
          unfold Lib.itoa
          rw [if_pos hneg]
          rfl
        have hdv : sg true (dv 0 (s.data.toList.drop 1)) = m := by
          rw [hdr, dv_dd]
          unfold sg
          simp
          omega
        rw [hdv] at hv
        exact hv (by rw [hdr]; exact dd_ne _) (by rw [hdr]; exact dd_digits _) hm
      · have e45 : ((c.toNat : Int) == 45) = false := by
          rw [beq_eq_false_iff_ne]
          intro e
          exact h45 (UInt8.toNat_inj.1 (by have : c.toNat = 45 := by omega
                                           rw [this]; rfl))
        rw [e45]
        show ∃ n e, PRead.umlautref1_Parse.j0 (4 * s.size + 19 + 1) s false = _ ∧ _
        rw [PRead.umlautref1_Parse.j0, if_neg (by decide), hj1]
        obtain ⟨n, e, hr, hn, hv⟩ := parse_l0 false s (by omega) s.size (4 * s.size + 18) 0 (by omega) (by omega) (by simp)
        refine ⟨n, e, hr, hn, fun m hm he => ?_⟩
        have hnn : ¬ m < 0 := fun h => by
          unfold Lib.itoa at he
          rw [if_pos h, hd] at he
          injection he with he _
          exact h45 he
        have hdr : s.data.toList = Lib.decDigits m.toNat := by
          rw [he]
          unfold Lib.itoa
          rw [if_neg hnn]
        have hdv : sg false (dv 0 s.data.toList) = m := by
          rw [hdr, dv_dd]
          unfold sg
          simp
          omega
        rw [hdv] at hv
        exact hv h0 (by rw [hdr]; exact dd_digits _) hm
  obtain ⟨n, e, hr, hn, hv⟩ := key
  exact ⟨n, e, Ev.of (PRead.umlautref1_Parse.mono s) hr, hn, hv⟩

/-- The end of a reading: what was read is printed and held against the text. -/
def fin (s : ByteArray) (k n : Int) (t : ByteArray) (m : Nat) : Option (Int × Int × ByteArray × Bool) :=
  (PRead.umlautref11_Print.f m k n t).bind fun u => (if u.toList = s.toList then (some (k, n, t, true)) else (some (0, 0, (⟨#[]⟩ : ByteArray), false)))

theorem fin_ev (s : ByteArray) (k n : Int) (t : ByteArray) (hv : CV (k, n, t)) (ht : t.size ≤ 200000) (hc : ∀ c, CV c → PB c = s.data.toList → c = (k, n, t)) :
    ∃ k' n' t' ok, Ev (fin s k n t) (k', n', t', ok) ∧ RSpec s.data.toList (k', n', t') ok := by
  obtain ⟨r, hr, hl⟩ := print_ev k n t hv.2.1 hv.2.2 ht
  have hcl : cln k n t = (k, n, t) := hv.1
  rw [hcl] at hl
  have hM := rspec_mk hv hc
  by_cases h : PB (k, n, t) = s.data.toList
  · refine ⟨k, n, t, true, ?_, hM.1 h⟩
    unfold fin
    refine Ev.bind hr ?_
    rw [if_pos (by rw [Lib.toList_data, Lib.toList_data, hl, h])]
    exact Ev.now _
  · refine ⟨0, 0, ⟨#[]⟩, false, ?_, hM.2 h⟩
    unfold fin
    refine Ev.bind hr ?_
    rw [if_neg (by rw [Lib.toList_data, Lib.toList_data, hl]; exact h)]
    exact Ev.now _

theorem scan_short {l : List UInt8} (h : l.length ≤ 1) : scanL l = [] := by
  cases l with
  | nil => rfl
  | cons x r => cases r with
    | nil => rfl
    | cons y r => simp at h

theorem read_l0 (s : ByteArray) (hs : s.size ≤ 100000) : ∀ (d i : Nat) (acc : ByteArray), i + d = s.size → 1 ≤ i → acc.size + d ≤ 1000000 →
    ∃ t : ByteArray, t.data.toList = acc.data.toList ++ scanL (s.data.toList.drop i) ∧ ∀ q, Ev (fin s 3 0 t) q → Ev (fun k => PRead.umlautref11_Read.l0 k s acc i) q := by
  intro d
  induction d using Nat.strongRecOn with
  | ind d ih =>
    intro i acc hi h1 ha
    have HW : Hid (wrap64 ((s.size : Int) - 1) = (s.size : Int) - 1) := w64_id (by omega) (by omega)
    by_cases hd : d ≤ 1
    · refine ⟨acc, ?_, fun q hq => Ev.step (f := fin s 3 0 acc) (fun k => ?_) hq⟩
      · rw [scan_short (by rw [List.length_drop, ← size_list]; omega), List.append_nil]
      · show PRead.umlautref11_Read.l0 (k + 1) s acc i = _
        rw [PRead.umlautref11_Read.l0, HW.out, if_neg (by omega)]
        rfl
    · obtain ⟨c, hdr, hb, he⟩ := drop_cons s (show i < s.size by omega)
      obtain ⟨y, hdr2, hb2, he2⟩ := drop_cons s (show i + 1 < s.size by omega)
      have EI : Hid (wrap64 ((i : Int) + 1) = ((i + 1 : Nat) : Int)) := by
        show wrap64 ((i : Int) + 1) = ((i + 1 : Nat) : Int)
        rw [w64_id (by omega) (by omega)]; rfl
      have EI2 : Hid (wrap64 (((i + 1 : Nat) : Int) + 1) = ((i + 2 : Nat) : Int)) := by
        show wrap64 (((i + 1 : Nat) : Int) + 1) = ((i + 2 : Nat) : Int)
        rw [w64_id (by omega) (by omega)]; omega
      have et : ((i : Int)).toNat = i := by omega
      have et1 : (((i + 1 : Nat) : Int)).toNat = i + 1 := by omega
      have et2 : (((i + 2 : Nat) : Int)).toNat = i + 1 + 1 := by omega
      have hz : (s.extract i (i + 1)).size = 1 := by rw [size_list, he]; rfl
      have hz2 : (s.extract (i + 1) (i + 1 + 1)).size = 1 := by rw [size_list, he2]; rfl
      by_cases hc : c = 39
      · subst hc
        obtain ⟨t, htl, hq⟩ := ih (d - 2) (by omega) (i + 2) (acc ++ s.extract (i + 1) (i + 1 + 1)) (by omega) (by omega) (by rw [ByteArray.size_append, hz2]; omega)
        refine ⟨t, ?_, fun q h => Ev.step (f := fun k => PRead.umlautref11_Read.l0 k s (acc ++ s.extract (i + 1) (i + 1 + 1)) ((i + 2 : Nat) : Int)) (fun k => ?_) (hq q h)⟩
        · rw [htl, app_list, he2, hdr, hdr2]
          simp [scanL]
        · show PRead.umlautref11_Read.l0 (k + 1) s acc i = _
          rw [PRead.umlautref11_Read.l0, HW.out, if_pos (by omega), if_pos (by omega), if_pos (by omega), hb, if_pos (by decide), EI.out, EI2.out, et1, et2, if_pos (by omega), if_pos (by omega), if_pos (by omega), if_pos (by rw [hz2]; omega)]
      · have hc' : ¬ ((c.toNat : Int) = 39) := fun e => hc (by
          apply UInt8.toNat_inj.1
          have : c.toNat = 39 := by omega
          rw [this]; rfl)
        obtain ⟨t, htl, hq⟩ := ih (d - 1) (by omega) (i + 1) (acc ++ s.extract i (i + 1)) (by omega) (by omega) (by rw [ByteArray.size_append, hz]; omega)
        refine ⟨t, ?_, fun q h => Ev.step (f := fun k => PRead.umlautref11_Read.l0 k s (acc ++ s.extract i (i + 1)) ((i + 1 : Nat) : Int)) (fun k => ?_) (hq q h)⟩
        · rw [htl, app_list, he, hdr, hdr2]
          simp [scanL, hc]
        · show PRead.umlautref11_Read.l0 (k + 1) s acc i = _
          rw [PRead.umlautref11_Read.l0, HW.out, if_pos (by omega), if_pos (by omega), if_pos (by omega), hb, if_neg hc', EI.out, et, et1, if_pos (by omega), if_pos (by omega), if_pos (by rw [hz]; omega)]

theorem scan_len : ∀ (m : Nat) (l : List UInt8), l.length ≤ m → (scanL l).length ≤ l.length
  | _, [], _ => Nat.le_refl _
  | _, [_], _ => Nat.zero_le _
  | 0, _ :: _ :: _, h => by simp at h
  | m + 1, x :: y :: r, h => by
    simp only [List.length_cons] at h
    simp only [scanL]
    split
    · have := scan_len m r (by omega)
      simp only [List.length_cons]; omega
    · have := scan_len m (y :: r) (by simp only [List.length_cons]; omega)
      simp only [List.length_cons] at this ⊢; omega

theorem read_ev (s : ByteArray) (hs : s.size ≤ 100000) : ∃ k n t ok, Ev (fun m => PRead.umlautref11_Read.f m s) (k, n, t, ok) ∧ RSpec s.data.toList (k, n, t) ok := by
  by_cases hN : s.toList = [78, 85, 76, 76]
  · have hl : s.data.toList = [78, 85, 76, 76] := by rw [← Lib.toList_data]; exact hN
    obtain ⟨k, n, t, ok, he, hr⟩ := fin_ev s 0 0 ⟨#[]⟩ cv_null (by decide) (fun c hc h => pb_inj hc cv_null (by rw [h, hl]; rfl))
    refine ⟨k, n, t, ok, Ev.congr (fun m => ?_) he, hr⟩
    show PRead.umlautref11_Read.f m s = _
    unfold PRead.umlautref11_Read.f
    rw [if_pos hN]
    rfl
  · by_cases hT : s.toList = [84, 82, 85, 69]
    · have hl : s.data.toList = [84, 82, 85, 69] := by rw [← Lib.toList_data]; exact hT
      obtain ⟨k, n, t, ok, he, hr⟩ := fin_ev s 1 1 ⟨#[]⟩ cv_true (by decide) (fun c hc h => pb_inj hc cv_true (by rw [h, hl]; rfl))
      refine ⟨k, n, t, ok, Ev.congr (fun m => ?_) he, hr⟩
      show PRead.umlautref11_Read.f m s = _
      unfold PRead.umlautref11_Read.f
      rw [if_neg hN, if_pos hT]
      rfl
    · by_cases hF : s.toList = [70, 65, 76, 83, 69]
      · have hl : s.data.toList = [70, 65, 76, 83, 69] := by rw [← Lib.toList_data]; exact hF
        obtain ⟨k, n, t, ok, he, hr⟩ := fin_ev s 1 0 ⟨#[]⟩ cv_false (by decide) (fun c hc h => pb_inj hc cv_false (by rw [h, hl]; rfl))
        refine ⟨k, n, t, ok, Ev.congr (fun m => ?_) he, hr⟩
        show PRead.umlautref11_Read.f m s = _
        unfold PRead.umlautref11_Read.f
        rw [if_neg hN, if_neg hT, if_pos hF]
        rfl
      · have hN' : s.data.toList ≠ [78, 85, 76, 76] := fun h => hN (by rw [Lib.toList_data]; exact h)
        have hT' : s.data.toList ≠ [84, 82, 85, 69] := fun h => hT (by rw [Lib.toList_data]; exact h)
        have hF' : s.data.toList ≠ [70, 65, 76, 83, 69] := fun h => hF (by rw [Lib.toList_data]; exact h)
        have hf : ∀ m, PRead.umlautref11_Read.f m s = (if (s.size : Int) ≥ 2 then (if 0 < (s.size : Int) then (PRead.umlautref11_Read.j0 m s ((bt s 0) == 39)) else (none)) else (PRead.umlautref11_Read.j0 m s false)) := fun m => by
          unfold PRead.umlautref11_Read.f
          rw [if_neg hN, if_neg hT, if_neg hF]
        by_cases hq : ∃ r, s.data.toList = 39 :: r ∧ r ≠ []
        · obtain ⟨r, hl, hr0⟩ := hq
          have hsz : 2 ≤ s.size := by
            rw [size_list, hl]
            cases r with
            | nil => exact absurd rfl hr0
            | cons _ _ => simp
          obtain ⟨c, hd, hb, -⟩ := drop_cons s (show 0 < s.size by omega)
          rw [List.drop_zero, hl] at hd
          injection hd with hc hdr
          obtain ⟨t, htl, hq⟩ := read_l0 s hs (s.size - 1) 1 ⟨#[]⟩ (by omega) (by omega) (by show 0 + _ ≤ _; omega)
          have ht : t.data.toList = scanL r := by rw [htl, hl]; simp
          have hts : t.size ≤ 200000 := by
            have := scan_len _ r (Nat.le_refl _)
            rw [size_list, hl] at hs
            rw [size_list, ht]
            simp only [List.length_cons] at hs
            omega
          obtain ⟨k, n, u, ok, he, hr⟩ := fin_ev s 3 0 t (cv_text t) hts (fun c hc h => by
            rcases cv_kind hc with rfl | rfl | rfl | ⟨m, rfl, g0, g1⟩ | ⟨u, rfl⟩
            · rw [pb_null, hl] at h; exact absurd h (by simp)
            · rw [pb_false, hl] at h; exact absurd h (by simp)
            · rw [pb_true, hl] at h; exact absurd h (by simp)
            · rw [pb_int, hl] at h
              obtain ⟨x, y, e', hx⟩ := itoa_head m
              rw [h] at e'
              injection e' with e' _
              subst e'
              rcases hx with hx | hx
              · cases hx
              · exact absurd hx (by decide)
            · rw [pb_text, hl] at h
              injection h with _ h
              have : u = t := Go.WideShapes.bytes_inj (by rw [ht, ← h, scan_esc])
              rw [this])
          refine ⟨k, n, u, ok, Ev.congr (fun m => hf m) ?_, hr⟩
          have hb' : bt s 0 = (c.toNat : Int) := hb
          have e39 : (bt s 0 == 39) = true := by rw [hb', ← hc]; rfl
          refine Ev.congr (f := fun m => PRead.umlautref11_Read.j0 m s true) (fun m => by
            show (if (s.size : Int) ≥ 2 then (if 0 < (s.size : Int) then (PRead.umlautref11_Read.j0 m s ((bt s 0) == 39)) else (none)) else (PRead.umlautref11_Read.j0 m s false)) = _
            rw [if_pos (by omega), if_pos (by omega), e39]) ?_
          exact Ev.step (f := fun m => PRead.umlautref11_Read.l0 m s ⟨#[]⟩ 1) (fun m => by
            show PRead.umlautref11_Read.j0 (m + 1) s true = _
            rw [PRead.umlautref11_Read.j0, if_pos rfl]) (hq _ he)
        · have hnq : ∀ u : ByteArray, 39 :: (escL u.data.toList ++ [39]) ≠ s.data.toList := fun u h => hq ⟨_, h.symm, by simp⟩
          have hj : ∀ m, PRead.umlautref11_Read.f m s = PRead.umlautref11_Read.j0 m s false := fun m => by
            rw [hf]
            by_cases hsz : 2 ≤ s.size
            · obtain ⟨c, hd, hb, -⟩ := drop_cons s (show 0 < s.size by omega)
              rw [List.drop_zero] at hd
              have hb' : bt s 0 = (c.toNat : Int) := hb
              have e39 : (bt s 0 == 39) = false := by
                rw [beq_eq_false_iff_ne, hb']
                intro e
                have hc : c = 39 := UInt8.toNat_inj.1 (by
                  have : c.toNat = 39 := by omega
                  rw [this]; rfl)
                refine hq ⟨_, by rw [hd, hc], fun e0 => ?_⟩
                have := congrArg List.length e0
                rw [List.length_drop, ← size_list] at this
                simp at this
                omega
              rw [if_pos (by omega), if_pos (by omega), e39]
            · rw [if_neg (by omega)]
          obtain ⟨n, e, hp, hn, hv⟩ := parse_ev s hs
          have hj2 : ∀ m, PRead.umlautref11_Read.j0 (m + 1) s false = ((PRead.umlautref1_Parse.f m s).bind fun bt => if bt.2 = 0 then fin s 2 bt.1 ⟨#[]⟩ m else some (0, 0, (⟨#[]⟩ : ByteArray), false)) := fun m => by
            rw [PRead.umlautref11_Read.j0, if_neg (by decide)]
            rfl
          by_cases he0 : e = 0
          · obtain ⟨k, n', u, ok, he, hr⟩ := fin_ev s 2 n ⟨#[]⟩ (cv_int hn.1 hn.2) (by decide) (fun c hc h => by
              rcases cv_kind hc with rfl | rfl | rfl | ⟨m, rfl, g0, g1⟩ | ⟨u, rfl⟩
              · exact absurd h.symm hN'
              · exact absurd h.symm hF'
              · exact absurd h.symm hT'
              · rw [pb_int] at h
                rw [(hv m ⟨g0, g1⟩ h.symm).1]
              · rw [pb_text] at h
                exact absurd h (hnq u))
            refine ⟨k, n', u, ok, Ev.congr (fun m => hj m) (Ev.step (f := fun m => ((PRead.umlautref1_Parse.f m s).bind fun bt => if bt.2 = 0 then fin s 2 bt.1 ⟨#[]⟩ m else some (0, 0, (⟨#[]⟩ : ByteArray), false))) hj2 ?_), hr⟩
            refine Ev.bind (f := fun m bt => if bt.2 = 0 then fin s 2 bt.1 ⟨#[]⟩ m else some (0, 0, (⟨#[]⟩ : ByteArray), false)) hp ?_
            refine Ev.congr (f := fin s 2 n ⟨#[]⟩) (fun m => ?_) he
            show (if e = 0 then _ else _) = _
            rw [if_pos he0]
          · refine ⟨0, 0, ⟨#[]⟩, false, Ev.congr (fun m => hj m) (Ev.step (f := fun m => ((PRead.umlautref1_Parse.f m s).bind fun bt => if bt.2 = 0 then fin s 2 bt.1 ⟨#[]⟩ m else some (0, 0, (⟨#[]⟩ : ByteArray), false))) hj2 ?_), ?_⟩
            · refine Ev.bind (f := fun m bt => if bt.2 = 0 then fin s 2 bt.1 ⟨#[]⟩ m else some (0, 0, (⟨#[]⟩ : ByteArray), false)) hp ?_
              refine Ev.congr (f := fun _ => some (0, 0, (⟨#[]⟩ : ByteArray), false)) (fun m => ?_) (Ev.now _)
              show (if e = 0 then _ else _) = _
              rw [if_neg he0]
            · refine ⟨(fun h => by cases h), fun _ => ⟨rfl, fun c hc h => ?_⟩⟩
              rcases cv_kind hc with rfl | rfl | rfl | ⟨m, rfl, g0, g1⟩ | ⟨u, rfl⟩
              · exact absurd h.symm hN'
              · exact absurd h.symm hF'
              · exact absurd h.symm hT'
              · rw [pb_int] at h
                exact he0 (hv m ⟨g0, g1⟩ h.symm).2
              · rw [pb_text] at h
                exact absurd h (hnq u)
end Go.Proofs.YtdmooacjllidhaaGreatDoor
