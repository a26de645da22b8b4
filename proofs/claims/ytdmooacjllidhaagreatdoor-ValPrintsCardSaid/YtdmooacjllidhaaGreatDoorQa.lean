/-
  Values' texts: what is printed, that it is read back, that no two print alike. Conditions: none; it names no program.
-/
import Derived.Lib.Replace
import Derived.Lib.ReplaceLaws
import Derived.Lib.CountLaws
import Derived.Lib.SplitLaws
import Derived.Lib.IndexLaws
import Derived.Lib.IndexMore
import Derived.Lib.ItoaNum
import Derived.Lib.ItoaMem
import Derived.Lib.ItoaLen
import Derived.Lib.ParseIntBCases
import Derived.Lib.ParseIntBTie
import Derived.Lib.SlTrimSet
import Derived.Lib.Strings
set_option linter.unusedVariables false
set_option linter.unusedSimpArgs false
namespace Go.Proofs.YtdmooacjllidhaaGreatDoor
open Go.Lib

/-! ### replacing -/
theorem index_zero {s old : List UInt8} (h : old.isPrefixOf s = true) (hne : old ≠ []) : index s old = 0 := by
  cases s with
  | nil => cases old with
    | nil => exact absurd rfl hne
    | cons _ _ => simp at h
  | cons b l => simp only [index]; rw [if_pos h]

theorem rpl_hit {old : List UInt8} (new r : List UInt8) (hne : old ≠ []) : replaceK old new (count (old ++ r) old) (old ++ r) = new ++ replaceK old new (count r old) r := by
  have hp : old.isPrefixOf (old ++ r) = true := by
    rw [List.isPrefixOf_iff_prefix]; exact List.prefix_append _ _
  have hi : index (old ++ r) old = (0 : Nat) := index_zero hp hne
  rw [count_hit hne hi, Nat.add_comm 1, replaceK_hit old new _ _ 0 hi]
  simp

theorem rpl_skip {old : List UInt8} (new : List UInt8) (c : UInt8) (r : List UInt8) (hne : old ≠ []) (hp : old.isPrefixOf (c :: r) = false) :
    replaceK old new (count (c :: r) old) (c :: r) = c :: replaceK old new (count r old) r := by
  have hi : index (c :: r) old = if index r old == -1 then -1 else index r old + 1 := by
    simp only [index]; rw [if_neg (by rw [hp]; simp)]
  by_cases hm : index r old = -1
  · have h1 : index (c :: r) old = -1 := by rw [hi, hm]; rfl
    rw [count_miss h1, count_miss hm]
    rfl
  · have hg := index_ge r old
    obtain ⟨i, hir⟩ : ∃ i : Nat, index r old = i := ⟨(index r old).toNat, by omega⟩
    have h1 : index (c :: r) old = ((i + 1 : Nat) : Int) := by
      rw [hi, if_neg (by simpa using hm), hir]; rfl
    rw [count_hit hne h1, count_hit hne hir, Nat.add_comm 1, Nat.add_comm 1, replaceK_hit old new _ _ _ h1, replaceK_hit old new _ _ _ hir]
    have e : (c :: r).drop (i + 1 + old.length) = r.drop (i + old.length) := by
      rw [show i + 1 + old.length = (i + old.length) + 1 by omega]; rfl
    rw [e]
    simp

/-- Each quote twice. -/
def escL : List UInt8 → List UInt8
  | [] => []
  | c :: r => if c = 39 then 39 :: 39 :: escL r else c :: escL r

theorem escL_len : ∀ l : List UInt8, (escL l).length ≤ 2 * l.length
  | [] => Nat.le_refl _
  | c :: r => by
    have := escL_len r
    simp only [escL]
    split <;> simp <;> omega

theorem replaceAll_esc (s : List UInt8) : replaceAll s [39] [39, 39] = escL s := by
  have h : replaceAll s [39] [39, 39] = replaceK [39] [39, 39] (count s [39]) s := by
    unfold replaceAll replace replaceNum
    rw [if_neg (by decide), if_pos (.inl (by decide))]
  rw [h]
  induction s with
  | nil => rfl
  | cons c r ih =>
    have ih := ih (by unfold replaceAll replace replaceNum; rw [if_neg (by decide), if_pos (.inl (by decide))])
    by_cases hc : c = 39
    · subst hc
      have := rpl_hit (old := [39]) [39, 39] r (by simp)
      simp only [List.cons_append, List.nil_append] at this
      rw [this, ih]
      simp [escL]
    · rw [rpl_skip [39, 39] c r (by simp) (by simp [List.isPrefixOf, Ne.symm hc]), ih]
      simp [escL, hc]

theorem replaceAll_unesc (u : List UInt8) : replaceAll (escL u) [39, 39] [39] = u := by
  have h : ∀ s : List UInt8, replaceAll s [39, 39] [39] = replaceK [39, 39] [39] (count s [39, 39]) s := fun s => by
    unfold replaceAll replace replaceNum
    rw [if_neg (by decide), if_pos (.inl (by decide))]
  rw [h]
  induction u with
  | nil => rfl
  | cons c r ih =>
    by_cases hc : c = 39
    · subst hc
      have := rpl_hit (old := [39, 39]) [39] (escL r) (by simp)
      simp only [List.cons_append, List.nil_append] at this
      simp only [escL, if_true]
      rw [this, ih]
    · simp only [escL, if_neg hc]
      rw [rpl_skip [39] c (escL r) (by simp) (by simp [List.isPrefixOf, Ne.symm hc]), ih]

/-- What the document's reading scans: up to the last byte, a quote stands for the byte behind it. -/
def scanL : List UInt8 → List UInt8
  | [] => []
  | [_] => []
  | x :: y :: r => if x = 39 then y :: scanL r else x :: scanL (y :: r)

theorem scan_esc : ∀ u : List UInt8, scanL (escL u ++ [39]) = u
  | [] => rfl
  | c :: r => by
    have ih := scan_esc r
    by_cases hc : c = 39
    · subst hc
      simp only [escL, if_true, List.cons_append, scanL]
      rw [ih]
    · simp only [escL, if_neg hc, List.cons_append]
      obtain ⟨y, t, hy⟩ : ∃ y t, escL r ++ [39] = y :: t := by
        cases escL r with
        | nil => exact ⟨_, _, rfl⟩
        | cons a b => exact ⟨_, _, rfl⟩
      rw [hy] at ih ⊢
      simp only [scanL, if_neg hc]
      rw [ih]

/-! ### numbers -/
theorem dd_small {u : Nat} (h : u < 10) : decDigits u = [UInt8.ofNat (48 + u)] := by rw [decDigits, dif_pos h]
theorem dd_big {u : Nat} (h : ¬ u < 10) : decDigits u = decDigits (u / 10) ++ [UInt8.ofNat (48 + u % 10)] := by rw [decDigits, dif_neg h]
theorem dd_ne (u : Nat) : decDigits u ≠ [] := by
  by_cases h : u < 10
  · rw [dd_small h]; simp
  · rw [dd_big h]; simp
theorem dig_toNat {d : Nat} (h : d < 10) : (UInt8.ofNat (48 + d)).toNat = 48 + d := by
  rw [UInt8.toNat_ofNat']; omega
theorem dd_digits : ∀ (u : Nat), ∀ c ∈ decDigits u, 48 ≤ c.toNat ∧ c.toNat ≤ 57 := by
  intro u
  induction u using Nat.strongRecOn with
  | ind u ih =>
    intro c hc
    by_cases h : u < 10
    · rw [dd_small h] at hc
      rw [List.mem_singleton] at hc
      subst hc
      rw [dig_toNat h]; omega
    · rw [dd_big h, List.mem_append] at hc
      rcases hc with hc | hc
      · exact ih (u / 10) (by omega) c hc
      · rw [List.mem_singleton] at hc
        subst hc
        have hm : u % 10 < 10 := by omega
        rw [dig_toNat hm]; omega

theorem parse_dd : ∀ (u : Nat) (r : List UInt8), u ≤ 18446744073709551615 → parseUintM 18446744073709551615 0 (decDigits u ++ r) = parseUintM 18446744073709551615 u r := by
  intro u
  induction u using Nat.strongRecOn with
  | ind u ih =>
    intro r hu
    by_cases h : u < 10
    · rw [dd_small h]
      simp only [List.cons_append, List.nil_append, parseUintM]
      rw [dig_toNat h, if_pos (by omega), if_neg (by omega), if_neg (by omega)]
      congr 1
      omega
    · rw [dd_big h, List.append_assoc, ih (u / 10) (by omega) _ (by omega)]
      simp only [List.cons_append, List.nil_append, parseUintM]
      rw [dig_toNat (by omega), if_pos (by omega), if_neg (by omega), if_neg (by omega)]
      congr 1
      omega

theorem parseU_dd (u : Nat) (h : u ≤ 18446744073709551615) : parseUintB 64 (decDigits u) = .ok u := by
  unfold parseUintB
  rw [if_neg (dd_ne u)]
  have := parse_dd u [] h
  rw [List.append_nil] at this
  exact this

theorem parse_itoa (n : Int) (h0 : -9223372036854775808 ≤ n) (h1 : n ≤ 9223372036854775807) : parseIntB 64 (itoa n) = .ok n := by
  unfold itoa
  by_cases h : n < 0
  · rw [if_pos h, parseIntB_minus, parseU_dd _ (by omega)]
    simp only [signedC]
    rw [if_neg (by omega)]
    congr 1
    omega
  · rw [if_neg h]
    obtain ⟨c, r, hc⟩ : ∃ c r, decDigits n.toNat = c :: r := by
      cases hd : decDigits n.toNat with
      | nil => exact absurd hd (dd_ne _)
      | cons c r => exact ⟨c, r, rfl⟩
    have hd := dd_digits n.toNat c (by rw [hc]; simp)
    rw [hc, parseIntB_plain 64 c r (by omega) (by omega), ← hc, parseU_dd _ (by omega)]
    simp only [signlessC]
    rw [if_neg (by omega)]
    congr 1
    omega

theorem itoa_inj {n m : Int} (h0 : -9223372036854775808 ≤ n) (h1 : n ≤ 9223372036854775807) (g0 : -9223372036854775808 ≤ m) (g1 : m ≤ 9223372036854775807) (h : itoa n = itoa m) : n = m := by
  have a := parse_itoa n h0 h1
  rw [h, parse_itoa m g0 g1] at a
  injection a with a
  exact a.symm

/-- A number's text begins with '-' or a digit. -/
theorem itoa_head (n : Int) : ∃ c r, itoa n = c :: r ∧ (c = 45 ∨ 48 ≤ c.toNat ∧ c.toNat ≤ 57) := by
  unfold itoa
  by_cases h : n < 0
  · rw [if_pos h]; exact ⟨45, _, rfl, .inl rfl⟩
  · rw [if_neg h]
    cases hd : decDigits n.toNat with
    | nil => exact absurd hd (dd_ne _)
    | cons c r => exact ⟨c, r, rfl, .inr (dd_digits n.toNat c (by rw [hd]; simp))⟩

def digs : List UInt8 := [48, 49, 50, 51, 52, 53, 54, 55, 56, 57]
theorem mem_digs {c : UInt8} : digs.contains c = true ↔ 48 ≤ c.toNat ∧ c.toNat ≤ 57 := by
  unfold digs
  simp only [List.contains_cons, List.contains_nil, Bool.or_false, Bool.or_eq_true, beq_iff_eq]
  constructor
  · rintro (rfl | rfl | rfl | rfl | rfl | rfl | rfl | rfl | rfl | rfl) <;> decide
  · intro h
    have e : ∀ k : Nat, k < 10 → c.toNat = 48 + k → c = UInt8.ofNat (48 + k) := fun k hk he => by
      apply UInt8.toNat_inj.1; rw [dig_toNat hk, he]
    have h1 : c.toNat = 48 + 0 ∨ c.toNat = 48 + 1 ∨ c.toNat = 48 + 2 ∨ c.toNat = 48 + 3 ∨ c.toNat = 48 + 4 ∨ c.toNat = 48 + 5 ∨ c.toNat = 48 + 6 ∨ c.toNat = 48 + 7 ∨ c.toNat = 48 + 8 ∨ c.toNat = 48 + 9 := by omega
    rcases h1 with h | h | h | h | h | h | h | h | h | h
    · exact .inl (e 0 (by omega) h)
    · exact .inr (.inl (e 1 (by omega) h))
    · exact .inr (.inr (.inl (e 2 (by omega) h)))
    · exact .inr (.inr (.inr (.inl (e 3 (by omega) h))))
    · exact .inr (.inr (.inr (.inr (.inl (e 4 (by omega) h)))))
    · exact .inr (.inr (.inr (.inr (.inr (.inl (e 5 (by omega) h))))))
    · exact .inr (.inr (.inr (.inr (.inr (.inr (.inl (e 6 (by omega) h)))))))
    · exact .inr (.inr (.inr (.inr (.inr (.inr (.inr (.inl (e 7 (by omega) h))))))))
    · exact .inr (.inr (.inr (.inr (.inr (.inr (.inr (.inr (.inl (e 8 (by omega) h)))))))))
    · exact .inr (.inr (.inr (.inr (.inr (.inr (.inr (.inr (.inr (e 9 (by omega) h)))))))))

theorem dropWhile_nil {α : Type} {p : α → Bool} : ∀ {l : List α}, l.dropWhile p = [] ↔ ∀ x ∈ l, p x = true
  | [] => by simp
  | a :: l => by
    rw [List.dropWhile_cons]
    by_cases h : p a = true
    · rw [if_pos h, dropWhile_nil]; simp [h]
    · rw [if_neg h]; simp [h]

theorem trim_nil {l cs : List UInt8} : trimS l cs = [] ↔ ∀ c ∈ l, cs.contains c = true := by
  unfold trimS trimLeftS
  rw [dropWhile_nil]
  constructor
  · intro h c hc
    by_cases hh : cs.contains c = true
    · exact hh
    · exfalso
      refine hh (h c ?_)
      unfold trimRightS
      rw [List.mem_reverse]
      have hm : c ∈ l.reverse := by simpa using hc
      clear h hc
      generalize l.reverse = t at hm
      induction t with
      | nil => cases hm
      | cons a t ih =>
        rw [List.dropWhile_cons]
        rcases List.mem_cons.1 hm with rfl | hm
        · rw [if_neg hh]; simp
        · split
          · exact ih hm
          · simp [hm]
  · intro h c hc
    unfold trimRightS at hc
    rw [List.mem_reverse] at hc
    exact h c (by simpa using (List.dropWhile_sublist _).subset hc)

/-- Digits alone, at least one: no fault of form. -/
theorem parseM_digits (M : Nat) : ∀ (l : List UInt8) (a : Nat), (∀ c ∈ l, 48 ≤ c.toNat ∧ c.toNat ≤ 57) → parseUintM M a l = .range ∨ ∃ u, parseUintM M a l = .ok u
  | [], a, _ => .inr ⟨a, rfl⟩
  | c :: r, a, h => by
    simp only [parseUintM]
    rw [if_pos (h c (by simp))]
    split
    · exact .inl rfl
    · split
      · exact .inl rfl
      · exact parseM_digits M r _ fun x hx => h x (by simp [hx])

/-- What is behind a leading '-'. -/
theorem trimPre (l : List UInt8) : (∃ r, l = 45 :: r ∧ trimPrefix l [45] = r) ∨ ((∀ r, l ≠ 45 :: r) ∧ trimPrefix l [45] = l) := by
  unfold trimPrefix hasPrefix
  cases l with
  | nil => exact .inr ⟨by simp, rfl⟩
  | cons c r =>
    by_cases h : c = 45
    · subst h; exact .inl ⟨r, rfl, by simp⟩
    · exact .inr ⟨by simp [h], by simp [List.isPrefixOf, Ne.symm h]⟩

theorem parse_form {l : List UInt8} (h0 : trimPrefix l [45] ≠ []) (h1 : trimS (trimPrefix l [45]) digs = []) : parseIntB 64 l = .range ∨ ∃ v, parseIntB 64 l = .ok v := by
  rw [trim_nil] at h1
  have hd : ∀ c ∈ trimPrefix l [45], 48 ≤ c.toNat ∧ c.toNat ≤ 57 := fun c hc => mem_digs.1 (h1 c hc)
  have hU : ∀ r : List UInt8, r ≠ [] → (∀ c ∈ r, 48 ≤ c.toNat ∧ c.toNat ≤ 57) → parseUintB 64 r = .range ∨ ∃ u, parseUintB 64 r = .ok u := fun r hr hd => by
    unfold parseUintB
    rw [if_neg hr]
    exact parseM_digits _ r 0 hd
  rcases trimPre l with ⟨r, rfl, e⟩ | ⟨hn, e⟩
  · rw [e] at h0 hd
    rw [parseIntB_minus]
    rcases hU r h0 hd with h | ⟨u, h⟩ <;> rw [h] <;> simp only [signedC]
    · exact .inl (by first | rfl | trivial)
    · split
      · exact .inl rfl
      · exact .inr ⟨_, rfl⟩
  · rw [e] at h0 hd
    cases l with
    | nil => exact absurd rfl h0
    | cons c r =>
      have := hd c (by simp)
      rw [parseIntB_plain 64 c r (by omega) (by omega)]
      rcases hU (c :: r) (by simp) hd with h | ⟨u, h⟩ <;> rw [h] <;> simp only [signlessC]
      · exact .inl (by first | rfl | trivial)
      · split
        · exact .inl rfl
        · exact .inr ⟨_, rfl⟩

theorem itoa_form (n : Int) : trimPrefix (itoa n) [45] ≠ [] ∧ trimS (trimPrefix (itoa n) [45]) digs = [] := by
  have hdd : ∀ u, trimS (decDigits u) digs = [] := fun u => trim_nil.2 fun c hc => mem_digs.2 (dd_digits u c hc)
  unfold itoa
  by_cases h : n < 0
  · rw [if_pos h]
    have e : trimPrefix (45 :: decDigits n.natAbs) [45] = decDigits n.natAbs := by simp [trimPrefix, hasPrefix]
    rw [e]
    exact ⟨dd_ne _, hdd _⟩
  · rw [if_neg h]
    have e : trimPrefix (decDigits n.toNat) [45] = decDigits n.toNat := by
      rcases trimPre (decDigits n.toNat) with ⟨r, hr, _⟩ | ⟨_, e⟩
      · have := dd_digits n.toNat 45 (by rw [hr]; simp)
        exact absurd this (by decide)
      · exact e
    rw [e]
    exact ⟨dd_ne _, hdd _⟩
end Go.Proofs.YtdmooacjllidhaaGreatDoor
