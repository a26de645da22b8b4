/-
  B+ trees as plain data: Put and Del keep a sound tree sound, and do with its list of pairs what a sorted list does. Conditions: a fan of at least four; no program in sight.
-/
import Derived.Test.YthndplpbnfihdaaBt
set_option linter.unusedVariables false
set_option linter.unusedSimpArgs false
namespace Go.Proofs.Ythndplpbnfihdaa

theorem way_spec {ks : List ByteArray} (h : Rising ks) (key : ByteArray) :
    wayT ks key ≤ ks.length ∧ (∀ (j : Nat) (k : ByteArray), j < wayT ks key → ks[j]? = some k → ltB key k = false) ∧ (∀ (j : Nat) (k : ByteArray), wayT ks key ≤ j → ks[j]? = some k → ltB key k = true) := by
  have hp := pos_le ks key
  unfold wayT
  split
  · rename_i hk
    have hlt : pos ks key < ks.length := (List.getElem?_eq_some_iff.1 hk).1
    refine ⟨by omega, fun j k hj hjk => ?_, fun j k hj hjk => ?_⟩
    · rcases Nat.lt_or_ge j (pos ks key) with h1 | h1
      · exact lt_asymm (lt_of_pos ks key j k h1 hjk)
      · have : j = pos ks key := by omega
        subst this
        rw [hk] at hjk; injection hjk with hjk; subst hjk; exact lt_irrefl _
    · obtain ⟨hjl, rfl⟩ := List.getElem?_eq_some_iff.1 hjk
      have := List.pairwise_iff_getElem.1 h (pos ks key) j hlt hjl (by omega)
      rw [List.getElem?_eq_getElem hlt] at hk; injection hk with hk
      rw [hk] at this; exact this
  · rename_i hk
    refine ⟨hp, fun j k hj hjk => lt_asymm (lt_of_pos ks key j k hj hjk), fun j k hj hjk => ?_⟩
    have h1 := not_lt_of_pos ks key j k h hj hjk
    cases h2 : ltB key k
    · have e := lt_total h1 h2
      subst e
      rcases Nat.lt_or_ge (pos ks k) j with h3 | h3
      · have hlt : pos ks k < ks.length := by have := (List.getElem?_eq_some_iff.1 hjk).1; omega
        have h4 := not_lt_of_pos ks k (pos ks k) _ h (Nat.le_refl _) (List.getElem?_eq_getElem hlt)
        obtain ⟨hjl, he⟩ := List.getElem?_eq_some_iff.1 hjk
        have := List.pairwise_iff_getElem.1 h (pos ks k) j hlt hjl h3
        rw [he, h4] at this; cases this
      · have : j = pos ks k := by omega
        subst this; exact absurd hjk hk
    · rfl

theorem getD_of {α : Type} [Inhabited α] {l : List α} {i : Nat} (h : i < l.length) : l[i]? = some (l[i]?.getD default) := by
  rw [List.getElem?_eq_getElem h]; rfl

/-- A sound tree that has an item has a pair. -/
theorem some_pair {fan : Nat} (hf : 4 ≤ fan) : ∀ (d : Nat) (t : Tr d), Kids fan d t → 0 < sizeT d t → ∃ p, p ∈ toL d t
  | 0, l, _, h => by
    cases l with
    | nil => simp [sizeT] at h
    | cons p l => exact ⟨p, List.mem_cons_self ..⟩
  | d + 1, (ks, ts), hk, h => by
    have h' : 0 < ts.length := h
    have hm : ts[0] ∈ ts := List.getElem_mem h'
    obtain ⟨h1, h2, _⟩ := hk.2 _ hm
    obtain ⟨p, hp⟩ := some_pair hf d ts[0] h1 (by omega)
    exact ⟨p, List.mem_flatMap.2 ⟨_, hm, hp⟩⟩

section
variable {fan d : Nat} {ks : List ByteArray} {ts : List (Tr d)}

theorem flatMap_split {i : Nat} {t : Tr d} (h : ts[i]? = some t) : ts.flatMap (toL d) = (ts.take i).flatMap (toL d) ++ (toL d t ++ (ts.drop (i + 1)).flatMap (toL d)) := by
  conv => lhs; rw [← List.take_append_drop i ts, drop_cons_of_get h]
  rw [List.flatMap_append, List.flatMap_cons]

theorem mem_take_flat {i : Nat} {p : ByteArray × Int} (h : p ∈ (ts.take i).flatMap (toL d)) : ∃ j t, j < i ∧ ts[j]? = some t ∧ p ∈ toL d t := by
  obtain ⟨t, ht, hp⟩ := List.mem_flatMap.1 h
  obtain ⟨j, hj⟩ := List.mem_iff_getElem?.1 ht
  rw [List.getElem?_take] at hj
  split at hj
  · exact ⟨j, t, by assumption, hj, hp⟩
  · cases hj

theorem mem_drop_flat {i : Nat} {p : ByteArray × Int} (h : p ∈ (ts.drop i).flatMap (toL d)) : ∃ j t, i ≤ j ∧ ts[j]? = some t ∧ p ∈ toL d t := by
  obtain ⟨t, ht, hp⟩ := List.mem_flatMap.1 h
  obtain ⟨j, hj⟩ := List.mem_iff_getElem?.1 ht
  rw [List.getElem?_drop] at hj
  exact ⟨i + j, t, by omega, hj, hp⟩

/-- Where a key's child stands: all ahead is below it, all behind above. -/
theorem way_cut (hr : Rising ks) (hs : Sep d ks ts) (hl : ts.length = ks.length + 1) (key : ByteArray) :
    (∀ p ∈ (ts.take (wayT ks key)).flatMap (toL d), ltB p.1 key = true) ∧ (∀ p ∈ (ts.drop (wayT ks key + 1)).flatMap (toL d), ltB key p.1 = true) := by
  obtain ⟨h1, h2, h3⟩ := way_spec hr key
  constructor
  · intro p hp
    obtain ⟨j, t, hj, ht, hpt⟩ := mem_take_flat hp
    obtain ⟨k, hk⟩ : ∃ k, ks[wayT ks key - 1]? = some k := ⟨_, List.getElem?_eq_getElem (by omega)⟩
    have := (hs _ k j t hk ht p hpt).1 (by omega)
    exact lt_of_lt_le this (h2 _ k (by omega) hk)
  · intro p hp
    obtain ⟨j, t, hj, ht, hpt⟩ := mem_drop_flat hp
    have hjl := (List.getElem?_eq_some_iff.1 ht).1
    obtain ⟨k, hk⟩ : ∃ k, ks[wayT ks key]? = some k := ⟨_, List.getElem?_eq_getElem (by omega)⟩
    have := (hs _ k j t hk ht p hpt).2 (by omega)
    exact lt_of_lt_le (h3 _ k (by omega) hk) this

theorem sep_set {i : Nat} {t' : Tr d} (hs : Sep d ks ts) (hb : ∀ p ∈ toL d t', ∀ (j : Nat) (k : ByteArray), ks[j]? = some k → (i ≤ j → ltB p.1 k = true) ∧ (j < i → ltB p.1 k = false)) : Sep d ks (ts.set i t') := by
  intro a k j t hk ht p hp
  rw [List.getElem?_set] at ht
  split at ht
  · rename_i e
    subst e
    split at ht
    · injection ht with ht; subst ht
      exact hb p hp a k hk
    · cases ht
  · exact hs a k j t hk ht p hp

theorem get_ins {α : Type} {l : List α} {i : Nat} {m : α} (hi : i ≤ l.length) (j : Nat) : (l.take i ++ m :: l.drop i)[j]? = if j < i then l[j]? else if j = i then some m else l[j - 1]? := by
  have hl : (l.take i).length = i := by simp; omega
  by_cases h1 : j < i
  · rw [if_pos h1, List.getElem?_append_left (by omega), List.getElem?_take, if_pos h1]
  · rw [if_neg h1, List.getElem?_append_right (by omega), hl]
    by_cases h2 : j = i
    · subst h2; simp
    · rw [if_neg h2]
      obtain ⟨n, rfl⟩ : ∃ n, j = i + n + 1 := ⟨j - i - 1, by omega⟩
      rw [show i + n + 1 - i = n + 1 by omega, List.getElem?_cons_succ, List.getElem?_drop]
      rfl

theorem get_two {α : Type} {l : List α} {i : Nat} {a b : α} (hi : i < l.length) (j : Nat) :
    ((l.take i ++ [a]) ++ b :: l.drop (i + 1))[j]? = if j < i then l[j]? else if j = i then some a else if j = i + 1 then some b else l[j - 1]? := by
  have hl : (l.take i).length = i := by simp; omega
  have hl2 : (l.take i ++ [a]).length = i + 1 := by simp; omega
  by_cases h1 : j < i
  · rw [if_pos h1, List.getElem?_append_left (by omega), List.getElem?_append_left (by omega), List.getElem?_take, if_pos h1]
  · rw [if_neg h1]
    by_cases h2 : j = i
    · subst h2
      rw [if_pos rfl, List.getElem?_append_left (by omega), List.getElem?_append_right (by omega), hl]; simp
    · rw [if_neg h2, List.getElem?_append_right (by omega), hl2]
      by_cases h3 : j = i + 1
      · subst h3; simp
      · rw [if_neg h3]
        obtain ⟨n, rfl⟩ : ∃ n, j = i + 1 + n + 1 := ⟨j - (i + 1) - 1, by omega⟩
        rw [show i + 1 + n + 1 - (i + 1) = n + 1 by omega, List.getElem?_cons_succ, List.getElem?_drop]
        rfl

theorem sep_two {i : Nat} {a b : Tr d} {m : ByteArray} (hi : i ≤ ks.length) (hil : i < ts.length) (hs : Sep d ks ts)
    (ha : ∀ p ∈ toL d a, (∀ (j : Nat) (k : ByteArray), ks[j]? = some k → (i ≤ j → ltB p.1 k = true) ∧ (j < i → ltB p.1 k = false)) ∧ ltB p.1 m = true)
    (hb : ∀ p ∈ toL d b, (∀ (j : Nat) (k : ByteArray), ks[j]? = some k → (i ≤ j → ltB p.1 k = true) ∧ (j < i → ltB p.1 k = false)) ∧ ltB p.1 m = false)
    (hm1 : ∀ (j : Nat) (k : ByteArray), ks[j]? = some k → (i ≤ j → ltB m k = true) ∧ (j < i → ltB k m = true))
    (hlow : ∀ (j : Nat) (t : Tr d), j < i → ts[j]? = some t → ∀ p ∈ toL d t, ltB p.1 m = true) (hhigh : ∀ (j : Nat) (t : Tr d), i < j → ts[j]? = some t → ∀ p ∈ toL d t, ltB p.1 m = false) :
    Sep d (ks.take i ++ m :: ks.drop i) ((ts.take i ++ [a]) ++ b :: ts.drop (i + 1)) := by
  intro x k j t hk ht p hp
  rw [get_ins hi] at hk
  rw [get_two hil] at ht
  split at ht
  · rename_i hji
    split at hk
    · exact hs x k j t hk ht p hp
    · split at hk
      · injection hk with hk; subst hk
        exact ⟨fun _ => hlow j t hji ht p hp, fun h => by omega⟩
      · rename_i h1 h2
        have := hs (x - 1) k j t hk ht p hp
        exact ⟨fun h => this.1 (by omega), fun h => by omega⟩
  · rename_i hji
    split at ht
    · rename_i e
      subst e
      injection ht with ht; subst ht
      split at hk
      · rename_i hx
        have := (ha p hp).1 x k hk
        exact ⟨fun h => by omega, fun h => this.2 hx⟩
      · split at hk
        · injection hk with hk; subst hk
          exact ⟨fun _ => (ha p hp).2, fun h => by omega⟩
        · rename_i h1 h2
          have := (ha p hp).1 (x - 1) k hk
          exact ⟨fun h => this.1 (by omega), fun h => by omega⟩
    · rename_i hne
      split at ht
      · rename_i e
        subst e
        injection ht with ht; subst ht
        split at hk
        · rename_i hx
          have := (hb p hp).1 x k hk
          exact ⟨fun h => by omega, fun h => this.2 hx⟩
        · split at hk
          · injection hk with hk; subst hk
            exact ⟨fun h => by omega, fun _ => (hb p hp).2⟩
          · rename_i h1 h2
            have := (hb p hp).1 (x - 1) k hk
            exact ⟨fun h => this.1 (by omega), fun h => by omega⟩
      · rename_i hne2
        split at hk
        · have := hs x k (j - 1) t hk ht p hp
          exact ⟨fun h => by omega, fun h => this.2 (by omega)⟩
        · split at hk
          · injection hk with hk; subst hk
            exact ⟨fun h => by omega, fun _ => hhigh (j - 1) t (by omega) ht p hp⟩
          · have := hs (x - 1) k (j - 1) t hk ht p hp
            exact ⟨fun h => this.1 (by omega), fun h => this.2 (by omega)⟩

theorem rising_ins {i : Nat} {m : ByteArray} (hr : Rising ks) (hm1 : ∀ (j : Nat) (k : ByteArray), ks[j]? = some k → (i ≤ j → ltB m k = true) ∧ (j < i → ltB k m = true)) : Rising (ks.take i ++ m :: ks.drop i) := by
  have hr' : Rising (ks.take i ++ ks.drop i) := by rw [List.take_append_drop]; exact hr
  obtain ⟨h1, h2, h3⟩ := List.pairwise_append.1 hr'
  refine List.pairwise_append.2 ⟨h1, List.pairwise_cons.2 ⟨fun y hy => ?_, h2⟩, fun x hx y hy => ?_⟩
  · obtain ⟨j, hj⟩ := List.mem_iff_getElem?.1 hy
    rw [List.getElem?_drop] at hj
    exact (hm1 _ y hj).1 (by omega)
  · rcases List.mem_cons.1 hy with rfl | hy
    · obtain ⟨j, hj⟩ := List.mem_iff_getElem?.1 hx
      rw [List.getElem?_take] at hj
      split at hj
      · exact (hm1 _ x hj).2 (by assumption)
      · cases hj
    · exact h3 x hx y hy
end

/-! The halves -/
theorem half_sound {fan : Nat} (hf : 4 ≤ fan) : ∀ (d : Nat) (t : Tr d), Sound fan d t → fan < sizeT d t → sizeT d t ≤ 2 * fan →
    let h := halfT d t
    toL d t = toL d h.1 ++ toL d h.2.2 ∧ Sound fan d h.1 ∧ Sound fan d h.2.2 ∧ fan / 2 ≤ sizeT d h.1 ∧ sizeT d h.1 ≤ fan ∧ fan / 2 ≤ sizeT d h.2.2 ∧ sizeT d h.2.2 ≤ fan ∧
      (∀ p ∈ toL d h.1, ltB p.1 h.2.1 = true) ∧ (∀ p ∈ toL d h.2.2, ltB p.1 h.2.1 = false)
  | 0, l, hs, h1, h2 => by
    have e1 : fan < l.length := h1
    have e2 : l.length ≤ 2 * fan := h2
    have hr : Rising (keysT (l.take (l.length / 2) ++ l.drop (l.length / 2))) := by rw [List.take_append_drop]; exact hs.rise
    obtain ⟨r1, r2, r3⟩ := rising_append.1 hr
    obtain ⟨p0, hp0⟩ : ∃ p0, l[l.length / 2]? = some p0 := ⟨_, List.getElem?_eq_getElem (by omega)⟩
    have hd := drop_cons_of_get hp0
    refine ⟨(List.take_append_drop _ _).symm, ⟨trivial, trivial, r1⟩, ⟨trivial, trivial, r2⟩, ?_, ?_, ?_, ?_, ?_, ?_⟩
    · show fan / 2 ≤ (l.take (l.length / 2)).length; simp; omega
    · show (l.take (l.length / 2)).length ≤ fan; simp; omega
    · show fan / 2 ≤ (l.drop (l.length / 2)).length; simp; omega
    · show (l.drop (l.length / 2)).length ≤ fan; simp; omega
    · intro p hp
      show ltB p.1 ((l[l.length / 2]?.map (·.1)).getD ByteArray.empty) = true
      rw [hp0]
      exact r3 p hp p0 (by rw [hd]; exact List.mem_cons_self ..)
    · intro p hp
      show ltB p.1 ((l[l.length / 2]?.map (·.1)).getD ByteArray.empty) = false
      rw [hp0]
      have hp' : p ∈ p0 :: l.drop (l.length / 2 + 1) := by rw [← hd]; exact hp
      rcases List.mem_cons.1 hp' with rfl | hp'
      · exact lt_irrefl _
      · rw [hd] at r2
        exact lt_asymm ((List.pairwise_cons.1 r2).1 _ (List.mem_map.2 ⟨p, hp', rfl⟩))
  | d + 1, (ks, ts), hs, h1, h2 => by
    have e1 : fan < ts.length := h1
    have e2 : ts.length ≤ 2 * fan := h2
    obtain ⟨n, hn⟩ : ∃ n, ts.length / 2 = n + 1 := ⟨ts.length / 2 - 1, by omega⟩
    obtain ⟨hl, hk⟩ := hs.kids
    obtain ⟨hr, hsep, hsk⟩ := hs.seps
    have hrs : Rising (keysT (ts.flatMap (toL d))) := hs.rise
    have efl : ts.flatMap (toL d) = (ts.take (n + 1)).flatMap (toL d) ++ (ts.drop (n + 1)).flatMap (toL d) := by
      conv => lhs; rw [← List.take_append_drop (n + 1) ts]
      rw [List.flatMap_append]
    rw [efl] at hrs
    obtain ⟨r1, r2, r3⟩ := rising_append.1 hrs
    obtain ⟨m, hm⟩ : ∃ m, ks[n]? = some m := ⟨_, List.getElem?_eq_getElem (by omega)⟩
    have hM : (ks[ts.length / 2 - 1]?).getD ByteArray.empty = m := by rw [hn, Nat.add_sub_cancel, hm]; rfl
    have hA : (halfT (d + 1) (ks, ts)).1 = (ks.take n, ts.take (n + 1)) := by
      show (ks.take (ts.length / 2 - 1), ts.take (ts.length / 2)) = _
      rw [hn, Nat.add_sub_cancel]
    have hB : (halfT (d + 1) (ks, ts)).2.2 = (ks.drop (n + 1), ts.drop (n + 1)) := by
      show (ks.drop (ts.length / 2), ts.drop (ts.length / 2)) = _
      rw [hn]
    have hm' : (halfT (d + 1) (ks, ts)).2.1 = m := hM
    intro h
    rw [show h.1 = _ from hA, show h.2.2 = _ from hB, show h.2.1 = _ from hm']
    refine ⟨efl, ⟨⟨?_, fun t ht => hk t (List.mem_of_mem_take ht)⟩, ⟨List.Pairwise.sublist (List.take_sublist _ _) hr, ?_, fun t ht => hsk t (List.mem_of_mem_take ht)⟩, r1⟩,
      ⟨⟨?_, fun t ht => hk t (List.mem_of_mem_drop ht)⟩, ⟨List.Pairwise.sublist (List.drop_sublist _ _) hr, ?_, fun t ht => hsk t (List.mem_of_mem_drop ht)⟩, r2⟩, ?_, ?_, ?_, ?_, ?_, ?_⟩
    · simp; omega
    · intro i k j t hi hj p hp
      rw [List.getElem?_take] at hi hj
      split at hi
      · split at hj
        · exact hsep i k j t hi hj p hp
        · cases hj
      · cases hi
    · simp; omega
    · intro i k j t hi hj p hp
      rw [List.getElem?_drop] at hi hj
      have := hsep _ k _ t hi hj p hp
      exact ⟨fun h => this.1 (by omega), fun h => this.2 (by omega)⟩
    · show fan / 2 ≤ (ts.take (n + 1)).length; simp; omega
    · show (ts.take (n + 1)).length ≤ fan; simp; omega
    · show fan / 2 ≤ (ts.drop (n + 1)).length; simp; omega
    · show (ts.drop (n + 1)).length ≤ fan; simp; omega
    · intro p hp
      obtain ⟨j, t, hj, ht, hpt⟩ := mem_take_flat hp
      exact (hsep n m j t hm ht p hpt).1 (by omega)
    · intro p hp
      obtain ⟨j, t, hj, ht, hpt⟩ := mem_drop_flat hp
      exact (hsep n m j t hm ht p hpt).2 (by omega)

/-! Put -/
theorem put_sound {fan : Nat} (hf : 4 ≤ fan) (key : ByteArray) (row : Int) : ∀ (d : Nat) (t : Tr d), Sound fan d t → sizeT d t ≤ fan →
    toL d (putT fan key row d t) = insL key row (toL d t) ∧ Sound fan d (putT fan key row d t) ∧ sizeT d t ≤ sizeT d (putT fan key row d t) ∧ sizeT d (putT fan key row d t) ≤ sizeT d t + 1
  | 0, l, hs, h => by
    have e := put_leaf hs.rise fan key row
    refine ⟨e, ⟨trivial, trivial, ?_⟩, ?_, ?_⟩
    · rw [show toL 0 (putT fan key row 0 l) = insL key row l from e]; exact rising_insL hs.rise
    · show l.length ≤ (if _ then _ else _ : List (ByteArray × Int)).length
      have := pos_le (keysT l) key
      split
      · simp
      · simp; omega
    · show (if _ then _ else _ : List (ByteArray × Int)).length ≤ l.length + 1
      have := pos_le (keysT l) key
      have hkl : (keysT l).length = l.length := by simp [keysT]
      split
      · simp
      · simp; omega
  | d + 1, (ks, ts), hs, h => by
    obtain ⟨hl, hk⟩ := hs.kids
    obtain ⟨hr, hsep, hsk⟩ := hs.seps
    obtain ⟨hw, hwl, hwr⟩ := way_spec hr key
    have hrs : Rising (keysT (ts.flatMap (toL d))) := hs.rise
    have hi : wayT ks key < ts.length := by omega
    obtain ⟨t0, ht0⟩ : ∃ t0, ts[wayT ks key]? = some t0 := ⟨_, List.getElem?_eq_getElem hi⟩
    have hmem : t0 ∈ ts := List.mem_of_getElem? ht0
    obtain ⟨k1, k2, k3⟩ := hk t0 hmem
    have hfl := flatMap_split ht0
    obtain ⟨c1, c2⟩ := way_cut hr hsep hl key
    have hs0 : Sound fan d t0 := ⟨k1, hsk t0 hmem, by
      rw [hfl] at hrs
      exact (rising_append.1 (rising_append.1 hrs).2.1).1⟩
    obtain ⟨p1, p2, p3, p4⟩ := put_sound hf key row d t0 hs0 k3
    have hins : insL key row (ts.flatMap (toL d)) = (ts.take (wayT ks key)).flatMap (toL d) ++ (insL key row (toL d t0) ++ (ts.drop (wayT ks key + 1)).flatMap (toL d)) := by
      rw [hfl, insL_below _ _ _ _ c1, insL_above _ _ _ _ c2]
    have hrise' : Rising (keysT (insL key row (ts.flatMap (toL d)))) := rising_insL hrs
    -- where the child's pairs stand
    have hbd : ∀ p ∈ toL d (putT fan key row d t0), ∀ (j : Nat) (k : ByteArray), ks[j]? = some k → (wayT ks key ≤ j → ltB p.1 k = true) ∧ (j < wayT ks key → ltB p.1 k = false) := by
      intro p hp j k hjk
      rw [p1] at hp
      rcases mem_insL hp with rfl | hp
      · exact ⟨fun h => hwr j k h hjk, fun h => hwl j k h hjk⟩
      · have := hsep j k _ t0 hjk ht0 p hp
        exact ⟨fun h => this.1 h, fun h => this.2 h⟩
    have hput : putT fan key row (d + 1) (ks, ts) = if fan < sizeT d (putT fan key row d t0) then
        (ks.take (wayT ks key) ++ (halfT d (putT fan key row d t0)).2.1 :: ks.drop (wayT ks key), (ts.take (wayT ks key) ++ [(halfT d (putT fan key row d t0)).1]) ++ (halfT d (putT fan key row d t0)).2.2 :: ts.drop (wayT ks key + 1))
        else (ks, ts.set (wayT ks key) (putT fan key row d t0)) := by
      simp only [putT, ht0, Option.getD_some]
    rw [hput]
    split
    · rename_i hbig
      obtain ⟨q1, q2, q3, q4, q5, q6, q7, q8, q9⟩ := half_sound hf d _ p2 hbig (by omega)
      generalize hh : halfT d (putT fan key row d t0) = hv at *
      obtain ⟨a, m, b⟩ := hv
      simp only at q1 q2 q3 q4 q5 q6 q7 q8 q9 ⊢
      obtain ⟨pa, hpa⟩ := some_pair hf d a q2.kids (by omega)
      obtain ⟨pb, hpb⟩ := some_pair hf d b q3.kids (by omega)
      have hA : ∀ p ∈ toL d a, p ∈ toL d (putT fan key row d t0) := fun p hp => by rw [q1]; exact List.mem_append_left _ hp
      have hB : ∀ p ∈ toL d b, p ∈ toL d (putT fan key row d t0) := fun p hp => by rw [q1]; exact List.mem_append_right _ hp
      have hm1 : ∀ (j : Nat) (k : ByteArray), ks[j]? = some k → (wayT ks key ≤ j → ltB m k = true) ∧ (j < wayT ks key → ltB k m = true) := by
        intro j k hjk
        exact ⟨fun h => lt_of_le_lt (q9 pb hpb) ((hbd pb (hB pb hpb) j k hjk).1 h), fun h => lt_of_le_lt ((hbd pa (hA pa hpa) j k hjk).2 h) (q8 pa hpa)⟩
      have hfl2 : ((ts.take (wayT ks key) ++ [a]) ++ b :: ts.drop (wayT ks key + 1)).flatMap (toL d) = insL key row (ts.flatMap (toL d)) := by
        rw [hins, ← p1, q1]
        simp [List.flatMap_append, List.flatMap_cons]
      refine ⟨hfl2, ⟨⟨?_, ?_⟩, ⟨rising_ins hr hm1, ?_, ?_⟩, ?_⟩, ?_, ?_⟩
      · simp; omega
      · intro t ht
        simp only [List.mem_append, List.mem_cons, List.not_mem_nil, or_false] at ht
        rcases ht with (ht | rfl) | rfl | ht
        · exact hk t (List.mem_of_mem_take ht)
        · exact ⟨q2.kids, q4, q5⟩
        · exact ⟨q3.kids, q6, q7⟩
        · exact hk t (List.mem_of_mem_drop ht)
      · refine sep_two hw hi hsep (fun p hp => ⟨hbd p (hA p hp), q8 p hp⟩) (fun p hp => ⟨hbd p (hB p hp), q9 p hp⟩) hm1 ?_ ?_
        · intro j t hj ht p hp
          obtain ⟨k, hk'⟩ : ∃ k, ks[wayT ks key - 1]? = some k := ⟨_, List.getElem?_eq_getElem (by omega)⟩
          exact lt_trans ((hsep _ k j t hk' ht p hp).1 (by omega)) ((hm1 _ k hk').2 (by omega))
        · intro j t hj ht p hp
          have hjl := (List.getElem?_eq_some_iff.1 ht).1
          obtain ⟨k, hk'⟩ : ∃ k, ks[wayT ks key]? = some k := ⟨_, List.getElem?_eq_getElem (by omega)⟩
          have h1 := (hsep _ k j t hk' ht p hp).2 (by omega)
          have h2 := (hm1 _ k hk').1 (by omega)
          exact lt_asymm (lt_of_lt_le h2 h1)
      · intro t ht
        simp only [List.mem_append, List.mem_cons, List.not_mem_nil, or_false] at ht
        rcases ht with (ht | rfl) | rfl | ht
        · exact hsk t (List.mem_of_mem_take ht)
        · exact q2.seps
        · exact q3.seps
        · exact hsk t (List.mem_of_mem_drop ht)
      · show Rising (keysT (((ts.take (wayT ks key) ++ [a]) ++ b :: ts.drop (wayT ks key + 1)).flatMap (toL d)))
        rw [hfl2]; exact hrise'
      · show ts.length ≤ ((ts.take (wayT ks key) ++ [a]) ++ b :: ts.drop (wayT ks key + 1)).length
        simp; omega
      · show ((ts.take (wayT ks key) ++ [a]) ++ b :: ts.drop (wayT ks key + 1)).length ≤ ts.length + 1
        simp; omega
    · rename_i hsm
      have hfl2 : (ts.set (wayT ks key) (putT fan key row d t0)).flatMap (toL d) = insL key row (ts.flatMap (toL d)) := by
        rw [set_split ht0, hins, ← p1]
        simp [List.flatMap_append, List.flatMap_cons]
      refine ⟨hfl2, ⟨⟨by simp [hl], ?_⟩, ⟨hr, sep_set hsep hbd, ?_⟩, ?_⟩, ?_, ?_⟩
      · intro t ht
        rcases List.mem_or_eq_of_mem_set ht with ht | rfl
        · exact hk t ht
        · exact ⟨p2.kids, by omega, by omega⟩
      · intro t ht
        rcases List.mem_or_eq_of_mem_set ht with ht | rfl
        · exact hsk t ht
        · exact p2.seps
      · show Rising (keysT ((ts.set (wayT ks key) (putT fan key row d t0)).flatMap (toL d)))
        rw [hfl2]; exact hrise'
      · show ts.length ≤ (ts.set _ _).length; simp
      · show (ts.set _ _).length ≤ ts.length + 1; simp

end Go.Proofs.Ythndplpbnfihdaa
