/-
  B+ trees as plain data: Del keeps a sound tree sound and takes just that key away. Conditions: a fan of at least four; no program in sight.
-/
import Derived.Test.YthndplpbnfihdaaBt2
set_option linter.unusedVariables false
set_option linter.unusedSimpArgs false
namespace Go.Proofs.Ythndplpbnfihdaa

theorem merge_sound {fan : Nat} (hf : 4 ≤ fan) (k : ByteArray) : ∀ (d : Nat) (a b : Tr d), Sound fan d a → Sound fan d b → (0 < sizeT d a) → (0 < sizeT d b) →
    (∀ p ∈ toL d a, ltB p.1 k = true) → (∀ p ∈ toL d b, ltB p.1 k = false) → Rising (keysT (toL d a ++ toL d b)) →
    Sound fan d (mergeT k d a b) ∧ toL d (mergeT k d a b) = toL d a ++ toL d b ∧ sizeT d (mergeT k d a b) = sizeT d a + sizeT d b
  | 0, a, b, ha, hb, _, _, h1, h2, hr => ⟨⟨trivial, trivial, hr⟩, rfl, List.length_append⟩
  | d + 1, (ka, ta), (kb, tb), ha, hb, na, nb, h1, h2, hr => by
    obtain ⟨la, ka'⟩ := ha.kids
    obtain ⟨ra, sa, ska⟩ := ha.seps
    obtain ⟨lb, kb'⟩ := hb.kids
    obtain ⟨rb, sb, skb⟩ := hb.seps
    have efl : (ta ++ tb).flatMap (toL d) = ta.flatMap (toL d) ++ tb.flatMap (toL d) := List.flatMap_append
    have H1 : ∀ (j : Nat) (t : Tr d), ta[j]? = some t → ∀ p ∈ toL d t, ltB p.1 k = true := fun j t ht p hp => h1 p (List.mem_flatMap.2 ⟨t, List.mem_of_getElem? ht, hp⟩)
    have H2 : ∀ (j : Nat) (t : Tr d), tb[j]? = some t → ∀ p ∈ toL d t, ltB p.1 k = false := fun j t ht p hp => h2 p (List.mem_flatMap.2 ⟨t, List.mem_of_getElem? ht, hp⟩)
    -- the keys of a are below k, those of b above
    have A : ∀ (i : Nat) (x : ByteArray), ka[i]? = some x → ltB x k = true := by
      intro i x hx
      have hi := (List.getElem?_eq_some_iff.1 hx).1
      have hj : i + 1 < ta.length := by omega
      obtain ⟨p, hp⟩ := some_pair hf d ta[i + 1] (ka' _ (List.getElem_mem hj)).1 (by have := (ka' _ (List.getElem_mem hj)).2.1; omega)
      have e1 := (sa i x (i + 1) _ hx (List.getElem?_eq_getElem hj) p hp).2 (by omega)
      exact lt_of_le_lt e1 (H1 _ _ (List.getElem?_eq_getElem hj) p hp)
    have B : ∀ (i : Nat) (x : ByteArray), kb[i]? = some x → ltB k x = true := by
      intro i x hx
      have hi := (List.getElem?_eq_some_iff.1 hx).1
      have hj : i < tb.length := by omega
      obtain ⟨p, hp⟩ := some_pair hf d tb[i] (kb' _ (List.getElem_mem hj)).1 (by have := (kb' _ (List.getElem_mem hj)).2.1; omega)
      have e1 := (sb i x i _ hx (List.getElem?_eq_getElem hj) p hp).1 (by omega)
      exact lt_of_le_lt (H2 _ _ (List.getElem?_eq_getElem hj) p hp) e1
    -- pairs of a are below b's keys, pairs of b aren't below a's
    have hka : ∀ i, (ka ++ [k] ++ kb)[i]? = if i < ka.length then ka[i]? else if i = ka.length then some k else kb[i - (ka.length + 1)]? := by
      intro i
      by_cases h : i < ka.length
      · rw [if_pos h, List.append_assoc, List.getElem?_append_left h]
      · rw [if_neg h]
        by_cases h2 : i = ka.length
        · subst h2
          rw [if_pos rfl, List.getElem?_append_left (by simp), List.getElem?_append_right (by omega)]; simp
        · rw [if_neg h2, List.getElem?_append_right (by simp; omega)]
          congr 1
          simp
    refine ⟨⟨⟨by simp; omega, fun t ht => ?_⟩, ⟨?_, ?_, fun t ht => ?_⟩, by show Rising (keysT ((ta ++ tb).flatMap (toL d))); rw [efl]; exact hr⟩, efl, List.length_append⟩
    · rcases List.mem_append.1 ht with ht | ht
      · exact ka' t ht
      · exact kb' t ht
    · refine List.pairwise_append.2 ⟨List.pairwise_append.2 ⟨ra, List.pairwise_singleton _ _, fun x hx y hy => ?_⟩, rb, fun x hx y hy => ?_⟩
      · obtain ⟨i, hi⟩ := List.mem_iff_getElem?.1 hx
        simp at hy; subst hy
        exact A i x hi
      · obtain ⟨j, hj⟩ := List.mem_iff_getElem?.1 hy
        rcases List.mem_append.1 hx with hx | hx
        · obtain ⟨i, hi⟩ := List.mem_iff_getElem?.1 hx
          exact lt_trans (A i x hi) (B j y hj)
        · simp at hx; subst hx
          exact B j y hj
    · intro i x j t hx ht p hp
      rw [hka] at hx
      rw [List.getElem?_append] at ht
      split at ht
      · rename_i hj
        split at hx
        · exact sa i x j t hx ht p hp
        · split at hx
          · injection hx with hx; subst hx
            exact ⟨fun _ => H1 j t ht p hp, fun h => by omega⟩
          · exact ⟨fun _ => lt_trans (H1 j t ht p hp) (B _ x hx), fun h => by omega⟩
      · rename_i hj
        split at hx
        · exact ⟨fun h => by omega, fun _ => lt_asymm (lt_of_lt_le (A i x hx) (H2 _ t ht p hp))⟩
        · split at hx
          · injection hx with hx; subst hx
            exact ⟨fun h => by omega, fun _ => H2 _ t ht p hp⟩
          · have := sb _ x _ t hx ht p hp
            exact ⟨fun h => this.1 (by omega), fun h => this.2 (by omega)⟩
    · rcases List.mem_append.1 ht with ht | ht
      · exact ska t ht
      · exact skb t ht

theorem get_erase2 {α : Type} {l : List α} {i : Nat} {m : α} (j : Nat) (hi : i + 1 < l.length) :
    ((l.set i m).take (i + 1) ++ (l.set i m).drop (i + 2))[j]? = if j < i then l[j]? else if j = i then some m else l[j + 1]? := by
  have hl : ((l.set i m).take (i + 1)).length = i + 1 := by simp; omega
  by_cases h1 : j < i
  · rw [if_pos h1, List.getElem?_append_left (by omega), List.getElem?_take, if_pos (by omega), List.getElem?_set_ne (by omega)]
  · rw [if_neg h1]
    by_cases h2 : j = i
    · subst h2
      rw [if_pos rfl, List.getElem?_append_left (by omega), List.getElem?_take, if_pos (by omega), List.getElem?_set_self (by omega)]
    · rw [if_neg h2, List.getElem?_append_right (by omega), hl, List.getElem?_drop, List.getElem?_set_ne (by omega)]
      congr 1; omega

theorem get_erase1 {α : Type} {l : List α} {i : Nat} (j : Nat) (hi : i < l.length) : (l.take i ++ l.drop (i + 1))[j]? = if j < i then l[j]? else l[j + 1]? := by
  have hl : (l.take i).length = i := by simp; omega
  by_cases h1 : j < i
  · rw [if_pos h1, List.getElem?_append_left (by omega), List.getElem?_take, if_pos h1]
  · rw [if_neg h1, List.getElem?_append_right (by omega), hl, List.getElem?_drop]
    congr 1; omega

theorem two_split {α : Type} {l : List α} {i : Nat} {a b : α} (ha : l[i]? = some a) (hb : l[i + 1]? = some b) : l = l.take i ++ a :: b :: l.drop (i + 2) := by
  conv => lhs; rw [← List.take_append_drop i l, drop_cons_of_get ha, drop_cons_of_get hb]

/-- A child of too few is joined with the next one. -/
theorem join_sound {fan : Nat} (hf : 4 ≤ fan) (d : Nat) (ks : List ByteArray) (ts : List (Tr d)) (i : Nat) (hl : ts.length = ks.length + 1) (hi : i + 1 < ts.length)
    (hr : Rising ks) (hsep : Sep d ks ts) (hsk : ∀ t ∈ ts, Seps d t) (hrise : Rising (keysT (ts.flatMap (toL d))))
    (hk : ∀ (j : Nat) (t : Tr d), ts[j]? = some t → Kids fan d t ∧ 0 < sizeT d t ∧ sizeT d t ≤ fan ∧ (j ≠ i → j ≠ i + 1 → fan / 2 ≤ sizeT d t))
    (h2 : ∀ a b : Tr d, ts[i]? = some a → ts[i + 1]? = some b → fan / 2 ≤ sizeT d a ∨ fan / 2 ≤ sizeT d b) :
    toL (d + 1) (joinT fan d ks ts i) = ts.flatMap (toL d) ∧ Sound fan (d + 1) (joinT fan d ks ts i) ∧ ts.length - 1 ≤ sizeT (d + 1) (joinT fan d ks ts i) ∧ sizeT (d + 1) (joinT fan d ks ts i) ≤ ts.length := by
  obtain ⟨a, ha⟩ : ∃ a, ts[i]? = some a := ⟨_, List.getElem?_eq_getElem (by omega)⟩
  obtain ⟨b, hb⟩ : ∃ b, ts[i + 1]? = some b := ⟨_, List.getElem?_eq_getElem hi⟩
  obtain ⟨k, hki⟩ : ∃ k, ks[i]? = some k := ⟨_, List.getElem?_eq_getElem (by omega)⟩
  obtain ⟨ka1, ka2, ka3, _⟩ := hk i a ha
  obtain ⟨kb1, kb2, kb3, _⟩ := hk (i + 1) b hb
  have hma : a ∈ ts := List.mem_of_getElem? ha
  have hmb : b ∈ ts := List.mem_of_getElem? hb
  have hsz := h2 a b ha hb
  have hsplit := two_split ha hb
  have hflat : ts.flatMap (toL d) = (ts.take i).flatMap (toL d) ++ ((toL d a ++ toL d b) ++ (ts.drop (i + 2)).flatMap (toL d)) := by
    conv => lhs; rw [hsplit]
    simp [List.flatMap_append, List.flatMap_cons]
  have hrise0 := hrise
  rw [hflat] at hrise
  have hrab := (rising_append.1 (rising_append.1 hrise).2.1).1
  obtain ⟨m1, m2, m3⟩ := merge_sound hf k d a b ⟨ka1, hsk a hma, (rising_append.1 hrab).1⟩ ⟨kb1, hsk b hmb, (rising_append.1 hrab).2.1⟩ ka2 kb2
    (fun p hp => (hsep i k i a hki ha p hp).1 (Nat.le_refl _)) (fun p hp => (hsep i k (i + 1) b hki hb p hp).2 (by omega)) hrab
  have hj : joinT fan d ks ts i = if fan < sizeT d (mergeT k d a b) then (ks.set i (halfT d (mergeT k d a b)).2.1, (ts.set i (halfT d (mergeT k d a b)).1).set (i + 1) (halfT d (mergeT k d a b)).2.2)
      else (ks.take i ++ ks.drop (i + 1), (ts.set i (mergeT k d a b)).take (i + 1) ++ (ts.set i (mergeT k d a b)).drop (i + 2)) := by
    simp only [joinT, ha, hb, hki, Option.getD_some]
  rw [hj]
  -- where the pairs of the two stand
  have hbd : ∀ p ∈ toL d a ++ toL d b, ∀ (j : Nat) (x : ByteArray), ks[j]? = some x → (i < j → ltB p.1 x = true) ∧ (j < i → ltB p.1 x = false) := by
    intro p hp j x hx
    rcases List.mem_append.1 hp with hp | hp
    · have := hsep j x i a hx ha p hp
      exact ⟨fun h => this.1 (by omega), fun h => this.2 h⟩
    · have := hsep j x (i + 1) b hx hb p hp
      exact ⟨fun h => this.1 (by omega), fun h => this.2 (by omega)⟩
  split
  · rename_i hbig
    obtain ⟨q1, q2, q3, q4, q5, q6, q7, q8, q9⟩ := half_sound hf d _ m1 hbig (by omega)
    generalize hh : halfT d (mergeT k d a b) = hv at *
    obtain ⟨l, m, r⟩ := hv
    simp only at q1 q2 q3 q4 q5 q6 q7 q8 q9 ⊢
    obtain ⟨pl, hpl⟩ := some_pair hf d l q2.kids (by omega)
    obtain ⟨pr, hpr⟩ := some_pair hf d r q3.kids (by omega)
    have hL : ∀ p ∈ toL d l, p ∈ toL d a ++ toL d b := fun p hp => by rw [← m2, q1]; exact List.mem_append_left _ hp
    have hR : ∀ p ∈ toL d r, p ∈ toL d a ++ toL d b := fun p hp => by rw [← m2, q1]; exact List.mem_append_right _ hp
    have hm1 : ∀ (j : Nat) (x : ByteArray), ks[j]? = some x → (i < j → ltB m x = true) ∧ (j < i → ltB x m = true) := by
      intro j x hx
      exact ⟨fun h => lt_of_le_lt (q9 pr hpr) ((hbd pr (hR pr hpr) j x hx).1 h), fun h => lt_of_le_lt ((hbd pl (hL pl hpl) j x hx).2 h) (q8 pl hpl)⟩
    have hset : (ts.set i l).set (i + 1) r = ts.take i ++ l :: r :: ts.drop (i + 2) := by
      have e1 : (ts.set i l)[i + 1]? = some b := by rw [List.getElem?_set_ne (by omega)]; exact hb
      rw [set_split e1, set_split ha]
      have hlen : (ts.take i).length = i := by simp; omega
      rw [List.take_append, List.drop_append]
      simp [hlen, show i + 1 + 1 - i = 2 by omega, List.take_take, show min (i + 1) i = i by omega]
      omega
    have hfl2 : ((ts.set i l).set (i + 1) r).flatMap (toL d) = ts.flatMap (toL d) := by
      rw [hset, hflat, ← m2, q1]
      simp [List.flatMap_append, List.flatMap_cons]
    have hget : ∀ j, ((ts.set i l).set (i + 1) r)[j]? = if j = i + 1 then some r else if j = i then some l else ts[j]? := by
      intro j
      by_cases h1 : j = i + 1
      · subst h1; rw [if_pos rfl, List.getElem?_set_self (by simp; omega)]
      · rw [if_neg h1, List.getElem?_set_ne (by omega)]
        by_cases h2 : j = i
        · subst h2; rw [if_pos rfl, List.getElem?_set_self (by omega)]
        · rw [if_neg h2, List.getElem?_set_ne (by omega)]
    have hkget : ∀ j, (ks.set i m)[j]? = if j = i then some m else ks[j]? := by
      intro j
      by_cases h2 : j = i
      · subst h2; rw [if_pos rfl, List.getElem?_set_self (by omega)]
      · rw [if_neg h2, List.getElem?_set_ne (by omega)]
    refine ⟨hfl2, ⟨⟨by simp [hl], ?_⟩, ⟨?_, ?_, ?_⟩, by show Rising (keysT (((ts.set i l).set (i + 1) r).flatMap (toL d))); rw [hfl2]; exact hrise0⟩, ?_, ?_⟩
    · intro t ht
      obtain ⟨j, hj⟩ := List.mem_iff_getElem?.1 ht
      rw [hget] at hj
      split at hj
      · injection hj with hj; subst hj; exact ⟨q3.kids, q6, q7⟩
      · split at hj
        · injection hj with hj; subst hj; exact ⟨q2.kids, q4, q5⟩
        · obtain ⟨x1, x2, x3, x4⟩ := hk j t hj
          exact ⟨x1, x4 (by assumption) (by assumption), x3⟩
    · rw [set_split hki]
      have hr' : Rising (ks.take i ++ k :: ks.drop (i + 1)) := by rw [← drop_cons_of_get hki, List.take_append_drop]; exact hr
      obtain ⟨x1, x2, x3⟩ := List.pairwise_append.1 hr'
      refine List.pairwise_append.2 ⟨x1, List.pairwise_cons.2 ⟨fun y hy => ?_, (List.pairwise_cons.1 x2).2⟩, fun x hx y hy => ?_⟩
      · obtain ⟨j, hj⟩ := List.mem_iff_getElem?.1 hy
        rw [List.getElem?_drop] at hj
        exact (hm1 _ y hj).1 (by omega)
      · rcases List.mem_cons.1 hy with rfl | hy
        · obtain ⟨j, hj⟩ := List.mem_iff_getElem?.1 hx
          rw [List.getElem?_take] at hj
          split at hj
          · exact (hm1 _ x hj).2 (by assumption)
          · cases hj
        · exact x3 x hx y (List.mem_cons_of_mem _ hy)
    · intro j x c t hx ht p hp
      rw [hkget] at hx
      rw [hget] at ht
      split at ht
      · rename_i e; subst e
        injection ht with ht; subst ht
        split at hx
        · rename_i e; subst e
          injection hx with hx; subst hx
          exact ⟨fun h => by omega, fun _ => q9 p hp⟩
        · have := hbd p (hR p hp) j x hx
          exact ⟨fun h => this.1 (by omega), fun h => this.2 (by omega)⟩
      · split at ht
        · rename_i e; subst e
          injection ht with ht; subst ht
          split at hx
          · rename_i e; subst e
            injection hx with hx; subst hx
            exact ⟨fun _ => q8 p hp, fun h => by omega⟩
          · have := hbd p (hL p hp) j x hx
            exact ⟨fun h => this.1 (by omega), fun h => this.2 (by omega)⟩
        · split at hx
          · rename_i e; subst e
            injection hx with hx; subst hx
            rcases Nat.lt_or_ge c j with h | h
            · -- a pair ahead of both: below every pair of the two
              have hmem : p ∈ (ts.take j).flatMap (toL d) := List.mem_flatMap.2 ⟨t, by
                refine List.mem_iff_getElem?.2 ⟨c, ?_⟩
                rw [List.getElem?_take, if_pos h]; exact ht, hp⟩
              have := (rising_append.1 hrise).2.2 p hmem pl (List.mem_append_left _ (hL pl hpl))
              exact ⟨fun _ => lt_trans this (q8 pl hpl), fun h => by omega⟩
            · have hmem : p ∈ (ts.drop (j + 2)).flatMap (toL d) := List.mem_flatMap.2 ⟨t, by
                refine List.mem_iff_getElem?.2 ⟨c - (j + 2), ?_⟩
                rw [List.getElem?_drop, show j + 2 + (c - (j + 2)) = c by omega]; exact ht, hp⟩
              have := (rising_append.1 (rising_append.1 hrise).2.1).2.2 pr (hR pr hpr) p hmem
              exact ⟨fun h => by omega, fun _ => lt_asymm (lt_of_le_lt (q9 pr hpr) this)⟩
          · exact hsep j x c t hx ht p hp
    · intro t ht
      obtain ⟨j, hj⟩ := List.mem_iff_getElem?.1 ht
      rw [hget] at hj
      split at hj
      · injection hj with hj; subst hj; exact q3.seps
      · split at hj
        · injection hj with hj; subst hj; exact q2.seps
        · exact hsk t (List.mem_of_getElem? hj)
    · show ts.length - 1 ≤ ((ts.set i l).set (i + 1) r).length; simp
    · show ((ts.set i l).set (i + 1) r).length ≤ ts.length; simp
  · rename_i hsm
    generalize hh : mergeT k d a b = mm at *
    have hset : (ts.set i mm).take (i + 1) ++ (ts.set i mm).drop (i + 2) = ts.take i ++ mm :: ts.drop (i + 2) := by
      rw [set_split ha]
      have hlen : (ts.take i).length = i := by simp; omega
      rw [List.take_append, List.drop_append]
      simp [hlen, show i + 2 - i = 2 by omega, List.take_take, show min (i + 1) i = i by omega]
    have hfl2 : ((ts.set i mm).take (i + 1) ++ (ts.set i mm).drop (i + 2)).flatMap (toL d) = ts.flatMap (toL d) := by
      rw [hset, hflat, ← m2]
      simp [List.flatMap_append, List.flatMap_cons]
    refine ⟨hfl2, ⟨⟨?_, ?_⟩, ⟨List.Pairwise.sublist ?_ hr, ?_, ?_⟩, by show Rising (keysT (((ts.set i mm).take (i + 1) ++ (ts.set i mm).drop (i + 2)).flatMap (toL d))); rw [hfl2]; exact hrise0⟩, ?_, ?_⟩
    · simp; omega
    · intro t ht
      obtain ⟨j, hj⟩ := List.mem_iff_getElem?.1 ht
      rw [get_erase2 _ hi] at hj
      split at hj
      · obtain ⟨x1, x2, x3, x4⟩ := hk j t hj
        exact ⟨x1, x4 (by omega) (by omega), x3⟩
      · split at hj
        · injection hj with hj; subst hj
          exact ⟨m1.kids, by omega, by omega⟩
        · obtain ⟨x1, x2, x3, x4⟩ := hk _ t hj
          exact ⟨x1, x4 (by omega) (by omega), x3⟩
    · conv => rhs; rw [← List.take_append_drop i ks, drop_cons_of_get hki]
      exact List.Sublist.append_left (List.sublist_cons_self _ _) _
    · intro j x c t hx ht p hp
      rw [get_erase1 _ (by omega)] at hx
      rw [get_erase2 _ hi] at ht
      split at ht
      · split at hx
        · exact hsep j x c t hx ht p hp
        · have := hsep _ x c t hx ht p hp
          exact ⟨fun h => this.1 (by omega), fun h => by omega⟩
      · split at ht
        · rename_i e; subst e
          injection ht with ht; subst ht
          rw [m2] at hp
          split at hx
          · have := hbd p hp j x hx
            exact ⟨fun h => by omega, fun h => this.2 (by omega)⟩
          · have := hbd p hp _ x hx
            exact ⟨fun h => this.1 (by omega), fun h => by omega⟩
        · split at hx
          · have := hsep j x _ t hx ht p hp
            exact ⟨fun h => by omega, fun h => this.2 (by omega)⟩
          · have := hsep _ x _ t hx ht p hp
            exact ⟨fun h => this.1 (by omega), fun h => this.2 (by omega)⟩
    · intro t ht
      obtain ⟨j, hj⟩ := List.mem_iff_getElem?.1 ht
      rw [get_erase2 _ hi] at hj
      split at hj
      · exact hsk t (List.mem_of_getElem? hj)
      · split at hj
        · injection hj with hj; subst hj; exact m1.seps
        · exact hsk t (List.mem_of_getElem? hj)
    · show ts.length - 1 ≤ ((ts.set i mm).take (i + 1) ++ (ts.set i mm).drop (i + 2)).length
      simp; omega
    · show ((ts.set i mm).take (i + 1) ++ (ts.set i mm).drop (i + 2)).length ≤ ts.length
      simp; omega

theorem mem_delL {key : ByteArray} {l : List (ByteArray × Int)} {p : ByteArray × Int} (h : p ∈ delL key l) : p ∈ l := (List.mem_filter.1 h).1

theorem del_sound {fan : Nat} (hf : 4 ≤ fan) (key : ByteArray) : ∀ (d : Nat) (t : Tr d), Sound fan d t → sizeT d t ≤ fan → (0 < d → 2 ≤ sizeT d t) →
    toL d (delT fan key d t) = delL key (toL d t) ∧ Sound fan d (delT fan key d t) ∧ sizeT d t - 1 ≤ sizeT d (delT fan key d t) ∧ sizeT d (delT fan key d t) ≤ sizeT d t
  | 0, l, hs, h, _ => by
    have e := del_leaf hs.rise fan key
    refine ⟨e, ⟨trivial, trivial, ?_⟩, ?_, ?_⟩
    · rw [show toL 0 (delT fan key 0 l) = delL key l from e]; exact rising_delL hs.rise
    · show l.length - 1 ≤ (if _ then _ else _ : List (ByteArray × Int)).length
      split
      · simp; omega
      · omega
    · show (if _ then _ else _ : List (ByteArray × Int)).length ≤ l.length
      split
      · simp; omega
      · exact Nat.le_refl _
  | d + 1, (ks, ts), hs, h, h2 => by
    have h2' : 2 ≤ ts.length := h2 (by omega)
    obtain ⟨hl, hk⟩ := hs.kids
    obtain ⟨hr, hsep, hsk⟩ := hs.seps
    obtain ⟨hw, hwl, hwr⟩ := way_spec hr key
    have hrs : Rising (keysT (ts.flatMap (toL d))) := hs.rise
    have hi : wayT ks key < ts.length := by omega
    obtain ⟨t0, ht0⟩ : ∃ t0, ts[wayT ks key]? = some t0 := ⟨_, List.getElem?_eq_getElem hi⟩
    have hmem : t0 ∈ ts := List.mem_of_getElem? ht0
    obtain ⟨k1, k2, k3⟩ := hk t0 hmem
    have hfl := flatMap_split ht0
    obtain ⟨c1, c2⟩ := way_cut hr hsep hl key
    have hs0 : Sound fan d t0 := ⟨k1, hsk t0 hmem, by
      rw [hfl] at hrs
      exact (rising_append.1 (rising_append.1 hrs).2.1).1⟩
    obtain ⟨p1, p2, p3, p4⟩ := del_sound hf key d t0 hs0 k3 (by omega)
    have hdel : delL key (ts.flatMap (toL d)) = (ts.take (wayT ks key)).flatMap (toL d) ++ (delL key (toL d t0) ++ (ts.drop (wayT ks key + 1)).flatMap (toL d)) := by
      rw [hfl, delL_append, delL_append, delL_other key _ (fun p hp e => by have := c1 p hp; rw [e, lt_irrefl] at this; cases this),
        delL_other key ((ts.drop (wayT ks key + 1)).flatMap (toL d)) (fun p hp e => by have := c2 p hp; rw [e, lt_irrefl] at this; cases this)]
    have hrise' : Rising (keysT (delL key (ts.flatMap (toL d)))) := rising_delL hrs
    have hbd : ∀ p ∈ toL d (delT fan key d t0), ∀ (j : Nat) (k : ByteArray), ks[j]? = some k → (wayT ks key ≤ j → ltB p.1 k = true) ∧ (j < wayT ks key → ltB p.1 k = false) := by
      intro p hp j k hjk
      rw [p1] at hp
      have := hsep j k _ t0 hjk ht0 p (mem_delL hp)
      exact ⟨fun h => this.1 h, fun h => this.2 h⟩
    have hd : delT fan key (d + 1) (ks, ts) = if sizeT d (delT fan key d t0) < fan / 2 then joinT fan d ks (ts.set (wayT ks key) (delT fan key d t0)) (min (wayT ks key) (ts.length - 2))
        else (ks, ts.set (wayT ks key) (delT fan key d t0)) := by
      simp only [delT, ht0, Option.getD_some]
    have hfl2 : (ts.set (wayT ks key) (delT fan key d t0)).flatMap (toL d) = delL key (ts.flatMap (toL d)) := by
      rw [set_split ht0, hdel, ← p1]
      simp [List.flatMap_append, List.flatMap_cons]
    have hsks : ∀ t ∈ ts.set (wayT ks key) (delT fan key d t0), Seps d t := by
      intro t ht
      rcases List.mem_or_eq_of_mem_set ht with ht | rfl
      · exact hsk t ht
      · exact p2.seps
    rw [hd]
    split
    · rename_i hsm
      have hget : ∀ (j : Nat), (ts.set (wayT ks key) (delT fan key d t0))[j]? = if wayT ks key = j then some (delT fan key d t0) else ts[j]? := by
        intro j
        rw [List.getElem?_set]
        split
        · rename_i e; subst e; simp [hi]
        · rfl
      obtain ⟨j1, j2, j3, j4⟩ := join_sound hf d ks (ts.set (wayT ks key) (delT fan key d t0)) (min (wayT ks key) (ts.length - 2)) (by simp [hl]) (by simp; omega) hr (sep_set hsep hbd) hsks
        (by rw [hfl2]; exact hrise')
        (by
          intro j t ht
          rw [hget] at ht
          split at ht
          · injection ht with ht; subst ht
            exact ⟨p2.kids, by omega, by omega, fun h1 h2 => by omega⟩
          · obtain ⟨x1, x2, x3⟩ := hk t (List.mem_of_getElem? ht)
            exact ⟨x1, by omega, x3, fun _ _ => x2⟩)
        (by
          intro a b ha hb
          rw [hget] at ha hb
          split at ha
          · split at hb
            · omega
            · obtain ⟨x1, x2, x3⟩ := hk b (List.mem_of_getElem? hb)
              exact .inr x2
          · obtain ⟨x1, x2, x3⟩ := hk a (List.mem_of_getElem? ha)
            exact .inl x2)
      refine ⟨by rw [j1, hfl2]; rfl, j2, ?_, ?_⟩
      · have : (ts.set (wayT ks key) (delT fan key d t0)).length = ts.length := by simp
        rw [this] at j3; exact j3
      · have : (ts.set (wayT ks key) (delT fan key d t0)).length = ts.length := by simp
        rw [this] at j4; exact j4
    · rename_i hsm
      refine ⟨hfl2, ⟨⟨by simp [hl], ?_⟩, ⟨hr, sep_set hsep hbd, hsks⟩, ?_⟩, ?_, ?_⟩
      · intro t ht
        rcases List.mem_or_eq_of_mem_set ht with ht | rfl
        · exact hk t ht
        · exact ⟨p2.kids, by omega, by omega⟩
      · show Rising (keysT ((ts.set (wayT ks key) (delT fan key d t0)).flatMap (toL d)))
        rw [hfl2]; exact hrise'
      · show ts.length - 1 ≤ (ts.set _ _).length; simp
      · show (ts.set _ _).length ≤ ts.length; simp

end Go.Proofs.Ythndplpbnfihdaa
