/-
  Whether a key is there: the tree's word and the list's. No program in sight. Conditions: a sound tree.
-/
import Derived.Test.YthndplpbnfihdaaBt3
set_option linter.unusedVariables false
set_option linter.unusedSimpArgs false
namespace Go.Proofs.Ythndplpbnfihdaa

/-- Does the list have the key? -/
def hasL (key : ByteArray) (l : List (ByteArray × Int)) : Bool := l.any fun p => decide (p.1 = key)

theorem hasL_append (key : ByteArray) (A B : List (ByteArray × Int)) : hasL key (A ++ B) = (hasL key A || hasL key B) := by simp [hasL, List.any_append]
theorem hasL_no {key : ByteArray} {A : List (ByteArray × Int)} (h : ∀ p ∈ A, p.1 ≠ key) : hasL key A = false := by
  unfold hasL
  rw [List.any_eq_false]
  intro p hp
  simp [h p hp]
theorem ne_of_ltB {a b : ByteArray} (h : ltB a b = true) : a ≠ b := by intro e; rw [e, lt_irrefl] at h; cases h

theorem insL_len (key : ByteArray) (row : Int) : ∀ (l : List (ByteArray × Int)), Rising (keysT l) → (insL key row l).length = l.length + (if hasL key l then 0 else 1)
  | [], _ => rfl
  | p :: l, h => by
    have h' := List.pairwise_cons.1 h
    unfold insL
    split
    · rename_i hp
      have := insL_len key row l h'.2
      have h2 : hasL key (p :: l) = hasL key l := by simp [hasL, ne_of_ltB hp]
      rw [h2]; simp only [List.length_cons, this]; omega
    · rename_i hp
      split
      · rename_i e
        simp [hasL, e]
      · rename_i e
        have hk : ltB key p.1 = true := by
          cases hb : ltB key p.1
          · exact absurd (lt_total (by simpa using hp) hb) e
          · rfl
        have : hasL key (p :: l) = false := hasL_no fun q hq => by
          rcases List.mem_cons.1 hq with rfl | hq
          · exact e
          · exact (ne_of_ltB (lt_trans hk (h'.1 q.1 (List.mem_map.2 ⟨q, hq, rfl⟩)))).symm
        rw [this]; simp

theorem delL_len (key : ByteArray) : ∀ (l : List (ByteArray × Int)), Rising (keysT l) → (delL key l).length + (if hasL key l then 1 else 0) = l.length
  | [], _ => rfl
  | p :: l, h => by
    have h' := List.pairwise_cons.1 h
    by_cases e : p.1 = key
    · have hn : ∀ q ∈ l, q.1 ≠ key := fun q hq => by
        have : ltB p.1 q.1 = true := h'.1 q.1 (List.mem_map.2 ⟨q, hq, rfl⟩)
        rw [e] at this
        exact (ne_of_ltB this).symm
      have h1 : delL key (p :: l) = delL key l := by simp [delL, e]
      have h2 : hasL key (p :: l) = true := by simp [hasL, e]
      rw [h1, h2, delL_other key l hn]; simp
    · have h1 : delL key (p :: l) = p :: delL key l := by simp [delL, e]
      have h2 : hasL key (p :: l) = hasL key l := by simp [hasL, e]
      have := delL_len key l h'.2
      rw [h1, h2]; simp only [List.length_cons]; omega

theorem fresh_has {fan : Nat} (key : ByteArray) : ∀ (d : Nat) (t : Tr d), Sound fan d t → freshT key d t = !hasL key (toL d t)
  | 0, l, hs => by
    show (!decide ((keysT l)[pos (keysT l) key]? = some key)) = !hasL key l
    congr 1
    by_cases hk : (keysT l)[pos (keysT l) key]? = some key
    · rw [decide_eq_true hk]
      obtain ⟨r, hr⟩ := leaf_get hk
      have := List.mem_of_getElem? hr
      symm
      unfold hasL
      rw [List.any_eq_true]
      exact ⟨_, this, by simp⟩
    · rw [decide_eq_false hk]
      symm
      cases hh : hasL key l
      · rfl
      · exfalso
        unfold hasL at hh
        rw [List.any_eq_true] at hh
        obtain ⟨p, hp, he⟩ := hh
        have he : p.1 = key := by simpa using he
        have hd := del_leaf hs.rise fan key
        have h1 : delT fan key 0 l = l := by
          show (if (keysT l)[pos (keysT l) key]? = some key then _ else l) = l
          rw [if_neg hk]
        have hd : l = delL key l := h1.symm.trans hd
        have hp : p ∈ delL key l := by rw [← hd]; exact hp
        have := hp
        unfold delL at this
        rw [List.mem_filter] at this
        simp [he] at this
  | d + 1, (ks, ts), hs => by
    obtain ⟨hl, hk⟩ := hs.kids
    obtain ⟨hr, hsep, hsk⟩ := hs.seps
    obtain ⟨hw, _, _⟩ := way_spec hr key
    obtain ⟨c1, c2⟩ := way_cut hr hsep hl key
    obtain ⟨t0, ht0⟩ : ∃ t0, ts[wayT ks key]? = some t0 := ⟨_, List.getElem?_eq_getElem (by omega)⟩
    have hmem : t0 ∈ ts := List.mem_of_getElem? ht0
    have hrs : Rising (keysT (ts.flatMap (toL d))) := hs.rise
    have hfl := flatMap_split ht0
    have hs0 : Sound fan d t0 := ⟨(hk t0 hmem).1, hsk t0 hmem, by
      rw [hfl] at hrs
      exact (rising_append.1 (rising_append.1 hrs).2.1).1⟩
    show freshT key d (ts[wayT ks key]?.getD default) = !hasL key (ts.flatMap (toL d))
    rw [ht0, Option.getD_some, fresh_has key d t0 hs0, hfl, hasL_append, hasL_append, hasL_no fun p hp => ne_of_ltB (c1 p hp), hasL_no fun p hp => (ne_of_ltB (c2 p hp)).symm]
    simp
end Go.Proofs.Ythndplpbnfihdaa
