/-
  (*Tree).Seek. Conditions: a sound tree that is read.
-/
import Derived.Test.YthndplpbnfihdaaCp
set_option linter.unusedVariables false
set_option linter.unusedSimpArgs false
namespace Go.Proofs.Ythndplpbnfihdaa
open Go.RowKit

/-- How many of a leaf's keys lie ahead. -/
def leafAt (key : ByteArray) (over : Bool) (l : List (ByteArray × Int)) : Nat := pos (keysT l) key + (if over && decide ((keysT l)[pos (keysT l) key]? = some key) then 1 else 0)

/-- The way to the place ahead of a key. -/
def seekU (key : ByteArray) (over : Bool) : (d : Nat) → Nb d → List (Nat × Int)
  | 0, u => [(u.1, (leafAt key over u.2 : Int) - 1)]
  | d + 1, u => (u.1, (wayT u.2.1 key : Int)) :: match u.2.2[wayT u.2.1 key]? with
    | some x => seekU key over d x
    | none => []

/-- How many keys lie ahead. -/
def cntL (key : ByteArray) (over : Bool) (l : List (ByteArray × Int)) : Nat := (l.filter fun p => ltB p.1 key || (over && decide (p.1 = key))).length

theorem cntL_append (key : ByteArray) (over : Bool) (A B : List (ByteArray × Int)) : cntL key over (A ++ B) = cntL key over A + cntL key over B := by simp [cntL]
theorem cntL_all {key : ByteArray} {over : Bool} {A : List (ByteArray × Int)} (h : ∀ p ∈ A, ltB p.1 key = true) : cntL key over A = A.length := by
  unfold cntL; rw [List.filter_eq_self.2 fun p hp => by simp [h p hp]]
theorem cntL_none {key : ByteArray} {over : Bool} {A : List (ByteArray × Int)} (h : ∀ p ∈ A, ltB key p.1 = true) : cntL key over A = 0 := by
  unfold cntL
  rw [List.filter_eq_nil_iff.2 fun p hp => ?_]; rfl
  have h1 := h p hp
  simp [lt_asymm h1, (ne_of_ltB h1).symm]

theorem leafAt_cnt {key : ByteArray} {over : Bool} {l : List (ByteArray × Int)} (h : Rising (keysT l)) : leafAt key over l = cntL key over l := by
  obtain ⟨h1, h2⟩ := cut_at h key
  have hkl : (keysT l).length = l.length := by simp [keysT]
  have hp := pos_le (keysT l) key
  conv => rhs; rw [← List.take_append_drop (pos (keysT l) key) l]
  rw [cntL_append, cntL_all h1]
  have ht : (l.take (pos (keysT l) key)).length = pos (keysT l) key := by simp; omega
  rw [ht]
  unfold leafAt
  congr 1
  by_cases hk : (keysT l)[pos (keysT l) key]? = some key
  · obtain ⟨r, hr⟩ := leaf_get hk
    rw [drop_cons_of_get hr]
    have hrise : Rising (keysT ((key, r) :: l.drop (pos (keysT l) key + 1))) := by
      rw [← drop_cons_of_get hr]
      have e : l = l.take (pos (keysT l) key) ++ l.drop (pos (keysT l) key) := (List.take_append_drop _ _).symm
      rw [e] at h
      exact (rising_append.1 h).2.1
    have hc := (List.pairwise_cons.1 hrise).1
    have hn : cntL key over (l.drop (pos (keysT l) key + 1)) = 0 := cntL_none fun p hp => hc p.1 (List.mem_map.2 ⟨p, hp, rfl⟩)
    have hc2 : cntL key over ((key, r) :: l.drop (pos (keysT l) key + 1)) = (if over then 1 else 0) + cntL key over (l.drop (pos (keysT l) key + 1)) := by
      rw [show (key, r) :: l.drop (pos (keysT l) key + 1) = [(key, r)] ++ l.drop (pos (keysT l) key + 1) from rfl, cntL_append]
      congr 1
      cases over <;> simp [cntL, lt_irrefl]
    rw [hc2, hn, decide_eq_true hk]
    cases over <;> rfl
  · rw [decide_eq_false hk]
    have : cntL key over (l.drop (pos (keysT l) key)) = 0 := by
      refine cntL_none fun p hp => ?_
      have h3 := h2 p hp
      cases hb : ltB key p.1
      · exfalso
        have he : p.1 = key := lt_total h3 hb
        -- the key would stand there
        have hf := fresh_has (fan := 0) key 0 l ⟨trivial, trivial, h⟩
        have hh : hasL key l = true := by
          unfold hasL; rw [List.any_eq_true]; exact ⟨p, List.mem_of_mem_drop hp, by simp [he]⟩
        have hf' : (!decide ((keysT l)[pos (keysT l) key]? = some key)) = !hasL key l := hf
        rw [hh, decide_eq_false hk] at hf'
        cases hf'
      · rfl
    rw [this]; simp

theorem seek_goes {fan : Nat} (key : ByteArray) (over : Bool) : ∀ (d : Nat) (u : Nb d), Sound fan d (dat d u) → Goes (-1) d u (seekU key over d u) ((cntL key over (listU d u) : Int) - 1)
  | 0, u, hs => by
    have h := leafAt_cnt (key := key) (over := over) hs.rise
    refine ⟨?_, by omega, ?_⟩
    · show [(u.1, (leafAt key over u.2 : Int) - 1)] = [(u.1, (cntL key over u.2 : Int) - 1)]
      rw [show leafAt key over u.2 = cntL key over u.2 from h]
    · show (cntL key over u.2 : Int) - 1 < u.2.length
      have : cntL key over u.2 ≤ u.2.length := List.length_filter_le ..
      omega
  | d + 1, u, hs => by
    have hw := hs.way key
    rw [List.length_map] at hw
    obtain ⟨x, hx⟩ : ∃ x, u.2.2[wayT u.2.1 key]? = some x := ⟨_, List.getElem?_eq_getElem hw⟩
    obtain ⟨hsx, _, _⟩ := hs.child (i := wayT u.2.1 key) (t := dat d x) (by rw [List.getElem?_map, hx]; rfl)
    obtain ⟨c1, c2⟩ := way_cut hs.seps.1 hs.seps.2.1 hs.kids.1 key
    have hfl : ∀ l : List (Nb d), (l.map (dat d)).flatMap (toL d) = l.flatMap (listU d) := fun l => by
      rw [List.flatMap_map]; congr 1; funext y; exact listU_dat d y
    have c1' : ∀ p ∈ (u.2.2.take (wayT u.2.1 key)).flatMap (listU d), ltB p.1 key = true := fun p hp => c1 p (by rw [← List.map_take, hfl]; exact hp)
    have c2' : ∀ p ∈ (u.2.2.drop (wayT u.2.1 key + 1)).flatMap (listU d), ltB key p.1 = true := fun p hp => c2 p (by rw [← List.map_drop, hfl]; exact hp)
    refine ⟨wayT u.2.1 key, x, seekU key over d x, (cntL key over (listU d x) : Int) - 1, hx, ?_, seek_goes key over d x hsx, ?_⟩
    · show (u.1, (wayT u.2.1 key : Int)) :: (match u.2.2[wayT u.2.1 key]? with | some x => seekU key over d x | none => []) = _
      rw [hx]
    · show (cntL key over (u.2.2.flatMap (listU d)) : Int) - 1 = _
      rw [flat_at hx, cntL_append, cntL_append, cntL_all c1', cntL_none c2']
      omega
end Go.Proofs.Ythndplpbnfihdaa
