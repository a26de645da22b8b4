/-
  B+ trees as plain data: what Put and Del make of one, and that both do with its list of keys what a sorted list does. Conditions: none; no program in sight.
-/
import Derived.Test.YthndplpbnfihdaaOrd
set_option linter.unusedVariables false
set_option linter.unusedSimpArgs false
namespace Go.Proofs.Ythndplpbnfihdaa

/-- A tree of depth d: a leaf's pairs, or keys and the children between them. -/
abbrev Tr : Nat → Type
  | 0 => List (ByteArray × Int)
  | d + 1 => List ByteArray × List (Tr d)

def emptyT : (d : Nat) → Tr d
  | 0 => []
  | d + 1 => ([], [])

instance (d : Nat) : Inhabited (Tr d) := ⟨emptyT d⟩

/-- All pairs, in order. -/
def toL : (d : Nat) → Tr d → List (ByteArray × Int)
  | 0, l => l
  | d + 1, (_, ts) => ts.flatMap (toL d)

def sizeT : (d : Nat) → Tr d → Nat
  | 0, l => l.length
  | d + 1, (_, ts) => ts.length

/-- Which child. -/
def wayT (ks : List ByteArray) (key : ByteArray) : Nat := if ks[pos ks key]? = some key then pos ks key + 1 else pos ks key

/-- Left part, the key between, right part. -/
def halfT : (d : Nat) → Tr d → Tr d × ByteArray × Tr d
  | 0, l => (l.take (l.length / 2), (l[l.length / 2]?.map (·.1)).getD ByteArray.empty, l.drop (l.length / 2))
  | d + 1, (ks, ts) => ((ks.take (ts.length / 2 - 1), ts.take (ts.length / 2)), (ks[ts.length / 2 - 1]?).getD ByteArray.empty, (ks.drop (ts.length / 2), ts.drop (ts.length / 2)))

def keysT (l : List (ByteArray × Int)) : List ByteArray := l.map (·.1)

/-- Is the key missing? -/
def freshT (key : ByteArray) : (d : Nat) → Tr d → Bool
  | 0, l => !decide ((keysT l)[pos (keysT l) key]? = some key)
  | d + 1, (ks, ts) => freshT key d (ts[wayT ks key]?.getD default)

def putT (fan : Nat) (key : ByteArray) (row : Int) : (d : Nat) → Tr d → Tr d
  | 0, l => if (keysT l)[pos (keysT l) key]? = some key then l.set (pos (keysT l) key) (key, row) else l.take (pos (keysT l) key) ++ (key, row) :: l.drop (pos (keysT l) key)
  | d + 1, (ks, ts) =>
    let i := wayT ks key
    let t := putT fan key row d (ts[i]?.getD default)
    if fan < sizeT d t then
      let h := halfT d t
      (ks.take i ++ h.2.1 :: ks.drop i, (ts.take i ++ [h.1]) ++ h.2.2 :: ts.drop (i + 1))
    else (ks, ts.set i t)

/-- Two neighbours in one. -/
def mergeT (k : ByteArray) : (d : Nat) → Tr d → Tr d → Tr d
  | 0, a, b => (show List (ByteArray × Int) from a) ++ (show List (ByteArray × Int) from b)
  | d + 1, (ka, ta), (kb, tb) => (ka ++ [k] ++ kb, ta ++ tb)

def joinT (fan : Nat) (d : Nat) (ks : List ByteArray) (ts : List (Tr d)) (i : Nat) : Tr (d + 1) :=
  let m := mergeT ((ks[i]?).getD ByteArray.empty) d (ts[i]?.getD default) (ts[i + 1]?.getD default)
  if fan < sizeT d m then
    let h := halfT d m
    (ks.set i h.2.1, (ts.set i h.1).set (i + 1) h.2.2)
  else (ks.take i ++ ks.drop (i + 1), (ts.set i m).take (i + 1) ++ (ts.set i m).drop (i + 2))

def delT (fan : Nat) (key : ByteArray) : (d : Nat) → Tr d → Tr d
  | 0, l => if (keysT l)[pos (keysT l) key]? = some key then l.take (pos (keysT l) key) ++ l.drop (pos (keysT l) key + 1) else l
  | d + 1, (ks, ts) =>
    let i := wayT ks key
    let t := delT fan key d (ts[i]?.getD default)
    if sizeT d t < fan / 2 then joinT fan d ks (ts.set i t) (min i (ts.length - 2))
    else (ks, ts.set i t)

/-! What holds of a tree -/

/-- Sizes of what lies below; the node's own size is asked apart. -/
def Kids (fan : Nat) : (d : Nat) → Tr d → Prop
  | 0, _ => True
  | d + 1, (ks, ts) => ts.length = ks.length + 1 ∧ ∀ t ∈ ts, Kids fan d t ∧ fan / 2 ≤ sizeT d t ∧ sizeT d t ≤ fan

/-- Keys between children stand between their pairs. -/
def Sep (d : Nat) (ks : List ByteArray) (ts : List (Tr d)) : Prop :=
  ∀ (i : Nat) (k : ByteArray) (j : Nat) (t : Tr d), ks[i]? = some k → ts[j]? = some t → ∀ p ∈ toL d t, (j ≤ i → ltB p.1 k = true) ∧ (i < j → ltB p.1 k = false)

def Seps : (d : Nat) → Tr d → Prop
  | 0, _ => True
  | d + 1, (ks, ts) => Rising ks ∧ Sep d ks ts ∧ ∀ t ∈ ts, Seps d t

/-- All is sound, the root's size apart. -/
structure Sound (fan d : Nat) (t : Tr d) : Prop where
  kids : Kids fan d t
  seps : Seps d t
  rise : Rising (keysT (toL d t))

/-! Lists in order -/
def insL (key : ByteArray) (row : Int) : List (ByteArray × Int) → List (ByteArray × Int)
  | [] => [(key, row)]
  | p :: l => if ltB p.1 key then p :: insL key row l else if p.1 = key then (key, row) :: l else (key, row) :: p :: l

def delL (key : ByteArray) (l : List (ByteArray × Int)) : List (ByteArray × Int) := l.filter fun p => !decide (p.1 = key)

theorem insL_below (key : ByteArray) (row : Int) : ∀ (A B : List (ByteArray × Int)), (∀ p ∈ A, ltB p.1 key = true) → insL key row (A ++ B) = A ++ insL key row B
  | [], B, _ => rfl
  | p :: A, B, h => by
    rw [List.cons_append, insL, if_pos (h p (List.mem_cons_self ..)), insL_below key row A B fun q hq => h q (List.mem_cons_of_mem _ hq)]; rfl

theorem insL_above (key : ByteArray) (row : Int) : ∀ (B C : List (ByteArray × Int)), (∀ p ∈ C, ltB key p.1 = true) → insL key row (B ++ C) = insL key row B ++ C
  | [], [], _ => rfl
  | [], p :: C, h => by
    have hp := h p (List.mem_cons_self ..)
    have h1 : ltB p.1 key = false := lt_asymm hp
    have h2 : ¬ p.1 = key := by intro e; rw [e, lt_irrefl] at hp; cases hp
    simp [insL, h1, h2]
  | p :: B, C, h => by
    rw [List.cons_append, insL, insL, insL_above key row B C h]
    split
    · rfl
    · split <;> rfl

theorem delL_append (key : ByteArray) (A B : List (ByteArray × Int)) : delL key (A ++ B) = delL key A ++ delL key B := List.filter_append ..

theorem delL_other (key : ByteArray) (A : List (ByteArray × Int)) (h : ∀ p ∈ A, p.1 ≠ key) : delL key A = A := by
  unfold delL
  rw [List.filter_eq_self]
  intro p hp
  simp [h p hp]

theorem mem_insL {key : ByteArray} {row : Int} {p : ByteArray × Int} : ∀ {l : List (ByteArray × Int)}, p ∈ insL key row l → p = (key, row) ∨ p ∈ l
  | [], h => by simp [insL] at h; exact .inl h
  | q :: l, h => by
    unfold insL at h
    split at h
    · rcases List.mem_cons.1 h with h | h
      · exact .inr (by rw [h]; exact List.mem_cons_self ..)
      · rcases mem_insL h with h | h
        · exact .inl h
        · exact .inr (List.mem_cons_of_mem _ h)
    · split at h
      · rcases List.mem_cons.1 h with h | h
        · exact .inl h
        · exact .inr (List.mem_cons_of_mem _ h)
      · rcases List.mem_cons.1 h with h | h
        · exact .inl h
        · exact .inr h

theorem rising_insL {key : ByteArray} {row : Int} : ∀ {l : List (ByteArray × Int)}, Rising (keysT l) → Rising (keysT (insL key row l))
  | [], _ => by simp [insL, keysT, Rising]
  | q :: l, h => by
    have h' := List.pairwise_cons.1 h
    unfold insL
    split
    · rename_i hq
      refine List.pairwise_cons.2 ⟨fun x hx => ?_, rising_insL h'.2⟩
      obtain ⟨p, hp, rfl⟩ := List.mem_map.1 hx
      rcases mem_insL hp with rfl | hp
      · exact hq
      · exact h'.1 _ (List.mem_map.2 ⟨p, hp, rfl⟩)
    · rename_i hq
      split
      · rename_i e
        subst e
        exact List.pairwise_cons.2 ⟨h'.1, h'.2⟩
      · rename_i e
        have hk : ltB key q.1 = true := by
          cases hb : ltB key q.1
          · exact absurd (lt_total (by simpa using hq) hb) e
          · rfl
        refine List.pairwise_cons.2 ⟨fun x hx => ?_, h⟩
        rcases List.mem_cons.1 hx with hx | hx
        · rw [hx]; exact hk
        · exact lt_trans hk (h'.1 x hx)

theorem rising_delL {key : ByteArray} {l : List (ByteArray × Int)} (h : Rising (keysT l)) : Rising (keysT (delL key l)) :=
  List.Pairwise.sublist (List.Sublist.map _ (List.filter_sublist)) h

theorem rising_append {A B : List (ByteArray × Int)} : Rising (keysT (A ++ B)) ↔ Rising (keysT A) ∧ Rising (keysT B) ∧ ∀ p ∈ A, ∀ q ∈ B, ltB p.1 q.1 = true := by
  unfold Rising keysT
  rw [List.map_append, List.pairwise_append]
  constructor
  · rintro ⟨h1, h2, h3⟩
    exact ⟨h1, h2, fun p hp q hq => h3 _ (List.mem_map.2 ⟨p, hp, rfl⟩) _ (List.mem_map.2 ⟨q, hq, rfl⟩)⟩
  · rintro ⟨h1, h2, h3⟩
    refine ⟨h1, h2, fun a ha b hb => ?_⟩
    obtain ⟨p, hp, rfl⟩ := List.mem_map.1 ha
    obtain ⟨q, hq, rfl⟩ := List.mem_map.1 hb
    exact h3 p hp q hq

/-- A rising list, cut where the key stands. -/
theorem cut_at {l : List (ByteArray × Int)} (h : Rising (keysT l)) (key : ByteArray) :
    (∀ p ∈ l.take (pos (keysT l) key), ltB p.1 key = true) ∧ (∀ p ∈ l.drop (pos (keysT l) key), ltB p.1 key = false) := by
  constructor
  · intro p hp
    obtain ⟨i, hi⟩ := List.mem_iff_getElem?.1 hp
    rw [List.getElem?_take] at hi
    split at hi
    · exact lt_of_pos (keysT l) key i p.1 (by assumption) (by rw [keysT, List.getElem?_map, hi]; rfl)
    · cases hi
  · intro p hp
    obtain ⟨i, hi⟩ := List.mem_iff_getElem?.1 hp
    rw [List.getElem?_drop] at hi
    exact not_lt_of_pos (keysT l) key _ p.1 h (Nat.le_add_right _ i) (by show (List.map (·.1) l)[_]? = _; rw [List.getElem?_map, hi]; rfl)

theorem leaf_get {l : List (ByteArray × Int)} {i : Nat} {key : ByteArray} (h : (keysT l)[i]? = some key) : ∃ r, l[i]? = some (key, r) := by
  rw [keysT, List.getElem?_map] at h
  obtain ⟨p, hp, rfl⟩ := Option.map_eq_some_iff.1 h
  exact ⟨p.2, hp⟩

theorem drop_cons_of_get {α : Type} {l : List α} {i : Nat} {x : α} (h : l[i]? = some x) : l.drop i = x :: l.drop (i + 1) := by
  obtain ⟨hi, rfl⟩ := List.getElem?_eq_some_iff.1 h
  exact List.drop_eq_getElem_cons hi

theorem set_split {α : Type} {l : List α} {i : Nat} {x y : α} (h : l[i]? = some x) : l.set i y = l.take i ++ y :: l.drop (i + 1) := by
  obtain ⟨hi, rfl⟩ := List.getElem?_eq_some_iff.1 h
  rw [List.set_eq_take_append_cons_drop, if_pos hi]

/-- A leaf's put. -/
theorem put_leaf {l : List (ByteArray × Int)} (h : Rising (keysT l)) (fan : Nat) (key : ByteArray) (row : Int) : putT fan key row 0 l = insL key row l := by
  obtain ⟨h1, h2⟩ := cut_at h key
  have e : l = l.take (pos (keysT l) key) ++ l.drop (pos (keysT l) key) := (List.take_append_drop _ _).symm
  show (if (keysT l)[pos (keysT l) key]? = some key then l.set (pos (keysT l) key) (key, row) else l.take (pos (keysT l) key) ++ (key, row) :: l.drop (pos (keysT l) key)) = _
  conv => rhs; rw [e]
  rw [insL_below _ _ _ _ h1]
  split
  · rename_i hk
    obtain ⟨r, hr⟩ := leaf_get hk
    rw [set_split hr, drop_cons_of_get hr]
    simp [insL, lt_irrefl]
  · rename_i hk
    cases hd : l.drop (pos (keysT l) key) with
    | nil => simp [insL]
    | cons p C =>
      have hp := h2 p (by rw [hd]; exact List.mem_cons_self ..)
      have hg : l[pos (keysT l) key]? = some p := by
        have := congrArg (·[0]?) hd
        simpa [List.getElem?_drop] using this
      have hne : ¬ p.1 = key := by
        intro e
        apply hk
        rw [keysT, List.getElem?_map] at *
        rw [show l[pos (List.map (fun x => x.1) l) key]? = some p from hg]
        simp [e]
      simp [insL, hp, hne]

theorem del_leaf {l : List (ByteArray × Int)} (h : Rising (keysT l)) (fan : Nat) (key : ByteArray) : delT fan key 0 l = delL key l := by
  obtain ⟨h1, h2⟩ := cut_at h key
  have e : l = l.take (pos (keysT l) key) ++ l.drop (pos (keysT l) key) := (List.take_append_drop _ _).symm
  have ne_of {p : ByteArray × Int} (hp : ltB p.1 key = true) : p.1 ≠ key := by intro e; rw [e, lt_irrefl] at hp; cases hp
  show (if (keysT l)[pos (keysT l) key]? = some key then l.take (pos (keysT l) key) ++ l.drop (pos (keysT l) key + 1) else l) = _
  split
  · rename_i hk
    obtain ⟨r, hr⟩ := leaf_get hk
    conv => rhs; rw [e]
    rw [delL_append, delL_other key _ (fun p hp => ne_of (h1 p hp)), drop_cons_of_get hr]
    congr 1
    have hrise : Rising (keysT ((key, r) :: l.drop (pos (keysT l) key + 1))) := by
      rw [← drop_cons_of_get hr]
      rw [e] at h
      exact (rising_append.1 h).2.1
    have hc := (List.pairwise_cons.1 hrise).1
    show _ = List.filter _ _
    rw [List.filter_cons]
    simp only [decide_true, Bool.not_true, Bool.false_eq_true, if_false]
    refine (List.filter_eq_self.2 fun p hp => ?_).symm
    have := hc p.1 (List.mem_map.2 ⟨p, hp, rfl⟩)
    have : p.1 ≠ key := by intro e; rw [e] at this; simp only at this; rw [lt_irrefl] at this; cases this
    simp [this]
  · rename_i hk
    refine (delL_other key l fun p hp e => hk ?_).symm
    obtain ⟨i, hi⟩ := List.mem_iff_getElem?.1 hp
    have hki : (keysT l)[i]? = some key := by rw [keysT, List.getElem?_map, hi]; simp [e]
    have hlen : i < (keysT l).length := (List.getElem?_eq_some_iff.1 hki).1
    have : pos (keysT l) key = i := by
      refine pos_eq h (by omega) (fun j k hj hk' => ?_) (fun k hk' => ?_)
      · have hj' : j < (keysT l).length := by omega
        have := List.pairwise_iff_getElem.1 h j i hj' hlen hj
        rw [List.getElem?_eq_getElem hj'] at hk'; injection hk' with hk'
        rw [List.getElem?_eq_getElem hlen] at hki; injection hki with hki
        rw [← hk', ← hki]; exact this
      · rw [hki] at hk'; injection hk' with hk'; rw [← hk']; exact lt_irrefl _
    rw [this]; exact hki

end Go.Proofs.Ythndplpbnfihdaa
