/-
  The order of texts, byte by byte: a strict total order; where a text stands in a list that rises. Conditions: none; it names no program.
-/
import Derived.WalkKit
import Derived.Lib.Strings
set_option linter.unusedVariables false
set_option linter.unusedSimpArgs false
namespace Go.Proofs.YtdmooacjllidhaaGreatDoor

def ltB (a b : ByteArray) : Bool := Op.bytesLess a.toList b.toList

theorem bl_irrefl : ∀ a : List UInt8, Op.bytesLess a a = false
  | [] => rfl
  | x :: a => by simp [Op.bytesLess, bl_irrefl a]

theorem bl_trans : ∀ a b c : List UInt8, Op.bytesLess a b = true → Op.bytesLess b c = true → Op.bytesLess a c = true
  | [], [], c, h, _ => by simp [Op.bytesLess] at h
  | [], y :: b, [], _, h => by simp [Op.bytesLess] at h
  | [], y :: b, z :: c, _, _ => by simp [Op.bytesLess]
  | x :: a, [], c, h, _ => by simp [Op.bytesLess] at h
  | x :: a, y :: b, [], _, h => by simp [Op.bytesLess] at h
  | x :: a, y :: b, z :: c, h1, h2 => by
    simp only [Op.bytesLess, Bool.or_eq_true, Bool.and_eq_true, decide_eq_true_eq, beq_iff_eq] at h1 h2 ⊢
    rcases h1 with h1 | ⟨rfl, h1⟩
    · rcases h2 with h2 | ⟨rfl, h2⟩
      · exact .inl (UInt8.lt_trans h1 h2)
      · exact .inl h1
    · rcases h2 with h2 | ⟨rfl, h2⟩
      · exact .inl h2
      · exact .inr ⟨rfl, bl_trans a b c h1 h2⟩

theorem bl_total : ∀ a b : List UInt8, Op.bytesLess a b = false → Op.bytesLess b a = false → a = b
  | [], [], _, _ => rfl
  | [], y :: b, h, _ => by simp [Op.bytesLess] at h
  | x :: a, [], _, h => by simp [Op.bytesLess] at h
  | x :: a, y :: b, h1, h2 => by
    simp only [Op.bytesLess, Bool.or_eq_false_iff, Bool.and_eq_false_iff, decide_eq_false_iff_not, beq_eq_false_iff_ne] at h1 h2
    have hxy : x = y := by
      have h3 := h1.1
      have h4 := h2.1
      exact UInt8.le_antisymm (UInt8.not_lt.1 h4) (UInt8.not_lt.1 h3)
    subst hxy
    have h3 : Op.bytesLess a b = false := by rcases h1.2 with h | h; exact absurd rfl h; exact h
    have h4 : Op.bytesLess b a = false := by rcases h2.2 with h | h; exact absurd rfl h; exact h
    rw [bl_total a b h3 h4]

theorem ba_ext {a b : ByteArray} (h : a.toList = b.toList) : a = b := by
  rw [Lib.toList_data, Lib.toList_data] at h
  cases a with
  | mk ad => cases b with
    | mk bd => exact congrArg ByteArray.mk (Array.toList_inj.1 h)

theorem lt_irrefl (a : ByteArray) : ltB a a = false := bl_irrefl _
theorem lt_trans {a b c : ByteArray} (h1 : ltB a b = true) (h2 : ltB b c = true) : ltB a c = true := bl_trans _ _ _ h1 h2
theorem lt_asymm {a b : ByteArray} (h : ltB a b = true) : ltB b a = false := by
  cases h2 : ltB b a
  · rfl
  · have := lt_trans h h2; rw [lt_irrefl] at this; cases this
theorem lt_total {a b : ByteArray} (h1 : ltB a b = false) (h2 : ltB b a = false) : a = b := ba_ext (bl_total _ _ h1 h2)
/-- not (b < a), and b < c: a < c -/
theorem lt_of_le_lt {a b c : ByteArray} (h1 : ltB b a = false) (h2 : ltB b c = true) : ltB a c = true := by
  cases h : ltB a b
  · have := lt_total h1 h; subst this; exact h2
  · exact lt_trans h h2
theorem lt_of_lt_le {a b c : ByteArray} (h1 : ltB a b = true) (h2 : ltB c b = false) : ltB a c = true := by
  cases h : ltB b c
  · have := lt_total h h2; subst this; exact h1
  · exact lt_trans h1 h
theorem le_trans {a b c : ByteArray} (h1 : ltB b a = false) (h2 : ltB c b = false) : ltB c a = false := by
  cases h : ltB c a
  · rfl
  · have := lt_of_lt_le h h1; rw [h2] at this; cases this

/-- A list of texts that rises. -/
def Rising (l : List ByteArray) : Prop := l.Pairwise fun a b => ltB a b = true

/-- Where a text stands, or would stand. -/
def pos : List ByteArray → ByteArray → Nat
  | [], _ => 0
  | k :: l, x => if ltB k x then pos l x + 1 else 0

theorem pos_le : ∀ (l : List ByteArray) (x : ByteArray), pos l x ≤ l.length
  | [], _ => Nat.le_refl _
  | k :: l, x => by
    unfold pos
    have := pos_le l x
    split <;> simp <;> omega

theorem lt_of_pos : ∀ (l : List ByteArray) (x : ByteArray) (j : Nat) (k : ByteArray), j < pos l x → l[j]? = some k → ltB k x = true
  | [], _, _, _, h, _ => by simp [pos] at h
  | y :: l, x, j, k, h, hk => by
    unfold pos at h
    split at h
    · rename_i hy
      cases j with
      | zero => simp at hk; subst hk; exact hy
      | succ j => exact lt_of_pos l x j k (by omega) (by simpa using hk)
    · omega

theorem not_lt_of_pos : ∀ (l : List ByteArray) (x : ByteArray) (j : Nat) (k : ByteArray), Rising l → pos l x ≤ j → l[j]? = some k → ltB k x = false
  | [], _, _, _, _, _, hk => by simp at hk
  | y :: l, x, j, k, hr, h, hk => by
    unfold pos at h
    have hr' := List.pairwise_cons.1 hr
    split at h
    · cases j with
      | zero => omega
      | succ j => exact not_lt_of_pos l x j k hr'.2 (by omega) (by simpa using hk)
    · rename_i hy
      have hy : ltB y x = false := by simpa using hy
      cases j with
      | zero => simp at hk; subst hk; exact hy
      | succ j =>
        have hm : k ∈ l := List.mem_of_getElem? (by simpa using hk)
        have := hr'.1 k hm
        exact le_trans hy (lt_asymm this)

/-- j is where x stands: all ahead of it are below, what is at it isn't. -/
theorem pos_eq {l : List ByteArray} {x : ByteArray} {j : Nat} (hr : Rising l) (hj : j ≤ l.length) (h1 : ∀ i k, i < j → l[i]? = some k → ltB k x = true)
    (h2 : ∀ k, l[j]? = some k → ltB k x = false) : pos l x = j := by
  rcases Nat.lt_trichotomy (pos l x) j with h | h | h
  · have hlt : pos l x < l.length := by omega
    have ha := not_lt_of_pos l x (pos l x) _ hr (Nat.le_refl _) (List.getElem?_eq_getElem hlt)
    rw [h1 _ _ h (List.getElem?_eq_getElem hlt)] at ha
    cases ha
  · exact h
  · have hlt : j < l.length := by have := pos_le l x; omega
    have ha := lt_of_pos l x j _ h (List.getElem?_eq_getElem hlt)
    rw [h2 _ (List.getElem?_eq_getElem hlt)] at ha
    cases ha

end Go.Proofs.YtdmooacjllidhaaGreatDoor
