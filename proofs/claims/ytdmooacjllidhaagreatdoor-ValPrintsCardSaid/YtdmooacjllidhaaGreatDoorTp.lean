/-
  Comparisons: answers -1, 0 or 1, turned round, in one order. Conditions: none; it names no program.
-/
import Derived.Test.YtdmooacjllidhaaGreatDoorOrd
import Derived.Lib.Small
set_option linter.unusedVariables false
set_option linter.unusedSimpArgs false
namespace Go.Proofs.YtdmooacjllidhaaGreatDoor

/-- A comparison: a total preorder told by -1, 0, 1. -/
structure TP {α : Type} (c : α → α → Int) : Prop where
  vals : ∀ a b, c a b = -1 ∨ c a b = 0 ∨ c a b = 1
  neg : ∀ a b, c b a = - c a b
  tr : ∀ a b d, c a b ≤ 0 → c b d ≤ 0 → c a d ≤ 0

section
variable {α β : Type} {c : α → α → Int}

theorem TP.self (h : TP c) (a : α) : c a a = 0 := by
  have := h.neg a a
  omega
theorem TP.eql (h : TP c) {a b : α} (d : α) (e : c a b = 0) : c b d = c a d := by
  have e' : c b a = 0 := by rw [h.neg a b, e]; rfl
  have h1 := h.tr a b d
  have h2 := h.tr b a d
  have h3 := h.tr d a b
  have h4 := h.tr d b a
  have n1 := h.neg a d
  have n2 := h.neg b d
  have v1 := h.vals a d
  have v2 := h.vals b d
  omega
theorem TP.eqr (h : TP c) (a : α) {b d : α} (e : c b d = 0) : c a b = c a d := by
  have := h.eql a e
  have n1 := h.neg a b
  have n2 := h.neg a d
  omega
theorem TP.lt (h : TP c) {a b d : α} (h1 : c a b < 0) (h2 : c b d ≤ 0) : c a d < 0 := by
  have h3 := h.tr a b d (by omega) h2
  rcases Int.lt_or_eq_of_le h3 with h4 | h4
  · exact h4
  · have := h.eql b h4
    have n := h.neg a b
    have n2 := h.neg b d
    omega
theorem TP.lt' (h : TP c) {a b d : α} (h1 : c a b ≤ 0) (h2 : c b d < 0) : c a d < 0 := by
  have h3 := h.tr a b d h1 (by omega)
  rcases Int.lt_or_eq_of_le h3 with h4 | h4
  · exact h4
  · have := h.eqr b h4
    have n := h.neg a b
    omega

/-- By a key. -/
theorem TP.key (h : TP c) (f : β → α) : TP fun a b => c (f a) (f b) :=
  ⟨fun a b => h.vals _ _, fun a b => h.neg _ _, fun a b d => h.tr _ _ _⟩

/-- One, and where that tells nothing the other. -/
theorem TP.thn {c2 : α → α → Int} (h : TP c) (h2 : TP c2) : TP fun a b => if c a b = 0 then c2 a b else c a b := by
  refine ⟨fun a b => ?_, fun a b => ?_, fun a b d => ?_⟩
  · split
    · exact h2.vals a b
    · exact h.vals a b
  · have n := h.neg a b
    by_cases e : c a b = 0
    · rw [if_pos e, if_pos (by omega)]; exact h2.neg a b
    · rw [if_neg e, if_neg (by omega)]; exact n
  · intro h3 h4
    by_cases e : c a b = 0
    · rw [if_pos e] at h3
      have e1 := h.eql d e
      rw [e1] at h4
      split at h4
      · rename_i e2
        rw [if_pos e2]
        exact h2.tr a b d h3 h4
      · rename_i e2
        rw [if_neg e2]; exact h4
    · rw [if_neg e] at h3
      by_cases e2 : c b d = 0
      · have e3 := h.eqr a e2
        rw [← e3, if_neg e]; exact h3
      · rw [if_neg e2] at h4
        have := h.lt (a := a) (b := b) (d := d) (by omega) h4
        rw [if_neg (by omega)]; omega

theorem TP.zero : TP fun _ _ : α => (0 : Int) := ⟨fun _ _ => .inr (.inl rfl), fun _ _ => rfl, fun _ _ _ _ _ => Int.le_refl 0⟩

theorem TP.int : TP Lib.compareInt := by
  refine ⟨fun a b => ?_, fun a b => ?_, fun a b d => ?_⟩
  · unfold Lib.compareInt; split <;> (try split) <;> omega
  · unfold Lib.compareInt; split <;> (try split) <;> (try split) <;> omega
  · unfold Lib.compareInt; split <;> (try split) <;> (try split) <;> (try split) <;> (try split) <;> omega
end

/-- Lists of numbers, held against each other. -/
def lexI : List Int → List Int → Int
  | [], [] => 0
  | [], _ :: _ => -1
  | _ :: _, [] => 1
  | x :: a, y :: b => if x < y then -1 else if x > y then 1 else lexI a b

theorem TP.lex : TP lexI := by
  refine ⟨?_, ?_, ?_⟩
  · intro a
    induction a with
    | nil => intro b; cases b <;> simp [lexI]
    | cons x a ih =>
      intro b
      cases b with
      | nil => simp [lexI]
      | cons y b =>
        simp only [lexI]
        split
        · exact .inl rfl
        · split
          · exact .inr (.inr rfl)
          · exact ih b
  · intro a
    induction a with
    | nil => intro b; cases b <;> simp [lexI]
    | cons x a ih =>
      intro b
      cases b with
      | nil => simp [lexI]
      | cons y b =>
        simp only [lexI]
        have := ih b
        split <;> (try split) <;> (try split) <;> (try split) <;> first | omega | exact this
  · intro a
    induction a with
    | nil =>
      intro b d
      cases b <;> cases d <;> simp [lexI]
    | cons x a ih =>
      intro b d
      cases b with
      | nil => simp [lexI]
      | cons y b =>
        cases d with
        | nil => simp [lexI]
        | cons z d =>
          simp only [lexI]
          intro h1 h2
          by_cases g1 : x < y
          · by_cases g2 : y < z
            · rw [if_pos (by omega)]; omega
            · rw [if_neg g2] at h2
              by_cases g3 : y > z
              · rw [if_pos g3] at h2; omega
              · rw [if_pos (by omega)]; omega
          · rw [if_neg g1] at h1
            by_cases g4 : x > y
            · rw [if_pos g4] at h1; omega
            · rw [if_neg g4] at h1
              obtain rfl : x = y := by omega
              by_cases g2 : x < z
              · rw [if_pos g2]; omega
              · rw [if_neg g2] at h2 ⊢
                by_cases g3 : x > z
                · rw [if_pos g3] at h2; omega
                · rw [if_neg g3] at h2 ⊢
                  exact ih b d h1 h2

/-- Texts, byte by byte. -/
def cmpB (a b : ByteArray) : Int := if Op.bytesLess a.toList b.toList = true then -1 else if Op.bytesLess b.toList a.toList = true then 1 else 0

theorem TP.bytes : TP cmpB := by
  refine ⟨fun a b => ?_, fun a b => ?_, fun a b d => ?_⟩
  · unfold cmpB; split <;> (try split) <;> omega
  · unfold cmpB
    have h := fun h1 => bl_trans a.toList b.toList a.toList h1
    rw [bl_irrefl] at h
    split <;> (try split) <;> (try split) <;> simp_all
  · unfold cmpB
    intro h1 h2
    split
    · omega
    · split
      · rename_i h3 h4
        exfalso
        have g1 : Op.bytesLess b.toList a.toList = false := by
          cases g : Op.bytesLess b.toList a.toList
          · rfl
          · rw [g] at h1
            split at h1
            · rename_i h5
              have := bl_trans _ _ _ g h5
              rw [bl_irrefl] at this; cases this
            · simp at h1
        have g2 : Op.bytesLess d.toList b.toList = false := by
          cases g : Op.bytesLess d.toList b.toList
          · rfl
          · rw [g] at h2
            split at h2
            · rename_i h5
              have := bl_trans _ _ _ g h5
              rw [bl_irrefl] at this; cases this
            · simp at h2
        cases g3 : Op.bytesLess a.toList b.toList
        · have := bl_total _ _ g3 g1
          rw [this] at h4
          rw [h4] at g2; cases g2
        · have := bl_trans _ _ _ h4 g3
          rw [this] at g2; cases g2
      · omega
end Go.Proofs.YtdmooacjllidhaaGreatDoor
