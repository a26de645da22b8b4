/-
  TreeEmpties' plain law: a list of keys beside a row of marks. Conditions: none; no program in sight.
-/
import Derived.Test.YthndplpbnfihdaaEk
set_option linter.unusedVariables false
set_option linter.unusedSimpArgs false
namespace Go.Proofs.Ythndplpbnfihdaa

theorem hasL_insL (key key' : ByteArray) (row : Int) : ∀ (L : List (ByteArray × Int)), hasL key' (insL key row L) = (decide (key = key') || hasL key' L)
  | [] => by simp [insL, hasL]
  | p :: l => by
    have ih := hasL_insL key key' row l
    unfold hasL at ih ⊢
    unfold insL
    split
    · rw [List.any_cons, List.any_cons, ih]
      cases decide (p.1 = key') <;> cases decide (key = key') <;> simp
    · split
      · rename_i hp
        rw [List.any_cons, List.any_cons, hp]
        cases decide (key = key') <;> simp
      · rw [List.any_cons]

theorem hasL_delL (key key' : ByteArray) (L : List (ByteArray × Int)) : hasL key' (delL key L) = (!decide (key = key') && hasL key' L) := by
  unfold hasL delL
  induction L with
  | nil => simp
  | cons p l ih =>
    rw [List.filter_cons]
    by_cases h : p.1 = key
    · rw [if_neg (by simp [h]), ih, List.any_cons, h]
      cases decide (key = key') <;> simp
    · rw [if_pos (by simp [h]), List.any_cons, List.any_cons, ih]
      by_cases hk : key = key'
      · have : decide (p.1 = key') = false := by rw [← hk]; exact decide_eq_false h
        rw [this, decide_eq_true hk]; simp
      · rw [decide_eq_false hk]; simp

/-- The marks tell which keys are there. -/
structure Good (n : Nat) (B : List Bool) (L : List (ByteArray × Int)) : Prop where
  len : B.length = n
  rise : Rising (keysT L)
  has : ∀ (j : Nat) (b : Bool), B[j]? = some b → hasL (keyB j) L = b
  cnt : L.length = B.count true

theorem Good.nil (n : Nat) : Good n (List.replicate n false) [] := by
  refine ⟨by simp, by simp [keysT, Rising], fun j b h => ?_, by simp [List.count_replicate]⟩
  have hb : b = false := by
    have h1 := List.mem_of_getElem? h
    exact List.eq_of_mem_replicate h1
  rw [hb]; rfl

theorem count_set_true {B : List Bool} {j : Nat} (h : B[j]? = some false) : (B.set j true).count true = B.count true + 1 := by
  obtain ⟨h1, h2⟩ := List.getElem?_eq_some_iff.1 h
  rw [List.count_set h1, h2]; simp
theorem count_set_false {B : List Bool} {j : Nat} (h : B[j]? = some true) : (B.set j false).count true + 1 = B.count true := by
  obtain ⟨h1, h2⟩ := List.getElem?_eq_some_iff.1 h
  have : 0 < B.count true := List.count_pos_iff.2 (List.mem_of_getElem? h)
  rw [List.count_set h1, h2]; simp; omega

theorem Good.put {n j : Nat} {B : List Bool} {L : List (ByteArray × Int)} (h : Good n B L) (hn : n ≤ 200) (hj : B[j]? = some false) (row : Int) : Good n (B.set j true) (insL (keyB j) row L) := by
  have hjn : j < n := by rw [← h.len]; exact (List.getElem?_eq_some_iff.1 hj).1
  refine ⟨by simp [h.len], rising_insL h.rise, fun i b hb => ?_, ?_⟩
  · rw [hasL_insL]
    rw [List.getElem?_set] at hb
    have hin : i < n := by
      split at hb
      · omega
      · rw [← h.len]; exact (List.getElem?_eq_some_iff.1 hb).1
    split at hb
    · rename_i e
      subst e
      split at hb
      · injection hb with hb; subst hb; simp
      · cases hb
    · rename_i e
      rw [h.has i b hb, decide_eq_false (fun hk => e (keyB_inj (by omega) (by omega) hk))]; rfl
  · have h1 := h.has j false hj
    have h2 := insL_len (keyB j) row L h.rise
    rw [h1] at h2
    rw [count_set_true hj, h2, h.cnt]; rfl

theorem Good.del {n j : Nat} {B : List Bool} {L : List (ByteArray × Int)} (h : Good n B L) (hn : n ≤ 200) (hj : B[j]? = some true) : Good n (B.set j false) (delL (keyB j) L) ∧ hasL (keyB j) (delL (keyB j) L) = false := by
  have hjn : j < n := by rw [← h.len]; exact (List.getElem?_eq_some_iff.1 hj).1
  refine ⟨⟨by simp [h.len], rising_delL h.rise, fun i b hb => ?_, ?_⟩, by rw [hasL_delL]; simp⟩
  · rw [hasL_delL]
    rw [List.getElem?_set] at hb
    have hin : i < n := by
      split at hb
      · omega
      · rw [← h.len]; exact (List.getElem?_eq_some_iff.1 hb).1
    split at hb
    · rename_i e
      subst e
      split at hb
      · injection hb with hb; subst hb; simp
      · cases hb
    · rename_i e
      rw [h.has i b hb, decide_eq_false (fun hk => e (keyB_inj (by omega) (by omega) hk))]; rfl
  · have h1 := h.has j true hj
    have h2 := delL_len (keyB j) L h.rise
    rw [h1] at h2
    have h3 := count_set_false hj
    have h4 := h.cnt
    simp at h2
    omega

/-- From any place on, a mark of either kind comes within a round. -/
theorem mark_ahead {n at_ : Nat} {B : List Bool} {b : Bool} (hB : B.length = n) (hc : ∃ j : Nat, B[j]? = some b) : ∃ f : Nat, at_ ≤ f ∧ f ≤ at_ + 2 * n ∧ B[f % n]? = some b := by
  obtain ⟨j, hj⟩ := hc
  have hjn : j < n := by rw [← hB]; exact (List.getElem?_eq_some_iff.1 hj).1
  have h0 := Nat.div_add_mod at_ n
  have h1 := Nat.mod_lt at_ (show n > 0 by omega)
  by_cases hle : at_ % n ≤ j
  · refine ⟨n * (at_ / n) + j, by omega, by omega, ?_⟩
    rw [Nat.mul_add_mod, Nat.mod_eq_of_lt hjn]; exact hj
  · refine ⟨n * (at_ / n + 1) + j, ?_, ?_, ?_⟩
    · rw [Nat.mul_add, Nat.mul_one]; omega
    · rw [Nat.mul_add, Nat.mul_one]; omega
    · rw [Nat.mul_add_mod, Nat.mod_eq_of_lt hjn]; exact hj

theorem free_place {n : Nat} {B : List Bool} (hB : B.length = n) (hc : B.count true < n) : ∃ j : Nat, B[j]? = some false := by
  by_cases h : false ∈ B
  · exact List.mem_iff_getElem?.1 h
  · exfalso
    have : B.count true = B.length := List.count_eq_length.2 fun b hb => by
      cases b with
      | true => rfl
      | false => exact absurd hb h
    omega
theorem full_place {B : List Bool} (hc : 0 < B.count true) : ∃ j : Nat, B[j]? = some true := List.mem_iff_getElem?.1 (List.count_pos_iff.1 hc)
end Go.Proofs.Ythndplpbnfihdaa
