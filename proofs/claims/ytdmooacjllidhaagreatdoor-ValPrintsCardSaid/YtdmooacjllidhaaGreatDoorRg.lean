/-
  A region that draws its order and ends in stores: what its loads read is asked of the world only till the first store comes up. Conditions: none; it names no program.
-/
import Derived.OrdersHeld
import Derived.Deep.RegionHeld3
import Derived.WalkKit
import Derived.Lib.Hide
set_option linter.unusedVariables false
set_option linter.unusedSimpArgs false
namespace Go.Proofs.YtdmooacjllidhaaGreatDoor
open Go.RowKit

section
variable {P : Program} {ops : Array Oper} {Q : Exit → Act → World → Prop} {md : Region.Mode} {S : World → Prop} {s : Nat}

/-- Whatever order is picked from here on; S holds behind each operation as long as number s hasn't come up. -/
def wpTill (P : Program) (md : Region.Mode) (ops : Array Oper) (Q : Exit → Act → World → Prop) (S : World → Prop) (s : Nat) : Nat → Array Bool → Act → World → Prop
  | 0, listed, a, w => Region.ready md ops listed = [] ∧ Q .normal a w
  | fuel + 1, listed, a, w =>
    (Region.ready md ops listed = [] → Q .normal a w) ∧
    ∀ i ∈ Region.ready md ops listed, wpOp P ops Q i (fun a' w' => ((listed.setIfInBounds i true).getD s true = false → S w') ∧ wpTill P md ops Q S s fuel (listed.setIfInBounds i true) a' w') a w

theorem wpTill_any : ∀ (fuel : Nat) (listed : Array Bool) (a : Act) (w : World), wpTill P md ops Q S s fuel listed a w → wpAny P md ops Q fuel listed a w
  | 0, _, _, _, h => h
  | fuel + 1, _, _, _, h => ⟨h.1, fun i hi => wpOp_mono (fun a' w' h' => wpTill_any fuel _ a' w' h'.2) (h.2 i hi)⟩

theorem wp_region_till {id : Nat} {a : Act} {w : World} (hm : P.follows .mixedOrders = true) (h : wpTill P .any ops Q S s ops.size (Array.replicate ops.size false) a w.drew) :
    (Code.region id ops true).wp P Q a w := wp_region_any hm (wpTill_any _ _ _ _ h)

/-- Each of the list waits for the next one. -/
def waits (md : Region.Mode) (ops : Array Oper) : List Nat → Bool
  | x :: y :: r => ((ops[x]?).map fun o => o.after.any fun e => Region.binds md e && e.on == y).getD false && waits md ops (y :: r)
  | _ => true

def unlisted (listed : Array Bool) (c : List Nat) : Bool := c.all fun j => !listed.getD j true

theorem waits_ready {i : Nat} {listed : Array Bool} : ∀ (c : List Nat), waits md ops c = true → unlisted listed c = true → c.getLast? = some i → ∀ j ∈ Region.ready md ops listed, j ≠ i → j ∉ c
  | [], _, _, _, j, _, _, h => by cases h
  | [x], _, _, hl, j, _, hne, h => by
    simp at hl h
    omega
  | x :: y :: r, hw, hu, hl, j, hj, hne, h => by
    simp only [waits, Bool.and_eq_true] at hw
    simp only [unlisted, List.all_cons, Bool.and_eq_true, Bool.not_eq_true'] at hu
    rcases List.mem_cons.1 h with rfl | h
    · obtain ⟨_, o, ho, hall⟩ := mem_ready.1 hj
      rw [ho] at hw
      simp only [Option.map_some, Option.getD_some] at hw
      obtain ⟨e, he, hb⟩ := Array.any_eq_true'.1 hw.1
      simp only [Bool.and_eq_true, beq_iff_eq] at hb
      have h1 := hall e he hb.1
      rw [hb.2] at h1
      have h2 := hu.2.1
      rcases Nat.lt_or_ge y listed.size with h' | h'
      · simp [h'] at h1 h2; rw [h1] at h2; cases h2
      · simp [Array.getElem?_eq_none h'] at h1
    · exact waits_ready (y :: r) hw.2 (by simp only [unlisted, List.all_cons, Bool.and_eq_true, Bool.not_eq_true']; exact ⟨hu.2.1, hu.2.2⟩) (by simpa using hl) j hj hne h

theorem unlisted_set {listed : Array Bool} {c : List Nat} {j : Nat} (h : unlisted listed c = true) (hj : j ∉ c) : unlisted (listed.setIfInBounds j true) c = true := by
  unfold unlisted at *
  rw [List.all_eq_true] at *
  intro x hx
  have := h x hx
  have hne : j ≠ x := fun e => hj (by rw [e]; exact hx)
  rwa [getD_set_ne true hne]

/-- An operation that yields its value in every world that meets S may be taken first, if number s waits for it along a chain. -/
theorem wpTill_first {i : Nat} {oi : Oper} {v : Value} {c : List Nat} (hi : ops[i]? = some oi) (hsel : ∀ (j : Nat) (o : Oper) cs b, ops[j]? = some o → o.op ≠ .select cs b)
    (hQ : ∀ c a w, Q (.panic c) (a.put oi.dst v) w → Q (.panic c) a w) (hw : waits md ops c = true) (hlast : c.getLast? = some i) (hhead : c.head? = some s) (hsi : s ≠ i) :
    ∀ (fuel : Nat) (listed : Array Bool) (a : Act) (w : World),
      (∀ j oj, ops[j]? = some oj → j ≠ i → listed.getD j true = false → (∀ e ∈ oj.after, Region.binds md e = true → e.on ≠ i) → oi.apart ops oj = true) →
      i ∈ Region.ready md ops listed → unlisted listed c = true → YieldsIf P ops S oi v a → S w →
      wpTill P md ops Q S s fuel (listed.setIfInBounds i true) (a.put oi.dst v) w → wpTill P md ops Q S s (fuel + 1) listed a w := by
  intro fuel
  have hmem : s ∈ c := by cases c with
    | nil => simp at hhead
    | cons x r => simp at hhead; subst hhead; exact List.mem_cons_self ..
  induction fuel with
  | zero =>
    intro listed a w _ hr hu hy hS H
    refine ⟨fun h => (by rw [h] at hr; cases hr), fun j hj => ?_⟩
    by_cases hji : j = i
    · subst hji; exact hy.wpOp hi hS ⟨fun _ => hS, H⟩
    · have := ready_mono hj hji
      rw [H.1] at this
      cases this
  | succ fuel ih =>
    intro listed a w hfree hr hu hy hS H
    refine ⟨fun h => (by rw [h] at hr; cases hr), fun j hj => ?_⟩
    by_cases hji : j = i
    · subst hji; exact hy.wpOp hi hS ⟨fun _ => hS, H⟩
    · have h1 := H.2 j (ready_mono hj hji)
      obtain ⟨hjun, oj, hoj, hall⟩ := mem_ready.1 hj
      have hnot : ∀ e ∈ oj.after, Region.binds md e = true → e.on ≠ i := fun e he hb heq => by
        have h1 := hall e he hb
        have h0 := (mem_ready.1 hr).1
        rw [heq] at h1
        rcases Nat.lt_or_ge i listed.size with h' | h'
        · simp [h'] at h0 h1; rw [h0] at h1; cases h1
        · simp [Array.getElem?_eq_none h'] at h1
      have h2 := wpOp_putIf hoj (hfree j oj hoj hji hjun hnot) (fun cs b => hsel i oi cs b hi) (fun cs b => hsel j oj cs b hoj) hQ hy h1
      have hfree' : ∀ k ok, ops[k]? = some ok → k ≠ i → (listed.setIfInBounds j true).getD k true = false →
          (∀ e ∈ ok.after, Region.binds md e = true → e.on ≠ i) → oi.apart ops ok = true := fun k ok hk hki hun hno => by
        refine hfree k ok hk hki ?_ hno
        by_cases hjk : j = k
        · subst hjk; exact hjun
        · rw [getD_set_ne true hjk] at hun; exact hun
      have hjc := waits_ready c hw hu hlast j hj hji
      have hsun : ((listed.setIfInBounds i true).setIfInBounds j true).getD s true = false := by
        have hne : j ≠ s := fun e => hjc (by rw [e]; exact hmem)
        rw [getD_set_ne true hne, getD_set_ne true (Ne.symm hsi)]
        have := List.all_eq_true.1 hu s hmem
        simpa using this
      refine wpOp_mono (fun a' w' h3 => ⟨fun _ => h3.2.1 hsun, ih (listed.setIfInBounds j true) a' w' hfree' (ready_mono hr (Ne.symm hji)) (unlisted_set hu hjc) h3.1 (h3.2.1 hsun) ?_⟩) h2
      rw [Array.setIfInBounds_comm _ _ hji]
      exact h3.2.2

/-- An operation that yields its value in whatever world may be taken first. -/
theorem wpTill_first0 {i : Nat} {oi : Oper} {v : Value} (hi : ops[i]? = some oi) (hsel : ∀ (j : Nat) (o : Oper) cs b, ops[j]? = some o → o.op ≠ .select cs b)
    (hQ : ∀ c a w, Q (.panic c) (a.put oi.dst v) w → Q (.panic c) a w) (hsi : s ≠ i) :
    ∀ (fuel : Nat) (listed : Array Bool) (a : Act) (w : World),
      (∀ j oj, ops[j]? = some oj → j ≠ i → listed.getD j true = false → (∀ e ∈ oj.after, Region.binds md e = true → e.on ≠ i) → oi.apart ops oj = true) →
      i ∈ Region.ready md ops listed → YieldsIf P ops (fun _ => True) oi v a → (listed.getD s true = false → S w) →
      wpTill P md ops Q S s fuel (listed.setIfInBounds i true) (a.put oi.dst v) w → wpTill P md ops Q S s (fuel + 1) listed a w := by
  intro fuel
  induction fuel with
  | zero =>
    intro listed a w _ hr hy hS H
    refine ⟨fun h => (by rw [h] at hr; cases hr), fun j hj => ?_⟩
    by_cases hji : j = i
    · subst hji; exact hy.wpOp hi trivial ⟨fun h => hS (by rwa [getD_set_ne true (Ne.symm hsi)] at h), H⟩
    · have := ready_mono hj hji
      rw [H.1] at this
      cases this
  | succ fuel ih =>
    intro listed a w hfree hr hy hS H
    refine ⟨fun h => (by rw [h] at hr; cases hr), fun j hj => ?_⟩
    by_cases hji : j = i
    · subst hji; exact hy.wpOp hi trivial ⟨fun h => hS (by rwa [getD_set_ne true (Ne.symm hsi)] at h), H⟩
    · have h1 := H.2 j (ready_mono hj hji)
      obtain ⟨hjun, oj, hoj, hall⟩ := mem_ready.1 hj
      have hnot : ∀ e ∈ oj.after, Region.binds md e = true → e.on ≠ i := fun e he hb heq => by
        have h1 := hall e he hb
        have h0 := (mem_ready.1 hr).1
        rw [heq] at h1
        rcases Nat.lt_or_ge i listed.size with h' | h'
        · simp [h'] at h0 h1; rw [h0] at h1; cases h1
        · simp [Array.getElem?_eq_none h'] at h1
      have h2 := wpOp_putIf hoj (hfree j oj hoj hji hjun hnot) (fun cs b => hsel i oi cs b hi) (fun cs b => hsel j oj cs b hoj) hQ hy h1
      have hfree' : ∀ k ok, ops[k]? = some ok → k ≠ i → (listed.setIfInBounds j true).getD k true = false →
          (∀ e ∈ ok.after, Region.binds md e = true → e.on ≠ i) → oi.apart ops ok = true := fun k ok hk hki hun hno => by
        refine hfree k ok hk hki ?_ hno
        by_cases hjk : j = k
        · subst hjk; exact hjun
        · rw [getD_set_ne true hjk] at hun; exact hun
      have hcomm : (listed.setIfInBounds i true).setIfInBounds j true = (listed.setIfInBounds j true).setIfInBounds i true := Array.setIfInBounds_comm _ _ (Ne.symm hji)
      have hback : (listed.setIfInBounds j true).getD s true = false → ((listed.setIfInBounds i true).setIfInBounds j true).getD s true = false := fun h => by
        rw [hcomm, getD_set_ne true (Ne.symm hsi)]; exact h
      refine wpOp_mono (fun a' w' h3 => ⟨fun h => h3.2.1 (hback h), ih (listed.setIfInBounds j true) a' w' hfree' (ready_mono hr (Ne.symm hji)) h3.1 (fun h => h3.2.1 (hback h)) ?_⟩) h2
      rw [Array.setIfInBounds_comm _ _ hji]
      exact h3.2.2

/-! The moves -/
theorem till_take {i : Nat} {d : Option Nat} {oi : Oper} {v : Value} (c : List Nat) {fuel : Nat} {listed : Array Bool} {a : Act} {w : World} (hi : ops[i]? = some oi) (hd : oi.dst = d)
    (hchk : (Region.noSelect ops && Region.free md ops listed i && (Region.ready md ops listed).contains i && waits md ops c && unlisted listed c && (c.getLast? == some i) && (c.head? == some s) && (s != i)) = true)
    (hQ : ∀ c a w, Q (.panic c) (a.put d v) w → Q (.panic c) a w) (hS : S w) (hy : YieldsIf P ops S oi v a)
    (h : wpTill P md ops Q S s fuel (listed.setIfInBounds i true) (a.put d v) w) : wpTill P md ops Q S s (fuel + 1) listed a w := by
  subst hd
  simp only [Bool.and_eq_true, beq_iff_eq, bne_iff_ne] at hchk
  obtain ⟨⟨⟨⟨⟨⟨⟨h1, h2⟩, h3⟩, h4⟩, h5⟩, h6⟩, h7⟩, h8⟩ := hchk
  exact wpTill_first hi (Region.noSelect_spec h1) hQ h4 h6 h7 h8 fuel listed a w (Region.free_spec hi h2) (by simpa using h3) h5 hy hS h

theorem till_take0 {i : Nat} {d : Option Nat} {oi : Oper} {v : Value} {fuel : Nat} {listed : Array Bool} {a : Act} {w : World} (hi : ops[i]? = some oi) (hd : oi.dst = d)
    (hchk : (Region.noSelect ops && Region.free md ops listed i && (Region.ready md ops listed).contains i && (s != i)) = true)
    (hQ : ∀ c a w, Q (.panic c) (a.put d v) w → Q (.panic c) a w) (hS : listed.getD s true = false → S w) (hy : YieldsIf P ops (fun _ => True) oi v a)
    (h : wpTill P md ops Q S s fuel (listed.setIfInBounds i true) (a.put d v) w) : wpTill P md ops Q S s (fuel + 1) listed a w := by
  subst hd
  simp only [Bool.and_eq_true, bne_iff_ne] at hchk
  obtain ⟨⟨⟨h1, h2⟩, h3⟩, h4⟩ := hchk
  exact wpTill_first0 hi (Region.noSelect_spec h1) hQ h4 fuel listed a w (Region.free_spec hi h2) (by simpa using h3) hy hS h

theorem yields_plain {o : Oper} {v : Value} {a : Act} (hg : o.guard = none) (h : ∀ w, S w → (execOp a.eval o).run P w = .ok (.value v) w) : YieldsIf P ops S o v a :=
  .inl ⟨by simp [Region.wanted, hg], h⟩

theorem yields_want {o : Oper} {v : Value} {a : Act} (hw : Region.wanted o (yielded ops a.tmps) = true) (h : ∀ w, S w → (execOp a.eval o).run P w = .ok (.value v) w) : YieldsIf P ops S o v a := .inl ⟨hw, h⟩
theorem yields_skip {o : Oper} {a : Act} (hw : Region.wanted o (yielded ops a.tmps) = false) : YieldsIf P ops S o undef a := .inr ⟨hw, rfl⟩

/-- All that may come up, each a premise. -/
theorem till_all {rs : List Nat} {fuel : Nat} {listed : Array Bool} {a : Act} {w : World} (hr : Region.ready md ops listed = rs) (hne : rs ≠ [])
    (h : ∀ i ∈ rs, wpOp P ops Q i (fun a' w' => ((listed.setIfInBounds i true).getD s true = false → S w') ∧ wpTill P md ops Q S s fuel (listed.setIfInBounds i true) a' w') a w) : wpTill P md ops Q S s (fuel + 1) listed a w :=
  ⟨fun h0 => absurd (hr ▸ h0) hne, hr ▸ h⟩

theorem till_done {fuel : Nat} {listed : Array Bool} {a : Act} {w : World} (hr : Region.ready md ops listed = []) (h : Q .normal a w) : wpTill P md ops Q S s fuel listed a w := by
  cases fuel with
  | zero => exact ⟨hr, h⟩
  | succ n => exact ⟨fun _ => h, fun i hi => by rw [hr] at hi; cases hi⟩

/-- One operation is carried out: what follows stands behind a name. -/
theorem till_op {i : Nat} {o : Oper} {fuel : Nat} {listed : Array Bool} {a : Act} {w : World} (ho : ops[i]? = some o) (hg : o.guard = none)
    (h : ∀ K : Act → World → Prop, Hid (∀ a' w', ((listed.setIfInBounds i true).getD s true = false → S w') → (((listed.setIfInBounds i true).getD s true = false → S w') → wpTill P md ops Q S s fuel (listed.setIfInBounds i true) a' w') → K a' w') → o.wp P a w K Q) :
    wpOp P ops Q i (fun a' w' => ((listed.setIfInBounds i true).getD s true = false → S w') ∧ wpTill P md ops Q S s fuel (listed.setIfInBounds i true) a' w') a w := by
  unfold wpOp
  simp only [ho]
  rw [if_pos (by simp [Region.wanted, hg])]
  exact .inl (h _ fun a' w' h1 h2 => ⟨h1, h2 h1⟩)

/-- One operation is carried out: what follows stands behind a name. -/
theorem till_opw {i : Nat} {o : Oper} {fuel : Nat} {listed : Array Bool} {a : Act} {w : World} (ho : ops[i]? = some o) (hg : Region.wanted o (yielded ops a.tmps) = true)
    (h : ∀ K : Act → World → Prop, Hid (∀ a' w', ((listed.setIfInBounds i true).getD s true = false → S w') → (((listed.setIfInBounds i true).getD s true = false → S w') → wpTill P md ops Q S s fuel (listed.setIfInBounds i true) a' w') → K a' w') → o.wp P a w K Q) :
    wpOp P ops Q i (fun a' w' => ((listed.setIfInBounds i true).getD s true = false → S w') ∧ wpTill P md ops Q S s fuel (listed.setIfInBounds i true) a' w') a w := by
  unfold wpOp
  simp only [ho]
  rw [if_pos hg]
  exact .inl (h _ fun a' w' h1 h2 => ⟨h1, h2 h1⟩)

theorem mem_none {p : Nat → Prop} : ∀ i ∈ ([] : List Nat), p i := fun _ h => by cases h
theorem mem_more {p : Nat → Prop} {i : Nat} {l : List Nat} (h : p i) (hl : ∀ j ∈ l, p j) : ∀ j ∈ i :: l, p j := fun j hj => by
  rcases List.mem_cons.1 hj with rfl | hj
  · exact h
  · exact hl j hj
end

end Go.Proofs.YtdmooacjllidhaaGreatDoor
