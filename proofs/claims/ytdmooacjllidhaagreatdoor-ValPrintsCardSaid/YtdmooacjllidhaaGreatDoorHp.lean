/-
  A small heap logic: what a step of the program may have changed, blocks that are known whole, rows that read as lists. Conditions: none; it names no program.
-/
import Derived.WalkKit
import Derived.WalkSpells
import Derived.WalkLawsBesides
import Derived.Deep.Draws
import Derived.Deep.AppendLies
import Derived.Laws.OwnMore
import Derived.Laws.CopyOwn
import Derived.Lib.Hide
import Derived.Lib.SliceRun
set_option linter.unusedVariables false
set_option linter.unusedSimpArgs false
namespace Go.Proofs.YtdmooacjllidhaaGreatDoor
open Go.RowKit

/-- w' is w but for blocks of F and new ones. -/
structure Chg (F : Nat → Prop) (w w' : World) : Prop where
  os : w'.os = w.os
  tape : w'.tape = w.tape
  output : w'.output = w.output
  size : w.heap.size ≤ w'.heap.size
  block : ∀ k, k < w.heap.size → ¬ F k → w'.heap[k]? = w.heap[k]?

def Blk (w : World) (g : Nat) (t : TypeId) (cs : Array Value) : Prop := w.heap[g]? = some (.cells cs t (0, 0))

section
variable {F G : Nat → Prop} {a b c w w' : World} {g : Nat} {t : TypeId} {cs : Array Value}

theorem Chg.refl (F : Nat → Prop) (w : World) : Chg F w w := ⟨rfl, rfl, rfl, Nat.le_refl _, fun _ _ _ => rfl⟩
theorem Chg.mono (h : Chg F a b) (hm : ∀ k, k < a.heap.size → F k → G k) : Chg G a b :=
  ⟨h.os, h.tape, h.output, h.size, fun k hk hn => h.block k hk fun hf => hn (hm k hk hf)⟩
theorem Chg.comp (h : Chg F a b) (k : Chg G b c) (hm : ∀ k, k < a.heap.size → G k → F k) : Chg F a c :=
  ⟨k.os.trans h.os, k.tape.trans h.tape, k.output.trans h.output, Nat.le_trans h.size k.size, fun i hi hn =>
    (k.block i (Nat.lt_of_lt_of_le hi h.size) fun hf => hn (hm i hi hf)).trans (h.block i hi hn)⟩
theorem Chg.trans (h : Chg F a b) (k : Chg F b c) : Chg F a c := h.comp k fun _ _ hf => hf
theorem Chg.drewN (h : Chg F a w) (n : Nat) : Chg F a (w.drewN n) := ⟨h.os, h.tape, h.output, h.size, h.block⟩
theorem Chg.drew (h : Chg F a w) : Chg F a w.drew := ⟨h.os, h.tape, h.output, h.size, h.block⟩
theorem Chg.alloc (h : Chg F a w) (o : Obj) : Chg F a (w.alloc o) :=
  h.trans ⟨rfl, rfl, rfl, by simp, fun k hk _ => Below.heap_alloc _ _ _ hk⟩
theorem Chg.setCell (h : Chg F a w) {p : Addr} (hp : F p.block ∨ a.heap.size ≤ p.block) (u : Value) : Chg F a (w.setCell p u) := by
  refine ⟨h.os, h.tape, h.output, by simpa [World.setCell] using h.size, fun k hk hn => ?_⟩
  rw [Below.heap_setCell _ _ _ _ (fun e => by subst e; rcases hp with hp | hp; exact hn hp; omega)]
  exact h.block k hk hn
theorem Chg.grown (h : Chg F a w) {row : Option Nat} (hg : w.grownBy w' row) (hr : ∀ k, row = some k → F k ∨ a.heap.size ≤ k) : Chg F a w' :=
  ⟨hg.os.trans h.os, hg.tape.trans h.tape, hg.output.trans h.output, Nat.le_trans h.size hg.size, fun k hk hn =>
    (hg.block k (Nat.lt_of_lt_of_le hk h.size) fun e => by
      rcases hr k e.symm with hf | hl
      · exact hn hf
      · omega).trans (h.block k hk hn)⟩
theorem Chg.of_grown {row : Option Nat} (hg : w.grownBy w' row) : Chg (fun k => some k = row) w w' :=
  ⟨hg.os, hg.tape, hg.output, hg.size, fun k hk hn => hg.block k hk hn⟩
theorem Chg.below (h : Chg (fun _ => False) a w) : Below a.heap.size a w := ⟨h.os, h.tape, h.output, h.size, fun k hk => h.block k hk id⟩
theorem Chg.of_below (h : Below a.heap.size a w) : Chg F a w := ⟨h.os, h.tape, h.output, h.size, fun k hk _ => h.block k hk⟩
theorem Chg.cell (h : Chg F a w) {p : Addr} (hp : p.block < a.heap.size) (hn : ¬ F p.block) : w.cell? p = a.cell? p := World.cell?_of_block (h.block _ hp hn)
theorem Chg.frozen (h : Chg F a w) {p : Addr} (hp : p.block < a.heap.size) (hn : ¬ F p.block) : w.frozen? p = a.frozen? p := World.frozen?_of_block (h.block _ hp hn)

theorem Blk.lt (h : Blk w g t cs) : g < w.heap.size := by
  rcases Nat.lt_or_ge g w.heap.size with hlt | hge
  · exact hlt
  · unfold Blk at h; rw [Array.getElem?_eq_none hge] at h; cases h
theorem Blk.cell (h : Blk w g t cs) (i : Nat) : w.cell? ⟨g, i, none⟩ = cs[i]? := cell_of_row w g i cs t (0, 0) h
theorem Blk.cell_ (h : Blk w g t cs) {i : Nat} {v : Value} (hv : cs[i]? = some v) : w.cell? ⟨g, i, none⟩ = some v := (h.cell i).trans hv
theorem Blk.frozen (h : Blk w g t cs) (i : Nat) : w.frozen? ⟨g, i, none⟩ = false := by
  unfold Blk at h
  simp [World.frozen?, h]
theorem Blk.new (w : World) (t : TypeId) (cs : Array Value) : Blk (w.alloc (.cells cs t)) w.heap.size t cs := heap_alloc_new w _
theorem Blk.drew (h : Blk w g t cs) : Blk w.drew g t cs := h
theorem Blk.drewN (h : Blk w g t cs) (n : Nat) : Blk (w.drewN n) g t cs := h
theorem Blk.alloc (h : Blk w g t cs) (o : Obj) : Blk (w.alloc o) g t cs := (Below.heap_alloc w o g h.lt).trans h
theorem Blk.set_ (h : Blk w g t cs) (i : Nat) (u : Value) : Blk (w.setCell ⟨g, i, none⟩ u) g t (cs.setIfInBounds i u) := by
  unfold Blk at h ⊢
  simp [World.setCell, Array.getElem?_modify, h]
theorem Blk.far (h : Blk w g t cs) {p : Addr} (hp : g ≠ p.block) (u : Value) : Blk (w.setCell p u) g t cs := (Below.heap_setCell w p u g hp).trans h
theorem Blk.chg (h : Blk w g t cs) (hb : Chg F w w') (hg : ¬ F g) : Blk w' g t cs := (hb.block g h.lt hg).trans h
theorem Blk.ne_ {g' : Nat} {t' : TypeId} {cs' : Array Value} (h : Blk w g t cs) (h' : Blk w g' t' cs') (hne : t ≠ t') : g ≠ g' := by
  rintro rfl
  unfold Blk at h h'
  rw [h] at h'
  injection h' with h'
  injection h' with _ ht
  exact hne ht
theorem Blk.inj {t' : TypeId} {cs' : Array Value} (h : Blk w g t cs) (h' : Blk w g t' cs') : t = t' ∧ cs = cs' := by
  unfold Blk at h h'
  rw [h] at h'
  injection h' with h'
  injection h' with hc ht
  exact ⟨ht, hc⟩
end

/-- The slice value v is nil and xs empty, or v starts at the head of a row whose first cells are xs. -/
def Own (w : World) (e : TypeId) (v : Value) (xs : List Value) : Prop := w.ownsRow 0 e 1 v xs.length xs

section
variable {F : Nat → Prop} {w w' : World} {e : TypeId} {v : Value} {xs : List Value}

theorem Own.nil (w : World) (e : TypeId) : Own w e (.slice none 0 0) [] := World.ownsRow_nil w 0 e 1

theorem Own.shape (h : Own w e v xs) : ∃ A c, v = .slice A xs.length c ∧ xs.length ≤ c ∧ c ≤ maxLen := by
  rcases h.2 with ⟨rfl, h0⟩ | ⟨g, cap, cur, rfl, _, _, h1, h2, _⟩
  · exact ⟨none, 0, by rw [h0], by omega, by decide⟩
  · exact ⟨_, cap, rfl, h1, h2⟩

theorem Own.chg (h : Own w e v xs) (hc : Chg F w w') (hn : ∀ g, v.ownBlock = some g → ¬ F g) : Own w' e v xs := by
  refine ⟨h.1, ?_⟩
  rcases h.2 with hnil | ⟨g, cap, cur, rfl, hb, hgg, rest⟩
  · exact .inl hnil
  · refine .inr ⟨g, cap, cur, rfl, hb, ?_, rest⟩
    rw [hc.block g (Array.getElem?_eq_some_iff.1 hgg).1 (hn g rfl)]
    exact hgg

theorem Own.lt (h : Own w e v xs) {g : Nat} (hg : v.ownBlock = some g) : g < w.heap.size := (World.ownsRow.lt h g hg).2

/-- A row that is not nil, laid open. -/
theorem Own.open_ {A : Option Addr} {n c : Nat} (h : Own w e (.slice A n c) xs) (hA : A ≠ none) :
    ∃ g cur, A = some ⟨g, 0, none⟩ ∧ n = xs.length ∧ Blk w g e cur ∧ xs.length ≤ c ∧ c ≤ maxLen ∧ cur.size = c ∧ cur.toList.take xs.length = xs := by
  rcases h.2 with ⟨hv, _⟩ | ⟨g, cap, cur, hv, _, hgg, h1, h2, h3, h4⟩
  · injection hv with h1 h2 h3
    exact absurd h1 hA
  · injection hv with e1 e2 e3
    subst e3
    exact ⟨g, cur, e1, e2, hgg, h1, h2, by simpa using h3, by simpa using h4⟩

theorem Own.close {g c : Nat} {cur : Array Value} (hb : Blk w g e cur) (h1 : xs.length ≤ c) (h2 : c ≤ maxLen) (h3 : cur.size = c) (h4 : cur.toList.take xs.length = xs) :
    Own w e (.slice (some ⟨g, 0, none⟩) xs.length c) xs :=
  ⟨by simp, .inr ⟨g, c, cur, rfl, Nat.zero_le _, hb, h1, h2, by simpa using h3, by simpa using h4⟩⟩

theorem Own.some_of_pos {A : Option Addr} {n c : Nat} (h : Own w e (.slice A n c) xs) (hp : 0 < xs.length) : A ≠ none := by
  rcases h.2 with ⟨hv, hn⟩ | ⟨g, cap, cur, hv, _⟩
  · omega
  · injection hv with e1
    rw [e1]; simp

theorem Own.cell {g n c : Nat} (h : Own w e (.slice (some ⟨g, 0, none⟩) n c) xs) {j : Nat} {u : Value} (hu : xs[j]? = some u) : w.cell? ⟨g, j, none⟩ = some u := by
  have := World.ownsRow.cells h (g := g) rfl j u hu
  rwa [show (⟨g, 0, none⟩ : Addr).add j = ⟨g, j, none⟩ by unfold Addr.add; split <;> simp_all] at this

theorem take_of_prefix {α : Type} {l xs : List α} (h : l.take xs.length = xs) {k : Nat} (hk : k ≤ xs.length) : l.take k = xs.take k := by
  rw [← h, List.take_take, Nat.min_eq_left hk]

theorem get_of_prefix {α : Type} {l xs : List α} (h : l.take xs.length = xs) {j : Nat} (hj : j < xs.length) : l[j]? = xs[j]? := by
  rw [← h, List.getElem?_take, if_pos hj]

/-- A cut s[:k] of a row owns the row's head. -/
theorem Own.cut {A : Option Addr} {n c k : Nat} (h : Own w e (.slice A n c) xs) (hk : k ≤ xs.length) (hA : A ≠ none) : Own w e (.slice A k c) (xs.take k) := by
  obtain ⟨g, cur, rfl, rfl, hb, h1, h2, h3, h4⟩ := h.open_ hA
  have hl : (xs.take k).length = k := by simp; omega
  have := Own.close (xs := xs.take k) (e := e) hb (c := c) (by rw [hl]; omega) h2 h3 (by rw [hl]; exact take_of_prefix h4 hk)
  rwa [hl] at this
end

/-- A slice that is read: the cells xs, wherever they lie. -/
def Reads (w : World) (A : Option Addr) (n : Nat) (xs : List Value) : Prop :=
  xs.length = n ∧ (0 < n → ∃ ad, A = some ad ∧ ∀ j u, xs[j]? = some u → w.cell? (ad.add j) = some u)

theorem block_of_add (a : Addr) (n : Nat) : (a.add n).block = a.block := by unfold Addr.add; split <;> rfl
theorem add_lit (b o j : Nat) : (⟨b, o, none⟩ : Addr).add j = ⟨b, o + j, none⟩ := by unfold Addr.add; split <;> simp_all

theorem Reads.of_own {w : World} {e : TypeId} {A : Option Addr} {n c : Nat} {xs : List Value} (h : Own w e (.slice A n c) xs) : Reads w A n xs := by
  obtain ⟨A', c', hv, _, _⟩ := h.shape
  injection hv with h1 h2 h3
  refine ⟨h2.symm, fun hp => ?_⟩
  obtain ⟨g, cur, rfl, _, _⟩ := h.open_ (h.some_of_pos (by omega))
  refine ⟨_, rfl, fun j u hu => ?_⟩
  rw [add_lit, Nat.zero_add]
  exact h.cell hu

/-- A tail s[k:] of a row. -/
theorem Reads.tail {w : World} {e : TypeId} {g n c k : Nat} {xs : List Value} (h : Own w e (.slice (some ⟨g, 0, none⟩) n c) xs) (hk : k ≤ xs.length) :
    Reads w (some ⟨g, k, none⟩) (n - k) (xs.drop k) := by
  obtain ⟨A', c', hv, _, _⟩ := h.shape
  injection hv with h1 h2 h3
  refine ⟨by simp [h2], fun hp => ⟨_, rfl, fun j u hu => ?_⟩⟩
  rw [add_lit]
  rw [List.getElem?_drop] at hu
  exact h.cell hu

theorem Reads.chg {F : Nat → Prop} {w w' : World} {A : Option Addr} {n : Nat} {xs : List Value} (h : Reads w A n xs) (hc : Chg F w w')
    (hA : ∀ ad, A = some ad → ¬ F ad.block) : Reads w' A n xs := by
  refine ⟨h.1, fun hp => ?_⟩
  obtain ⟨ad, rfl, hcell⟩ := h.2 hp
  refine ⟨ad, rfl, fun j u hu => ?_⟩
  have hx := hcell j u hu
  have hlt := World.block_lt_of_cell? _ _ hx
  rw [hc.cell hlt (by rw [block_of_add]; exact hA ad rfl)]
  exact hx

theorem Own.ne_blk {w : World} {e t : TypeId} {v : Value} {xs : List Value} {g : Nat} {cs : Array Value} (h : Own w e v xs) (hb : Blk w g t cs) (hne : e ≠ t) : v.ownBlock ≠ some g := by
  rcases h.2 with ⟨rfl, _⟩ | ⟨g', cap, cur, rfl, _, hh, _⟩
  · simp [Value.ownBlock]
  · intro he
    have : g' = g := by simpa [Value.ownBlock] using he
    subst this
    exact Blk.ne_ (t := e) (t' := t) hh hb hne rfl

theorem Own.ne_own {w : World} {e t : TypeId} {v u : Value} {xs ys : List Value} {g : Nat} (h : Own w e v xs) (h' : Own w t u ys) (hne : e ≠ t) (hv : v.ownBlock = some g) : u.ownBlock ≠ some g := by
  rcases h.2 with ⟨rfl, _⟩ | ⟨g', cap, cur, rfl, _, hh, _⟩
  · simp [Value.ownBlock] at hv
  · have : g' = g := by simpa [Value.ownBlock] using hv
    subst this
    exact h'.ne_blk (g := g') hh (Ne.symm hne)

theorem Own.ne_new {w : World} {e : TypeId} {v : Value} {xs : List Value} {b : Nat} (h : Own w e v xs) (hb : w.heap.size = b) : v.ownBlock ≠ some b := by
  rcases h.2 with ⟨rfl, _⟩ | ⟨g', cap, cur, rfl, _, hh, _⟩
  · simp [Value.ownBlock]
  · intro he
    have h1 : g' = b := by simpa [Value.ownBlock] using he
    have := Blk.lt (t := e) hh
    omega

/-- A new block, its world and its number behind names. -/
theorem alloc_named (W : World) (c : Array Value) (t : TypeId) : ∃ w' b, W.alloc (.cells c t) = w' ∧ W.heap.size = b ∧ Blk w' b t c ∧ Chg (fun _ => False) W w' ∧ w'.heap.size = b + 1 :=
  ⟨_, _, rfl, rfl, Blk.new W t c, (Chg.refl _ W).alloc _, by simp⟩

/-- A store, its world behind a name. -/
theorem set_named {W : World} {b : Nat} {t : TypeId} {cs : Array Value} (h : Blk W b t cs) (i : Nat) (u : Value) : ∃ w', W.setCell ⟨b, i, none⟩ u = w' ∧ Blk w' b t (cs.setIfInBounds i u) ∧ Chg (fun k => k = b) W w' :=
  ⟨_, rfl, h.set_ i u, (Chg.refl (fun k => k = b) W).setCell (p := ⟨b, i, none⟩) (.inl rfl) u⟩

theorem drew_named (W : World) : ∃ w', W.drew = w' ∧ Chg (fun _ => False) W w' := ⟨_, rfl, (Chg.refl _ W).drew⟩
theorem Chg.up {F : Nat → Prop} {w w' : World} (h : Chg (fun _ => False) w w') : Chg F w w' := h.mono fun _ _ h => h.elim

end Go.Proofs.YtdmooacjllidhaaGreatDoor
