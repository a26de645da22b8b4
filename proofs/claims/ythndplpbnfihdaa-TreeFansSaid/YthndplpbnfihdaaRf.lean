/-
  A range over a function, its iterator keeping cells of its own. Conditions: the body writes to the blocks that are named.
-/
import Derived.Test.YthndplpbnfihdaaHp
import Derived.RangeFuncNested
import Derived.RangeFuncBound
import Derived.RangeFuncCalls
import Derived.RangeFuncLeaves
import Derived.RangeFuncKeeps
set_option linter.unusedVariables false
set_option linter.unusedSimpArgs false
namespace Go.Proofs.Ythndplpbnfihdaa
open Go.RowKit

/-- What an iterator's value does, called with the yield of whatever loop whose rounds write to the blocks Bs alone: it hands over elements one by one, till all are told or a round says no more; what lay before its call stays. -/
def SeqC {α : Type} (P : Program) (gf : Nat) (lb : Array Value) (encs : α → Array Value) (Done Part : List α → Prop) (Bs : Nat → Prop) (w0 : World) : Prop :=
  ∀ (l : Nat) (J Jx : List α → World → Prop) (W : World), Chg (fun _ => False) w0 W → w0.heap.size ≤ l → l < W.heap.size →
    (∀ s A A', J s A → Below W.heap.size A A' → J s A') → (∀ s A A', Jx s A → Below W.heap.size A A' → Jx s A') →
    (∀ pre x W1, J pre W1 → Part (pre ++ [x]) → YieldAt Fence.wide 3 P l (encs x) W1 fun e W' =>
      (e = .returned (.bool true) ∧ J (pre ++ [x]) W' ∧ Chg (fun k => Bs k ∨ k = l) W1 W') ∨ (e = .returned (.bool false) ∧ Jx (pre ++ [x]) W')) →
    J [] W →
    Calls P gf (#[.func (.yield l) #[] #[]] ++ lb) W fun e W' => (∃ v, e = .returned v) ∧ ((∃ xs, Done xs ∧ J xs W') ∨ (∃ pre, Part pre ∧ Jx pre W'))

/-- How a round's body may be left. -/
def roundC {α : Type} (Bs : Nat → Prop) (I : List α → World → Prop) (Ix : Code → List α → World → Prop) (xs : List α) (W : World) : Exit → Act → World → Prop
  | .normal, _, W' => Chg Bs W W' ∧ I xs W'
  | .ret, _, W' => Chg Bs W W' ∧ Ix .ret xs W'
  | .exit id, _, W' => Chg Bs W W' ∧ Ix (.exit id) xs W'
  | .goto t, _, W' => Chg Bs W W' ∧ Ix (.goto t) xs W'
  | .panic _, _, _ => False
  | .outgrown, _, _ => False

theorem chg_putObj {F : Nat → Prop} {W : World} (l : Nat) (o : Obj) (hl : l < W.heap.size) (hF : F l) : Chg F W (W.putObj l o) :=
  ⟨rfl, rfl, rfl, by simp, fun k _ hk => World.putObj_heap_other (fun e => hk (e ▸ hF))⟩

theorem below_putObj {B : Nat} {W : World} (l : Nat) (o : Obj) (hB : B ≤ l) : Below B W (W.putObj l o) :=
  ⟨rfl, rfl, rfl, by simp, fun k hk => World.putObj_heap_other (by omega)⟩

theorem Chg.belowB {F : Nat → Prop} {B : Nat} {a w : World} (h : Chg F a w) (hB : B ≤ a.heap.size) (hF : ∀ k, F k → B ≤ k) : Below B a w :=
  ⟨h.os, h.tape, h.output, h.size, fun k hk => h.block k (by omega) fun hf => by have := hF k hf; omega⟩

theorem wp_rangeFunc_c {α : Type} {P : Program} {g : Operand} {ps : Array Tmp} {assign body : Code} {Q : Exit → Act → World → Prop} {a : Act} {w : World} {gf : Nat} {lb : Array Value} (hg : a.eval g = .func (.func gf) #[] lb)
    (eg : ∀ args w, (callFunc gf args).run P w = .ok (.enter gf args) w) {encs : α → Array Value} {Done Part : List α → Prop} {Bs : Nat → Prop} (hBs : ∀ k, Bs k → k < w.heap.size)
    (hseq : SeqC P gf lb encs Done Part Bs w) (hps : ∀ x, (encs x).size = ps.size) (I : List α → World → Prop) (Ix : Code → List α → World → Prop)
    (hI : ∀ s A A', I s A → Below w.heap.size A A' → I s A') (hIx : ∀ c s A A', Ix c s A → Below w.heap.size A A' → Ix c s A') (h0 : I [] w) (a₁ : α → Act)
    (hassign : ∀ (l : Nat) (x : α) (W : World) (K : Act → World → Prop), K (a₁ x) W →
      assign.wpIn (Fence.wide.inRound l) 3 P (Exit.then K (fun _ _ _ => False)) { tmps := (ps.zip (encs x)).foldl (fun t (p, v) => t.setIfInBounds p v) a.tmps, defers := [] } W)
    (hbody : ∀ (l : Nat) (pre : List α) (x : α) (W : World), I pre W → Part (pre ++ [x]) → w.heap.size ≤ W.heap.size → body.wpIn (Fence.wide.inRound l) 3 P (roundC Bs I Ix (pre ++ [x]) W) (a₁ x) W)
    (hdone : ∀ (D : Nat) (xs : List α) (W : World), Done xs → I xs W → W.heap[D]? = some (.deferred (some [])) → w.heap.size ≤ D → Q .normal { a with defers := { target := .collected D, args := #[] } :: a.defers } W)
    (hstop : ∀ (D : Nat) (c : Code) (pre : List α) (W : World), Part pre → Ix c pre W → W.heap[D]? = some (.deferred (some [])) → w.heap.size ≤ D → c.wp P Q { a with defers := { target := .collected D, args := #[] } :: a.defers } W) :
    (Code.rangeFunc g ps assign body).wp P Q a w := by
  refine (wpIn_wide (n := 5)).1 (wpIn_rangeFunc ?_)
  intro fn hfn
  rw [show Fence.wide.round = none from rfl]
  obtain ⟨rec, hrec⟩ : ∃ rec : LoopState → Option Code → Loop, rec = fun st pe => { state := st, pending := pe, fn, tmps := a.tmps, params := ps, assign, body, defers := w.heap.size } := ⟨_, rfl⟩
  obtain ⟨W1, hW1⟩ : ∃ W1, (w.alloc (.deferred (some []))).alloc (.loop (rec .ready none)) = W1 := ⟨_, rfl⟩
  have hL1 : W1.heap[w.heap.size + 1]? = some (.loop (rec .ready none)) := by
    rw [← hW1]; have := World.alloc_heap_new (w.alloc (.deferred (some []))) (.loop (rec .ready none)); rwa [World.size_alloc] at this
  have hK1 : W1.heap[w.heap.size]? = some (.deferred (some [])) := by
    rw [← hW1]; exact (Below.heap_alloc _ _ _ (by simp)).trans (World.alloc_heap_new w _)
  have hc1 : Chg (fun _ => False) w W1 := by rw [← hW1]; exact ((Chg.refl _ w).alloc _).alloc _
  have hs1 : W1.heap.size = w.heap.size + 2 := by rw [← hW1]; simp
  have hI1 : I [] W1 := hI _ _ _ h0 hc1.below
  refine ⟨w.heap.size + 1, [{ target := .collected w.heap.size, args := #[] }], W1, { target := .fn (.func gf) lb, args := #[.func (.yield (w.heap.size + 1)) #[] #[]] }, W1, gf,
    #[.func (.yield (w.heap.size + 1)) #[] #[]] ++ lb, W1, ?_, ?_, ?_, ?_, fun h => by simp [Fence.wide] at h, ?_⟩
  · rw [← hW1, hrec]; exact run_enterLoop_outer _ _ _ _ _
  · simp only [resolve, hg]
    simp [go_sem]
  · intro f' hf'; trivial
  · simp [invoke, go_sem, eg]
  · refine callsIn_wide.2 ((hseq (w.heap.size + 1)
      (fun pre W => (I pre W ∧ w.heap.size ≤ W.heap.size) ∧ W.heap[w.heap.size + 1]? = some (.loop (rec .ready none)) ∧ W.heap[w.heap.size]? = some (.deferred (some [])))
      (fun pre W => ∃ c, Ix c pre W ∧ W.heap[w.heap.size + 1]? = some (.loop (rec .done (some c))) ∧ W.heap[w.heap.size]? = some (.deferred (some [])))
      W1 hc1 (by omega) (by omega)
      (fun s A B hs hb => ⟨⟨hI _ _ _ hs.1.1 (hb.mono (by omega)), Nat.le_trans hs.1.2 hb.size⟩, (hb.block _ (by omega)).trans hs.2.1, (hb.block _ (by omega)).trans hs.2.2⟩)
      (fun s A B hs hb => by
        obtain ⟨c, hc, hl, hk⟩ := hs
        exact ⟨c, hIx _ _ _ _ hc (hb.mono (by omega)), (hb.block _ (by omega)).trans hl, (hb.block _ (by omega)).trans hk⟩)
      ?_ ⟨⟨hI1, by omega⟩, hL1, hK1⟩).mono ?_)
    · rintro pre x W ⟨⟨hi, hsz⟩, hl, hk⟩ hlen
      have hlt : w.heap.size + 1 < W.heap.size := (Array.getElem?_eq_some_iff.1 hl).1
      have hy := run_yield (P := P) (args := encs x) hl (by rw [hrec]; exact hps x)
      rw [hrec] at hy
      refine ⟨fn, _, assign, body, hy, roundIn_of_wpIn hfn (hassign _ x W _ ⟨_, run_beginRound hl (by rw [hrec]), ?_⟩)⟩
      have hl2 : (W.putObj (w.heap.size + 1) (.loop { rec .ready none with state := .busy })).heap[w.heap.size + 1]? = some (.loop { rec .ready none with state := .busy }) := World.putObj_heap_same hlt
      have hk2 : (W.putObj (w.heap.size + 1) (.loop { rec .ready none with state := .busy })).heap[w.heap.size]? = some (.deferred (some [])) := (World.putObj_heap_other (by omega)).trans hk
      have hb2 : Below w.heap.size W (W.putObj (w.heap.size + 1) (.loop { rec .ready none with state := .busy })) := below_putObj _ _ (by omega)
      refine wpIn_mono (hbody _ pre x _ (hI _ _ _ hi hb2) hlen (by simp; omega)) ?_
      have fin : ∀ (jump : Option Code) (W3 : World), Chg Bs (W.putObj (w.heap.size + 1) (.loop { rec .ready none with state := .busy })) W3 →
          (Instr.endRound (w.heap.size + 1) jump).run P W3 = .ok (.bool jump.isNone) (W3.putObj (w.heap.size + 1) (.loop (rec (if jump.isNone then .ready else .done) jump))) ∧
          (W3.putObj (w.heap.size + 1) (.loop (rec (if jump.isNone then .ready else .done) jump))).heap[w.heap.size + 1]? = some (.loop (rec (if jump.isNone then .ready else .done) jump)) ∧
          (W3.putObj (w.heap.size + 1) (.loop (rec (if jump.isNone then .ready else .done) jump))).heap[w.heap.size]? = some (.deferred (some [])) ∧
          Below w.heap.size W3 (W3.putObj (w.heap.size + 1) (.loop (rec (if jump.isNone then .ready else .done) jump))) ∧
          w.heap.size ≤ (W3.putObj (w.heap.size + 1) (.loop (rec (if jump.isNone then .ready else .done) jump))).heap.size ∧
          Chg (fun k => Bs k ∨ k = w.heap.size + 1) W (W3.putObj (w.heap.size + 1) (.loop (rec (if jump.isNone then .ready else .done) jump))) := fun jump W3 hc3 => by
        have hz3 := hc3.size
        rw [World.putObj_size] at hz3
        have hl3 := (hc3.block (w.heap.size + 1) (by rw [World.putObj_size]; exact hlt) (fun h => by have := hBs _ h; omega)).trans hl2
        have hk3 := (hc3.block w.heap.size (by rw [World.putObj_size]; omega) (fun h => by have := hBs _ h; omega)).trans hk2
        have hr := run_endRound (P := P) jump hl3
        rw [hrec] at hr ⊢
        refine ⟨hr, World.putObj_heap_same (by omega), (World.putObj_heap_other (by omega)).trans hk3, below_putObj _ _ (by omega), by rw [World.putObj_size]; omega, ?_⟩
        exact ((chg_putObj (F := fun k => Bs k ∨ k = w.heap.size + 1) _ _ hlt (.inr rfl)).trans (hc3.mono fun _ _ h => .inl h)).trans (chg_putObj _ _ (by omega) (.inr rfl))
      rintro e a3 W3 hp
      cases e with
      | normal =>
        obtain ⟨hc3, hi3⟩ := hp
        obtain ⟨hr, hl4, hk4, hb4, hz4, hc4⟩ := fin none W3 hc3
        exact ⟨_, _, hr, .inl ⟨rfl, ⟨⟨hI _ _ _ hi3 hb4, hz4⟩, hl4, hk4⟩, hc4⟩⟩
      | ret =>
        obtain ⟨hc3, hi3⟩ := hp
        obtain ⟨hr, hl4, hk4, hb4, hz4, hc4⟩ := fin (some .ret) W3 hc3
        exact ⟨_, _, hr, .inr ⟨rfl, .ret, hIx _ _ _ _ hi3 hb4, hl4, hk4⟩⟩
      | exit id =>
        obtain ⟨hc3, hi3⟩ := hp
        obtain ⟨hr, hl4, hk4, hb4, hz4, hc4⟩ := fin (some (.exit id)) W3 hc3
        exact ⟨_, _, hr, .inr ⟨rfl, .exit id, hIx _ _ _ _ hi3 hb4, hl4, hk4⟩⟩
      | goto t =>
        obtain ⟨hc3, hi3⟩ := hp
        obtain ⟨hr, hl4, hk4, hb4, hz4, hc4⟩ := fin (some (.goto t)) W3 hc3
        exact ⟨_, _, hr, .inr ⟨rfl, .goto t, hIx _ _ _ _ hi3 hb4, hl4, hk4⟩⟩
      | panic ch => exact hp.elim
      | outgrown => exact hp.elim
    · rintro e W2 ⟨⟨v, rfl⟩, (⟨xs, hS, ⟨hi, hz⟩, hl, hk⟩ | ⟨pre, hSp, c, hi, hl, hk⟩)⟩
      · exact ⟨none, _, by have := run_endLoop (P := P) hl (by rw [hrec]; simp); rw [hrec] at this; exact this, hdone _ xs _ hS (hI _ _ _ hi (below_putObj _ _ (by omega))) ((World.putObj_heap_other (by omega)).trans hk) (Nat.le_refl _)⟩
      · exact ⟨some c, _, by have := run_endLoop (P := P) hl (by rw [hrec]; simp); rw [hrec] at this; exact this, wpIn_wide.2 (hstop _ c pre _ hSp (hIx _ _ _ _ hi (below_putObj _ _ (by omega))) ((World.putObj_heap_other (by omega)).trans hk) (Nat.le_refl _))⟩
end Go.Proofs.Ythndplpbnfihdaa
