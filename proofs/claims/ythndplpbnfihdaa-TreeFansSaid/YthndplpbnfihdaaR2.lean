/-
  Rows whose elements have two cells: what they read as, their cells, writes, cuts, appends. Conditions: short rows; it names no program.
-/
import Derived.Test.YthndplpbnfihdaaIns
set_option linter.unusedVariables false
set_option linter.unusedSimpArgs false
namespace Go.Proofs.Ythndplpbnfihdaa
open Go.RowKit

def cells2 (ps : List (Value × Value)) : List Value := ps.flatMap fun p => [p.1, p.2]

theorem cells2_len (ps : List (Value × Value)) : (cells2 ps).length = ps.length * 2 := by
  induction ps with
  | nil => rfl
  | cons p ps ih => simp only [cells2, List.flatMap_cons, List.length_append, List.length_cons, List.length_nil] at *; omega
theorem cells2_cons (p : Value × Value) (ps : List (Value × Value)) : cells2 (p :: ps) = p.1 :: p.2 :: cells2 ps := rfl
theorem cells2_append (ps qs : List (Value × Value)) : cells2 (ps ++ qs) = cells2 ps ++ cells2 qs := by simp [cells2, List.flatMap_append]
theorem cells2_fst : ∀ (ps : List (Value × Value)) (j : Nat), (cells2 ps)[2 * j]? = ps[j]?.map (·.1)
  | [], j => by simp [cells2]
  | p :: ps, 0 => rfl
  | p :: ps, j + 1 => by rw [cells2_cons, show 2 * (j + 1) = 2 * j + 1 + 1 by omega, List.getElem?_cons_succ, List.getElem?_cons_succ, cells2_fst ps j]; rfl
theorem cells2_snd : ∀ (ps : List (Value × Value)) (j : Nat), (cells2 ps)[2 * j + 1]? = ps[j]?.map (·.2)
  | [], j => by simp [cells2]
  | p :: ps, 0 => rfl
  | p :: ps, j + 1 => by rw [cells2_cons, show 2 * (j + 1) + 1 = (2 * j + 1) + 1 + 1 by omega, List.getElem?_cons_succ, List.getElem?_cons_succ, cells2_snd ps j]; rfl
theorem cells2_take : ∀ (ps : List (Value × Value)) (k : Nat), (cells2 ps).take (k * 2) = cells2 (ps.take k)
  | [], k => by simp [cells2]
  | p :: ps, 0 => by simp [cells2]
  | p :: ps, k + 1 => by
    rw [cells2_cons, show (k + 1) * 2 = k * 2 + 1 + 1 by omega, List.take_succ_cons, List.take_succ_cons, cells2_take ps k]; rfl
theorem cells2_set2 : ∀ (ps : List (Value × Value)) (j : Nat) (a b : Value), ps[j]?.map (·.1) = some a → (cells2 ps).set (2 * j + 1) b = cells2 (ps.set j (a, b))
  | [], j, a, b, h => by simp at h
  | p :: ps, 0, a, b, h => by simp at h; subst h; rfl
  | p :: ps, j + 1, a, b, h => by
    rw [cells2_cons, show 2 * (j + 1) + 1 = (2 * j + 1) + 1 + 1 by omega, List.set_cons_succ, List.set_cons_succ, cells2_set2 ps j a b (by simpa using h)]; rfl

/-- A slice of two-celled elements that owns its row. -/
def Row2 (w : World) (e : TypeId) (v : Value) (ps : List (Value × Value)) : Prop := w.ownsRow 0 e 2 v ps.length (cells2 ps)

section
variable {F : Nat → Prop} {w w' : World} {e : TypeId} {v : Value} {ps : List (Value × Value)}

theorem Row2.nil (w : World) (e : TypeId) : Row2 w e (.slice none 0 0) [] := World.ownsRow_nil w 0 e 2

theorem Row2.shape (h : Row2 w e v ps) : ∃ A c, v = .slice A ps.length c ∧ ps.length ≤ c ∧ c ≤ maxLen ∧ (0 < ps.length → ∃ g, A = some ⟨g, 0, none⟩) ∧ (A = none → ps = [] ∧ c = 0) := by
  rcases h.2 with ⟨rfl, h0⟩ | ⟨g, cap, cur, rfl, _, _, h1, h2, _⟩
  · exact ⟨none, 0, by rw [h0], by omega, by decide, fun h => by omega, fun _ => ⟨List.eq_nil_of_length_eq_zero h0, rfl⟩⟩
  · exact ⟨_, cap, rfl, h1, h2, fun _ => ⟨g, rfl⟩, fun h => by cases h⟩

theorem Row2.chg (h : Row2 w e v ps) (hc : Chg F w w') (hn : ∀ g, v.ownBlock = some g → ¬ F g) : Row2 w' e v ps := by
  refine ⟨h.1, ?_⟩
  rcases h.2 with hnil | ⟨g, cap, cur, rfl, hb, hgg, rest⟩
  · exact .inl hnil
  · refine .inr ⟨g, cap, cur, rfl, hb, ?_, rest⟩
    rw [hc.block g (Array.getElem?_eq_some_iff.1 hgg).1 (hn g rfl)]
    exact hgg

theorem Row2.lt (h : Row2 w e v ps) {g : Nat} (hg : v.ownBlock = some g) : g < w.heap.size := (World.ownsRow.lt h g hg).2

theorem Row2.open_ {g n c : Nat} (h : Row2 w e (.slice (some ⟨g, 0, none⟩) n c) ps) :
    ∃ cur, n = ps.length ∧ Blk w g e cur ∧ ps.length ≤ c ∧ c ≤ maxLen ∧ cur.size = c * 2 ∧ cur.toList.take (ps.length * 2) = cells2 ps := by
  rcases h.2 with ⟨hv, _⟩ | ⟨g', cap, cur, hv, _, hgg, h1, h2, h3, h4⟩
  · cases hv
  · injection hv with e1 e2 e3
    injection e1 with e1
    injection e1 with e1
    subst e1 e2 e3
    exact ⟨cur, rfl, hgg, h1, h2, h3, h4⟩

theorem Row2.close {g c : Nat} {cur : Array Value} (hb : Blk w g e cur) (h1 : ps.length ≤ c) (h2 : c ≤ maxLen) (h3 : cur.size = c * 2) (h4 : cur.toList.take (ps.length * 2) = cells2 ps) :
    Row2 w e (.slice (some ⟨g, 0, none⟩) ps.length c) ps :=
  ⟨cells2_len ps, .inr ⟨g, c, cur, rfl, Nat.zero_le _, hb, h1, h2, h3, h4⟩⟩

theorem Row2.cell {g n c : Nat} (h : Row2 w e (.slice (some ⟨g, 0, none⟩) n c) ps) {j : Nat} {u : Value} (hu : (cells2 ps)[j]? = some u) : w.cell? ⟨g, j, none⟩ = some u := by
  have := World.ownsRow.cells h (g := g) rfl j u hu
  rwa [add_lit, Nat.zero_add] at this

theorem Row2.fst {g n c : Nat} (h : Row2 w e (.slice (some ⟨g, 0, none⟩) n c) ps) {j : Nat} {a b : Value} (hu : ps[j]? = some (a, b)) : w.cell? ⟨g, 2 * j, none⟩ = some a := h.cell (by rw [cells2_fst, hu]; rfl)
theorem Row2.snd {g n c : Nat} (h : Row2 w e (.slice (some ⟨g, 0, none⟩) n c) ps) {j : Nat} {a b : Value} (hu : ps[j]? = some (a, b)) : w.cell? ⟨g, 2 * j + 1, none⟩ = some b := h.cell (by rw [cells2_snd, hu]; rfl)

theorem Row2.frozen {g n c : Nat} (h : Row2 w e (.slice (some ⟨g, 0, none⟩) n c) ps) (j : Nat) : w.frozen? ⟨g, j, none⟩ = false := by
  obtain ⟨cur, _, hb, _⟩ := h.open_
  exact hb.frozen j

theorem Row2.set2 {g n c : Nat} (h : Row2 w e (.slice (some ⟨g, 0, none⟩) n c) ps) {j : Nat} {a b : Value} (hj : ps[j]? = some (a, b)) (u : Value) :
    Row2 (w.setCell ⟨g, 2 * j + 1, none⟩ u) e (.slice (some ⟨g, 0, none⟩) n c) (ps.set j (a, u)) := by
  obtain ⟨cur, rfl, hb, h1, h2, h3, h4⟩ := h.open_
  have := Row2.close (ps := ps.set j (a, u)) (hb.set_ (2 * j + 1) u) (c := c) (by simpa using h1) h2 (by simpa using h3) (by
    rw [Array.toList_setIfInBounds, List.take_set, List.length_set, h4, cells2_set2 ps j a u (by rw [hj]; rfl)])
  rwa [List.length_set] at this

theorem Row2.cut {g n c k : Nat} (h : Row2 w e (.slice (some ⟨g, 0, none⟩) n c) ps) (hk : k ≤ ps.length) : Row2 w e (.slice (some ⟨g, 0, none⟩) k c) (ps.take k) := by
  obtain ⟨cur, rfl, hb, h1, h2, h3, h4⟩ := h.open_
  have hl : (ps.take k).length = k := by simp; omega
  have := Row2.close (ps := ps.take k) (e := e) hb (c := c) (by rw [hl]; omega) h2 h3 (by
    rw [hl, ← cells2_take, ← h4, List.take_take, Nat.min_eq_left (by omega)])
  rwa [hl] at this

theorem Row2.ne_blk {t : TypeId} {cs : Array Value} {b : Nat} (h : Row2 w e v ps) (hb : Blk w b t cs) (hne : e ≠ t) : v.ownBlock ≠ some b := by
  rcases h.2 with ⟨rfl, _⟩ | ⟨g', cap, cur, rfl, _, hh, _⟩
  · simp [Value.ownBlock]
  · intro he
    have : g' = b := by simpa [Value.ownBlock] using he
    subst this
    exact Blk.ne_ (t := e) (t' := t) hh hb hne rfl
end

/-- t is a slice type of elements e of two cells. -/
structure SlT2 (P : Program) (t e : TypeId) (z : Value) (bytes : Nat) : Prop where
  ht : P.underlying t = some (.slice e)
  info : (P.info? e).map (fun i => (i.zero, i.size, i.bytes)) = some (some z, 2, bytes)
  hz : z.cells.size = 2
  hb : bytes ≤ 64

/-- append of elements that lie at a place. -/
theorem run_app2 {P : Program} {t e : TypeId} {z : Value} {bytes : Nat} {w : World} (T : SlT2 P t e z bytes) {v : Value} {ps : List (Value × Value)} (h : Row2 w e v ps) (ad : Addr) (m c : Nat) (hm : 0 < m) (news : List (Value × Value)) (hl : news.length = m)
    (hc : ∀ j u, (cells2 news)[j]? = some u → w.cell? (ad.add j) = some u) (h1 : ∀ u ∈ cells2 news, u.oneCell' = true) (hbig : ps.length + m ≤ 1000000) (ty : TypeId) :
    ∃ g' c' w', (Builtin.append_ #[t, t] ty #[v, .slice (some ad) m c]).run P w = .ok (.slice (some ⟨g', 0, none⟩) (ps.length + m) c') w' ∧ Row2 w' e (.slice (some ⟨g', 0, none⟩) (ps.length + m) c') (ps ++ news) ∧
      (v.ownBlock = some g' ∨ w.heap.size ≤ g') ∧ Chg (fun k => v.ownBlock = some k) w w' := by
  obtain ⟨i, hi, h0, hs, hby⟩ := info_parts T.info
  obtain ⟨v', w', hrun, h2, h3, h4, h5⟩ := run_append_own_at (P := P) w 0 t ty e i z 2 bytes T.ht hi h0 hs hby T.hz (by omega) v ps.length (cells2 ps) h ad m c (cells2 news) (by rw [cells2_len, hl]) hc h1
    (by unfold maxLen; omega) (by have := T.hb; have : (ps.length + m) * bytes ≤ 1000000 * 64 := Nat.mul_le_mul (by omega) this; omega) (Nat.zero_le _)
  rw [← cells2_append] at h2
  have hrow : Row2 w' e v' (ps ++ news) := by unfold Row2; rw [List.length_append, hl]; exact h2
  obtain ⟨A, c', rfl, _, _, hA, _⟩ := hrow.shape
  obtain ⟨g', rfl⟩ := hA (by rw [List.length_append, hl]; omega)
  rw [List.length_append, hl] at hrun hrow h5
  exact ⟨g', c', w', hrun, hrow, h5.imp (fun h => h.symm) (fun h => by simp [Value.ownBlock] at h; omega), (Chg.of_grown h3).mono fun k _ e => e.symm⟩


section
variable {P : Program} {ops : Array Oper} {Q : Exit → Act → World → Prop} {o : Oper} {rest : List Oper} {a : Act} {w : World} {t e : TypeId} {z : Value} {bytes : Nat}
theorem wpList_app2 (hgd : o.guard = none) (s x : Operand) (ho : o.op = .call { callee := .builtin .append, args := #[s, x], argTypes := #[t, t] }) (T : SlT2 P t e z bytes)
    (v : Value) (ps : List (Value × Value)) (hs : a.eval s = v) (h : Row2 w e v ps) (ad : Addr) (m c : Nat) (hm : 0 < m) (hx : a.eval x = .slice (some ad) m c) (news : List (Value × Value)) (hl : news.length = m)
    (hc : ∀ j u, (cells2 news)[j]? = some u → w.cell? (ad.add j) = some u) (h1 : ∀ u ∈ cells2 news, u.oneCell' = true) (hbig : ps.length + m ≤ 1000000)
    (hK : ∀ g' c' w', Row2 w' e (.slice (some ⟨g', 0, none⟩) (ps.length + m) c') (ps ++ news) → (v.ownBlock = some g' ∨ w.heap.size ≤ g') → Chg (fun k => v.ownBlock = some k) w w' →
      wpList P ops Q rest (a.put o.dst (.slice (some ⟨g', 0, none⟩) (ps.length + m) c')) w') : wpList P ops Q (o :: rest) a w := by
  obtain ⟨g', c', w', hrun, h2, h3, h4⟩ := run_app2 T h ad m c hm news hl hc h1 hbig o.type
  exact wpList_plain hgd fun _ hk => wp_append_ok s x t t ho _ _ hs hx _ _ hrun (hk _ _ (hK g' c' w' h2 h3 h4))

/-- One pair that lies in a new block. -/
theorem pair_cells {w : World} {b : Nat} {x y : Value} (hb : Blk w b e #[x, y]) : ∀ j u, (cells2 [(x, y)])[j]? = some u → w.cell? ((⟨b, 0, none⟩ : Addr).add j) = some u := by
  intro j u hj
  rw [add_lit, Nat.zero_add]
  refine hb.cell_ ?_
  match j, hj with
  | 0, hj => exact hj
  | 1, hj => exact hj
  | j + 2, hj => simp [cells2] at hj
end
end Go.Proofs.Ythndplpbnfihdaa
