/-
  The builtins append, copy and clear over rows that read as lists, as laws for a walk: in a plain region and as one step of a region that draws its order. Conditions: lists are short; it names no program.
-/
import Derived.Test.YthndplpbnfihdaaHp
import Derived.Maps.AppendAt
import Derived.Deep.RegionLaw
import Derived.Lib.AppendZerosOnto
import Derived.Lib.SliceRun
import Derived.Laws.IdiomCopy
import Derived.Lib.Overlaps
import Derived.Laws.Externs
set_option linter.unusedVariables false
set_option linter.unusedSimpArgs false
namespace Go.Proofs.Ythndplpbnfihdaa
open Go.RowKit

/-- t is a slice type of elements e of one cell. -/
structure SlT (P : Program) (t e : TypeId) (z : Value) (bytes : Nat) : Prop where
  ht : P.underlying t = some (.slice e)
  info : (P.info? e).map (fun i => (i.zero, i.size, i.bytes)) = some (some z, 1, bytes)
  hz : z.cells = #[z]
  hz1 : z.oneCell' = true
  hv : ∀ w, (zeroValue e).run P w = .ok z w
  hb : bytes ≤ 64

theorem SlT.size {P : Program} {t e : TypeId} {z : Value} {bytes : Nat} (T : SlT P t e z bytes) : (P.info? e).map (·.size) = some 1 := by
  obtain ⟨i, hi, h0, h1, h2⟩ := info_parts T.info
  rw [hi]; simp [h1]

def OneCells (xs : List Value) : Prop := ∀ u ∈ xs, u.oneCell' = true

theorem one_strings (l : List ByteArray) : OneCells (l.map Value.string) := by
  intro u hu; obtain ⟨x, _, rfl⟩ := List.mem_map.1 hu; rfl
theorem one_ints (l : List Int) : OneCells (l.map (Value.int .i64)) := by
  intro u hu; obtain ⟨x, _, rfl⟩ := List.mem_map.1 hu; rfl

section
variable {P : Program} {t e : TypeId} {z : Value} {bytes : Nat} {w : World}

theorem slice_of_own {v : Value} {xs : List Value} (h : Own w e v xs) : ∃ A c, v = .slice A xs.length c := by
  obtain ⟨A, c, h1, _⟩ := h.shape
  exact ⟨A, c, h1⟩

theorem run_app (T : SlT P t e z bytes) {v : Value} {xs : List Value} (h : Own w e v xs) {A : Option Addr} {m : Nat} {news : List Value} (hr : Reads w A m news) (h1 : OneCells news)
    (hbig : xs.length + m ≤ 1000000) (ty : TypeId) (c : Nat) :
    ∃ A' c' w', (Builtin.append_ #[t, t] ty #[v, .slice A m c]).run P w = .ok (.slice A' (xs.length + m) c') w' ∧ Own w' e (.slice A' (xs.length + m) c') (xs ++ news) ∧ w.grownBy w' v.ownBlock ∧
      ((Value.slice A' (xs.length + m) c').ownBlock = v.ownBlock ∨ (Value.slice A' (xs.length + m) c').ownBlock = some w.heap.size) ∧ (A' = none ↔ v = .slice none 0 0 ∧ m = 0) := by
  obtain ⟨i, hi, h0, hs, hby⟩ := info_parts T.info
  rcases Nat.eq_zero_or_pos m with hm | hm
  · subst hm
    have hn : news = [] := List.eq_nil_of_length_eq_zero hr.1
    subst hn
    obtain ⟨A', c', rfl⟩ := slice_of_own h
    have hrun : (Builtin.append_ #[t, t] ty #[.slice A' xs.length c', .slice A 0 c]).run P w = .ok (.slice A' xs.length c') w := by
      rcases A with _ | ad
      · rcases h.2 with ⟨hv, hx⟩ | ⟨g, cap, cur, hv, _, _, hnc, _⟩
        · injection hv with e1 e2 e3
          subst e1; subst e3
          rw [hx]
          simp [Builtin.append_, run_underlying T.ht, sizeOf, typeInfo, hi, Builtin.lenOf, Builtin.firstCells]
        · injection hv with e1 e2 e3
          subst e1; subst e3
          simp [Builtin.append_, run_underlying T.ht, sizeOf, typeInfo, hi, Builtin.lenOf, Builtin.firstCells, hnc, storeCells]
      · obtain ⟨v', w', hrun, h2, h3, h4, h5⟩ := run_append_own_at (P := P) w 0 t ty e i z 1 bytes T.ht hi h0 hs hby (by rw [T.hz]; rfl) (by omega) _ _ xs h ad 0 c [] rfl (by simp) (by simp) (by unfold maxLen; omega) (by have := T.hb; have : (xs.length + 0) * bytes ≤ 1000000 * 64 := Nat.mul_le_mul (by omega) this; omega) (Nat.zero_le _)
        have h6 : (Builtin.append_ #[t, t] ty #[.slice A' xs.length c', .slice (some ad) 0 c]).run P w = .ok (.slice A' xs.length c') w := by
          rcases h.2 with ⟨hv, hx⟩ | ⟨g, cap, cur, hv, _, _, hnc, _⟩
          · injection hv with e1 e2 e3
            subst e1; subst e3
            rw [hx]
            have hf := run_firstCells_some (P := P) w 1 0 ad 0 c [] rfl (by simp)
            simp [Builtin.append_, run_underlying T.ht, sizeOf, typeInfo, hi, Builtin.lenOf, hs, hf]
          · injection hv with e1 e2 e3
            subst e1; subst e3
            have hf := run_firstCells_some (P := P) w 1 0 ad 0 c [] rfl (by simp)
            simp [Builtin.append_, run_underlying T.ht, sizeOf, typeInfo, hi, Builtin.lenOf, hs, hf, hnc, storeCells]
        exact h6
    refine ⟨A', c', w, hrun, by simpa using h, World.grownBy.refl w _, .inl rfl, ?_⟩
    constructor
    · intro hA
      subst hA
      rcases h.2 with ⟨hv, hx⟩ | ⟨g, cap, cur, hv, _⟩
      · exact ⟨hv, rfl⟩
      · injection hv with e1; cases e1
    · rintro ⟨hv, _⟩
      injection hv
  · obtain ⟨ad, rfl, hc⟩ := hr.2 hm
    obtain ⟨v', w', hrun, h2, h3, h4, h5⟩ := run_append_own_at (P := P) w 0 t ty e i z 1 bytes T.ht hi h0 hs hby (by rw [T.hz]; rfl) (by omega) _ _ xs h ad m c news (by rw [hr.1]; omega) hc h1 (by unfold maxLen; omega) (by have := T.hb; have : (xs.length + m) * bytes ≤ 1000000 * 64 := Nat.mul_le_mul (by omega) this; omega) (Nat.zero_le _)
    have h2' : Own w' e v' (xs ++ news) := by
      unfold Own
      rw [List.length_append, hr.1]; exact h2
    obtain ⟨A', c', hv⟩ := slice_of_own h2'
    rw [List.length_append, hr.1] at hv
    subst hv
    refine ⟨A', c', w', hrun, h2', h3, h5, ?_⟩
    constructor
    · intro hA
      subst hA
      have := h2'.some_of_pos (by rw [List.length_append, hr.1]; omega)
      exact absurd rfl this
    · rintro ⟨_, h0⟩
      omega

/-- append(s, make([]T, k)...) that must grow. -/
theorem run_app_zeros (T : SlT P t e z bytes) {tn : TypeId} {kn : IntKind} (htn : P.underlying tn = some (.int kn)) {A : Option Addr} {n cap : Nat} {xs : List Value} (h : Own w e (.slice A n cap) xs) (k : Nat) (hk : 0 < k)
    (hg : cap < xs.length + k) (hbig : xs.length + k ≤ 1000000) (ty : TypeId) :
    ∃ c' w', (Builtin.append_ #[t, tn] ty #[.slice A n cap, .int .i64 k]).run P w = .ok (.slice (some ⟨w.heap.size, 0, none⟩) (xs.length + k) c') w' ∧
      Own w' e (.slice (some ⟨w.heap.size, 0, none⟩) (xs.length + k) c') (xs ++ List.replicate k z) ∧ w.grownBy w' none ∧ xs.length + k ≤ c' := by
  obtain ⟨i, hi, h0, hs, hby⟩ := info_parts T.info
  obtain ⟨A', c0, hv, _, _⟩ := h.shape
  injection hv with e1 e2 e3
  subst e1; subst e2; subst e3
  have hold : (Builtin.firstCells i.size xs.length (.slice A xs.length cap)).run P w.drew = .ok xs.toArray w.drew := by
    rw [hs]
    have hR : Reads w A xs.length xs := Reads.of_own h
    rcases Nat.eq_zero_or_pos xs.length with hm | hm
    · have hn : xs = [] := List.eq_nil_of_length_eq_zero hm
      subst hn
      rcases A with _ | ad
      · exact run_firstCells_none w.drew 1 0 0 cap
      · exact run_firstCells_some w.drew 1 0 ad 0 cap [] rfl (by simp)
    · obtain ⟨ad, rfl, hc⟩ := hR.2 hm
      exact run_firstCells_some w.drew 1 xs.length ad xs.length cap xs (by omega) (fun j v hj => hc j v hj)
  have hfit : Builtin.nextslicecap (xs.length + k) cap * i.bytes ≤ 281474976710656 :=
    growslice_fits hg (by rw [hby]; have := T.hb; have : (xs.length + k) * bytes ≤ 1000000 * 64 := Nat.mul_le_mul (by omega) this; omega)
  have hk48 : k * i.bytes ≤ 281474976710656 := by
    rw [hby]; have := T.hb; have : k * bytes ≤ 1000000 * 64 := Nat.mul_le_mul (by omega) this; omega
  have hrun := Lib.run_append_grow_zeros (P := P) w t tn ty e i z .i64 kn T.ht htn hi h0 A xs.length cap xs hold k hk (by omega) hg (by omega) hk48 hfit
  have hge := grownCap_ge w (xs.length + k) cap e
  refine ⟨_, _, hrun, ?_, ⟨rfl, rfl, rfl, by simp, fun j hj _ => Below.heap_alloc w.drew _ j hj⟩, hge⟩
  have hl : (xs ++ List.replicate k z).length = xs.length + k := by simp
  have hzl : (Builtin.zeroCells z.cells k).toList = List.replicate k z := by
    rw [T.hz]
    simp [Builtin.zeroCells]
    apply List.ext_getElem
    · simp
    · intro i h1 h2
      simp [Nat.mod_one]
  have := Own.close (w := w.drew.alloc (.cells (xs.toArray ++ Builtin.zeroCells z.cells k ++ Builtin.zeroCells z.cells (grownCap w (xs.length + k) cap e - (xs.length + k))) e)) (xs := xs ++ List.replicate k z) (e := e)
    (Blk.new w.drew e _) (c := grownCap w (xs.length + k) cap e) (by rw [hl]; exact hge) (grownCap_le_maxLen w _ _ _ (by unfold maxLen; omega)) (by simp [T.hz, Builtin.zeroCells]; omega)
    (by
      rw [hl]
      simp only [Array.toList_append, hzl]
      rw [List.take_append_of_le_length (by simp)]
      exact List.take_of_length_le (by simp))
  rw [hl] at this
  exact this

theorem setRow_grown (w : World) (g : Nat) (cs : Array Value) : w.grownBy (w.setRow g cs) (some g) :=
  ⟨rfl, rfl, rfl, by simp [World.setRow], fun k hk hn => setRow_other w g k cs (by intro e; exact hn (by rw [e]))⟩

/-- append within the capacity: in place. -/
theorem run_app_room (T : SlT P t e z bytes) {g n cap : Nat} {xs : List Value} (h : Own w e (.slice (some ⟨g, 0, none⟩) n cap) xs) {A : Option Addr} {m : Nat} {news : List Value} (hr : Reads w A m news) (h1 : OneCells news)
    (hm : A ≠ none ∨ 0 < m) (hroom : n + m ≤ cap) (ty : TypeId) (c : Nat) :
    ∃ w', (Builtin.append_ #[t, t] ty #[.slice (some ⟨g, 0, none⟩) n cap, .slice A m c]).run P w = .ok (.slice (some ⟨g, 0, none⟩) (n + m) cap) w' ∧
      Own w' e (.slice (some ⟨g, 0, none⟩) (n + m) cap) (xs ++ news) ∧ w.grownBy w' (some g) := by
  obtain ⟨i, hi, h0, hs, hby⟩ := info_parts T.info
  obtain ⟨ad, rfl, hc⟩ : ∃ ad, A = some ad ∧ ∀ j u, news[j]? = some u → w.cell? (ad.add j) = some u := by
    rcases Nat.eq_zero_or_pos m with hm0 | hm0
    · rcases A with _ | ad
      · rcases hm with h | h
        · exact absurd rfl h
        · omega
      · refine ⟨ad, rfl, fun j u hu => ?_⟩
        have : news = [] := List.eq_nil_of_length_eq_zero (by rw [hr.1, hm0])
        subst this; simp at hu
    · exact hr.2 hm0
  obtain ⟨g', cur, hg', rfl, hb, hl1, hl2, hl3, hl4⟩ := h.open_ (by simp)
  injection hg' with hg'; injection hg' with hg' _; subst hg'
  have hrun := run_append_room (P := P) w t ty e i T.ht hi g xs.length cap cur hb ad m c news (by rw [hr.1, hs]; omega) hc h1 hroom (by rw [hs, hr.1]; omega)
  refine ⟨_, hrun, ?_, setRow_grown _ _ _⟩
  have hl : (xs ++ news).length = xs.length + m := by rw [List.length_append, hr.1]
  have hx := Own.close (w := w.setRow g (cur.toList.take (xs.length * i.size) ++ news ++ cur.toList.drop (xs.length * i.size + news.length)).toArray) (xs := xs ++ news) (e := e) (setRow_heap w g _ _ e _ hb) (c := cap)
    (by rw [hl]; exact hroom) hl2 (by simp [hs, hr.1]; omega)
    (by
      simp only [hs, Nat.mul_one]
      rw [hl4, List.take_append_of_le_length (Nat.le_refl _)]
      exact List.take_of_length_le (Nat.le_refl _))
  rw [hl] at hx
  exact hx

/-- copy into a row. -/
theorem run_cpy (T : SlT P t e z bytes) {g n cap : Nat} {L : List Value} (h : Own w e (.slice (some ⟨g, 0, none⟩) n cap) L) {dp : Option Addr} {dLen dCap off : Nat} {A : Option Addr} {m : Nat} {cs : List Value}
    (hn : cs.length = Nat.min m dLen) (hd : 0 < cs.length → dp = some ⟨g, off, none⟩ ∧ ∃ ad, A = some ad ∧ ∀ j u, cs[j]? = some u → w.cell? (ad.add j) = some u) (h1 : OneCells cs) (hfit : off + cs.length ≤ L.length)
    (ty : TypeId) (c : Nat) :
    ∃ w', (Builtin.copy_ #[t, t] ty #[.slice dp dLen dCap, .slice A m c]).run P w = .ok (goInt cs.length) w' ∧
      Own w' e (.slice (some ⟨g, 0, none⟩) n cap) (splice L off cs) ∧ w.grownBy w' (some g) := by
  by_cases h0 : cs.length = 0
  · have hcs : cs = [] := List.eq_nil_of_length_eq_zero h0
    subst hcs
    have hrun := run_copy_none (P := P) w t t ty e dp A dLen dCap m c T.ht T.size (by simpa using hn.symm)
    exact ⟨w, hrun, by simpa [splice] using h, World.grownBy.refl w _⟩
  · obtain ⟨rfl, ad, rfl, hc⟩ := hd (by omega)
    obtain ⟨g', cur, hg', rfl, hb, hl1, hl2, hl3, hl4⟩ := h.open_ (by simp)
    injection hg' with hg'; injection hg' with hg' _; subst hg'
    have hrun := run_copy_row (P := P) w t t ty e g off dLen dCap ad m c cur e cs T.ht T.size hb hn hc (by omega) h1
    refine ⟨_, hrun, ?_, setRow_grown _ _ _⟩
    have hlen : (splice L off cs).length = L.length := length_splice L off cs hfit
    have hx := Own.close (w := w.setRow g (cur.toList.take off ++ cs ++ cur.toList.drop (off + cs.length)).toArray) (xs := splice L off cs) (e := e) (setRow_heap w g _ _ e _ hb) (c := cap)
      (by rw [hlen]; exact hl1) hl2 (by simp; omega)
      (by
        rw [hlen]
        simp only [splice]
        have hl4' : L = cur.toList.take L.length := hl4.symm
        have ht : cur.toList.take off = L.take off := take_of_prefix hl4 (by omega)
        rw [ht, List.append_assoc, List.take_append, List.take_append]
        have e1 : (L.take off).take L.length = L.take off := List.take_of_length_le (by simp; omega)
        have e2 : cs.take (L.length - (L.take off).length) = cs := List.take_of_length_le (by simp; omega)
        rw [e1, e2]
        congr 2
        have hlo : (L.take off).length = off := by simp; omega
        rw [hlo]
        conv => rhs; rw [hl4']
        rw [List.drop_take]
        congr 1
        omega)
    rw [hlen] at hx
    exact hx

/-- clear(s[n:n+m]) behind a row's elements. -/
theorem run_clr (T : SlT P t e z bytes) {g n cap : Nat} {L : List Value} (h : Own w e (.slice (some ⟨g, 0, none⟩) n cap) L) {m dCap : Nat} (hm : 0 < m) (hfit : n + m ≤ cap) (ty : TypeId) :
    ∃ w', (Builtin.clear_ #[t] ty #[.slice (some ⟨g, n, none⟩) m dCap]).run P w = .ok (.tuple #[]) w' ∧ Own w' e (.slice (some ⟨g, 0, none⟩) n cap) L ∧ w.grownBy w' (some g) := by
  obtain ⟨g', cur, hg', rfl, hb, hl1, hl2, hl3, hl4⟩ := h.open_ (by simp)
  injection hg' with hg'; injection hg' with hg' _; subst hg'
  have hrun := Lib.run_clear_slice (P := P) w t e ty z T.ht T.hv T.hz T.hz1 g L.length m dCap hm
    (fun j hj => by rw [hb.cell, Array.getElem?_eq_getElem (by omega)]; rfl) (fun j hj => hb.frozen _)
  have key : ∀ (k o : Nat) (w : World) (cur : Array Value), Blk w g e cur → L.length ≤ o → cur.size = cap → cur.toList.take L.length = L →
      ∃ cur', Blk (w.setCells g o (List.replicate k z)) g e cur' ∧ cur'.size = cap ∧ cur'.toList.take L.length = L ∧ w.grownBy (w.setCells g o (List.replicate k z)) (some g) := by
    intro k
    induction k with
    | zero => intro o w cur hb ho hs ht; exact ⟨cur, hb, hs, ht, World.grownBy.refl w _⟩
    | succ k ih =>
      intro o w cur hb ho hs ht
      have hb1 := hb.set_ o z
      obtain ⟨cur', a1, a2, a3, a4⟩ := ih (o + 1) _ _ hb1 (by omega) (by simpa using hs) (by
        rw [Array.toList_setIfInBounds, List.take_set_of_le (by omega)]; exact ht)
      rw [List.replicate_succ, World.setCells]
      refine ⟨cur', a1, a2, a3, ?_⟩
      refine ⟨a4.os, a4.tape, a4.output, Nat.le_trans (by simp [World.setCell]) a4.size, fun j hj hn => ?_⟩
      rw [a4.block j (by simpa [World.setCell] using hj) hn]
      exact Below.heap_setCell _ _ _ _ (by intro e; exact hn (by rw [e]))
  obtain ⟨cur', a1, a2, a3, a4⟩ := key m L.length w cur hb (Nat.le_refl _) hl3 hl4
  exact ⟨_, hrun, Own.close a1 hl1 hl2 a2 a3, a4⟩

end

/-! The laws for a walk -/
section
variable {P : Program} {w : World} {ops : Array Oper} {rest : List Oper} {o : Oper} {a : Act} {Q : Exit → Act → World → Prop} {K : Act → World → Prop}

theorem wp_append_ok (s x : Operand) (t tn : TypeId) (ho : o.op = .call { callee := .builtin .append, args := #[s, x], argTypes := #[t, tn] }) (vs vx : Value) (hs : a.eval s = vs) (hx : a.eval x = vx)
    (v' : Value) (w' : World) (hr : (Builtin.append_ #[t, tn] o.type #[vs, vx]).run P w = .ok v' w') (h : K (a.put o.dst v') w') : o.wp P a w K Q := by
  unfold Oper.wp execOp
  simp only [ho, resolve, invoke, builtin, Sem.run_bind, Sem.run_pure, Result.andThen_ok, List.map_toArray, List.map_cons, List.map_nil, hs, hx, hr]
  exact h

theorem wp_copy_ok (s x : Operand) (t tn : TypeId) (ho : o.op = .call { callee := .builtin .copy, args := #[s, x], argTypes := #[t, tn] }) (vs vx : Value) (hs : a.eval s = vs) (hx : a.eval x = vx)
    (v' : Value) (w' : World) (hr : (Builtin.copy_ #[t, tn] o.type #[vs, vx]).run P w = .ok v' w') (h : K (a.put o.dst v') w') : o.wp P a w K Q := by
  unfold Oper.wp execOp
  simp only [ho, resolve, invoke, builtin, Sem.run_bind, Sem.run_pure, Result.andThen_ok, List.map_toArray, List.map_cons, List.map_nil, hs, hx, hr]
  exact h

theorem wp_clear_ok (s : Operand) (t : TypeId) (ho : o.op = .call { callee := .builtin .clear, args := #[s], argTypes := #[t] }) (vs : Value) (hs : a.eval s = vs)
    (v' : Value) (w' : World) (hr : (Builtin.clear_ #[t] o.type #[vs]).run P w = .ok v' w') (h : K (a.put o.dst v') w') : o.wp P a w K Q := by
  unfold Oper.wp execOp
  simp only [ho, resolve, invoke, builtin, Sem.run_bind, Sem.run_pure, Result.andThen_ok, List.map_toArray, List.map_cons, List.map_nil, hs, hr]
  exact h

variable {t e : TypeId} {z : Value} {bytes : Nat}

theorem wpList_app (hgd : o.guard = none) (s x : Operand) (ho : o.op = .call { callee := .builtin .append, args := #[s, x], argTypes := #[t, t] }) (T : SlT P t e z bytes)
    (v : Value) (xs : List Value) (hs : a.eval s = v) (h : Own w e v xs) (A : Option Addr) (m c : Nat) (hx : a.eval x = .slice A m c) (news : List Value) (hr : Reads w A m news) (h1 : OneCells news) (hbig : xs.length + m ≤ 1000000)
    (hK : ∀ A' c' w', Own w' e (.slice A' (xs.length + m) c') (xs ++ news) → w.grownBy w' v.ownBlock →
      ((Value.slice A' (xs.length + m) c').ownBlock = v.ownBlock ∨ (Value.slice A' (xs.length + m) c').ownBlock = some w.heap.size) → (A' = none ↔ v = .slice none 0 0 ∧ m = 0) → wpList P ops Q rest (a.put o.dst (.slice A' (xs.length + m) c')) w') :
    wpList P ops Q (o :: rest) a w := by
  obtain ⟨A', c', w', hrun, h2, h3, h4, h5⟩ := run_app T h hr h1 hbig o.type c
  exact wpList_plain hgd fun _ hk => wp_append_ok s x t t ho _ _ hs hx _ _ hrun (hk _ _ (hK A' c' w' h2 h3 h4 h5))

theorem wpList_app_zeros (hgd : o.guard = none) (s x : Operand) (tn : TypeId) (ho : o.op = .call { callee := .builtin .append, args := #[s, x], argTypes := #[t, tn] }) (T : SlT P t e z bytes) {kn : IntKind} (htn : P.underlying tn = some (.int kn))
    (A : Option Addr) (n cap : Nat) (xs : List Value) (hs : a.eval s = .slice A n cap) (h : Own w e (.slice A n cap) xs) (k : Nat) (hx : a.eval x = .int .i64 k) (hk : 0 < k) (hg : cap < xs.length + k) (hbig : xs.length + k ≤ 1000000)
    (hK : ∀ c' w', Own w' e (.slice (some ⟨w.heap.size, 0, none⟩) (xs.length + k) c') (xs ++ List.replicate k z) → w.grownBy w' none → xs.length + k ≤ c' → wpList P ops Q rest (a.put o.dst (.slice (some ⟨w.heap.size, 0, none⟩) (xs.length + k) c')) w') :
    wpList P ops Q (o :: rest) a w := by
  obtain ⟨c', w', hrun, h2, h3, h4⟩ := run_app_zeros T htn h k hk hg hbig o.type
  exact wpList_plain hgd fun _ hk => wp_append_ok s x t tn ho _ _ hs hx _ _ hrun (hk _ _ (hK c' w' h2 h3 h4))

theorem wpList_cpy (hgd : o.guard = none) (s x : Operand) (ho : o.op = .call { callee := .builtin .copy, args := #[s, x], argTypes := #[t, t] }) (T : SlT P t e z bytes)
    (g n cap : Nat) (L : List Value) (h : Own w e (.slice (some ⟨g, 0, none⟩) n cap) L) (dp : Option Addr) (dLen dCap off : Nat) (A : Option Addr) (m c : Nat) (cs : List Value) (hs : a.eval s = .slice dp dLen dCap) (hx : a.eval x = .slice A m c)
    (hn : cs.length = Nat.min m dLen) (hd : 0 < cs.length → dp = some ⟨g, off, none⟩ ∧ ∃ ad, A = some ad ∧ ∀ j u, cs[j]? = some u → w.cell? (ad.add j) = some u) (h1 : OneCells cs) (hfit : off + cs.length ≤ L.length)
    (hK : ∀ w', Own w' e (.slice (some ⟨g, 0, none⟩) n cap) (splice L off cs) → w.grownBy w' (some g) → wpList P ops Q rest (a.put o.dst (goInt cs.length)) w') :
    wpList P ops Q (o :: rest) a w := by
  obtain ⟨w', hrun, h2, h3⟩ := run_cpy T h hn hd h1 hfit o.type c (dCap := dCap)
  exact wpList_plain hgd fun _ hk => wp_copy_ok s x t t ho _ _ hs hx _ _ hrun (hk _ _ (hK w' h2 h3))

theorem wpList_clr (hgd : o.guard = none) (s : Operand) (ho : o.op = .call { callee := .builtin .clear, args := #[s], argTypes := #[t] }) (T : SlT P t e z bytes)
    (g n cap : Nat) (L : List Value) (h : Own w e (.slice (some ⟨g, 0, none⟩) n cap) L) (m dCap : Nat) (hs : a.eval s = .slice (some ⟨g, n, none⟩) m dCap) (hm : 0 < m) (hfit : n + m ≤ cap)
    (hK : ∀ w', Own w' e (.slice (some ⟨g, 0, none⟩) n cap) L → w.grownBy w' (some g) → wpList P ops Q rest (a.put o.dst (.tuple #[])) w') :
    wpList P ops Q (o :: rest) a w := by
  obtain ⟨w', hrun, h2, h3⟩ := run_clr T h hm hfit o.type (dCap := dCap)
  exact wpList_plain hgd fun _ hk => wp_clear_ok s t ho _ hs _ _ hrun (hk _ _ (hK w' h2 h3))

variable {E : Prop}

theorem step_app (hgd : o.guard = none) (s x : Operand) (ho : o.op = .call { callee := .builtin .append, args := #[s, x], argTypes := #[t, t] }) (T : SlT P t e z bytes)
    (v : Value) (xs : List Value) (hs : a.eval s = v) (h : Own w e v xs) (A : Option Addr) (m c : Nat) (hx : a.eval x = .slice A m c) (news : List Value) (hr : Reads w A m news) (h1 : OneCells news) (hbig : xs.length + m ≤ 1000000)
    (hK : ∀ A' c' w', Own w' e (.slice A' (xs.length + m) c') (xs ++ news) → w.grownBy w' v.ownBlock →
      ((Value.slice A' (xs.length + m) c').ownBlock = v.ownBlock ∨ (Value.slice A' (xs.length + m) c').ownBlock = some w.heap.size) → (A' = none ↔ v = .slice none 0 0 ∧ m = 0) → K (a.put o.dst (.slice A' (xs.length + m) c')) w') :
    if Region.wanted o (yielded ops a.tmps) = true then Oper.wp P o a w K Q else E := by
  rw [if_pos (by simp [Region.wanted, hgd])]
  obtain ⟨A', c', w', hrun, h2, h3, h4, h5⟩ := run_app T h hr h1 hbig o.type c
  exact wp_append_ok s x t t ho _ _ hs hx _ _ hrun (hK A' c' w' h2 h3 h4 h5)

theorem step_app_room (hgd : o.guard = none) (s x : Operand) (ho : o.op = .call { callee := .builtin .append, args := #[s, x], argTypes := #[t, t] }) (T : SlT P t e z bytes)
    (g n cap : Nat) (xs : List Value) (hs : a.eval s = .slice (some ⟨g, 0, none⟩) n cap) (h : Own w e (.slice (some ⟨g, 0, none⟩) n cap) xs) (A : Option Addr) (m c : Nat) (hx : a.eval x = .slice A m c) (news : List Value) (hr : Reads w A m news) (h1 : OneCells news)
    (hm : A ≠ none ∨ 0 < m) (hroom : n + m ≤ cap)
    (hK : ∀ w', Own w' e (.slice (some ⟨g, 0, none⟩) (n + m) cap) (xs ++ news) → w.grownBy w' (some g) → K (a.put o.dst (.slice (some ⟨g, 0, none⟩) (n + m) cap)) w') :
    if Region.wanted o (yielded ops a.tmps) = true then Oper.wp P o a w K Q else E := by
  rw [if_pos (by simp [Region.wanted, hgd])]
  obtain ⟨w', hrun, h2, h3⟩ := run_app_room T h hr h1 hm hroom o.type c
  exact wp_append_ok s x t t ho _ _ hs hx _ _ hrun (hK w' h2 h3)

theorem step_cpy (hgd : o.guard = none) (s x : Operand) (ho : o.op = .call { callee := .builtin .copy, args := #[s, x], argTypes := #[t, t] }) (T : SlT P t e z bytes)
    (g n cap : Nat) (L : List Value) (h : Own w e (.slice (some ⟨g, 0, none⟩) n cap) L) (dp : Option Addr) (dLen dCap off : Nat) (A : Option Addr) (m c : Nat) (cs : List Value) (hs : a.eval s = .slice dp dLen dCap) (hx : a.eval x = .slice A m c)
    (hn : cs.length = Nat.min m dLen) (hd : 0 < cs.length → dp = some ⟨g, off, none⟩ ∧ ∃ ad, A = some ad ∧ ∀ j u, cs[j]? = some u → w.cell? (ad.add j) = some u) (h1 : OneCells cs) (hfit : off + cs.length ≤ L.length)
    (hK : ∀ w', Own w' e (.slice (some ⟨g, 0, none⟩) n cap) (splice L off cs) → w.grownBy w' (some g) → K (a.put o.dst (goInt cs.length)) w') :
    if Region.wanted o (yielded ops a.tmps) = true then Oper.wp P o a w K Q else E := by
  rw [if_pos (by simp [Region.wanted, hgd])]
  obtain ⟨w', hrun, h2, h3⟩ := run_cpy T h hn hd h1 hfit o.type c (dCap := dCap)
  exact wp_copy_ok s x t t ho _ _ hs hx _ _ hrun (hK w' h2 h3)

end
end Go.Proofs.Ythndplpbnfihdaa
