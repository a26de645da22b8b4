/-
  (*node).half over trees: the node reads as the left half, the new one as the right. Conditions: a sound shape of from three to a million items.
-/
import Derived.Test.YthndplpbnfihdaaHf
set_option linter.unusedVariables false
set_option linter.unusedSimpArgs false
namespace Go.Proofs.Ythndplpbnfihdaa
open Go.RowKit

def Shape : (d : Nat) → Tr d → Prop
  | 0, _ => True
  | d + 1, (ks, ts) => ts.length = ks.length + 1

theorem Kids.shape {fan : Nat} : ∀ {d : Nat} {t : Tr d}, Kids fan d t → Shape d t
  | 0, _, _ => trivial
  | d + 1, (ks, ts), h => h.1

structure HalfPost (w : World) (d b : Nat) (t : Tr d) (fp : List Nat) (e : Ending) (w' : World) : Prop where
  out : ∃ b2 fp1 fp2, e = .returned (.tuple #[ptr b2, .string (halfT d t).2.1]) ∧ At w' d b (halfT d t).1 fp1 ∧ At w' d b2 (halfT d t).2.2 fp2 ∧ (fp1 ++ fp2).Nodup ∧
    (∀ k ∈ fp1, k ∈ fp) ∧ (∀ k ∈ fp2, k ∈ fp ∨ w.heap.size ≤ k) ∧ w.heap.size ≤ b2 ∧ Chg (fun k => k = b) w w'

theorem own_cut {w : World} {e : TypeId} {g n c : Nat} {xs : List Value} (h : Own w e (.slice (some ⟨g, 0, none⟩) n c) xs) {k : Nat} (hk : k ≤ xs.length) : Own w e (.slice (some ⟨g, 0, none⟩) k c) (xs.take k) := h.cut hk (by simp)

theorem strs_take (l : List ByteArray) (k : Nat) : (strs l).take k = strs (l.take k) := by simp [strs, List.map_take]
theorem nums_take (l : List Int) (k : Nat) : (nums l).take k = nums (l.take k) := by simp [nums, List.map_take]
theorem ptrs_take (l : List Nat) (k : Nat) : (ptrs l).take k = ptrs (l.take k) := by simp [ptrs, List.map_take]

theorem half_at {w : World} {b : Nat} {fp : List Nat} : ∀ {d : Nat} {t : Tr d}, At w d b t fp → fp.Nodup → Shape d t → 3 ≤ sizeT d t → sizeT d t ≤ 1000000 →
    Calls Try.prog 35 #[ptr b] w (HalfPost w d b t fp)
  | 0, l, ⟨vk, vr, hb, hk, hr, hfp⟩, hnd, _, h3, hbig => by
    have e3 : 3 ≤ l.length := h3
    have e4 : l.length ≤ 1000000 := hbig
    obtain ⟨Ak, ck, rfl, _⟩ := hk.shape
    obtain ⟨gk, _, rfl, _⟩ := hk.open_ (hk.some_of_pos (by simp [strs, keysT]; omega))
    obtain ⟨Ar, cr, rfl, _⟩ := hr.shape
    obtain ⟨gr, _, rfl, _⟩ := hr.open_ (hr.some_of_pos (by simp [nums, rowsT]; omega))
    have l1 : (strs (keysT l)).length = l.length := by simp [strs, keysT]
    have l2 : (nums (rowsT l)).length = l.length := by simp [nums, rowsT]
    rw [l1, l2] at hb
    rw [l1] at hk
    rw [l2] at hr
    simp only [Value.ownBlock, Option.toList_some, List.cons_append, List.nil_append] at hfp
    subst hfp
    refine (half_leaf w b gk ck gr cr l.length (l.length / 2) (keysT l) (rowsT l) (by simp [keysT]) (by simp [rowsT]) (by omega) rfl e4 hb hk hr).mono ?_
    rintro e w' ⟨b2, g1, c1, g2, c2, m, rfl, hm, n1, n2, n3, n4, n5, n6, hb1, hb2, ho1, ho2, hc⟩
    have hlt := At.lt (w := w) (d := 0) (b := b) (t := l) (fp := [b, gk, gr]) ⟨_, _, hb, hk, hr, by simp [Value.ownBlock]⟩
    have q1 := hlt b (by simp)
    have q2 := hlt gk (by simp)
    have q3 := hlt gr (by simp)
    simp only [List.nodup_cons, List.mem_cons, List.not_mem_nil, or_false, not_or, not_false_eq_true, List.nodup_nil, and_true] at hnd
    have hm' : (halfT 0 l).2.1 = m := by
      show (l[l.length / 2]?.map (·.1)).getD ByteArray.empty = m
      rw [keysT, List.getElem?_map] at hm
      rw [hm]; rfl
    have kl : (keysT l).length = l.length := by simp [keysT]
    refine ⟨b2, [b, gk, gr], [b2, g1, g2], by rw [hm'], ?_, ?_, ?_, fun k h => h, ?_, n1, hc⟩
    · refine ⟨_, _, hb1, ?_, ?_, by simp [Value.ownBlock]⟩
      · have := (own_cut hk (k := l.length / 2) (by rw [l1]; omega)).chg hc (fun g hg => by injection hg with hg; subst hg; exact fun h => hnd.1.1 h.symm)
        rw [strs_take] at this
        simpa [halfT, keysT, List.map_take] using this
      · have := (own_cut hr (k := l.length / 2) (by rw [l2]; omega)).chg hc (fun g hg => by injection hg with hg; subst hg; exact fun h => hnd.1.2 h.symm)
        rw [nums_take] at this
        simpa [halfT, rowsT, List.map_take] using this
    · refine ⟨_, _, hb2, ?_, ?_, by simp [Value.ownBlock]⟩
      · simpa [halfT, keysT, List.map_drop] using ho1
      · simpa [halfT, rowsT, List.map_drop] using ho2
    · simp only [List.cons_append, List.nil_append, List.nodup_cons, List.mem_cons, List.not_mem_nil, or_false, not_or, not_false_eq_true, List.nodup_nil, and_true]
      omega
    · intro k hk
      simp only [List.mem_cons, List.not_mem_nil, or_false] at hk
      omega
  | d + 1, (ks, ts), ⟨vk, gc, cc, cs, hb, hk, hr, hts, hcs, hfp⟩, hnd, hsh, h3, hbig => by
    have hsh' : ts.length = ks.length + 1 := hsh
    have e3 : 3 ≤ ts.length := h3
    have e4 : ts.length ≤ 1000000 := hbig
    have ecs : ts.length = cs.length := by rw [hts]; simp
    obtain ⟨Ak, ck, rfl, _⟩ := hk.shape
    obtain ⟨gk, _, rfl, _⟩ := hk.open_ (hk.some_of_pos (by simp [strs]; omega))
    have l1 : (strs ks).length = ks.length := by simp [strs]
    rw [l1] at hb hk
    simp only [Value.ownBlock, Option.toList_some, List.cons_append, List.nil_append] at hfp
    subst hfp
    have hlt := At.lt (w := w) (d := d + 1) (b := b) (t := (ks, ts)) (fp := b :: gk :: gc :: cs.flatMap (·.2.2)) ⟨_, gc, cc, cs, hb, hk, hr, hts, hcs, by simp [Value.ownBlock]⟩
    have q1 := hlt b (by simp)
    have q2 := hlt gk (by simp)
    have q3 := hlt gc (by simp)
    have hsplit : cs.flatMap (·.2.2) = (cs.take (ts.length / 2)).flatMap (·.2.2) ++ (cs.drop (ts.length / 2)).flatMap (·.2.2) := by
      conv => lhs; rw [← List.take_append_drop (ts.length / 2) cs]
      rw [List.flatMap_append]
    refine (half_inner w b gk ck gc cc ks.length cs.length (ts.length / 2) ks (cs.map (·.1)) rfl (by simp) (by omega) (by omega) (by rw [ecs]) (by omega) hb hk hr).mono ?_
    rintro e w' ⟨b2, g1, c1, g2, c2, m, rfl, hm, n1, n2, n3, n4, n5, n6, hb1, hb2, ho1, ho2, hc⟩
    have hm' : (halfT (d + 1) (ks, ts)).2.1 = m := by
      show (ks[ts.length / 2 - 1]?).getD ByteArray.empty = m
      rw [hm]; rfl
    have hnd' := hnd
    simp only [List.nodup_cons, List.mem_cons, not_or] at hnd
    obtain ⟨⟨d1, d2, d3⟩, ⟨d4, d5⟩, d6, d7⟩ := hnd
    have hk1 : ∀ x ∈ cs, At w' d x.1 x.2.1 x.2.2 := fun x hx => (hcs x hx).chg hc fun k hk e => by
      subst e; exact d3 (List.mem_flatMap.2 ⟨x, hx, hk⟩)
    refine ⟨b2, b :: gk :: gc :: (cs.take (ts.length / 2)).flatMap (·.2.2), b2 :: g1 :: g2 :: (cs.drop (ts.length / 2)).flatMap (·.2.2), by rw [hm'], ?_, ?_, ?_, ?_, ?_, n1, hc⟩
    · refine ⟨.slice (some ⟨gk, 0, none⟩) (ts.length / 2 - 1) ck, gc, cc, cs.take (ts.length / 2), ?_, ?_, ?_, ?_, fun x hx => hk1 x (List.mem_of_mem_take hx), by simp [Value.ownBlock]⟩
      · rw [show (cs.take (ts.length / 2)).length = ts.length / 2 by simp; omega]; exact hb1
      · have := (own_cut hk (k := ts.length / 2 - 1) (by rw [l1]; omega)).chg hc (fun g hg => by injection hg with hg; subst hg; exact fun h => d1 h.symm)
        rw [strs_take] at this
        exact this
      · have := (own_cut hr (k := ts.length / 2) (by simp [ptrs]; omega)).chg hc (fun g hg => by injection hg with hg; subst hg; exact fun h => d2 h.symm)
        rw [ptrs_take] at this
        rw [show (cs.take (ts.length / 2)).length = ts.length / 2 by simp; omega, List.map_take]; exact this
      · simp [hts, List.map_take]
    · refine ⟨.slice (some ⟨g1, 0, none⟩) (ks.length - ts.length / 2) c1, g2, c2, cs.drop (ts.length / 2), ?_, ?_, ?_, ?_, fun x hx => hk1 x (List.mem_of_mem_drop hx), by simp [Value.ownBlock]⟩
      · have e5 : (cs.drop (ts.length / 2)).length = (cs.map (·.1)).length - ts.length / 2 := by simp
        rw [e5]; exact hb2
      · exact ho1
      · have e5 : (cs.drop (ts.length / 2)).length = (cs.map (·.1)).length - ts.length / 2 := by simp
        rw [e5, List.map_drop]; exact ho2
      · simp [hts, List.map_drop]
    · rw [hsplit] at d3 d5 d6 d7 hnd'
      simp only [List.mem_append, not_or] at d3 d5 d6
      obtain ⟨x1, x2, x3⟩ := List.nodup_append.1 d7
      have hnew : ∀ k, w.heap.size ≤ k → k ∉ (cs.take (ts.length / 2)).flatMap (·.2.2) ∧ k ∉ (cs.drop (ts.length / 2)).flatMap (·.2.2) := by
        intro k hk
        constructor
        · intro h; have := hlt k (by rw [hsplit]; simp only [List.mem_cons, List.mem_append]; exact .inr (.inr (.inr (.inl h)))); omega
        · intro h; have := hlt k (by rw [hsplit]; simp only [List.mem_cons, List.mem_append]; exact .inr (.inr (.inr (.inr h)))); omega
      have m1 := hnew b2 n1
      have m2 := hnew g1 n2
      have m3 := hnew g2 n3
      simp only [List.cons_append, List.nodup_cons, List.mem_cons, List.mem_append, not_or]
      refine ⟨⟨d1, d2, d3.1, by omega, by omega, by omega, d3.2⟩, ⟨d4, d5.1, by omega, by omega, by omega, d5.2⟩, ⟨d6.1, by omega, by omega, by omega, d6.2⟩, ?_⟩
      refine List.nodup_append.2 ⟨x1, ?_, ?_⟩
      · simp only [List.nodup_cons, List.mem_cons, not_or]
        exact ⟨⟨n4, n5, m1.2⟩, ⟨n6, m2.2⟩, m3.2, x2⟩
      · intro a ha c hc'
        simp only [List.mem_cons] at hc'
        rcases hc' with rfl | rfl | rfl | hc'
        · intro e; subst e; exact m1.1 ha
        · intro e; subst e; exact m2.1 ha
        · intro e; subst e; exact m3.1 ha
        · exact x3 a ha c hc'
    · intro k hk
      rw [hsplit]
      simp only [List.mem_cons, List.mem_append] at hk ⊢
      rcases hk with h | h | h | h
      · exact .inl h
      · exact .inr (.inl h)
      · exact .inr (.inr (.inl h))
      · exact .inr (.inr (.inr (.inl h)))
    · intro k hk
      rw [hsplit]
      simp only [List.mem_cons, List.mem_append] at hk ⊢
      rcases hk with h | h | h | h
      · right; omega
      · right; omega
      · right; omega
      · exact .inl (.inr (.inr (.inr (.inr h))))

end Go.Proofs.Ythndplpbnfihdaa
