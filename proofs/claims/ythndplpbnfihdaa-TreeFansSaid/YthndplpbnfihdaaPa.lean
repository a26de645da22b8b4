/-
  Put's closure over a whole tree. Conditions: the tree is sound and no wider than asked.
-/
import Derived.Test.YthndplpbnfihdaaPh
set_option linter.unusedVariables false
set_option linter.unusedSimpArgs false
namespace Go.Proofs.Ythndplpbnfihdaa
open Go.RowKit

/-- The way down from an inner node. -/
theorem Sound.child {fan d : Nat} {ks : List ByteArray} {ts : List (Tr d)} {i : Nat} {t : Tr d} (h : Sound fan (d + 1) (ks, ts)) (ht : ts[i]? = some t) : Sound fan d t ∧ fan / 2 ≤ sizeT d t ∧ sizeT d t ≤ fan := by
  obtain ⟨k1, k2, k3⟩ := h.kids.2 t (List.mem_of_getElem? ht)
  refine ⟨⟨k1, h.seps.2.2 t (List.mem_of_getElem? ht), ?_⟩, k2, k3⟩
  have hrs : Rising (keysT (ts.flatMap (toL d))) := h.rise
  rw [flatMap_split ht] at hrs
  exact (rising_append.1 (rising_append.1 hrs).2.1).1

theorem Sound.shape {fan d : Nat} {t : Tr d} (h : Sound fan d t) : Shape d t := h.kids.shape
theorem Sound.way {fan d : Nat} {ks : List ByteArray} {ts : List (Tr d)} (h : Sound fan (d + 1) (ks, ts)) (key : ByteArray) : wayT ks key < ts.length := by
  have := (way_spec h.seps.1 key).1
  have := h.kids.1
  omega

theorem own_list_nodup (v : Value) : v.ownBlock.toList.Nodup := by cases v.ownBlock <;> simp

theorem flat_mid {α : Type} {f : α → List Nat} {cs : List α} {i : Nat} {x : α} (h : cs[i]? = some x) : cs.flatMap f = (cs.take i).flatMap f ++ f x ++ (cs.drop (i + 1)).flatMap f := by
  conv => lhs; rw [← List.take_append_drop i cs, drop_cons_of_get h]
  simp [List.flatMap_append, List.flatMap_cons]

theorem flat_set {α : Type} {f : α → List Nat} {cs : List α} {i : Nat} {x y : α} (h : cs[i]? = some x) : (cs.set i y).flatMap f = (cs.take i).flatMap f ++ f y ++ (cs.drop (i + 1)).flatMap f := by
  rw [set_split h]
  simp [List.flatMap_append, List.flatMap_cons]

/-- How an inner node's blocks stand to one child's. -/
structure Inn (w : World) (d b : Nat) (fp : List Nat) (vk : Value) (g : Nat) (cs : List (Nat × Tr d × List Nat)) (i : Nat) (fpx : List Nat) : Prop where
  lt : ∀ k ∈ fp, k < w.heap.size
  hb : b ∈ fp
  hg : g ∈ fp
  hk : ∀ k, vk.ownBlock = some k → k ∈ fp
  hfx : ∀ k ∈ fpx, k ∈ fp
  hbx : b ∉ fpx
  hgx : g ∉ fpx
  hkx : ∀ k, vk.ownBlock = some k → k ∉ fpx
  hndx : fpx.Nodup
  oth : ∀ (j : Nat) (y : Nat × Tr d × List Nat), cs[j]? = some y → (∀ k ∈ y.2.2, k ∈ fp ∧ k ≠ b ∧ k ≠ g ∧ vk.ownBlock ≠ some k) ∧ (j ≠ i → ∀ k ∈ y.2.2, k ∉ fpx)

theorem flat_apart : ∀ (l : List (List Nat)), l.flatten.Nodup → ∀ (i j : Nat) (x y : List Nat), l[i]? = some x → l[j]? = some y → i ≠ j → ∀ k ∈ x, k ∉ y
  | [], _, _, _, _, _, h, _, _ => by cases h
  | z :: l, hnd, i, j, x, y, hi, hj, hne => by
    rw [List.flatten_cons, List.nodup_append] at hnd
    cases i with
    | zero => cases j with
      | zero => exact absurd rfl hne
      | succ j =>
        injection hi with hi; subst hi
        intro k hk hk'
        exact hnd.2.2 k hk k (List.mem_flatten.2 ⟨y, List.mem_of_getElem? (i := j) hj, hk'⟩) rfl
    | succ i => cases j with
      | zero =>
        injection hj with hj; subst hj
        intro k hk hk'
        exact hnd.2.2 k hk' k (List.mem_flatten.2 ⟨x, List.mem_of_getElem? (i := i) hi, hk⟩) rfl
      | succ j => exact flat_apart l hnd.2.1 i j x y hi hj (by omega)

theorem inn {w : World} {d b : Nat} {t : Tr (d + 1)} {fp : List Nat} {vk : Value} {g : Nat} {cs : List (Nat × Tr d × List Nat)} {i : Nat} {x : Nat × Tr d × List Nat} (h : At w (d + 1) b t fp) (hnd : fp.Nodup)
    (hfp : fp = b :: (vk.ownBlock.toList ++ g :: cs.flatMap (·.2.2))) (hx : cs[i]? = some x) : Inn w d b fp vk g cs i x.2.2 := by
  have hall : ∀ (j : Nat) (y : Nat × Tr d × List Nat), cs[j]? = some y → ∀ k ∈ y.2.2, k ∈ cs.flatMap (·.2.2) := fun j y hy k hk => List.mem_flatMap.2 ⟨y, List.mem_of_getElem? hy, hk⟩
  have hnd0 := hnd
  rw [hfp] at hnd0
  simp only [List.nodup_cons, List.nodup_append, List.mem_append, List.mem_cons, not_or, Option.mem_toList] at hnd0
  obtain ⟨⟨h1, h2, h3⟩, h4, ⟨h5, h6⟩, h7⟩ := hnd0
  have hfl : (cs.map (·.2.2)).flatten.Nodup := by rw [← List.flatMap_def]; exact h6
  refine ⟨h.lt, by rw [hfp]; simp, by rw [hfp]; simp, fun k hk => by rw [hfp]; simp [hk], fun k hk => by rw [hfp]; exact List.mem_cons_of_mem _ (List.mem_append_right _ (List.mem_cons_of_mem _ (hall _ _ hx k hk))),
    fun hk => h3 (hall _ _ hx _ hk), fun hk => h5 (hall _ _ hx _ hk), fun k hk hk' => h7 k hk k (.inr (hall _ _ hx _ hk')) rfl, ?_, ?_⟩
  · exact (List.nodup_iff_pairwise_ne.1 (List.Nodup.sublist (List.sublist_flatten_of_mem (List.mem_map.2 ⟨x, List.mem_of_getElem? hx, rfl⟩)) hfl))
  · intro j y hy
    refine ⟨fun k hk => ⟨by rw [hfp]; exact List.mem_cons_of_mem _ (List.mem_append_right _ (List.mem_cons_of_mem _ (hall _ _ hy k hk))), ?_, ?_, ?_⟩, fun hne => ?_⟩
    · rintro rfl; exact h3 (hall _ _ hy _ hk)
    · rintro rfl; exact h5 (hall _ _ hy _ hk)
    · intro e; exact h7 k e k (.inr (hall _ _ hy _ hk)) rfl
    · exact flat_apart _ hfl j i y.2.2 x.2.2 (by rw [List.getElem?_map, hy]; rfl) (by rw [List.getElem?_map, hx]; rfl) hne

theorem mem_of_set {α : Type} {l : List α} {i : Nat} {y z : α} (h : z ∈ l.set i y) : z = y ∨ ∃ j, j ≠ i ∧ l[j]? = some z := by
  obtain ⟨j, hj⟩ := List.mem_iff_getElem?.1 h
  rw [List.getElem?_set] at hj
  split at hj
  · split at hj
    · injection hj with hj; exact .inl hj.symm
    · cases hj
  · exact .inr ⟨j, by omega, hj⟩

/-- One child has changed. -/
theorem At.swap {F : Nat → Prop} {w w' : World} {d b : Nat} {ks : List ByteArray} {fp : List Nat} {vk : Value} {g c : Nat} {cs : List (Nat × Tr d × List Nat)} {i x : Nat} {t t' : Tr d} {fpx fpx' : List Nat}
    (hAt : At w (d + 1) b (ks, cs.map (·.2.1)) fp) (hnd : fp.Nodup)
    (hb : Blk w b 62 #[vk, .slice none 0 0, .slice (some ⟨g, 0, none⟩) cs.length c]) (hk : Own w 9 vk (strs ks)) (hg : Own w 59 (.slice (some ⟨g, 0, none⟩) cs.length c) (ptrs (cs.map (·.1))))
    (hcs : ∀ x ∈ cs, At w d x.1 x.2.1 x.2.2) (hfp : fp = b :: (vk.ownBlock.toList ++ g :: cs.flatMap (·.2.2))) (hx : cs[i]? = some (x, t, fpx))
    (hC : Chg F w w') (hF : ∀ k, F k → k ∈ fpx ∨ k ∉ fp) (hA' : At w' d x t' fpx') (hnd' : fpx'.Nodup) (hsub : ∀ k ∈ fpx', k ∈ fpx ∨ w.heap.size ≤ k) :
    ∃ fp', At w' (d + 1) b (ks, (cs.map (·.2.1)).set i t') fp' ∧ fp'.Nodup ∧ (∀ k ∈ fp', k ∈ fp ∨ w.heap.size ≤ k) ∧ fp' = b :: (vk.ownBlock.toList ++ g :: (cs.set i (x, t', fpx')).flatMap (·.2.2)) := by
  have I := inn hAt hnd hfp hx
  have nF : ∀ k, k ∈ fp → k ∉ fpx → ¬ F k := fun k h1 h2 h3 => (hF k h3).elim h2 (fun h => h h1)
  have hmid := flat_mid (f := fun y : Nat × Tr d × List Nat => y.2.2) hx
  have hset := flat_set (f := fun y : Nat × Tr d × List Nat => y.2.2) (y := (x, t', fpx')) hx
  have hx1 : (cs.map (·.1)).set i x = cs.map (·.1) := by
    have h1 : (cs.map (·.1))[i]? = some x := by rw [List.getElem?_map, hx]; rfl
    obtain ⟨h2, h3⟩ := List.getElem?_eq_some_iff.1 h1
    have h4 := List.set_getElem_self h2
    rw [h3] at h4; exact h4
  have hm := fp_mid (b := b) (g := g) (g' := g) (s0 := w.heap.size) (s1 := w'.heap.size) (O := vk.ownBlock.toList) (O' := vk.ownBlock.toList) (A := (cs.take i).flatMap (·.2.2)) (X := fpx) (B := (cs.drop (i + 1)).flatMap (·.2.2)) (N := fpx')
    (by rw [← hmid, ← hfp]; exact hnd) (by rw [← hmid, ← hfp]; exact I.lt) hC.size hnd' hsub hA'.lt (.inl rfl) (fun _ h => .inl h) (own_list_nodup _) (by
      have hnd0 := hnd
      rw [hfp] at hnd0
      simp only [List.nodup_cons, List.nodup_append, List.mem_append, List.mem_cons, not_or] at hnd0
      intro h
      exact hnd0.2.2.2 g h g (.inl rfl) rfl)
  rw [← hset, ← hmid, ← hfp] at hm
  refine ⟨_, ⟨vk, g, c, cs.set i (x, t', fpx'), ?_, hk.chg hC fun k hk1 => nF k (I.hk k hk1) (I.hkx k hk1), ?_, ?_, ?_, rfl⟩, hm.1, hm.2, rfl⟩
  · rw [List.length_set]; exact hb.chg hC (nF b I.hb I.hbx)
  · rw [List.length_set, List.map_set, hx1]
    exact hg.chg hC fun k hk1 => by simp [Value.ownBlock] at hk1; subst hk1; exact nF _ I.hg I.hgx
  · rw [List.map_set]
  · intro y hy
    rcases mem_of_set hy with rfl | ⟨j, hne, hj⟩
    · exact hA'
    · exact At.chg hC (hcs y (List.mem_of_getElem? hj)) fun k hk => nF k ((I.oth j y hj).1 k hk).1 ((I.oth j y hj).2 hne k hk)

end Go.Proofs.Ythndplpbnfihdaa
