/-
  Put's closure over a whole tree. Conditions: the tree is sound and no wider than asked.
-/
import Derived.Test.YthndplpbnfihdaaPa
set_option linter.unusedVariables false
set_option linter.unusedSimpArgs false
namespace Go.Proofs.Ythndplpbnfihdaa
open Go.RowKit

theorem mem_two {α : Type} {l : List α} {i : Nat} {y z u : α} (h : u ∈ l.take i ++ [y] ++ z :: l.drop (i + 1)) : u = y ∨ u = z ∨ ∃ j, j ≠ i ∧ l[j]? = some u := by
  simp only [List.mem_append, List.mem_cons, List.not_mem_nil, or_false] at h
  rcases h with (h | h) | h | h
  · obtain ⟨j, hj⟩ := List.mem_iff_getElem?.1 h
    rw [List.getElem?_take] at hj
    split at hj
    · exact .inr (.inr ⟨j, by omega, hj⟩)
    · cases hj
  · exact .inl h
  · exact .inr (.inl h)
  · obtain ⟨j, hj⟩ := List.mem_iff_getElem?.1 h
    rw [List.getElem?_drop] at hj
    exact .inr (.inr ⟨i + 1 + j, by omega, hj⟩)

theorem At.split {w w3 w' : World} {d b bf : Nat} {ks ks' : List ByteArray} {fp : List Nat} {vk : Value} {g : Nat} {cs : List (Nat × Tr d × List Nat)} {i x b2 : Nat} {t t1 t2 : Tr d} {fpx fp1 fp2 : List Nat} {gk ck g' c' : Nat}
    (hAt : At w (d + 1) b (ks, cs.map (·.2.1)) fp) (hnd : fp.Nodup) (hf : bf ∉ fp)
    (hcs : ∀ x ∈ cs, At w d x.1 x.2.1 x.2.2) (hfp : fp = b :: (vk.ownBlock.toList ++ g :: cs.flatMap (·.2.2))) (hx : cs[i]? = some (x, t, fpx))
    (hC : Chg (fun k => k ∈ fpx ∨ k = bf) w w3) (hA1 : At w3 d x t1 fp1) (hA2 : At w3 d b2 t2 fp2) (hnd' : (fp1 ++ fp2).Nodup) (hsub : ∀ k ∈ fp1 ++ fp2, k ∈ fpx ∨ w.heap.size ≤ k)
    (hb' : Blk w' b 62 #[.slice (some ⟨gk, 0, none⟩) ks'.length ck, .slice none 0 0, .slice (some ⟨g', 0, none⟩) (cs.length + 1) c'])
    (hk' : Own w' 9 (.slice (some ⟨gk, 0, none⟩) ks'.length ck) (strs ks'))
    (hg' : Own w' 59 (.slice (some ⟨g', 0, none⟩) (cs.length + 1) c') (ptrs ((cs.map (·.1)).take (i + 1) ++ b2 :: (cs.map (·.1)).drop (i + 1))))
    (hgk : vk.ownBlock = some gk ∨ w3.heap.size ≤ gk) (hgg : g' = g ∨ w3.heap.size ≤ g') (hC' : Chg (fun k => k = b ∨ k = g ∨ vk.ownBlock = some k) w3 w') :
    ∃ fp', At w' (d + 1) b (ks', ((cs.map (·.2.1)).take i ++ [t1]) ++ t2 :: (cs.map (·.2.1)).drop (i + 1)) fp' ∧ fp'.Nodup ∧ (∀ k ∈ fp', k ∈ fp ∨ w.heap.size ≤ k) := by
  have I := inn hAt hnd hfp hx
  have hil : i < cs.length := (List.getElem?_eq_some_iff.1 hx).1
  have hmid := flat_mid (f := fun y : Nat × Tr d × List Nat => y.2.2) hx
  obtain ⟨cs', hcs'⟩ : ∃ cs' : List (Nat × Tr d × List Nat), cs' = cs.take i ++ [(x, t1, fp1)] ++ (b2, t2, fp2) :: cs.drop (i + 1) := ⟨_, rfl⟩
  have hfl : cs'.flatMap (·.2.2) = (cs.take i).flatMap (·.2.2) ++ (fp1 ++ fp2) ++ (cs.drop (i + 1)).flatMap (·.2.2) := by
    rw [hcs']; simp [List.flatMap_append, List.flatMap_cons]
  have hl' : cs'.length = cs.length + 1 := by rw [hcs']; simp; omega
  have hm1 : cs'.map (·.1) = (cs.map (·.1)).take (i + 1) ++ b2 :: (cs.map (·.1)).drop (i + 1) := by
    rw [hcs', List.take_add_one, List.getElem?_map, hx]
    simp [List.map_take, List.map_drop]
  have hm2 : ((cs.map (·.2.1)).take i ++ [t1]) ++ t2 :: (cs.map (·.2.1)).drop (i + 1) = cs'.map (·.2.1) := by
    rw [hcs']; simp [List.map_take, List.map_drop]
  have hgn : g' ≠ gk := fun e => hk'.ne_own hg' (by decide) (g := gk) rfl (by rw [e]; rfl)
  have hsz := hC.size
  have hm := fp_mid (b := b) (g := g) (g' := g') (s0 := w.heap.size) (s1 := w3.heap.size) (O := vk.ownBlock.toList) (O' := [gk]) (A := (cs.take i).flatMap (·.2.2)) (X := fpx) (B := (cs.drop (i + 1)).flatMap (·.2.2)) (N := fp1 ++ fp2)
    (by rw [← hmid, ← hfp]; exact hnd) (by rw [← hmid, ← hfp]; exact I.lt) hsz hnd' hsub (fun k hk => (List.mem_append.1 hk).elim (hA1.lt k) (hA2.lt k)) hgg
    (fun k hk => by simp at hk; subst hk; exact hgk.imp (fun h => by simp [h]) id) (by simp) (by simpa using hgn)
  rw [← hfl, ← hmid, ← hfp] at hm
  have nN : ∀ k ∈ fp1 ++ fp2, ¬ (k = b ∨ k = g ∨ vk.ownBlock = some k) := by
    intro k hk h
    have hb1 := I.lt b I.hb
    have hg1 := I.lt g I.hg
    rcases hsub k hk with h1 | h1
    · rcases h with rfl | rfl | h
      · exact I.hbx h1
      · exact I.hgx h1
      · exact I.hkx k h h1
    · rcases h with rfl | rfl | h
      · omega
      · omega
      · have := I.lt k (I.hk k h); omega
  rw [hm2]
  refine ⟨_, ⟨.slice (some ⟨gk, 0, none⟩) ks'.length ck, g', c', cs', ?_, hk', ?_, rfl, ?_, rfl⟩, hm.1, hm.2⟩
  · rw [hl']; exact hb'
  · rw [hl', hm1]; exact hg'
  · intro y hy
    rw [hcs'] at hy
    rcases mem_two hy with rfl | rfl | ⟨j, hne, hj⟩
    · exact At.chg hC' hA1 fun k hk => nN k (List.mem_append_left _ hk)
    · exact At.chg hC' hA2 fun k hk => nN k (List.mem_append_right _ hk)
    · refine At.chg hC' (At.chg hC (hcs y (List.mem_of_getElem? hj)) fun k hk => ?_) fun k hk => ?_
      · rintro (h | rfl)
        · exact (I.oth j y hj).2 hne k hk h
        · exact hf ((I.oth j y hj).1 _ hk).1
      · obtain ⟨h1, h2, h3, h4⟩ := (I.oth j y hj).1 k hk
        rintro (h | h | h)
        · exact h2 h
        · exact h3 h
        · exact h4 h

set_option maxHeartbeats 2000000 in
theorem put_at {fan : Nat} (hf4 : 4 ≤ fan) (hf64 : fan ≤ 64) (bk br bf bp bt tr : Nat) (key : ByteArray) (row : Int) : ∀ (d : Nat) (w : World) (b : Nat) (t : Tr d) (fp : List Nat) (f0 : Bool),
    At w d b t fp → fp.Nodup → Env w fp bk br bf bp bt tr key row fan → Blk w bf 4 #[.bool f0] → Sound fan d t → sizeT d t ≤ fan →
    Calls Try.prog 29 #[ptr b, ptr bk, ptr br, ptr bf, ptr bp, ptr bt] w (PutPost w d b bf t fp key row fan f0)
  | 0, w, b, l, fp, f0, h, hnd, he, hf, hs, hsz => put_at_leaf h hnd he hf hs.rise (by omega)
  | d + 1, w, b, (ks, ts), fp, f0, h, hnd, he, hf, hs, hsz => by
    have hAt := h
    obtain ⟨vk, g, c, cs, hb, hk, hg, hts, hcs, hfp⟩ := h
    subst hts
    have hlen : cs.length ≤ fan := by
      have : sizeT (d + 1) (ks, cs.map (·.2.1)) = cs.length := by simp [sizeT]
      omega
    have hks : ks.length + 1 = cs.length := by have := hs.kids.1; simp at this; omega
    have hway := hs.way key
    simp only [List.length_map] at hway
    obtain ⟨i, hi⟩ : ∃ i, wayT ks key = i := ⟨_, rfl⟩
    rw [hi] at hway
    obtain ⟨⟨x, t, fpx⟩, hx⟩ : ∃ x, cs[i]? = some x := ⟨_, List.getElem?_eq_getElem hway⟩
    have htx : (cs.map (·.2.1))[i]? = some t := by rw [List.getElem?_map, hx]; rfl
    obtain ⟨hsx, hsx1, hsx2⟩ := hs.child htx
    obtain ⟨p1, p2, p3, p4⟩ := put_sound hf4 key row d t hsx hsx2
    have hAx : At w d x t fpx := hcs _ (List.mem_of_getElem? hx)
    have I := inn hAt hnd hfp hx
    obtain ⟨Ak, ck, rfl, _⟩ := hk.shape
    have l1 : (strs ks).length = ks.length := by simp [strs]
    rw [l1] at hb hk hfp I
    have hcell : w.cell? ⟨g, i, none⟩ = some (ptr x) := hg.cell (by simp [ptrs, hx])
    have HW : Hid (Calls Try.prog 33 #[ptr b, .string key] w (fun e w' => e = .returned (.int .i64 i) ∧ ∃ q, w' = w.drewN q)) := by
      have := way_calls w b _ ks key (hb.cell_ rfl) hk hs.seps.1 (by omega)
      refine this.mono ?_
      rintro e w' ⟨h1, h2⟩
      rw [hi] at h1
      exact ⟨h1, h2⟩
    have he' : ∀ q, Env (w.drewN q) fpx bk br bf bp bt tr key row fan := fun q =>
      he.chg hf ((Chg.refl (fun _ => False) w).drewN q) (fun _ h _ => h.elim) fun k hk => .inl (I.hfx k hk)
    have HC : Hid (∀ q, Calls Try.prog 29 #[ptr x, ptr bk, ptr br, ptr bf, ptr bp, ptr bt] (w.drewN q) (PutPost (w.drewN q) d x bf t fpx key row fan f0)) := fun q =>
      put_at hf4 hf64 bk br bf bp bt tr key row d (w.drewN q) x t fpx f0 (hAx.drewN q) I.hndx (he' q) (hf.drewN q) hsx hsx2
    have hfr : freshT key (d + 1) (ks, cs.map (·.2.1)) = freshT key d t := by
      show freshT key d ((cs.map (·.2.1))[wayT ks key]?.getD default) = _
      rw [hi, htx]; rfl
    have hput : putT fan key row (d + 1) (ks, cs.map (·.2.1)) = (if fan < sizeT d (putT fan key row d t) then
        (ks.take i ++ (halfT d (putT fan key row d t)).2.1 :: ks.drop i, ((cs.map (·.2.1)).take i ++ [(halfT d (putT fan key row d t)).1]) ++ (halfT d (putT fan key row d t)).2.2 :: (cs.map (·.2.1)).drop (i + 1))
      else (ks, (cs.map (·.2.1)).set i (putT fan key row d t))) := by
      show (let i := wayT ks key; let t := putT fan key row d ((cs.map (·.2.1))[i]?.getD default); if fan < sizeT d t then _ else _) = _
      simp only [hi, htx, Option.getD_some]
    by_cases hhigh : fan < sizeT d (putT fan key row d t)
    · rw [if_pos hhigh] at hput
      refine (put_inner_high w d b bk br bf bp bt tr g cs.length c i x Ak ks.length ck t fpx fp ks (cs.map (·.1)) key row fan f0 hb hcell hway (by omega) he hf I.hfx I.hbx hf64 HW HC hk hg rfl (by simp) (by omega) (by omega)
        I.hkx I.hgx hAx.head p2.shape (by omega) (by omega) hhigh).mono ?_
      rintro e w' ⟨rfl, w3, b2, fp1, fp2, gk, ck', g', c', hA1, hA2, hnd', hsub, hC, hf3, hb', hk', hg', hgk, hgg, hC'⟩
      have hkl : (ks.take i ++ (halfT d (putT fan key row d t)).2.1 :: ks.drop i).length = ks.length + 1 := by simp; omega
      obtain ⟨fp', h1, h2, h3⟩ := At.split (ks' := ks.take i ++ (halfT d (putT fan key row d t)).2.1 :: ks.drop i) hAt hnd he.af hcs hfp hx hC hA1 hA2 hnd' hsub (by rw [hkl]; exact hb') (by rw [hkl]; exact hk') hg' hgk hgg hC'
      refine ⟨rfl, fp', by rw [hput]; exact h1, h2, h3, ?_, ?_⟩
      · rw [hfr]
        refine hf3.chg hC' ?_
        rintro (h | h | h)
        · exact he.af (h ▸ I.hb)
        · exact he.af (h ▸ I.hg)
        · exact he.af (I.hk _ h)
      · refine hC.mono (fun k _ h => ?_) |>.trans (hC'.mono fun k _ h => ?_)
        · exact h.imp (I.hfx k) id
        · rcases h with rfl | rfl | h
          · exact .inl I.hb
          · exact .inl I.hg
          · exact .inl (I.hk _ h)
    · rw [if_neg hhigh] at hput
      refine (put_inner_low w d b bk br bf bp bt tr g cs.length c i x (.slice Ak ks.length ck) t fpx fp ks key row fan f0 hb hcell hway (by omega) he hf I.hfx I.hbx hf64 HW HC hhigh).mono ?_
      rintro e w' ⟨rfl, q, p, w2, ⟨_, fpx', hA', hnd', hsub, hf', hC⟩, rfl⟩
      have hCw : Chg (fun k => k ∈ fpx ∨ k = bf) w (w2.drewN p) := (((Chg.refl _ w).drewN q).trans hC).drewN p
      obtain ⟨fp', h1, h2, h3, h4⟩ := At.swap hAt hnd hb hk hg hcs hfp hx hCw (fun k h => by rcases h with h | rfl; (exact .inl h); (exact .inr he.af)) (hA'.drewN p) hnd' hsub
      refine ⟨rfl, fp', by rw [hput]; exact h1, h2, h3, ?_, hCw.mono fun k _ h => h.imp (I.hfx k) id⟩
      rw [hfr]; exact hf'.drewN p
end Go.Proofs.Ythndplpbnfihdaa
