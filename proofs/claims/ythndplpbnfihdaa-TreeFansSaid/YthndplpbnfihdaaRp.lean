/-
  An inner node whose middle children are replaced by others; two neighbours made one. Conditions: the footprints stand apart.
-/
import Derived.Test.YthndplpbnfihdaaPb
import Derived.Test.YthndplpbnfihdaaPt
set_option linter.unusedVariables false
set_option linter.unusedSimpArgs false
namespace Go.Proofs.Ythndplpbnfihdaa
open Go.RowKit

abbrev flatF {d : Nat} (cs : List (Nat × Tr d × List Nat)) : List Nat := cs.flatMap (·.2.2)

theorem mem_flatF {d : Nat} {cs : List (Nat × Tr d × List Nat)} {y : Nat × Tr d × List Nat} (h : y ∈ cs) {k : Nat} (hk : k ∈ y.2.2) : k ∈ flatF cs := List.mem_flatMap.2 ⟨y, h, hk⟩

/-- How an inner node's blocks stand to some of its children's. -/
structure Innz (w : World) (d b : Nat) (fp : List Nat) (vk : Value) (g : Nat) (P M Q : List (Nat × Tr d × List Nat)) : Prop where
  lt : ∀ k ∈ fp, k < w.heap.size
  hb : b ∈ fp
  hg : g ∈ fp
  hk : ∀ k, vk.ownBlock = some k → k ∈ fp
  sub : ∀ k ∈ flatF M, k ∈ fp
  hbx : b ∉ flatF M
  hgx : g ∉ flatF M
  hkx : ∀ k, vk.ownBlock = some k → k ∉ flatF M
  hndx : (flatF M).Nodup
  bg : b ≠ g
  bk : vk.ownBlock ≠ some b
  gk : vk.ownBlock ≠ some g
  oth : ∀ y, y ∈ P ∨ y ∈ Q → ∀ k ∈ y.2.2, k ∈ fp ∧ k ≠ b ∧ k ≠ g ∧ vk.ownBlock ≠ some k ∧ k ∉ flatF M

theorem innz {w : World} {d b : Nat} {t : Tr (d + 1)} {fp : List Nat} {vk : Value} {g : Nat} {P M Q : List (Nat × Tr d × List Nat)} (h : At w (d + 1) b t fp) (hnd : fp.Nodup)
    (hfp : fp = b :: (vk.ownBlock.toList ++ g :: flatF (P ++ M ++ Q))) : Innz w d b fp vk g P M Q := by
  have hnd0 := hnd
  have hfl : flatF (P ++ M ++ Q) = flatF P ++ flatF M ++ flatF Q := by simp [flatF, List.flatMap_append]
  rw [hfl] at hfp
  rw [hfp] at hnd0
  simp only [List.nodup_cons, List.nodup_append, List.mem_append, List.mem_cons, not_or, Option.mem_toList] at hnd0
  obtain ⟨⟨h1, h2, ⟨h3, h3b⟩, h3c⟩, h4, ⟨⟨⟨h5, h5b⟩, h5c⟩, ⟨h6, h6b, h6c⟩, h6d, h6e⟩, h7⟩ := hnd0
  refine ⟨h.lt, by rw [hfp]; simp, by rw [hfp]; simp, fun k hk => by rw [hfp]; simp [hk], fun k hk => by rw [hfp]; simp [hk], h3b, h5b, fun k hk hk' => h7 k hk k (.inr (.inl (.inr hk'))) rfl, h6b, h2, h1, fun e => h7 g e g (.inl rfl) rfl, ?_⟩
  intro y hy k hk
  have hin : k ∈ flatF P ∨ k ∈ flatF Q := hy.imp (fun h => mem_flatF h hk) (fun h => mem_flatF h hk)
  refine ⟨?_, ?_, ?_, ?_, ?_⟩
  · rw [hfp]; rcases hin with h | h <;> simp [h]
  · rintro rfl; exact hin.elim h3 h3c
  · rintro rfl; exact hin.elim h5 h5c
  · intro e; exact h7 k e k (.inr (hin.elim (fun h => .inl (.inl h)) .inr)) rfl
  · intro hm
    rcases hin with h | h
    · exact h6c k h k hm rfl
    · exact h6e k (.inr hm) k h rfl

theorem At.replace {F : Nat → Prop} {w w3 w' : World} {d b : Nat} {ks' : List ByteArray} {ts : List (Tr d)} {fp : List Nat} {vk vk' : Value} {g g' c' : Nat} {P M N Q : List (Nat × Tr d × List Nat)} {t0 : Tr (d + 1)}
    (hAt : At w (d + 1) b t0 fp) (hnd : fp.Nodup)
    (hcs : ∀ y ∈ P ++ M ++ Q, At w d y.1 y.2.1 y.2.2) (hfp : fp = b :: (vk.ownBlock.toList ++ g :: flatF (P ++ M ++ Q)))
    (hC : Chg F w w3) (hF : ∀ k, F k → k ∈ flatF M ∨ k ∉ fp) (hN : ∀ y ∈ N, At w3 d y.1 y.2.1 y.2.2) (hnd' : (flatF N).Nodup) (hsub : ∀ k ∈ flatF N, k ∈ flatF M ∨ w.heap.size ≤ k)
    (hb' : Blk w' b 62 #[vk', .slice none 0 0, .slice (some ⟨g', 0, none⟩) (P ++ N ++ Q).length c'])
    (hk' : Own w' 9 vk' (strs ks'))
    (hg' : Own w' 59 (.slice (some ⟨g', 0, none⟩) (P ++ N ++ Q).length c') (ptrs ((P ++ N ++ Q).map (·.1))))
    (hts : ts = (P ++ N ++ Q).map (·.2.1))
    (hgk : ∀ k, vk'.ownBlock = some k → vk.ownBlock = some k ∨ w3.heap.size ≤ k) (hgg : g' = g ∨ w3.heap.size ≤ g') (hC' : Chg (fun k => k = b ∨ k = g ∨ vk.ownBlock = some k) w3 w') :
    ∃ fp', At w' (d + 1) b (ks', ts) fp' ∧ fp'.Nodup ∧ (∀ k ∈ fp', k ∈ fp ∨ w.heap.size ≤ k) := by
  have I := innz hAt hnd hfp
  have hfl : ∀ X : List (Nat × Tr d × List Nat), flatF (P ++ X ++ Q) = flatF P ++ flatF X ++ flatF Q := fun X => by simp [flatF, List.flatMap_append]
  have hgn : vk'.ownBlock ≠ some g' := fun e => hk'.ne_own hg' (by decide) (g := g') e rfl
  have hsz := hC.size
  have hltN : ∀ k ∈ flatF N, k < w3.heap.size := fun k hk => by
    obtain ⟨y, hy, hk⟩ := List.mem_flatMap.1 hk
    exact (hN y hy).lt k hk
  have hm := fp_mid (b := b) (g := g) (g' := g') (s0 := w.heap.size) (s1 := w3.heap.size) (O := vk.ownBlock.toList) (O' := vk'.ownBlock.toList) (A := flatF P) (X := flatF M) (B := flatF Q) (N := flatF N)
    (by rw [← hfl, ← hfp]; exact hnd) (by rw [← hfl, ← hfp]; exact I.lt) hsz hnd' hsub hltN hgg
    (fun k hk => by rw [Option.mem_toList] at hk; exact (hgk k hk).imp (fun h => by rw [Option.mem_toList]; exact h) id) (own_list_nodup _) (fun h => hgn (by rw [Option.mem_toList] at h; exact h))
  rw [← hfl, ← hfl, ← hfp] at hm
  have nN : ∀ k ∈ flatF N, ¬ (k = b ∨ k = g ∨ vk.ownBlock = some k) := by
    intro k hk h
    have hb1 := I.lt b I.hb
    have hg1 := I.lt g I.hg
    rcases hsub k hk with h1 | h1
    · rcases h with rfl | rfl | h
      · exact I.hbx h1
      · exact I.hgx h1
      · exact I.hkx k h h1
    · rcases h with rfl | rfl | h
      · omega
      · omega
      · have := I.lt k (I.hk k h); omega
  have old : ∀ y, y ∈ P ∨ y ∈ Q → At w' d y.1 y.2.1 y.2.2 := fun y hy => by
    have h0 : At w d y.1 y.2.1 y.2.2 := hcs y (by rcases hy with h | h <;> simp [h])
    refine At.chg hC' (At.chg hC h0 fun k hk hFk => ?_) fun k hk => ?_
    · obtain ⟨h1, _, _, _, h5⟩ := I.oth y hy k hk
      rcases hF k hFk with h | h
      · exact h5 h
      · exact h h1
    · obtain ⟨_, h2, h3, h4, _⟩ := I.oth y hy k hk
      rintro (h | h | h)
      · exact h2 h
      · exact h3 h
      · exact h4 h
  subst hts
  refine ⟨_, ⟨vk', g', c', P ++ N ++ Q, hb', hk', hg', rfl, ?_, rfl⟩, hm.1, hm.2⟩
  intro y hy
  rcases List.mem_append.1 hy with hy | hy
  · rcases List.mem_append.1 hy with hy | hy
    · exact old y (.inl hy)
    · exact At.chg hC' (hN y hy) fun k hk => nN k (mem_flatF hy hk)
  · exact old y (.inr hy)

theorem two_list {α : Type} {l : List α} {i : Nat} {x y : α} (hx : l[i]? = some x) (hy : l[i + 1]? = some y) : l = l.take i ++ [x, y] ++ l.drop (i + 2) := by
  conv => lhs; rw [← List.take_append_drop i l, drop_cons_of_get hx, drop_cons_of_get hy]
  simp

/-- Two neighbours' rows in one: a leaf. -/
theorem merge_leaf {w w3 : World} {a b : Nat} {ta tb : Tr 0} {fpa fpb : List Nat} {k : ByteArray} {v0 v1 u0 u1 : Value} (hfp : fpa = a :: (v0.ownBlock.toList ++ v1.ownBlock.toList)) (hlt : ∀ k ∈ fpa, k < w.heap.size)
    (hb : Blk w3 a 62 #[u0, u1, .slice none 0 0]) (hk : Own w3 9 u0 (strs (keysT ta ++ keysT tb))) (hr : Own w3 3 u1 (nums (rowsT ta ++ rowsT tb)))
    (h0 : ∀ k, u0.ownBlock = some k → v0.ownBlock = some k ∨ w.heap.size ≤ k) (h1 : ∀ k, u1.ownBlock = some k → v1.ownBlock = some k ∨ w.heap.size ≤ k) :
    ∃ fpm, At w3 0 a (mergeT k 0 ta tb) fpm ∧ fpm.Nodup ∧ ∀ k ∈ fpm, k ∈ fpa ∨ k ∈ fpb ∨ w.heap.size ≤ k := by
  refine ⟨a :: (u0.ownBlock.toList ++ u1.ownBlock.toList), ⟨u0, u1, hb, ?_, ?_, rfl⟩, ?_, ?_⟩
  · rw [show keysT (mergeT k 0 ta tb) = keysT ta ++ keysT tb from List.map_append ..]; exact hk
  · rw [show rowsT (mergeT k 0 ta tb) = rowsT ta ++ rowsT tb from List.map_append ..]; exact hr
  · have e0 : u0.ownBlock ≠ some a := hk.ne_blk hb (by decide)
    have e1 : u1.ownBlock ≠ some a := hr.ne_blk hb (by decide)
    simp only [List.nodup_cons, List.nodup_append, List.mem_append, not_or, Option.mem_toList]
    exact ⟨⟨e0, e1⟩, own_list_nodup _, own_list_nodup _, fun x hx y hy e => hk.ne_own hr (by decide) hx (e ▸ hy)⟩
  · intro x hx
    rw [hfp]
    simp only [List.mem_cons, List.mem_append, Option.mem_toList] at hx ⊢
    rcases hx with rfl | hx | hx
    · exact .inl (.inl rfl)
    · exact (h0 x hx).imp (fun h => .inr (.inl h)) .inr
    · exact (h1 x hx).imp (fun h => .inr (.inr h)) .inr

/-- Two neighbours' rows in one: an inner node. -/
theorem merge_inner {w w3 : World} {d a b : Nat} {ka kb : List ByteArray} {csa csb : List (Nat × Tr d × List Nat)} {ta tb : Tr (d + 1)} {fpa fpb : List Nat} {k : ByteArray} {v0 z0 u0 : Value} {ga gb g' c' : Nat}
    (hA : At w (d + 1) a ta fpa) (hB : At w (d + 1) b tb fpb) (hna : fpa.Nodup) (hnb : fpb.Nodup) (hap : ∀ x ∈ fpa, x ∉ fpb)
    (hta : ta = (ka, csa.map (·.2.1))) (htb : tb = (kb, csb.map (·.2.1)))
    (hca : ∀ x ∈ csa, At w d x.1 x.2.1 x.2.2) (hcb : ∀ x ∈ csb, At w d x.1 x.2.1 x.2.2)
    (hfa : fpa = a :: (v0.ownBlock.toList ++ ga :: flatF csa)) (hfb : fpb = b :: (z0.ownBlock.toList ++ gb :: flatF csb))
    (hb : Blk w3 a 62 #[u0, .slice none 0 0, .slice (some ⟨g', 0, none⟩) (csa.length + csb.length) c']) (hk : Own w3 9 u0 (strs (ka ++ [k] ++ kb)))
    (hg : Own w3 59 (.slice (some ⟨g', 0, none⟩) (csa.length + csb.length) c') (ptrs (csa.map (·.1) ++ csb.map (·.1))))
    (h0 : ∀ k, u0.ownBlock = some k → v0.ownBlock = some k ∨ w.heap.size ≤ k) (h2 : g' = ga ∨ w.heap.size ≤ g')
    (hC : Chg (fun k => k = a ∨ v0.ownBlock = some k ∨ k = ga) w w3) :
    ∃ fpm, At w3 (d + 1) a (mergeT k (d + 1) ta tb) fpm ∧ fpm.Nodup ∧ ∀ k ∈ fpm, k ∈ fpa ∨ k ∈ fpb ∨ w.heap.size ≤ k := by
  have Ia := innz (P := []) (M := csa) (Q := []) hA hna (by simpa using hfa)
  have Ib := innz (P := []) (M := csb) (Q := []) hB hnb (by simpa using hfb)
  subst hta htb
  have hgk : u0.ownBlock ≠ some g' := fun e => hk.ne_own hg (by decide) e rfl
  refine ⟨a :: (u0.ownBlock.toList ++ g' :: flatF (csa ++ csb)), ⟨u0, g', c', csa ++ csb, ?_, hk, ?_, ?_, ?_, rfl⟩, ?_, ?_⟩
  · rw [List.length_append]; exact hb
  · rw [List.length_append, List.map_append]; exact hg
  · show csa.map (·.2.1) ++ csb.map (·.2.1) = _
    rw [List.map_append]
  · intro y hy
    rcases List.mem_append.1 hy with hy | hy
    · refine At.chg hC (hca y hy) fun x hx => ?_
      have hx' := mem_flatF hy hx
      rintro (rfl | h | rfl)
      · exact Ia.hbx hx'
      · exact Ia.hkx x h hx'
      · exact Ia.hgx hx'
    · refine At.chg hC (hcb y hy) fun x hx => ?_
      have hx' := Ib.sub x (mem_flatF hy hx)
      rintro (rfl | h | rfl)
      · exact hap _ Ia.hb hx'
      · exact hap x (Ia.hk x h) hx'
      · exact hap _ Ia.hg hx'
  · have e0 : u0.ownBlock ≠ some a := hk.ne_blk hb (by decide)
    have e1 : g' ≠ a := fun e => hg.ne_blk hb (by decide) (by rw [← e]; rfl)
    have hfl : flatF (csa ++ csb) = flatF csa ++ flatF csb := by simp [flatF, List.flatMap_append]
    have nb : ∀ x ∈ flatF csb, x ∉ fpa := fun x hx h => hap x h (Ib.sub x hx)
    have new : ∀ x, x ∈ flatF csa ∨ x ∈ flatF csb → x < w.heap.size := fun x hx => hx.elim (fun h => Ia.lt x (Ia.sub x h)) (fun h => Ib.lt x (Ib.sub x h))
    rw [hfl]
    simp only [List.nodup_cons, List.nodup_append, List.mem_append, List.mem_cons, not_or, Option.mem_toList]
    refine ⟨⟨e0, fun e => e1 e.symm, Ia.hbx, fun h => nb a h Ia.hb⟩, own_list_nodup _, ⟨⟨?_, ?_⟩, Ia.hndx, Ib.hndx, fun x hx y hy e => nb y hy (e ▸ Ia.sub x hx)⟩, ?_⟩
    · intro h
      rcases h2 with rfl | h2
      · exact Ia.hgx h
      · have := new g' (.inl h); omega
    · intro h
      rcases h2 with rfl | h2
      · exact nb _ h Ia.hg
      · have := new g' (.inr h); omega
    · intro x hx y hy e
      subst e
      rcases hy with rfl | hy
      · exact hgk hx
      · rcases h0 x hx with h | h
        · exact hy.elim (Ia.hkx x h) (fun h' => nb x h' (Ia.hk x h))
        · have := new x hy; omega
  · intro x hx
    have hfl : flatF (csa ++ csb) = flatF csa ++ flatF csb := by simp [flatF, List.flatMap_append]
    rw [hfl] at hx
    simp only [List.mem_cons, List.mem_append, Option.mem_toList] at hx
    rcases hx with rfl | hx | rfl | hx | hx
    · exact .inl Ia.hb
    · exact (h0 x hx).imp (fun h => Ia.hk x h) .inr
    · exact h2.imp (fun h => by rw [h]; exact Ia.hg) .inr
    · exact .inl (Ia.sub x hx)
    · exact .inr (.inl (Ib.sub x hx))
end Go.Proofs.Ythndplpbnfihdaa
