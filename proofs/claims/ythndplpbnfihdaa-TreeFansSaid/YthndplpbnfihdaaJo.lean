/-
  join: two children in one, or parted anew. Conditions: sound sizes.
-/
import Derived.Test.YthndplpbnfihdaaJn
set_option linter.unusedVariables false
set_option linter.unusedSimpArgs false
namespace Go.Proofs.Ythndplpbnfihdaa
open Go.RowKit

theorem set_two {α : Type} {l : List α} {i : Nat} (hi : i + 1 < l.length) (u v : α) : (l.set i u).set (i + 1) v = l.take i ++ [u, v] ++ l.drop (i + 2) := by
  apply List.ext_getElem?
  intro j
  simp only [List.getElem?_set, List.getElem?_append, List.length_append, List.length_take, List.length_cons, List.length_nil, List.getElem?_take, List.getElem?_drop, List.length_set]
  grind

theorem set_one {α : Type} {l : List α} {i : Nat} (hi : i + 1 < l.length) (u : α) : (l.set i u).take (i + 1) ++ (l.set i u).drop (i + 2) = l.take i ++ [u] ++ l.drop (i + 2) := by
  apply List.ext_getElem?
  intro j
  simp only [List.getElem?_set, List.getElem?_append, List.length_append, List.length_take, List.length_cons, List.length_nil, List.getElem?_take, List.getElem?_drop, List.length_set]
  grind

theorem take_one_drop {α : Type} {l : List α} {i : Nat} {x : α} (hx : l[i]? = some x) : l.take (i + 1) = l.take i ++ [x] := by
  rw [List.take_add_one, hx]; rfl

def JoinAt (w : World) (fan d x i : Nat) (ks : List ByteArray) (ts : List (Tr d)) (fp : List Nat) (e : Ending) (w' : World) : Prop :=
  e = .returned (.tuple #[]) ∧ ∃ fp', At w' (d + 1) x (joinT fan d ks ts i) fp' ∧ fp'.Nodup ∧ (∀ k ∈ fp', k ∈ fp ∨ w.heap.size ≤ k) ∧ Chg (fun k => k ∈ fp) w w'

/-- What join's walk leaves, as trees. -/
theorem join_end {w w' : World} {fan d x i g c gk m ck : Nat} {ks : List ByteArray} {fp : List Nat} {cs : List (Nat × Tr d × List Nat)} {a b : Nat} {ta tb tm : Tr d} {fpa fpb : List Nat} {key : ByteArray} {e : Ending}
    (hAt : At w (d + 1) x (ks, cs.map (·.2.1)) fp) (hnd : fp.Nodup) (hcs : ∀ y ∈ cs, At w d y.1 y.2.1 y.2.2) (hfp : fp = x :: ((Value.slice (some ⟨gk, 0, none⟩) m ck).ownBlock.toList ++ g :: flatF cs))
    (hxa : cs[i]? = some (a, ta, fpa)) (hxb : cs[i + 1]? = some (b, tb, fpb)) (hkey : ks[i]? = some key) (htm : mergeT key d ta tb = tm) (hl : cs.length = ks.length + 1)
    (hm : ks.length = m) (h : JoinPost w fan d x a i cs.length g c (.slice (some ⟨gk, 0, none⟩) m ck) ks (cs.map (·.1)) tm fpa fpb e w') : JoinAt w fan d x i ks (cs.map (·.2.1)) fp e w' := by
  obtain ⟨rfl, hhi, hlo⟩ := h
  have hi : i + 1 < cs.length := (List.getElem?_eq_some_iff.1 hxb).1
  have h2 := two_list hxa hxb
  obtain ⟨P, hP⟩ : ∃ P, cs.take i = P := ⟨_, rfl⟩
  obtain ⟨Q, hQ⟩ : ∃ Q, cs.drop (i + 2) = Q := ⟨_, rfl⟩
  have hM : flatF [(a, ta, fpa), (b, tb, fpb)] = fpa ++ fpb := by simp [flatF]
  have I := innz (P := cs.take i) (M := [(a, ta, fpa), (b, tb, fpb)]) (Q := cs.drop (i + 2)) hAt hnd (by rw [← h2]; exact hfp)
  have hjoin : joinT fan d ks (cs.map (·.2.1)) i = (if fan < sizeT d tm then (ks.set i (halfT d tm).2.1, ((cs.map (·.2.1)).set i (halfT d tm).1).set (i + 1) (halfT d tm).2.2)
      else (ks.take i ++ ks.drop (i + 1), ((cs.map (·.2.1)).set i tm).take (i + 1) ++ ((cs.map (·.2.1)).set i tm).drop (i + 2))) := by
    have e1 : (cs.map (·.2.1))[i]? = some ta := by rw [List.getElem?_map, hxa]; rfl
    have e2 : (cs.map (·.2.1))[i + 1]? = some tb := by rw [List.getElem?_map, hxb]; rfl
    show (let m := mergeT ((ks[i]?).getD ByteArray.empty) d (((cs.map (·.2.1))[i]?).getD default) (((cs.map (·.2.1))[i + 1]?).getD default); if fan < sizeT d m then _ else _) = _
    simp only [e1, e2, hkey, Option.getD_some, htm]
  have hsubC : ∀ (w3 : World), Chg (fun k => k ∈ fpa) w w3 → Chg (fun k => k = x ∨ k = g ∨ (Value.slice (some ⟨gk, 0, none⟩) m ck).ownBlock = some k) w3 w' → Chg (fun k => k ∈ fp) w w' := fun w3 h1 h3 =>
    (h1.mono fun k _ h => I.sub k (by rw [hM]; exact List.mem_append_left _ h)).trans (h3.mono fun k _ h => by
      rcases h with rfl | rfl | h
      · exact I.hb
      · exact I.hg
      · exact I.hk k h)
  have hlx : (cs.map (·.2.1)).length = cs.length := by simp
  by_cases hz : fan < sizeT d tm
  · obtain ⟨w3, b2, fp1, fp2, hA1, hA2, hnd2, hsub, hC, hX, hK, hG, hC'⟩ := hhi hz
    rw [if_pos hz] at hjoin
    unfold JoinAt
    rw [hjoin]
    have hN : cs.take i ++ [(a, (halfT d tm).1, fp1), (b2, (halfT d tm).2.2, fp2)] ++ cs.drop (i + 2) = (cs.set i (a, (halfT d tm).1, fp1)).set (i + 1) (b2, (halfT d tm).2.2, fp2) := (set_two hi _ _).symm
    have hlN : (cs.take i ++ [(a, (halfT d tm).1, fp1), (b2, (halfT d tm).2.2, fp2)] ++ cs.drop (i + 2)).length = cs.length := by rw [hN]; simp
    have h1N : (cs.take i ++ [(a, (halfT d tm).1, fp1), (b2, (halfT d tm).2.2, fp2)] ++ cs.drop (i + 2)).map (·.1) = (cs.map (·.1)).set (i + 1) b2 := by
      rw [hN, List.map_set, List.map_set]
      have : (cs.map (·.1)).set i a = cs.map (·.1) := by
        have h1 : (cs.map (·.1))[i]? = some a := by rw [List.getElem?_map, hxa]; rfl
        obtain ⟨h2, h3⟩ := List.getElem?_eq_some_iff.1 h1
        have h4 := List.set_getElem_self h2
        rw [h3] at h4; exact h4
      rw [this]
    have h2N : ((cs.map (·.2.1)).set i (halfT d tm).1).set (i + 1) (halfT d tm).2.2 = (cs.take i ++ [(a, (halfT d tm).1, fp1), (b2, (halfT d tm).2.2, fp2)] ++ cs.drop (i + 2)).map (·.2.1) := by
      rw [hN, List.map_set, List.map_set]
    have hfN : flatF [(a, (halfT d tm).1, fp1), (b2, (halfT d tm).2.2, fp2)] = fp1 ++ fp2 := by simp [flatF]
    obtain ⟨fp', r1, r2, r3⟩ := At.replace (N := [(a, (halfT d tm).1, fp1), (b2, (halfT d tm).2.2, fp2)]) (ks' := ks.set i (halfT d tm).2.1) (vk' := .slice (some ⟨gk, 0, none⟩) m ck) (g' := g) (c' := c) hAt hnd
      (by rw [← h2]; exact hcs) (by rw [← h2]; exact hfp) hC (fun k h => .inl (by rw [hM]; exact List.mem_append_left _ h))
      (fun y hy => by simp at hy; rcases hy with rfl | rfl; exact hA1; exact hA2) (by rw [hfN]; exact hnd2)
      (fun k hk => by
        rw [hfN] at hk
        rcases hsub k hk with h | h | h
        · exact .inl (by rw [hM]; exact List.mem_append_left _ h)
        · exact .inl (by rw [hM]; exact List.mem_append_right _ h)
        · exact .inr h)
      (by rw [hlN]; exact hX) hK (by rw [hlN, h1N]; exact hG) h2N (fun k h => .inl h) (.inl rfl) hC'
    exact ⟨rfl, fp', r1, r2, r3, hsubC w3 hC hC'⟩
  · obtain ⟨w3, fpm, gk', ck', g', c', hA, hndm, hsub, hC, hX, hK, hG, hgk, hgg, hC'⟩ := hlo hz
    rw [if_neg hz] at hjoin
    unfold JoinAt
    rw [hjoin]
    have hlN : (cs.take i ++ [(a, tm, fpm)] ++ cs.drop (i + 2)).length = cs.length - 1 := by simp; omega
    have h1N : (cs.take i ++ [(a, tm, fpm)] ++ cs.drop (i + 2)).map (·.1) = (cs.map (·.1)).take (i + 1) ++ (cs.map (·.1)).drop (i + 2) := by
      have h1 : (cs.map (·.1))[i]? = some a := by rw [List.getElem?_map, hxa]; rfl
      rw [take_one_drop h1]; simp [List.map_take, List.map_drop]
    have h2N : ((cs.map (·.2.1)).set i tm).take (i + 1) ++ ((cs.map (·.2.1)).set i tm).drop (i + 2) = (cs.take i ++ [(a, tm, fpm)] ++ cs.drop (i + 2)).map (·.2.1) := by
      rw [set_one (by rw [hlx]; exact hi)]; simp [List.map_take, List.map_drop]
    have hfN : flatF [(a, tm, fpm)] = fpm := by simp [flatF]
    have hkl : (ks.take i ++ ks.drop (i + 1)).length = ks.length - 1 := by simp; omega
    obtain ⟨fp', r1, r2, r3⟩ := At.replace (N := [(a, tm, fpm)]) (ks' := ks.take i ++ ks.drop (i + 1)) (vk' := .slice (some ⟨gk', 0, none⟩) (ks.length - 1) ck') (g' := g') (c' := c') hAt hnd
      (by rw [← h2]; exact hcs) (by rw [← h2]; exact hfp) hC (fun k h => .inl (by rw [hM]; exact List.mem_append_left _ h))
      (fun y hy => by simp at hy; rw [hy]; exact hA) (by rw [hfN]; exact hndm)
      (fun k hk => by
        rw [hfN] at hk
        rcases hsub k hk with h | h | h
        · exact .inl (by rw [hM]; exact List.mem_append_left _ h)
        · exact .inl (by rw [hM]; exact List.mem_append_right _ h)
        · exact .inr h)
      (by rw [hlN]; exact hX) hK (by rw [hlN, h1N]; exact hG) h2N (fun k h => by
        have h' : k = gk' := by simp [Value.ownBlock] at h; exact h.symm
        rw [h']; exact hgk) hgg hC'
    exact ⟨rfl, fp', r1, r2, r3, hsubC w3 hC hC'⟩

theorem kids_shape_merge {fan : Nat} {key : ByteArray} : ∀ {d : Nat} {a b : Tr d}, Kids fan d a → Kids fan d b → Shape d (mergeT key d a b) ∧ sizeT d (mergeT key d a b) = sizeT d a + sizeT d b
  | 0, a, b, _, _ => ⟨trivial, List.length_append⟩
  | d + 1, (ka, ta), (kb, tb), h1, h2 => by
    have e1 : ta.length = ka.length + 1 := h1.1
    have e2 : tb.length = kb.length + 1 := h2.1
    refine ⟨?_, List.length_append⟩
    show (ta ++ tb).length = (ka ++ [key] ++ kb).length + 1
    simp; omega

theorem join_at {w : World} {fan tr x : Nat} {tn root : Value} : ∀ {d : Nat} {ks : List ByteArray} {ts : List (Tr d)} {fp : List Nat} (i : Nat) (h4 : 4 ≤ fan) (h64 : fan ≤ 64) (htr : Blk w tr 64 #[.int .i64 fan, tn, root]) (ntr : tr ∉ fp)
    (hAt : At w (d + 1) x (ks, ts) fp) (hnd : fp.Nodup) (hl : ts.length = ks.length + 1) (hi : i + 1 < ts.length) (hn : ts.length ≤ 1000) (hk : ∀ t ∈ ts, Kids fan d t ∧ sizeT d t ≤ fan),
    Calls Try.prog 42 #[ptr tr, ptr x, .int .i64 i] w (JoinAt w fan d x i ks ts fp) := by
  intro d ks ts fp i h4 h64 htr ntr hAt hnd hl hi hn hk
  have hAt0 := hAt
  obtain ⟨vk, g, c, cs, hb, hks, hg, hts, hcs, hfp⟩ := hAt
  subst hts
  rw [List.length_map] at hl hi hn
  obtain ⟨⟨a, ta, fpa⟩, hxa⟩ : ∃ y, cs[i]? = some y := ⟨_, List.getElem?_eq_getElem (by omega)⟩
  obtain ⟨⟨b, tb, fpb⟩, hxb⟩ : ∃ y, cs[i + 1]? = some y := ⟨_, List.getElem?_eq_getElem hi⟩
  obtain ⟨key, hkey⟩ : ∃ key, ks[i]? = some key := ⟨_, List.getElem?_eq_getElem (by omega)⟩
  have lk : (strs ks).length = ks.length := by simp [strs]
  obtain ⟨Ak, ck, rfl, _⟩ := hks.shape
  obtain ⟨gk, _, rfl, _⟩ := hks.open_ (hks.some_of_pos (by rw [lk]; omega))
  rw [lk] at hb hks hfp
  have hAa : At w d a ta fpa := hcs _ (List.mem_of_getElem? hxa)
  have hAb : At w d b tb fpb := hcs _ (List.mem_of_getElem? hxb)
  have hMa : ta ∈ cs.map (·.2.1) := List.mem_map.2 ⟨_, List.mem_of_getElem? hxa, rfl⟩
  have hMb : tb ∈ cs.map (·.2.1) := List.mem_map.2 ⟨_, List.mem_of_getElem? hxb, rfl⟩
  obtain ⟨kka, ksa⟩ := hk _ hMa
  obtain ⟨kkb, ksb⟩ := hk _ hMb
  obtain ⟨hsh, hsz⟩ := kids_shape_merge (key := key) kka kkb
  have h2 := two_list hxa hxb
  have hM : flatF [(a, ta, fpa), (b, tb, fpb)] = fpa ++ fpb := by simp [flatF]
  have I := innz (P := cs.take i) (M := [(a, ta, fpa), (b, tb, fpb)]) (Q := cs.drop (i + 2)) hAt0 hnd (by rw [← h2]; exact hfp)
  have hnd2 := I.hndx
  rw [hM] at hnd2
  obtain ⟨nda, ndb, ndab⟩ := List.nodup_append.1 hnd2
  have hap : ∀ k ∈ fpa, k ∉ fpb := fun k h1 h2 => ndab k h1 k h2 rfl
  have inM : ∀ k ∈ fpa, k ∈ flatF [(a, ta, fpa), (b, tb, fpb)] := fun k h => by rw [hM]; exact List.mem_append_left _ h
  have nx : x ∉ fpa := fun h => I.hbx (inM _ h)
  have ng : g ∉ fpa := fun h => I.hgx (inM _ h)
  have nk : gk ∉ fpa := fun h => I.hkx gk rfl (inM _ h)
  have ntr' : tr ∉ fpa := fun h => ntr (I.sub _ (inM _ h))
  have hsb : ∀ k ∈ fpb, k ∉ fpa := fun k h1 h2 => hap k h2 h1
  have hmm := fun w' => join_end (w' := w') (e := .returned (.tuple #[])) (fpa := fpa) (fpb := fpb) (fan := fan) (c := c) hAt0 hnd hcs hfp hxa hxb hkey rfl (by omega) rfl
  cases d with
  | zero =>
    obtain ⟨va, ra, ba, oa, pa, fa⟩ := hAa
    obtain ⟨vb, rb, bb, ob, pb, fb⟩ := hAb
    obtain ⟨A0, c0, rfl, _⟩ := oa.shape
    obtain ⟨A1, c1, rfl, _⟩ := pa.shape
    obtain ⟨B0, e0, rfl, _⟩ := ob.shape
    obtain ⟨B1, e1, rfl, _⟩ := pb.shape
    have l1 : (strs (keysT ta)).length = ta.length := by simp [strs, keysT]
    have l2 : (nums (rowsT ta)).length = ta.length := by simp [nums, rowsT]
    have l3 : (strs (keysT tb)).length = tb.length := by simp [strs, keysT]
    have l4 : (nums (rowsT tb)).length = tb.length := by simp [nums, rowsT]
    have sa : ta.length ≤ fan := ksa
    have sb : tb.length ≤ fan := ksb
    have hlta : ∀ k ∈ fpa, k < w.heap.size := (hcs _ (List.mem_of_getElem? hxa)).lt
    have na : ∀ k, k = a ∨ (Value.slice A0 (strs (keysT ta)).length c0).ownBlock = some k ∨ (Value.slice A1 (nums (rowsT ta)).length c1).ownBlock = some k → k ∈ fpa := fun k h => by
      rw [fa]; simp only [List.mem_cons, List.mem_append, Option.mem_toList]; exact h
    have nb : ∀ k, k = b ∨ (Value.slice B0 (strs (keysT tb)).length e0).ownBlock = some k ∨ (Value.slice B1 (nums (rowsT tb)).length e1).ownBlock = some k → k ∉ fpa := fun k h => by
      refine hsb k ?_
      rw [fb]; simp only [List.mem_cons, List.mem_append, Option.mem_toList]; exact h
    refine (join_walk w fan 0 tr x a b g gk cs.length c i ks.length ck tn root ks (cs.map (·.1)) A0 A1 none B0 B1 none _ _ 0 c0 c1 0 _ _ 0 e0 e1 0 (keysT ta) (keysT tb) [] (rowsT ta) (rowsT tb) [] [] key (mergeT key 0 ta tb) fpa fpb
      htr hb hks hg ba bb oa pa (Own.nil _ _) ob pb (Own.nil _ _) rfl (by simp) (by simp [strs]) (by simp [nums]) rfl (by simp [strs]) (by simp [nums]) rfl (by omega) hi hn (by omega) (by omega) (by omega) (by omega) (by omega) (by omega) h64
      hkey (by rw [List.getElem?_map, hxa]; rfl) (by rw [List.getElem?_map, hxb]; rfl) (.inl ⟨rfl, rfl⟩) (na a (.inl rfl)) (fun k h => na k (.inr (.inl h))) (fun k h => na k (.inr (.inr h))) (fun k h => by cases h)
      nx ng nk ntr' (nb b (.inl rfl)) (fun k h => nb k (.inr (.inl h))) (fun k h => nb k (.inr (.inr h))) (fun k h => by cases h) ?_ hsh (fun _ => by omega) (by omega)).mono fun e w' h => ?_
    · intro w3 X0 X1 X2 q0 q1 q2 y0 y1 y2 hB3 o0 o1 o2 z1 z2 m0 m1 m2 hC
      have hX2 : X2 = none := z2.2 ⟨rfl, rfl⟩
      subst hX2
      have hv2 : Value.slice none q2 y2 = .slice none 0 0 := by
        rcases o2.2 with ⟨hv, _⟩ | ⟨g', cap, cur, hv, _⟩
        · exact hv
        · cases hv
      rw [hv2] at hB3
      rw [List.append_nil] at o0
      exact merge_leaf (b := b) fa hlta hB3 o0 o1 m0 m1
    · have he : e = .returned (.tuple #[]) := h.1
      subst he
      exact hmm _ h
  | succ d =>
    obtain ⟨ka, tas⟩ := ta
    obtain ⟨kb, tbs⟩ := tb
    have hAa0 := hAa
    have hAb0 := hAb
    obtain ⟨va, ga, ca, csa, ba, oa, pa, hta, hca, fa⟩ := hAa
    obtain ⟨vb, gb, cb, csb, bb, ob, pb, htb, hcb, fb⟩ := hAb
    obtain ⟨A0, c0, rfl, _⟩ := oa.shape
    obtain ⟨B0, e0, rfl, _⟩ := ob.shape
    subst hta htb
    have l1 : (strs ka).length = ka.length := by simp [strs]
    have l3 : (strs kb).length = kb.length := by simp [strs]
    have q1 : csa.length = ka.length + 1 := by have := kka.1; simpa using this
    have q2 : csb.length = kb.length + 1 := by have := kkb.1; simpa using this
    have sa : csa.length ≤ fan := by simpa [sizeT] using ksa
    have sb : csb.length ≤ fan := by simpa [sizeT] using ksb
    have na : ∀ k, k = a ∨ (Value.slice A0 (strs ka).length c0).ownBlock = some k ∨ k = ga → k ∈ fpa := fun k h => by
      rw [fa]; simp only [List.mem_cons, List.mem_append, Option.mem_toList]
      rcases h with h | h | h
      · exact .inl h
      · exact .inr (.inl h)
      · exact .inr (.inr (.inl h))
    have nb : ∀ k, k = b ∨ (Value.slice B0 (strs kb).length e0).ownBlock = some k ∨ k = gb → k ∉ fpa := fun k h => by
      refine hsb k ?_
      rw [fb]; simp only [List.mem_cons, List.mem_append, Option.mem_toList]
      rcases h with h | h | h
      · exact .inl h
      · exact .inr (.inl h)
      · exact .inr (.inr (.inl h))
    refine (join_walk w fan (d + 1) tr x a b g gk cs.length c i ks.length ck tn root ks (cs.map (·.1)) A0 none (some ⟨ga, 0, none⟩) B0 none (some ⟨gb, 0, none⟩) _ 0 _ c0 0 ca _ 0 _ e0 0 cb ka kb [key] [] [] (csa.map (·.1)) (csb.map (·.1)) key (mergeT key (d + 1) _ _) fpa fpb
      htr hb hks hg ba bb oa (Own.nil _ _) pa ob (Own.nil _ _) pb rfl (by simp) (by simp [strs]) rfl (by simp) (by simp [strs]) rfl (by simp) (by omega) hi hn (by omega) (by omega) (by omega) (by omega) (by omega) (by omega) h64
      hkey (by rw [List.getElem?_map, hxa]; rfl) (by rw [List.getElem?_map, hxb]; rfl) (.inr ⟨by simp, rfl⟩) (na a (.inl rfl)) (fun k h => na k (.inr (.inl h))) (fun k h => by cases h) (fun k h => na k (.inr (.inr (by simp [Value.ownBlock] at h; exact h.symm))))
      nx ng nk ntr' (nb b (.inl rfl)) (fun k h => nb k (.inr (.inl h))) (fun k h => by cases h) (fun k h => nb k (.inr (.inr (by simp [Value.ownBlock] at h; exact h.symm)))) ?_ hsh (fun _ => by omega) (by rw [hsz]; simp [sizeT] at ksa ksb ⊢; omega)).mono fun e w' h => ?_
    · intro w3 X0 X1 X2 r0 r1 r2 y0 y1 y2 hB3 o0 o1 o2 z1 z2 m0 m1 m2 hC
      have hX1 : X1 = none := z1.2 ⟨rfl, rfl⟩
      subst hX1
      have hv1 : Value.slice none r1 y1 = .slice none 0 0 := by
        rcases o1.2 with ⟨hv, _⟩ | ⟨g', cap, cur, hv, _⟩
        · exact hv
        · cases hv
      rw [hv1] at hB3
      have hX2 : X2 ≠ none := fun e => by have := (z2.1 e).1; cases this
      obtain ⟨g2, _, rfl, hlen, _⟩ := o2.open_ hX2
      have hr2 : r2 = csa.length + csb.length := by rw [hlen]; simp [ptrs]
      subst hr2
      exact merge_inner hAa0 hAb0 nda ndb hap rfl rfl hca hcb fa fb hB3 o0 o2 m0 (by
        rcases m2 g2 rfl with h | h
        · simp [Value.ownBlock] at h; exact .inl h.symm
        · exact .inr h) (hC.mono fun k _ h => by
        rcases h with h | h | h | h
        · exact .inl h
        · exact .inr (.inl h)
        · cases h
        · simp [Value.ownBlock] at h; exact .inr (.inr h.symm))
    · have he : e = .returned (.tuple #[]) := h.1
      subst he
      exact hmm _ h
end Go.Proofs.Ythndplpbnfihdaa
