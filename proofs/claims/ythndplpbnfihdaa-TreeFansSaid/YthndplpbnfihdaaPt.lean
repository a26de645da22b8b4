/-
  (*Tree).Put. Conditions: a sound tree.
-/
import Derived.Test.YthndplpbnfihdaaPb
import Derived.Test.YthndplpbnfihdaaBt4
import Derived.Deep.Cut
import Derived.Laws.EntriesVeiled
set_option linter.unusedVariables false
set_option linter.unusedSimpArgs false
namespace Go.Proofs.Ythndplpbnfihdaa
open Go.RowKit

/-- A tree at block tr: its width, its depth, what it holds, its blocks. -/
structure Tree (w : World) (tr fan d : Nat) (t : Tr d) (fp : List Nat) : Prop where
  lo : 4 ≤ fan
  hi : fan ≤ 64
  nodup : fp.Nodup
  away : tr ∉ fp
  sound : Sound fan d t
  size : sizeT d t ≤ fan
  two : 0 < d → 2 ≤ sizeT d t
  mem : ∃ root, Blk w tr 64 #[.int .i64 fan, .int .i64 (toL d t).length, ptr root] ∧ At w d root t fp

theorem Tree.chg {F : Nat → Prop} {w w' : World} {tr fan d : Nat} {t : Tr d} {fp : List Nat} (h : Tree w tr fan d t fp) (hc : Chg F w w') (hF : ∀ k, F k → k ∉ fp ∧ k ≠ tr) : Tree w' tr fan d t fp := by
  obtain ⟨h1, h2, h3, h4, h5, h6, h7, root, hb, hA⟩ := h
  exact ⟨h1, h2, h3, h4, h5, h6, h7, root, hb.chg hc fun e => (hF _ e).2 rfl, At.chg hc hA fun k hk e => (hF k e).1 hk⟩

theorem new_root {w : World} {d root b2 : Nat} {t1 t2 : Tr d} {mid : ByteArray} {fp1 fp2 : List Nat} (h1 : At w d root t1 fp1) (h2 : At w d b2 t2 fp2) (hnd : (fp1 ++ fp2).Nodup) :
    ∃ fp, At (((w.alloc (.cells #[.string mid] 9)).alloc (.cells #[.pointer (some ⟨root, 0, none⟩), .pointer (some ⟨b2, 0, none⟩)] 59)).alloc
        (.cells #[.slice (some ⟨w.heap.size, 0, none⟩) 1 1, .slice none 0 0, .slice (some ⟨w.heap.size + 1, 0, none⟩) 2 2] 62)) (d + 1) (w.heap.size + 1 + 1) ([mid], [t1, t2]) fp ∧
      fp.Nodup ∧ (∀ k ∈ fp, k ∈ fp1 ++ fp2 ∨ w.heap.size ≤ k) := by
  obtain ⟨W, hW⟩ : ∃ W, (((w.alloc (.cells #[.string mid] 9)).alloc (.cells #[.pointer (some ⟨root, 0, none⟩), .pointer (some ⟨b2, 0, none⟩)] 59)).alloc
        (.cells #[.slice (some ⟨w.heap.size, 0, none⟩) 1 1, .slice none 0 0, .slice (some ⟨w.heap.size + 1, 0, none⟩) 2 2] 62)) = W := ⟨_, rfl⟩
  have hC : Chg (fun _ => False) w W := hW ▸ (((Chg.refl _ w).alloc _).alloc _).alloc _
  have b0 : Blk W w.heap.size 9 #[.string mid] := hW ▸ ((Blk.new w 9 #[.string mid]).alloc _).alloc _
  have b1 : Blk W (w.heap.size + 1) 59 #[.pointer (some ⟨root, 0, none⟩), .pointer (some ⟨b2, 0, none⟩)] := by
    have := ((Blk.new (w.alloc (.cells #[.string mid] 9)) 59 #[.pointer (some ⟨root, 0, none⟩), .pointer (some ⟨b2, 0, none⟩)]).alloc
      (.cells #[.slice (some ⟨w.heap.size, 0, none⟩) 1 1, .slice none 0 0, .slice (some ⟨w.heap.size + 1, 0, none⟩) 2 2] 62))
    rw [hW] at this; simpa using this
  have b3 : Blk W (w.heap.size + 1 + 1) 62 #[.slice (some ⟨w.heap.size, 0, none⟩) 1 1, .slice none 0 0, .slice (some ⟨w.heap.size + 1, 0, none⟩) 2 2] := by
    have := (Blk.new ((w.alloc (.cells #[.string mid] 9)).alloc (.cells #[.pointer (some ⟨root, 0, none⟩), .pointer (some ⟨b2, 0, none⟩)] 59)) 62
      #[.slice (some ⟨w.heap.size, 0, none⟩) 1 1, .slice none 0 0, .slice (some ⟨w.heap.size + 1, 0, none⟩) 2 2])
    rw [hW] at this; simpa using this
  rw [hW]
  have l1 := h1.lt
  have l2 := h2.lt
  refine ⟨(w.heap.size + 1 + 1) :: ([w.heap.size] ++ (w.heap.size + 1) :: (fp1 ++ fp2)), ⟨.slice (some ⟨w.heap.size, 0, none⟩) 1 1, w.heap.size + 1, 2, [(root, t1, fp1), (b2, t2, fp2)], b3, ?_, ?_, rfl, ?_, ?_⟩, ?_, ?_⟩
  · exact Own.close (xs := [.string mid]) b0 (by simp) (by decide) rfl rfl
  · exact Own.close (xs := [.pointer (some ⟨root, 0, none⟩), .pointer (some ⟨b2, 0, none⟩)]) b1 (by simp) (by decide) rfl rfl
  · intro x hx
    simp only [List.mem_cons, List.not_mem_nil, or_false] at hx
    rcases hx with rfl | rfl
    · exact h1.chg hC fun _ _ h => h
    · exact h2.chg hC fun _ _ h => h
  · simp [Value.ownBlock]
  · simp only [List.nodup_cons, List.mem_append, List.mem_cons, not_or, List.singleton_append]
    have hno : ∀ k, w.heap.size ≤ k → k ∉ fp1 ∧ k ∉ fp2 := fun k hk => ⟨fun h => by have := l1 k h; omega, fun h => by have := l2 k h; omega⟩
    exact ⟨⟨by omega, by omega, hno _ (by omega)⟩, ⟨by omega, hno _ (by omega)⟩, hno _ (by omega), hnd⟩
  · intro k hk
    simp only [List.mem_cons, List.singleton_append] at hk
    rcases hk with rfl | rfl | rfl | h
    · exact .inr (by omega)
    · exact .inr (by omega)
    · exact .inr (by omega)
    · exact .inl h

def PutAll (w : World) (tr fan d : Nat) (t : Tr d) (fp : List Nat) (key : ByteArray) (row : Int) (e : Ending) (w' : World) : Prop :=
  e = .returned (.bool (!hasL key (toL d t))) ∧ ∃ d' t' fp', Tree w' tr fan d' t' fp' ∧ toL d' t' = insL key row (toL d t) ∧ (∀ k ∈ fp', k ∈ fp ∨ w.heap.size ≤ k) ∧ Chg (fun k => k ∈ fp ∨ k = tr) w w'

theorem root_split {fan d : Nat} {t : Tr d} (hf : 4 ≤ fan) (hs : Sound fan d t) (h1 : fan < sizeT d t) (h2 : sizeT d t ≤ fan + 1) :
    Sound fan (d + 1) ([(halfT d t).2.1], [(halfT d t).1, (halfT d t).2.2]) ∧ toL (d + 1) ([(halfT d t).2.1], [(halfT d t).1, (halfT d t).2.2]) = toL d t := by
  obtain ⟨q1, q2, q3, q4, q5, q6, q7, q8, q9⟩ := half_sound hf d t hs h1 (by omega)
  have ht : toL (d + 1) ([(halfT d t).2.1], [(halfT d t).1, (halfT d t).2.2]) = toL d t := by
    show List.flatMap (toL d) [(halfT d t).1, (halfT d t).2.2] = _
    rw [q1]; simp
  refine ⟨⟨⟨rfl, ?_⟩, ⟨by simp [Rising], ?_, ?_⟩, by rw [ht]; exact hs.rise⟩, ht⟩
  · intro u hu
    simp only [List.mem_cons, List.not_mem_nil, or_false] at hu
    rcases hu with rfl | rfl
    · exact ⟨q2.kids, q4, q5⟩
    · exact ⟨q3.kids, q6, q7⟩
  · intro i k j u hk hu p hp
    match i, j, hk, hu with
    | 0, 0, hk, hu =>
      injection hk with hk; injection hu with hu; subst hk hu
      exact ⟨fun _ => q8 p hp, fun h => absurd h (by omega)⟩
    | 0, 1, hk, hu =>
      injection hk with hk; injection hu with hu; subst hk hu
      exact ⟨fun h => absurd h (by omega), fun _ => q9 p hp⟩
    | 0, j + 2, hk, hu => cases hu
    | i + 1, _, hk, _ => cases hk
  · intro u hu
    simp only [List.mem_cons, List.not_mem_nil, or_false] at hu
    rcases hu with rfl | rfl
    · exact q2.seps
    · exact q3.seps

theorem five_named (w : World) (c0 c1 c2 c3 c4 : Array Value) (t0 t1 t2 t3 t4 : TypeId) : ∃ W b0 b1 b2 b3 b4, (((((w.alloc (.cells c0 t0)).alloc (.cells c1 t1)).alloc (.cells c2 t2)).alloc (.cells c3 t3)).alloc (.cells c4 t4)) = W ∧
    w.heap.size + 1 + 1 + 1 + 1 = b4 ∧ w.heap.size + 1 + 1 + 1 = b3 ∧ w.heap.size + 1 + 1 = b2 ∧ w.heap.size + 1 = b1 ∧ w.heap.size = b0 ∧
    Blk W b0 t0 c0 ∧ Blk W b1 t1 c1 ∧ Blk W b2 t2 c2 ∧ Blk W b3 t3 c3 ∧ Blk W b4 t4 c4 ∧ Chg (fun _ => False) w W := by
  refine ⟨_, _, _, _, _, _, rfl, rfl, rfl, rfl, rfl, rfl, ?_, ?_, ?_, ?_, ?_, (((((Chg.refl _ w).alloc _).alloc _).alloc _).alloc _).alloc _⟩
  · exact ((((Blk.new w t0 c0).alloc _).alloc _).alloc _).alloc _
  · have := ((((Blk.new (w.alloc (.cells c0 t0)) t1 c1).alloc (.cells c2 t2)).alloc (.cells c3 t3)).alloc (.cells c4 t4)); simpa using this
  · have := (((Blk.new ((w.alloc (.cells c0 t0)).alloc (.cells c1 t1)) t2 c2).alloc (.cells c3 t3)).alloc (.cells c4 t4)); simpa using this
  · have := ((Blk.new (((w.alloc (.cells c0 t0)).alloc (.cells c1 t1)).alloc (.cells c2 t2)) t3 c3).alloc (.cells c4 t4)); simpa using this
  · have := (Blk.new ((((w.alloc (.cells c0 t0)).alloc (.cells c1 t1)).alloc (.cells c2 t2)).alloc (.cells c3 t3)) t4 c4); simpa using this

set_option maxHeartbeats 1000000 in
set_option maxRecDepth 100000 in
theorem put_walk (w : World) (tr fan d root : Nat) (t : Tr d) (fp : List Nat) (key : ByteArray) (row : Int) (hT : Tree w tr fan d t fp) (hbig : (toL d t).length < 4611686018427387904)
    (hb : Blk w tr 64 #[.int .i64 fan, .int .i64 (toL d t).length, ptr root]) (hA : At w d root t fp) :
    Calls Try.prog 10 #[ptr tr, .string key, .int .i64 row] w (PutAll w tr fan d t fp key row) := by
  unfold ptr at *
  obtain ⟨R, hR⟩ : ∃ R, R = PutAll w tr fan d t fp key row := ⟨_, rfl⟩
  rw [← hR]
  have hmf : ∀ (fn : Fn) (first cap : Array Value) (w : World), (Instr.makeFunc fn first cap).run Try.prog w = .ok (.func fn first cap) w := fun _ _ _ _ => rfl
  have HT := Lib.hid hT
  have HA := Lib.hid hA
  have HB := Lib.hid hb
  obtain ⟨p1, p2, p3, p4⟩ := put_sound hT.lo key row d t hT.sound hT.size
  have HP : Hid (∀ e W root' (d' : Nat) (t' : Tr d') fp', e = .returned (.bool (freshT key d t)) → Blk W tr 64 #[.int .i64 fan, .int .i64 ((toL d t).length + (if freshT key d t then (1 : Int) else 0)), ptr root'] → At W d' root' t' fp' → fp'.Nodup →
      Sound fan d' t' → sizeT d' t' ≤ fan → (0 < d' → 2 ≤ sizeT d' t') → toL d' t' = insL key row (toL d t) → (∀ k ∈ fp', k ∈ fp ∨ w.heap.size ≤ k) → Chg (fun k => k ∈ fp ∨ k = tr) w W → R e W) := by
    intro e W root' d' t' fp' a1 a2 a3 a4 a5 a6 a7 a8 a9 a10
    rw [hR]
    have hfr := fresh_has key d t hT.sound
    have hlen := insL_len key row _ hT.sound.rise
    refine ⟨by rw [a1, hfr], d', t', fp', ⟨hT.lo, hT.hi, a4, fun h => ?_, a5, a6, a7, root', ?_, a3⟩, a8, a9, a10⟩
    · rcases a9 tr h with h | h
      · exact hT.away h
      · have := hb.lt; omega
    · rw [a8, hlen]
      rw [hfr] at a2
      cases hh : hasL key (toL d t) <;> simpa [hh] using a2
  have HQ2 := Lib.hid p2
  have HQ1 : Hid (toL d (putT fan key row d t) = insL key row (toL d t)) := p1
  have HQ3 : Hid (sizeT d t ≤ sizeT d (putT fan key row d t)) := p3
  have HQ4 : Hid (sizeT d (putT fan key row d t) ≤ sizeT d t + 1) := p4
  clear hR hT hA hb p1 p2 p3 p4
  go_enter Try.func10, Try.ntmps10
  go_wp2_with fail
  obtain ⟨w1, bt, bk, br, bf, bp, hw1, e4, e3, e2, e1, e0, hBt, hBk, hBr, hBf, hBp, hC1⟩ := five_named w #[.pointer (some ⟨tr, 0, none⟩)] #[.string key] #[.int .i64 row] #[.bool false]
    #[.func (.func 29) #[] #[.pointer (some ⟨w.heap.size + 1, 0, none⟩), .pointer (some ⟨w.heap.size + 1 + 1, 0, none⟩), .pointer (some ⟨w.heap.size + 1 + 1 + 1, 0, none⟩), .pointer (some ⟨w.heap.size + 1 + 1 + 1 + 1, 0, none⟩), .pointer (some ⟨w.heap.size, 0, none⟩)]]
    23 9 3 4 65
  rw [hw1, e4, e3, e2, e1, e0]
  rw [e4, e3, e2, e1, e0] at hBp
  have hS1 : w.heap.size ≤ bt ∧ w.heap.size ≤ bk ∧ w.heap.size ≤ br ∧ w.heap.size ≤ bf ∧ w.heap.size ≤ bp := by omega
  obtain ⟨w2, hw2, hC2⟩ := drew_named w1
  have HC2 := Lib.hid (hC1.trans hC2)
  have hBt2 := hBt.chg hC2 id
  have hBk2 := hBk.chg hC2 id
  have hBr2 := hBr.chg hC2 id
  have hBf2 := hBf.chg hC2 id
  have hBp2 := hBp.chg hC2 id
  have hA2 : At w2 d root t fp := At.chg HC2.out HA.out fun _ _ h => h
  have hb2 : Blk w2 tr 64 _ := HB.out.chg HC2.out id
  have hnew : ∀ k, w.heap.size ≤ k → k ∉ fp := fun k h1 h2 => by have := HA.out.lt k h2; omega
  have hE2 : Env w2 fp bk br bf bp bt tr key row fan := ⟨hBk2, hBr2, hBp2, hBt2, ⟨_, _, hb2⟩, hnew _ hS1.2.1, hnew _ hS1.2.2.1, hnew _ hS1.2.2.2.1, hnew _ hS1.2.2.2.2, hnew _ hS1.1, HT.out.away⟩
  have HPC : Hid (Calls Try.prog 29 #[.pointer (some ⟨root, 0, none⟩), .pointer (some ⟨bk, 0, none⟩), .pointer (some ⟨br, 0, none⟩), .pointer (some ⟨bf, 0, none⟩), .pointer (some ⟨bp, 0, none⟩), .pointer (some ⟨bt, 0, none⟩)] w2 (PutPost w2 d root bf t fp key row fan false)) :=
    put_at HT.out.lo HT.out.hi bk br bf bp bt tr key row d w2 root t fp false hA2 HT.out.nodup hE2 hBf2 HT.out.sound HT.out.size
  have hS : w2.cell? ⟨bp, 0, none⟩ = some (.func (.func 29) #[] #[.pointer (some ⟨bk, 0, none⟩), .pointer (some ⟨br, 0, none⟩), .pointer (some ⟨bf, 0, none⟩), .pointer (some ⟨bp, 0, none⟩), .pointer (some ⟨bt, 0, none⟩)]) ∧
      w2.cell? ⟨bt, 0, none⟩ = some (.pointer (some ⟨tr, 0, none⟩)) ∧ w2.cell? ⟨tr, 2, none⟩ = some (.pointer (some ⟨root, 0, none⟩)) := ⟨hBp2.cell_ rfl, hBt2.cell_ rfl, hb2.cell_ rfl⟩
  have HBF := Lib.hid hBf2
  have HBT := Lib.hid hBt2
  have HBB := Lib.hid hb2
  have HS1 := Lib.hid hS1
  have hnf : tr ≠ bf := HB.out.chg HC2.out id |>.ne_ hBf2 (by decide)
  have HNF := Lib.hid hnf
  have HNT : Hid (bt ∉ fp) := hE2.at_
  have HFP : Hid (bf ∉ fp) := hE2.af
  have HTB : Hid (bt ≠ bf) := hBt2.ne_ hBf2 (by decide)
  clear hw1 e4 e3 e2 e1 e0 hBt hBk hBr hBf hBp hBt2 hBk2 hBr2 hBf2 hBp2 hC1 hS1 hA2 hb2 hnew hE2 hC2 hnf
  refine wp_region_till (s := 5) (S := (fun W => W.cell? ⟨bp, 0, none⟩ = some (.func (.func 29) #[] #[.pointer (some ⟨bk, 0, none⟩), .pointer (some ⟨br, 0, none⟩), .pointer (some ⟨bf, 0, none⟩), .pointer (some ⟨bp, 0, none⟩), .pointer (some ⟨bt, 0, none⟩)]) ∧
        W.cell? ⟨bt, 0, none⟩ = some (.pointer (some ⟨tr, 0, none⟩)) ∧ W.cell? ⟨tr, 2, none⟩ = some (.pointer (some ⟨root, 0, none⟩)))) (by kernel_rfl) ?_
  rw [hw2]
  clear hw2
  apply till_take (i := 0) (d := some 13) [5, 0]
  case hi => exact rfl
  case hd => exact rfl
  case hchk => kernel_rfl
  case hS => exact hS
  case hy => apply yields_plain; exact rfl; intro w hSw; (try dsimp only at hSw); go_split_ands; go_simp <;> with_reducible rfl
  case hQ => exact fun _ _ _ h => h
  simp only [Act.put, List.setIfInBounds_toArray, List.set_cons_zero, List.set_cons_succ]
  apply till_take (i := 1) (d := some 14) [5, 4, 3, 2, 1]
  case hi => exact rfl
  case hd => exact rfl
  case hchk => kernel_rfl
  case hS => exact hS
  case hy => apply yields_plain; exact rfl; intro w hSw; (try dsimp only at hSw); go_split_ands; go_simp <;> with_reducible rfl
  case hQ => exact fun _ _ _ h => h
  simp only [Act.put, List.setIfInBounds_toArray, List.set_cons_zero, List.set_cons_succ]
  apply till_take0 (i := 2) (d := some 15)
  case hi => exact rfl
  case hd => exact rfl
  case hchk => kernel_rfl
  case hS => exact (fun _ => hS)
  case hy => apply yields_plain; exact rfl; intro w _; go_simp <;> with_reducible rfl
  case hQ => exact fun _ _ _ h => h
  simp only [Act.put, List.setIfInBounds_toArray, List.set_cons_zero, List.set_cons_succ]
  apply till_take0 (i := 3) (d := some 16)
  case hi => exact rfl
  case hd => exact rfl
  case hchk => kernel_rfl
  case hS => exact (fun _ => hS)
  case hy => apply yields_plain; exact rfl; intro w _; go_simp <;> with_reducible rfl
  case hQ => exact fun _ _ _ h => h
  simp only [Act.put, List.setIfInBounds_toArray, List.set_cons_zero, List.set_cons_succ]
  apply till_take (i := 4) (d := some 17) [5, 4]
  case hi => exact rfl
  case hd => exact rfl
  case hchk => kernel_rfl
  case hS => exact hS
  case hy => apply yields_plain; exact rfl; intro w hSw; (try dsimp only at hSw); go_split_ands; go_simp <;> with_reducible rfl
  case hQ => exact fun _ _ _ h => h
  simp only [Act.put, List.setIfInBounds_toArray, List.set_cons_zero, List.set_cons_succ]
  refine till_all (rs := [5]) (by kernel_rfl) (by simp) (mem_more (till_op (i := 5) (o := ⟨some 18, _, _, _, _, _⟩) rfl rfl (fun K hK => ?_)) (mem_none))
  go_simp
  refine HPC.out.mono ?_
  rintro e w3 ⟨rfl, fp', hA3, hnd3, hsub3, hf3, hC3⟩
  refine hK.out _ _ (fun h => by cases (show true = false from h)) (fun _ => ?_)
  clear hK K hS
  try simp only [Act.put, List.setIfInBounds_toArray, List.set_cons_zero, List.set_cons_succ]
  refine till_done (by kernel_rfl) ?_
  skip
  obtain ⟨n, hn⟩ : ∃ n, (toL d t).length = n := ⟨_, rfl⟩
  obtain ⟨sz, hsz⟩ : ∃ sz, sizeT d (putT fan key row d t) = sz := ⟨_, rfl⟩
  obtain ⟨fr, hfr⟩ : ∃ fr, freshT key d t = fr := ⟨_, rfl⟩
  rw [hfr, Bool.false_or] at hf3
  have hb3 := HBB.out.chg hC3 (fun h => h.elim HT.out.away HNF.out)
  have ht3 := HBT.out.chg hC3 (fun h => h.elim HNT.out HTB.out)
  have hCw : Chg (fun k => k ∈ fp ∨ k = tr) w w3 := HC2.out.up.comp hC3 (fun k hk h => h.elim .inl (fun e => by have := HS1.out; omega))
  have hsubw : Hid (∀ k ∈ fp', k ∈ fp ∨ w.heap.size ≤ k) := fun k hk => (hsub3 k hk).imp id (fun h => by have := HC2.out.size; omega)
  have HCW := Lib.hid hCw
  have HB3 := Lib.hid hb3
  have htc : w3.cell? ⟨bt, 0, none⟩ = some (.pointer (some ⟨tr, 0, none⟩)) := ht3.cell_ rfl
  have hrc : w3.cell? ⟨tr, 2, none⟩ = some (.pointer (some ⟨root, 0, none⟩)) := hb3.cell_ rfl
  have hfc : w3.cell? ⟨tr, 0, none⟩ = some (.int .i64 fan) := hb3.cell_ rfl
  have hnc : w3.cell? ⟨tr, 1, none⟩ = some (.int .i64 n) := hn ▸ hb3.cell_ rfl
  have hbc : w3.cell? ⟨bf, 0, none⟩ = some (.bool fr) := hf3.cell_ rfl
  have hfz1 := hb3.frozen 1
  have hfz2 := hb3.frozen 2
  have hwr : IntKind.i64.wrap ((n : Int) + 1) = (n : Int) + 1 := by rw [IntKind.wrap_i64]; omega
  have HSZ : Hid (∀ q', Calls Try.prog 34 #[.pointer (some ⟨root, 0, none⟩)] (w3.drewN q') (fun e w' => e = .returned (.int .i64 (sz : Nat)) ∧ ∃ m, w' = (w3.drewN q').drewN m)) := fun q' => by
    refine (size_at (hA3.drewN q')).mono ?_
    rintro e w' ⟨h1, rfl⟩
    rw [hsz] at h1
    exact ⟨h1, 0, rfl⟩
  have HN := Lib.hid hn
  have HFR := Lib.hid hfr
  have HSZ0 := Lib.hid hsz
  have HND := Lib.hid hnd3
  have HA3 := Lib.hid hA3
  have htf : tr ≠ bf := HNF.out
  have hloT := HT.out.lo
  by_cases hhigh : fan < sz
  · have hle : (fan : Int) < (sz : Int) := by omega
    have HHF : Hid (∀ q', Calls Try.prog 35 #[.pointer (some ⟨root, 0, none⟩)] (w3.drewN q') (HalfPost (w3.drewN q') d root (putT fan key row d t) fp')) := fun q' => by
      have h1 := HQ4.out; have h2 := HT.out.size; have h3 := HT.out.hi; have h4 := HT.out.lo
      exact half_at (hA3.drewN q') hnd3 HQ2.out.shape (by omega) (by omega)
    have hrootm : root ∈ fp' := hA3.head
    have hrfp : root ∈ fp := HA.out.head
    have htr' : tr ∉ fp' := fun h => by
      rcases hsubw.out _ h with h | h
      · exact HT.out.away h
      · have := HB.out.lt; omega
    have HTR := Lib.hid htr'
    have HRM := Lib.hid hrfp
    have hrt : root ≠ tr := fun e => HT.out.away (e ▸ hrfp)
    have hfp' : bf ∉ fp' := fun h => by
      rcases hsub3 _ h with h | h
      · exact HFP.out h
      · have := HBF.out.lt; omega
    have hrf : root ≠ bf := fun e => HFP.out (e ▸ hrfp)
    have hrbt : root ≠ bt := fun e => HNT.out (e ▸ hrfp)
    have HF3 := Lib.hid hf3
    have HT3 := Lib.hid ht3
    have HRF := Lib.hid hrf
    have HRT := Lib.hid hrt
    have HRBT := Lib.hid hrbt
    clear hhigh hn hfr hsz hnd3 hA3 hCw hb3 ht3 hf3 hsub3 hC3 HBB HBT HNT HTB HFP HNF HS1 HC2 HPC hrootm hrfp htr' hfp' hrf hrt hrbt
    cases fr
    all_goals
      go_wp2_with fail
      go_quiet ((go_at_call 34; exact Calls.quiet_of (HSZ.out _)))
      go_wp2_with fail
      refine (HHF.out _).mono ?_
      rintro e w4 ⟨⟨b2, fp1, fp2, rfl, hA1, hA2, hnd2, hs1, hs2, hb2, hC4⟩⟩
      rw [show ptr b2 = .pointer (some ⟨b2, 0, none⟩) from rfl]
      have hC4' : Chg (fun k => k = root) w3 w4 := ((Chg.refl (fun k => k = root) w3).drewN nq).trans hC4
      have hb4 := HB3.out.chg hC4' (fun e => HRT.out e.symm)
      have hf4 := HF3.out.chg hC4' (fun e => HRF.out e.symm)
      have ht4 := HT3.out.chg hC4' (fun e => HRBT.out e.symm)
      have htc4 : w4.cell? ⟨bt, 0, none⟩ = some (.pointer (some ⟨tr, 0, none⟩)) := ht4.cell_ rfl
      have hal : ∀ {x : Nat} {u : TypeId} {cs : Array Value}, Blk w4 x u cs → ∀ (o1 o2 o3 : Obj), Blk (((w4.alloc o1).alloc o2).alloc o3) x u cs := fun h o1 o2 o3 => ((h.alloc o1).alloc o2).alloc o3
      have hrc4 : ∀ (o1 o2 o3 : Obj), (((w4.alloc o1).alloc o2).alloc o3).cell? ⟨tr, 2, none⟩ = some (.pointer (some ⟨root, 0, none⟩)) := fun o1 o2 o3 => (hal hb4 o1 o2 o3).cell_ rfl
      have hrz4 : ∀ (o1 o2 o3 : Obj), (((w4.alloc o1).alloc o2).alloc o3).frozen? ⟨tr, 2, none⟩ = false := fun o1 o2 o3 => (hal hb4 o1 o2 o3).frozen 2
      have hbc4 : ∀ (o1 o2 o3 : Obj) (v : Value), ((((w4.alloc o1).alloc o2).alloc o3).setCell ⟨tr, 2, none⟩ v).cell? ⟨bf, 0, none⟩ = some _ := fun o1 o2 o3 v => ((hal hf4 o1 o2 o3).far (p := ⟨tr, 2, none⟩) (fun e => htf e.symm) v).cell_ rfl
      have htc5 : ∀ (o1 o2 o3 : Obj) (v : Value), ((((w4.alloc o1).alloc o2).alloc o3).setCell ⟨tr, 2, none⟩ v).cell? ⟨bt, 0, none⟩ = some (.pointer (some ⟨tr, 0, none⟩)) := fun o1 o2 o3 v => ((hal ht4 o1 o2 o3).far (p := ⟨tr, 2, none⟩) (ht4.ne_ hb4 (by decide)) v).cell_ rfl
      have hnc5 : ∀ (o1 o2 o3 : Obj) (v : Value), ((((w4.alloc o1).alloc o2).alloc o3).setCell ⟨tr, 2, none⟩ v).cell? ⟨tr, 1, none⟩ = some (.int .i64 n) := fun o1 o2 o3 v => HN.out ▸ ((hal hb4 o1 o2 o3).set_ 2 v).cell_ rfl
      have hnz5 : ∀ (o1 o2 o3 : Obj) (v : Value), ((((w4.alloc o1).alloc o2).alloc o3).setCell ⟨tr, 2, none⟩ v).frozen? ⟨tr, 1, none⟩ = false := fun o1 o2 o3 v => ((hal hb4 o1 o2 o3).set_ 2 v).frozen 1
      have HB4 := Lib.hid hb4
      have HC4 := Lib.hid hC4'
      clear htc hrc hfc hnc hbc hfz1 hfz2 hal hb4 hC4' hf4 ht4
      go_wp2_with fail
      obtain ⟨fpN, hAN, hndN, hsubN⟩ := new_root (mid := (halfT d (putT fan key row d t)).2.1) hA1 hA2 hnd2
      obtain ⟨w5, hw5⟩ : ∃ w5, (((w4.alloc (.cells #[.string (halfT d (putT fan key row d t)).2.1] 9)).alloc (.cells #[.pointer (some ⟨root, 0, none⟩), .pointer (some ⟨b2, 0, none⟩)] 59)).alloc
        (.cells #[.slice (some ⟨w4.heap.size, 0, none⟩) 1 1, .slice none 0 0, .slice (some ⟨w4.heap.size + 1, 0, none⟩) 2 2] 62)) = w5 := ⟨_, rfl⟩
      have hB5 : Blk w5 tr 64 #[.int .i64 fan, .int .i64 n, .pointer (some ⟨root, 0, none⟩)] := by have := HB4.out; rw [HN.out] at this; exact hw5 ▸ ((this.alloc _).alloc _).alloc _
      have hC5 : Chg (fun k => k = tr) w4 w5 := hw5 ▸ (((Chg.refl _ w4).alloc _).alloc _).alloc _
      rw [hw5] at hAN ⊢
      obtain ⟨r1, r2⟩ := root_split hloT HQ2.out (by rw [HSZ0.out]; omega) (by have h1 := HQ4.out; have h2 := HT.out.size; omega)
      refine HP.out _ _ (w4.heap.size + 1 + 1) (d + 1) ([(halfT d (putT fan key row d t)).2.1], [(halfT d (putT fan key row d t)).1, (halfT d (putT fan key row d t)).2.2]) fpN (by rw [HFR.out]; rfl) ?_ (At.chg (F := fun k => k = tr) ?_ hAN fun k hk e => ?_) hndN r1 (by show 2 ≤ fan; omega) (fun _ => Nat.le_refl 2) (r2.trans HQ1.out) ?_ ?_
      · rw [HFR.out, HN.out]
        first
          | (have := (hB5.set_ 2 (.pointer (some ⟨w4.heap.size + 1 + 1, 0, none⟩))).set_ 1 (.int .i64 ((n : Int) + 1)); simpa [ptr] using this)
          | (have := hB5.set_ 2 (.pointer (some ⟨w4.heap.size + 1 + 1, 0, none⟩)); simpa [ptr] using this)
      · first
          | exact ((Chg.refl (fun k => k = tr) w5).setCell (p := ⟨tr, 2, none⟩) (.inl rfl) _).setCell (p := ⟨tr, 1, none⟩) (.inl rfl) _
          | exact (Chg.refl (fun k => k = tr) w5).setCell (p := ⟨tr, 2, none⟩) (.inl rfl) _
      · subst e
        have ht := HB4.out.lt
        rcases hsubN _ hk with h | h
        · rcases List.mem_append.1 h with h | h
          · exact HTR.out (hs1 _ h)
          · rcases hs2 _ h with h | h
            · exact HTR.out h
            · have := HB3.out.lt; have h3 : (w3.drewN nq).heap.size = w3.heap.size := rfl; omega
        · omega
      · intro k hk
        have h0 := HCW.out.size
        have h3 : (w3.drewN nq).heap.size = w3.heap.size := rfl
        have h4 := HC4.out.size
        rcases hsubN _ hk with h | h
        · rcases List.mem_append.1 h with h | h
          · exact hsubw.out _ (hs1 _ h)
          · rcases hs2 _ h with h | h
            · exact hsubw.out _ h
            · exact .inr (by omega)
        · exact .inr (by omega)
      · refine (HCW.out.trans (HC4.out.mono fun k _ e => .inl (e ▸ HRM.out))).trans (Chg.mono (F := fun k => k = tr) ?_ fun k _ h => .inr h)
        first
          | exact (hC5.setCell (p := ⟨tr, 2, none⟩) (.inl rfl) _).setCell (p := ⟨tr, 1, none⟩) (.inl rfl) _
          | exact hC5.setCell (p := ⟨tr, 2, none⟩) (.inl rfl) _
  · have hle : (sz : Int) ≤ (fan : Int) := by omega
    have HPP : Hid (∀ e W, e = .returned (.bool fr) → Blk W tr 64 #[.int .i64 fan, .int .i64 ((n : Int) + (if fr then (1 : Int) else 0)), .pointer (some ⟨root, 0, none⟩)] → Chg (fun k => k = tr) w3 W → R e W) := by
      intro e W a1 a2 a3
      refine HP.out e W root d (putT fan key row d t) fp' (by rw [HFR.out]; exact a1) (by rw [HFR.out, HN.out]; exact a2) (At.chg a3 HA3.out fun k hk e => ?_) HND.out HQ2.out (by rw [HSZ0.out]; omega) (fun hd => ?_) HQ1.out hsubw.out (HCW.out.trans (a3.mono fun k _ h => .inr h))
      · subst e
        rcases hsubw.out _ hk with h | h
        · exact HT.out.away h
        · have := HCW.out.size; have := HB.out.lt; omega
      · have h1 := HQ3.out; have h2 := HT.out.two hd; omega
    clear HP hhigh hn hfr hsz hnd3 hA3 hCw hb3 ht3 hf3 hsub3 hC3 HBB HBT HNT HTB HFP HNF HS1 HC2 HPC
    cases fr
    · go_wp2_with fail
      go_quiet ((go_at_call 34; exact Calls.quiet_of (HSZ.out _)))
      go_wp2_with fail
      refine HPP.out _ _ rfl ?_ ?_
      · rw [HN.out] at HB3; simpa using HB3.out.drewN _
      · exact (Chg.refl _ w3).drewN _
    · go_wp2_with fail
      go_quiet ((go_at_call 34; exact Calls.quiet_of (HSZ.out _)))
      go_wp2_with fail
      have hB4 := HB3.out.drewN nq
      rw [HN.out] at hB4
      refine HPP.out _ _ rfl ?_ ?_
      · have := hB4.set_ 1 (.int .i64 ((n : Int) + 1)); simpa using this
      · exact ((Chg.refl (fun k => k = tr) w3).drewN nq).setCell (p := ⟨tr, 1, none⟩) (.inl rfl) _

theorem put_calls {w : World} {tr fan d : Nat} {t : Tr d} {fp : List Nat} (key : ByteArray) (row : Int) (hT : Tree w tr fan d t fp) (hbig : (toL d t).length < 4611686018427387904) :
    Calls Try.prog 10 #[ptr tr, .string key, .int .i64 row] w (PutAll w tr fan d t fp key row) := by
  obtain ⟨root, hb, hA⟩ := hT.mem
  exact put_walk w tr fan d root t fp key row hT hbig hb hA
end Go.Proofs.Ythndplpbnfihdaa
