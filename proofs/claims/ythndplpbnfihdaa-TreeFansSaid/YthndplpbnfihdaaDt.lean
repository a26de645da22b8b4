/-
  Del. Conditions: the tree is sound; a key less fits.
-/
import Derived.Test.YthndplpbnfihdaaDf
import Derived.Laws.EntriesVeiled
set_option linter.unusedVariables false
set_option linter.unusedSimpArgs false
namespace Go.Proofs.Ythndplpbnfihdaa
open Go.RowKit

theorem four_named (w : World) (c0 c1 c2 c3 : Array Value) (t0 t1 t2 t3 : TypeId) : ∃ W b0 b1 b2 b3, ((((w.alloc (.cells c0 t0)).alloc (.cells c1 t1)).alloc (.cells c2 t2)).alloc (.cells c3 t3)) = W ∧
    w.heap.size + 1 + 1 + 1 = b3 ∧ w.heap.size + 1 + 1 = b2 ∧ w.heap.size + 1 = b1 ∧ w.heap.size = b0 ∧
    Blk W b0 t0 c0 ∧ Blk W b1 t1 c1 ∧ Blk W b2 t2 c2 ∧ Blk W b3 t3 c3 ∧ Chg (fun _ => False) w W := by
  refine ⟨_, _, _, _, _, rfl, rfl, rfl, rfl, rfl, ?_, ?_, ?_, ?_, ?_⟩
  · exact (((Blk.new _ _ _).alloc _).alloc _).alloc _
  · have := ((Blk.new (w.alloc (.cells c0 t0)) t1 c1).alloc (.cells c2 t2)).alloc (.cells c3 t3); simpa using this
  · have := (Blk.new ((w.alloc (.cells c0 t0)).alloc (.cells c1 t1)) t2 c2).alloc (.cells c3 t3); simpa using this
  · have := Blk.new (((w.alloc (.cells c0 t0)).alloc (.cells c1 t1)).alloc (.cells c2 t2)) t3 c3; simpa using this
  · exact ((((Chg.refl _ w).alloc _).alloc _).alloc _).alloc _

/-- What Del leaves. -/
def DelAll (w : World) (tr fan d : Nat) (t : Tr d) (fp : List Nat) (key : ByteArray) (e : Ending) (w' : World) : Prop :=
  e = .returned (.bool (hasL key (toL d t))) ∧ ∃ d' t' fp', Tree w' tr fan d' t' fp' ∧ toL d' t' = delL key (toL d t) ∧ (∀ k ∈ fp', k ∈ fp ∨ w.heap.size ≤ k) ∧ Chg (fun k => k ∈ fp ∨ k = tr) w w'

/-- A root's children as they are read: not one, or just one. -/
theorem root_kids {w : World} {fan root : Nat} : ∀ {d : Nat} {t : Tr d} {fp : List Nat}, At w d root t fp → fp.Nodup → Sound fan d t → (0 < d → 1 ≤ sizeT d t) → sizeT d t ≤ fan → 4 ≤ fan →
    (∃ A n c, w.cell? ⟨root, 2, none⟩ = some (.slice A n c) ∧ ¬ ((n : Int) = 1) ∧ n ≤ fan ∧ (0 < d → 2 ≤ sizeT d t)) ∨
    (∃ g c x, w.cell? ⟨root, 2, none⟩ = some (.slice (some ⟨g, 0, none⟩) 1 c) ∧ w.cell? ⟨g, 0, none⟩ = some (.pointer (some ⟨x, 0, none⟩)) ∧
      ∃ d' t' fp', At w d' x t' fp' ∧ fp'.Nodup ∧ (∀ k ∈ fp', k ∈ fp) ∧ Sound fan d' t' ∧ sizeT d' t' ≤ fan ∧ (0 < d' → 2 ≤ sizeT d' t') ∧ toL d' t' = toL d t)
  | 0, t, fp, ⟨vk, vr, hb, _⟩, _, _, _, _, _ => .inl ⟨none, 0, 0, hb.cell_ rfl, by decide, by omega, fun h => by omega⟩
  | d + 1, (ks, ts), fp, hA, hnd, hs, h1, hsz, h4 => by
    have hA0 := hA
    obtain ⟨vk, g, c, cs, hb, hk, hg, hts, hcs, hfp⟩ := hA
    subst hts
    have hl : sizeT (d + 1) (ks, cs.map (·.2.1)) = cs.length := by simp [sizeT]
    have h1' := h1 (by omega)
    by_cases hone : cs.length = 1
    · obtain ⟨⟨x, t, fpx⟩, hx⟩ : ∃ y, cs[0]? = some y := ⟨_, List.getElem?_eq_getElem (by omega)⟩
      have hcs1 : cs = [(x, t, fpx)] := by
        match cs, hone, hx with
        | [y], _, hx => simp at hx; rw [hx]
      have I := inn hA0 hnd hfp hx
      obtain ⟨q1, q2, q3⟩ := hs.child (i := 0) (t := t) (by rw [hcs1]; rfl)
      refine .inr ⟨g, c, x, ?_, ?_, d, t, fpx, hcs _ (List.mem_of_getElem? hx), I.hndx, I.hfx, q1, q3, fun _ => by omega, ?_⟩
      · rw [← hone]; exact hb.cell_ rfl
      · exact hg.cell (by simp [ptrs, hx, ptr])
      · rw [hcs1]; simp [toL]
    · exact .inl ⟨_, cs.length, c, hb.cell_ rfl, by omega, by omega, fun _ => by omega⟩

set_option maxHeartbeats 2000000 in
set_option maxRecDepth 100000 in
theorem del_walk (w : World) (tr fan d root : Nat) (t : Tr d) (fp : List Nat) (key : ByteArray) (hT : Tree w tr fan d t fp) (hbig : (toL d t).length < 4611686018427387904)
    (hb : Blk w tr 64 #[.int .i64 fan, .int .i64 (toL d t).length, ptr root]) (hA : At w d root t fp) :
    Calls Try.prog 23 #[ptr tr, .string key] w (DelAll w tr fan d t fp key) := by
  unfold ptr at *
  obtain ⟨R, hR⟩ : ∃ R, R = DelAll w tr fan d t fp key := ⟨_, rfl⟩
  rw [← hR]
  have hmf : ∀ (fn : Fn) (first cap : Array Value) (w : World), (Instr.makeFunc fn first cap).run Try.prog w = .ok (.func fn first cap) w := fun _ _ _ _ => rfl
  have HT := Lib.hid hT
  have HA := Lib.hid hA
  have HB := Lib.hid hb
  obtain ⟨p1, p2, p3, p4⟩ := del_sound hT.lo key d t hT.sound hT.size hT.two
  have HP : Hid (∀ e W root' (d' : Nat) (t' : Tr d') fp', e = .returned (.bool (!freshT key d t)) → Blk W tr 64 #[.int .i64 fan, .int .i64 ((toL d t).length - (if (!freshT key d t) = true then (1 : Int) else 0)), .pointer (some ⟨root', 0, none⟩)] → At W d' root' t' fp' → fp'.Nodup →
      Sound fan d' t' → sizeT d' t' ≤ fan → (0 < d' → 2 ≤ sizeT d' t') → toL d' t' = delL key (toL d t) → (∀ k ∈ fp', k ∈ fp ∨ w.heap.size ≤ k) → Chg (fun k => k ∈ fp ∨ k = tr) w W → R e W) := by
    intro e W root' d' t' fp' a1 a2 a3 a4 a5 a6 a7 a8 a9 a10
    rw [hR]
    have hfr := fresh_has key d t hT.sound
    have hlen := delL_len key _ hT.sound.rise
    refine ⟨by rw [a1, hfr, Bool.not_not], d', t', fp', ⟨hT.lo, hT.hi, a4, fun h => ?_, a5, a6, a7, root', ?_, a3⟩, a8, a9, a10⟩
    · rcases a9 tr h with h | h
      · exact hT.away h
      · have := hb.lt; omega
    · rw [a8]
      rw [hfr, Bool.not_not] at a2
      have e1 : ((delL key (toL d t)).length : Int) = ((toL d t).length : Int) - (if hasL key (toL d t) = true then (1 : Int) else 0) := by
        split
        · rename_i hh; rw [if_pos hh] at hlen; omega
        · rename_i hh; rw [if_neg hh] at hlen; omega
      rw [e1]; exact a2
  have hpos : freshT key d t = false → 0 < (toL d t).length := by
    intro h
    have hfr := fresh_has key d t hT.sound
    rw [h] at hfr
    have hh : hasL key (toL d t) = true := by simpa using hfr.symm
    have hlen := delL_len key _ hT.sound.rise
    rw [if_pos hh] at hlen
    omega
  have HPOS := Lib.hid hpos
  have HQ1 : Hid (toL d (delT fan key d t) = delL key (toL d t)) := p1
  have HQ2 := Lib.hid p2
  have HQ3 : Hid (sizeT d t - 1 ≤ sizeT d (delT fan key d t)) := p3
  have HQ4 : Hid (sizeT d (delT fan key d t) ≤ sizeT d t) := p4
  clear hR hT hA hb p1 p2 p3 p4 hpos
  go_enter Try.func23, Try.ntmps23
  go_wp2_with fail
  obtain ⟨w1, bt, bk, bg, bd, hw1, e3, e2, e1, e0, hBt, hBk, hBg, hBd, hC1⟩ := four_named w #[.pointer (some ⟨tr, 0, none⟩)] #[.string key] #[.bool false]
    #[.func (.func 39) #[] #[.pointer (some ⟨w.heap.size + 1, 0, none⟩), .pointer (some ⟨w.heap.size + 1 + 1, 0, none⟩), .pointer (some ⟨w.heap.size + 1 + 1 + 1, 0, none⟩), .pointer (some ⟨w.heap.size, 0, none⟩)]]
    23 9 4 65
  rw [hw1, e3, e2, e1, e0]
  rw [e3, e2, e1, e0] at hBd
  have hS1 : w.heap.size ≤ bt ∧ w.heap.size ≤ bk ∧ w.heap.size ≤ bg ∧ w.heap.size ≤ bd := by omega
  obtain ⟨w2, hw2, hC2⟩ := drew_named w1
  have HC2 := Lib.hid (hC1.trans hC2)
  have hBt2 := hBt.chg hC2 id
  have hBk2 := hBk.chg hC2 id
  have hBg2 := hBg.chg hC2 id
  have hBd2 := hBd.chg hC2 id
  have hA2 : At w2 d root t fp := At.chg HC2.out HA.out fun _ _ h => h
  have hb2 : Blk w2 tr 64 _ := HB.out.chg HC2.out id
  have hnew : ∀ k, w.heap.size ≤ k → k ∉ fp := fun k h1 h2 => by have := HA.out.lt k h2; omega
  have hE2 : DEnv w2 fp bk bg bd bt tr key fan := ⟨hBk2, hBd2, hBt2, ⟨_, _, hb2⟩, hnew _ hS1.2.1, hnew _ hS1.2.2.1, hnew _ hS1.2.2.2, hnew _ hS1.1, HT.out.away⟩
  have HPC : Hid (Calls Try.prog 39 #[.pointer (some ⟨root, 0, none⟩), .pointer (some ⟨bk, 0, none⟩), .pointer (some ⟨bg, 0, none⟩), .pointer (some ⟨bd, 0, none⟩), .pointer (some ⟨bt, 0, none⟩)] w2 (DelPost w2 d root bg t fp key fan false)) :=
    del_at HT.out.lo HT.out.hi bk bg bd bt tr key d w2 root t fp false hA2 HT.out.nodup hE2 hBg2 HT.out.sound HT.out.size HT.out.two
  have hS : w2.cell? ⟨bd, 0, none⟩ = some (.func (.func 39) #[] #[.pointer (some ⟨bk, 0, none⟩), .pointer (some ⟨bg, 0, none⟩), .pointer (some ⟨bd, 0, none⟩), .pointer (some ⟨bt, 0, none⟩)]) ∧
      w2.cell? ⟨bt, 0, none⟩ = some (.pointer (some ⟨tr, 0, none⟩)) ∧ w2.cell? ⟨tr, 2, none⟩ = some (.pointer (some ⟨root, 0, none⟩)) := ⟨hBd2.cell_ rfl, hBt2.cell_ rfl, hb2.cell_ rfl⟩
  have HBT := Lib.hid hBt2
  have HBB := Lib.hid hb2
  have HS1 := Lib.hid hS1
  have hnf : tr ≠ bg := HB.out.chg HC2.out id |>.ne_ hBg2 (by decide)
  have HNF := Lib.hid hnf
  have HNT : Hid (bt ∉ fp) := hE2.at_
  have HTB : Hid (bt ≠ bg) := hBt2.ne_ hBg2 (by decide)
  clear hw1 e3 e2 e1 e0 hBt hBk hBg hBd hBt2 hBk2 hBg2 hBd2 hC1 hS1 hA2 hb2 hnew hE2 hC2 hnf
  refine wp_region_till (s := 5) (S := (fun W => W.cell? ⟨bd, 0, none⟩ = some (.func (.func 39) #[] #[.pointer (some ⟨bk, 0, none⟩), .pointer (some ⟨bg, 0, none⟩), .pointer (some ⟨bd, 0, none⟩), .pointer (some ⟨bt, 0, none⟩)]) ∧
        W.cell? ⟨bt, 0, none⟩ = some (.pointer (some ⟨tr, 0, none⟩)) ∧ W.cell? ⟨tr, 2, none⟩ = some (.pointer (some ⟨root, 0, none⟩)))) (by kernel_rfl) ?_
  rw [hw2]
  clear hw2
  apply till_take (i := 0) (d := some 8) [5, 0]
  case hi => exact rfl
  case hd => exact rfl
  case hchk => kernel_rfl
  case hS => exact hS
  case hy => apply yields_plain; exact rfl; intro w hSw; (try dsimp only at hSw); go_split_ands; go_simp <;> with_reducible rfl
  case hQ => exact fun _ _ _ h => h
  simp only [Act.put, List.setIfInBounds_toArray, List.set_cons_zero, List.set_cons_succ]
  apply till_take (i := 1) (d := some 9) [5, 4, 3, 2, 1]
  case hi => exact rfl
  case hd => exact rfl
  case hchk => kernel_rfl
  case hS => exact hS
  case hy => apply yields_plain; exact rfl; intro w hSw; (try dsimp only at hSw); go_split_ands; go_simp <;> with_reducible rfl
  case hQ => exact fun _ _ _ h => h
  simp only [Act.put, List.setIfInBounds_toArray, List.set_cons_zero, List.set_cons_succ]
  apply till_take0 (i := 2) (d := some 10)
  case hi => exact rfl
  case hd => exact rfl
  case hchk => kernel_rfl
  case hS => exact (fun _ => hS)
  case hy => apply yields_plain; exact rfl; intro w _; go_simp <;> with_reducible rfl
  case hQ => exact fun _ _ _ h => h
  simp only [Act.put, List.setIfInBounds_toArray, List.set_cons_zero, List.set_cons_succ]
  apply till_take0 (i := 3) (d := some 11)
  case hi => exact rfl
  case hd => exact rfl
  case hchk => kernel_rfl
  case hS => exact (fun _ => hS)
  case hy => apply yields_plain; exact rfl; intro w _; go_simp <;> with_reducible rfl
  case hQ => exact fun _ _ _ h => h
  simp only [Act.put, List.setIfInBounds_toArray, List.set_cons_zero, List.set_cons_succ]
  apply till_take (i := 4) (d := some 12) [5, 4]
  case hi => exact rfl
  case hd => exact rfl
  case hchk => kernel_rfl
  case hS => exact hS
  case hy => apply yields_plain; exact rfl; intro w hSw; (try dsimp only at hSw); go_split_ands; go_simp <;> with_reducible rfl
  case hQ => exact fun _ _ _ h => h
  simp only [Act.put, List.setIfInBounds_toArray, List.set_cons_zero, List.set_cons_succ]
  refine till_all (rs := [5]) (by kernel_rfl) (by simp) (mem_more (till_op (i := 5) (o := ⟨some 13, _, _, _, _, _⟩) rfl rfl (fun K hK => ?_)) (mem_none))
  go_simp
  refine HPC.out.mono ?_
  rintro e w3 ⟨rfl, fp', hA3, hnd3, hsub3, hf3, hC3⟩
  refine hK.out _ _ (fun h => by cases (show true = false from h)) (fun _ => ?_)
  clear hK K hS
  try simp only [Act.put, List.setIfInBounds_toArray, List.set_cons_zero, List.set_cons_succ]
  refine till_done (by kernel_rfl) ?_
  skip
  obtain ⟨n, hn⟩ : ∃ n, (toL d t).length = n := ⟨_, rfl⟩
  obtain ⟨fr, hfr⟩ : ∃ fr, freshT key d t = fr := ⟨_, rfl⟩
  rw [hfr, Bool.false_or] at hf3
  rw [hfr, hn] at HP HPOS
  have hb3 := HBB.out.chg hC3 (fun h => h.elim HT.out.away HNF.out)
  have ht3 := HBT.out.chg hC3 (fun h => h.elim HNT.out HTB.out)
  have hCw : Chg (fun k => k ∈ fp ∨ k = tr) w w3 := HC2.out.up.comp hC3 (fun k hk h => h.elim .inl (fun e => by have := HS1.out; omega))
  have hsubw : ∀ k ∈ fp', k ∈ fp ∨ w.heap.size ≤ k := fun k hk => (hsub3 k hk).imp id (fun h => by have := HC2.out.size; omega)
  have HCW := Lib.hid hCw
  rw [hn] at hb3
  have HB3 := Lib.hid hb3
  have HF3 := Lib.hid hf3
  have HT3 := Lib.hid ht3
  have HA3 := Lib.hid hA3
  have htr3 : tr ∉ fp' := fun h => (hsubw _ h).elim HT.out.away (fun h => by have := HB.out.lt; omega)
  have HTR3 := Lib.hid htr3
  have HSUB : Hid (∀ k ∈ fp', k ∈ fp ∨ w.heap.size ≤ k) := hsubw
  have HND := Lib.hid hnd3
  have htc : w3.cell? ⟨bt, 0, none⟩ = some (.pointer (some ⟨tr, 0, none⟩)) := ht3.cell_ rfl
  have hrc : w3.cell? ⟨tr, 2, none⟩ = some (.pointer (some ⟨root, 0, none⟩)) := hb3.cell_ rfl
  have hkids := root_kids hA3 hnd3 HQ2.out (fun hd => by have h1 := HT.out.two hd; have h2 := HQ3.out; omega) (Nat.le_trans HQ4.out HT.out.size) HT.out.lo
  have htf : tr ≠ bg := HNF.out
  have htt : bt ≠ tr := ht3.ne_ hb3 (by decide)
  have hnb : n < 4611686018427387904 := by omega
  have hfan64 := HT.out.hi
  clear hn hfr hnd3 hA3 hCw hb3 ht3 hf3 hsub3 hC3 HBB HBT HNT HTB HS1 HC2 HPC hsubw htr3 hbig
  rcases hkids with ⟨K, kn, kc, hkc, hk1, hkf, hk2⟩ | ⟨g, kc, x, hkc, hgc, d', t', fpx, hAx, hndx, hsubx, hsx, hszx, h2x, htoL⟩
  · have HPP : Hid (∀ e W, e = .returned (.bool (!fr)) → Blk W tr 64 #[.int .i64 fan, .int .i64 ((n : Int) - (if (!fr) = true then (1 : Int) else 0)), .pointer (some ⟨root, 0, none⟩)] → Chg (fun k => k = tr) w3 W → R e W) := by
      intro e W a1 a2 a3
      refine HP.out e W root d (delT fan key d t) fp' a1 a2 (At.chg a3 HA3.out fun k hk e => HTR3.out (e ▸ hk)) HND.out HQ2.out (Nat.le_trans HQ4.out HT.out.size) hk2 HQ1.out HSUB.out (HCW.out.trans (a3.mono fun k _ h => .inr h))
    have hbc : w3.cell? ⟨bg, 0, none⟩ = some (.bool (!fr)) := HF3.out.cell_ rfl
    have hnc : w3.cell? ⟨tr, 1, none⟩ = some (.int .i64 n) := HB3.out.cell_ rfl
    have hfz1 := HB3.out.frozen 1
    have hkn : (kn : Int) ≤ 64 := by omega
    have hbt := HF3.out
    clear HP hk2
    cases fr
    · have hn0 := HPOS.out rfl
      have hwr : IntKind.i64.wrap ((n : Int) - 1) = (n : Int) - 1 := by rw [IntKind.wrap_i64]; omega
      have hbc2 : ∀ v, (w3.setCell ⟨tr, 1, none⟩ v).cell? ⟨bg, 0, none⟩ = some (.bool true) := fun v => (HF3.out.far (p := ⟨tr, 1, none⟩) (fun e => htf e.symm) v).cell_ rfl
      simp only [Bool.not_false] at hbc HPP
      clear hbt
      go_wp2_with fail
      refine HPP.out _ _ rfl ?_ ((Chg.refl (fun k => k = tr) w3).setCell (p := ⟨tr, 1, none⟩) (.inl rfl) _)
      have := HB3.out.set_ 1 (.int .i64 ((n : Int) - 1)); simpa using this
    · simp only [Bool.not_true] at hbc HPP
      clear hbt
      go_wp2_with fail
      refine HPP.out _ _ rfl ?_ (Chg.refl _ w3)
      simpa using HB3.out
  · have SQ : Hid (∀ W, Chg (fun _ => False) w3 W → W.cell? ⟨bt, 0, none⟩ = some (.pointer (some ⟨tr, 0, none⟩)) ∧ W.cell? ⟨tr, 2, none⟩ = some (.pointer (some ⟨root, 0, none⟩)) ∧ W.cell? ⟨root, 2, none⟩ = some (.slice (some ⟨g, 0, none⟩) 1 kc) ∧ W.cell? ⟨g, 0, none⟩ = some (.pointer (some ⟨x, 0, none⟩))) := fun W hc =>
      ⟨by rw [hc.cell (World.block_lt_of_cell? _ _ htc) id]; exact htc, by rw [hc.cell (World.block_lt_of_cell? _ _ hrc) id]; exact hrc, by rw [hc.cell (World.block_lt_of_cell? _ _ hkc) id]; exact hkc, by rw [hc.cell (World.block_lt_of_cell? _ _ hgc) id]; exact hgc⟩
    have HPP : Hid (∀ e W, e = .returned (.bool (!fr)) → Blk W tr 64 #[.int .i64 fan, .int .i64 ((n : Int) - (if (!fr) = true then (1 : Int) else 0)), .pointer (some ⟨x, 0, none⟩)] → Chg (fun k => k = tr) w3 W → R e W) := by
      intro e W a1 a2 a3
      refine HP.out e W x d' t' fpx a1 a2 (At.chg a3 hAx fun k hk e => HTR3.out (e ▸ hsubx k hk)) hndx hsx hszx h2x (htoL.trans HQ1.out) (fun k hk => HSUB.out k (hsubx k hk)) (HCW.out.trans (a3.mono fun k _ h => .inr h))
    clear HP hAx hndx hsubx hsx hszx h2x htoL hgc
    go_wp2_with fail
    obtain ⟨w4, hw4, hC4⟩ := drew_named w3
    have hC0 : Chg (fun _ => False) w3 w4 := hC4
    have hS := SQ.out w4 hC0
    refine wp_region_till (s := 12) (S := (fun W => W.cell? ⟨bt, 0, none⟩ = some (.pointer (some ⟨tr, 0, none⟩)) ∧ W.cell? ⟨tr, 2, none⟩ = some (.pointer (some ⟨root, 0, none⟩)) ∧ W.cell? ⟨root, 2, none⟩ = some (.slice (some ⟨g, 0, none⟩) 1 kc) ∧ W.cell? ⟨g, 0, none⟩ = some (.pointer (some ⟨x, 0, none⟩)))) (by kernel_rfl) ?_
    rw [hw4]
    clear hw4 hC4
    apply till_take (i := 0) (d := some 23) [12, 0]
    case hi => exact rfl
    case hd => exact rfl
    case hchk => kernel_rfl
    case hS => exact hS
    case hy => apply yields_plain; exact rfl; intro w hSw; (try dsimp only at hSw); go_split_ands; go_simp <;> with_reducible rfl
    case hQ => exact fun _ _ _ h => h
    simp only [Act.put, List.setIfInBounds_toArray, List.set_cons_zero, List.set_cons_succ]
    apply till_take (i := 1) (d := some 24) [12, 1]
    case hi => exact rfl
    case hd => exact rfl
    case hchk => kernel_rfl
    case hS => exact hS
    case hy => apply yields_plain; exact rfl; intro w hSw; (try dsimp only at hSw); go_split_ands; go_simp <;> with_reducible rfl
    case hQ => exact fun _ _ _ h => h
    simp only [Act.put, List.setIfInBounds_toArray, List.set_cons_zero, List.set_cons_succ]
    apply till_take0 (i := 2) (d := some 25)
    case hi => exact rfl
    case hd => exact rfl
    case hchk => kernel_rfl
    case hS => exact (fun _ => hS)
    case hy => apply yields_plain; exact rfl; intro w _; go_simp <;> with_reducible rfl
    case hQ => exact fun _ _ _ h => h
    simp only [Act.put, List.setIfInBounds_toArray, List.set_cons_zero, List.set_cons_succ]
    apply till_take0 (i := 3) (d := some 26)
    case hi => exact rfl
    case hd => exact rfl
    case hchk => kernel_rfl
    case hS => exact (fun _ => hS)
    case hy => apply yields_plain; exact rfl; intro w _; go_simp <;> with_reducible rfl
    case hQ => exact fun _ _ _ h => h
    simp only [Act.put, List.setIfInBounds_toArray, List.set_cons_zero, List.set_cons_succ]
    apply till_take (i := 4) (d := some 27) [12, 4]
    case hi => exact rfl
    case hd => exact rfl
    case hchk => kernel_rfl
    case hS => exact hS
    case hy => apply yields_plain; exact rfl; intro w hSw; (try dsimp only at hSw); go_split_ands; go_simp <;> with_reducible rfl
    case hQ => exact fun _ _ _ h => h
    simp only [Act.put, List.setIfInBounds_toArray, List.set_cons_zero, List.set_cons_succ]
    apply till_take0 (i := 5) (d := some 28)
    case hi => exact rfl
    case hd => exact rfl
    case hchk => kernel_rfl
    case hS => exact (fun _ => hS)
    case hy => apply yields_plain; exact rfl; intro w _; go_simp <;> with_reducible rfl
    case hQ => exact fun _ _ _ h => h
    simp only [Act.put, List.setIfInBounds_toArray, List.set_cons_zero, List.set_cons_succ]
    apply till_take0 (i := 6) (d := some 29)
    case hi => exact rfl
    case hd => exact rfl
    case hchk => kernel_rfl
    case hS => exact (fun _ => hS)
    case hy => apply yields_plain; exact rfl; intro w _; go_simp <;> with_reducible rfl
    case hQ => exact fun _ _ _ h => h
    simp only [Act.put, List.setIfInBounds_toArray, List.set_cons_zero, List.set_cons_succ]
    apply till_take (i := 7) (d := some 30) [12, 7]
    case hi => exact rfl
    case hd => exact rfl
    case hchk => kernel_rfl
    case hS => exact hS
    case hy => apply yields_plain; exact rfl; intro w hSw; (try dsimp only at hSw); go_split_ands; go_simp <;> with_reducible rfl
    case hQ => exact fun _ _ _ h => h
    simp only [Act.put, List.setIfInBounds_toArray, List.set_cons_zero, List.set_cons_succ]
    apply till_take0 (i := 8) (d := some 31)
    case hi => exact rfl
    case hd => exact rfl
    case hchk => kernel_rfl
    case hS => exact (fun _ => hS)
    case hy => apply yields_plain; exact rfl; intro w _; go_simp <;> with_reducible rfl
    case hQ => exact fun _ _ _ h => h
    simp only [Act.put, List.setIfInBounds_toArray, List.set_cons_zero, List.set_cons_succ]
    apply till_take (i := 9) (d := some 32) [12, 9]
    case hi => exact rfl
    case hd => exact rfl
    case hchk => kernel_rfl
    case hS => exact hS
    case hy => apply yields_plain; exact rfl; intro w hSw; (try dsimp only at hSw); go_split_ands; go_simp <;> with_reducible rfl
    case hQ => exact fun _ _ _ h => h
    simp only [Act.put, List.setIfInBounds_toArray, List.set_cons_zero, List.set_cons_succ]
    apply till_take0 (i := 10) (d := some 33)
    case hi => exact rfl
    case hd => exact rfl
    case hchk => kernel_rfl
    case hS => exact (fun _ => hS)
    case hy => apply yields_plain; exact rfl; intro w _; go_simp <;> with_reducible rfl
    case hQ => exact fun _ _ _ h => h
    simp only [Act.put, List.setIfInBounds_toArray, List.set_cons_zero, List.set_cons_succ]
    apply till_take0 (i := 11) (d := some 34)
    case hi => exact rfl
    case hd => exact rfl
    case hchk => kernel_rfl
    case hS => exact (fun _ => hS)
    case hy => apply yields_plain; exact rfl; intro w _; go_simp <;> with_reducible rfl
    case hQ => exact fun _ _ _ h => h
    simp only [Act.put, List.setIfInBounds_toArray, List.set_cons_zero, List.set_cons_succ]
    refine till_all (rs := [12]) (by kernel_rfl) (by simp) (mem_more (till_op (i := 12) (o := ⟨none, _, _, _, _, _⟩) rfl rfl (fun K hK => ?_)) (mem_none))
    have hB4 := HB3.out.chg hC0 id
    have hbc : (w4).cell? ⟨tr, 2, none⟩ = some _ := hB4.cell_ rfl
    have hbf := hB4.frozen 2
    go_simp
    clear hbc hbf
    obtain ⟨w5, hw5, hB5, hC5⟩ := set_named hB4 2 (.pointer (some ⟨x, 0, none⟩))
    rw [hw5]
    have hF5 := (HF3.out.chg hC0 id).chg hC5 (fun e => htf e.symm)
    have hT5 := (HT3.out.chg hC0 id).chg hC5 htt
    have hC5 : Chg (fun k => k = tr) w3 w5 := hC0.up.trans hC5
    clear hw5 hB4
    refine hK.out _ _ (fun h => by cases (show true = false from h)) (fun _ => ?_)
    clear hK K hS
    try simp only [Act.put, List.setIfInBounds_toArray, List.set_cons_zero, List.set_cons_succ]
    refine till_done (by kernel_rfl) ?_
    skip
    have HB5 : Hid (Blk w5 tr 64 #[.int .i64 fan, .int .i64 n, .pointer (some ⟨x, 0, none⟩)]) := hB5
    have HC5 := Lib.hid hC5
    have HF5 := Lib.hid hF5
    have hbc : w5.cell? ⟨bg, 0, none⟩ = some (.bool (!fr)) := HF5.out.cell_ rfl
    have hnc : w5.cell? ⟨tr, 1, none⟩ = some (.int .i64 n) := HB5.out.cell_ rfl
    have htc5 : w5.cell? ⟨bt, 0, none⟩ = some (.pointer (some ⟨tr, 0, none⟩)) := hT5.cell_ rfl
    have hfz1 := HB5.out.frozen 1
    clear htc hrc hkc hC0 hB5 hC5 hF5 hT5
    cases fr
    · have hn0 := HPOS.out rfl
      have hwr : IntKind.i64.wrap ((n : Int) - 1) = (n : Int) - 1 := by rw [IntKind.wrap_i64]; omega
      have hbc2 : ∀ v, (w5.setCell ⟨tr, 1, none⟩ v).cell? ⟨bg, 0, none⟩ = some (.bool true) := fun v => (HF5.out.far (p := ⟨tr, 1, none⟩) (fun e => htf e.symm) v).cell_ rfl
      simp only [Bool.not_false] at hbc HPP
      go_wp2_with fail
      refine HPP.out _ _ rfl ?_ (HC5.out.trans ((Chg.refl (fun k => k = tr) w5).setCell (p := ⟨tr, 1, none⟩) (.inl rfl) _))
      have := HB5.out.set_ 1 (.int .i64 ((n : Int) - 1)); simpa using this
    · simp only [Bool.not_true] at hbc HPP
      go_wp2_with fail
      refine HPP.out _ _ rfl ?_ HC5.out
      simpa using HB5.out

theorem del_calls {w : World} {tr fan d : Nat} {t : Tr d} {fp : List Nat} (key : ByteArray) (hT : Tree w tr fan d t fp) (hbig : (toL d t).length < 4611686018427387904) :
    Calls Try.prog 23 #[ptr tr, .string key] w (DelAll w tr fan d t fp key) := by
  obtain ⟨root, hb, hA⟩ := hT.mem
  exact del_walk w tr fan d root t fp key hT hbig hb hA
end Go.Proofs.Ythndplpbnfihdaa
