/-
  (*Tree).Last, walked; Len. Conditions: a sound tree that is read.
-/
import Derived.Test.YthndplpbnfihdaaCk
set_option linter.unusedVariables false
set_option linter.unusedSimpArgs false
namespace Go.Proofs.Ythndplpbnfihdaa
open Go.RowKit

theorem len_calls {w : World} {tr : Nat} {x0 x2 : Value} {n : Int} (h : Blk w tr 64 #[x0, .int .i64 n, x2]) : Calls Try.prog 15 #[ptr tr] w fun e w' => e = .returned (.int .i64 n) ∧ w = w' := by
  have hc : w.cell? ⟨tr, 1, none⟩ = some (.int .i64 n) := h.cell_ rfl
  unfold ptr
  clear h
  go_enter Try.func15, Try.ntmps15
  go_wp2
  go_ret
  exact ⟨rfl, rfl⟩

set_option maxHeartbeats 2000000 in
set_option maxRecDepth 100000 in
theorem last_calls {w : World} {S : Nat → Prop} {tr d : Nat} {u : Nb d} {x0 : Value} (hV : View w S d u) (htr : Blk w tr 64 #[x0, .int .i64 (listU d u).length, ptr (blk d u)]) :
    Calls Try.prog 16 #[ptr tr] w (AtPost w d u ((listU d u).length - 1 : Int)) := by
  obtain ⟨R, hR⟩ : ∃ R, R = AtPost w d u ((listU d u).length - 1 : Int) := ⟨_, rfl⟩
  rw [← hR]
  obtain ⟨n, hn⟩ : ∃ n, (listU d u).length = n := ⟨_, rfl⟩
  have htc : w.cell? ⟨tr, 2, none⟩ = some (.pointer (some ⟨blk d u, 0, none⟩)) := htr.cell_ rfl
  have hnc : w.cell? ⟨tr, 1, none⟩ = some (.int .i64 n) := by rw [← hn]; exact htr.cell_ rfl
  have htl : tr < w.heap.size := htr.lt
  obtain ⟨ub, hub⟩ : ∃ ub, blk d u = ub := ⟨_, rfl⟩
  have HUB := Lib.hid hub
  rw [hub] at htc
  unfold ptr
  by_cases h0 : n = 0
  · subst h0
    have HP : Hid (∀ e w' c fpc, e = .returned (.pointer (some ⟨c, 0, none⟩)) → Cur w' c [] fpc → (∀ k ∈ fpc, w.heap.size ≤ k) → Chg (fun _ => False) w w' → R e w') := by
      intro e w' c fpc h1 h2 h3 h4
      rw [hR]
      exact ⟨c, [], fpc, h1, h2, by rw [hn, if_neg (by omega)], h3, h4⟩
    clear hV htr hR hn hub
    go_enter Try.func16, Try.ntmps16
    go_wp2_with fail
    obtain ⟨w0, c, hw0, hc, hBc, hC0, -⟩ := alloc_named w #[.slice none 0 0] 75
    rw [hw0, hc]
    exact HP.out _ _ c [c] rfl ⟨_, hBc, Row2.nil _ _, rfl⟩ (fun k hk => by simp at hk; omega) hC0
  · have hfull : Full d u := by
      cases d with
      | zero => show 0 < u.2.length; have : u.2.length = n := hn; omega
      | succ d => exact hV.full (by omega)
    have hn0 : ¬ ((n : Int) = 0) := by omega
    have hn1 : ¬ (n = 0) := h0
    have hn2 : ((n : Int) == 0) = false := by rw [beq_eq_false_iff_ne]; omega
    obtain ⟨T, hT⟩ : ∃ T, downR d u = T := ⟨_, rfl⟩
    have hgo := goes_downR hfull
    rw [hT, hn] at hgo
    have HP : Hid (∀ e w' c fpc, e = .returned (.pointer (some ⟨c, 0, none⟩)) → Cur w' c T fpc → (∀ k ∈ fpc, w.heap.size ≤ k) → Chg (fun _ => False) w w' → R e w') := by
      intro e w' c fpc h1 h2 h3 h4
      rw [hR]
      exact ⟨c, T, fpc, h1, h2, by rw [hn, if_pos ⟨by omega, by omega⟩]; exact hgo, h3, h4⟩
    have HV := Lib.hid hV
    have HT := Lib.hid hT
    have HF := Lib.hid hfull
    clear hV htr hR hn hub hT hgo hfull h0
    go_enter Try.func16, Try.ntmps16
    go_wp2_with fail
    obtain ⟨w0, c, hw0, hc, hBc, hC0, -⟩ := alloc_named w #[.slice none 0 0] 75
    rw [hw0, hc]
    have hcw : w.heap.size ≤ c := by omega
    have hcur0 : Cur w0 c ([] : List (Nat × Int)) [c] := ⟨_, hBc, Row2.nil _ _, rfl⟩
    have HCU := Lib.hid hcur0
    have HC0 := Lib.hid hC0
    have HC := Lib.hid hcw
    clear hw0 hc hBc hC0 hcur0 hcw htc htl hnc
    go_loopg [4] d (fun g s8 wr => ∃ (d' : Nat) (u' : Nb d') (qs : List (Nat × Int)) (fpq : List Nat), s8 = .pointer (some ⟨blk d' u', 0, none⟩) ∧ d' ≤ g ∧ Cur wr c qs fpq ∧ qs ++ downR d' u' = T ∧ Rd wr S d' u' ∧ Full d' u' ∧
      qs.length + d' ≤ 1000 ∧ (∀ k ∈ fpq, w.heap.size ≤ k) ∧ Chg (fun _ => False) w wr)
    case atStart =>
      refine ⟨d, u, [], [c], by rw [HUB.out], Nat.le_refl _, HCU.out, HT.out, HV.out.rd.chg HC0.out fun _ _ h => h, HF.out, by have := HV.out.deep; simpa using this, fun k hk => ?_, HC0.out⟩
      simp at hk; subst hk; exact HC.out
    case round =>
      obtain ⟨d', u', qs, fpq, rfl, hdg, hcur, hqT, hrd, hfull, hql, hsubq, hchq⟩ := hrel
      have HSUBQ : Hid (∀ k ∈ fpq, w.heap.size ≤ k) := hsubq
      have HCHQ := Lib.hid hchq
      have HQT := Lib.hid hqT
      have HRD := Lib.hid hrd
      have HFU := Lib.hid hfull
      clear HCU HC0 HC hsubq hchq hqT
      obtain ⟨v, h1, h2, h3⟩ := hcur
      obtain ⟨A, cap, rfl, _, _, _, _⟩ := h2.shape
      have hqs : (spots qs).length = qs.length := by simp [spots]
      obtain ⟨l, hl⟩ : ∃ l, qs.length = l := ⟨_, rfl⟩
      rw [hqs, hl] at h1 h2 h3
      have HQS := Lib.hid hqs
      have HL := Lib.hid hl
      have HB1 := Lib.hid h1
      have HFPQ := Lib.hid h3
      have hcc : wr.cell? ⟨c, 0, none⟩ = some (.slice A l cap) := h1.cell_ rfl
      have hclt := h1.lt
      have HROW : Hid (∀ W, Chg (fun _ => False) wr W → Row2 W 77 (.slice A l cap) (spots qs)) := fun W hW => h2.chg hW fun _ _ h => h
      have HNO : Hid ((Value.slice A l cap).ownBlock ≠ some c) := h2.ne_blk h1 (by decide)
      have hlb : l + d' ≤ 1000 := by omega
      obtain ⟨sx, hsx⟩ : ∃ sx, sizeU d' u' = sx := ⟨_, rfl⟩
      have hsp := full_size hfull
      have hsm := rd_size hrd
      rw [hsx] at hsp hsm
      have HSX0 := Lib.hid hsx
      have hwsx : IntKind.i64.wrap ((sx : Int) - 1) = (sx : Int) - 1 := by rw [IntKind.wrap_i64]; unfold maxLen at hsm; omega
      obtain ⟨bx, hbx⟩ : ∃ bx, blk d' u' = bx := ⟨_, rfl⟩
      have HBX := Lib.hid hbx
      rw [hbx]
      clear h1 h2 h3 hqs hl hsx hbx
      go_wp2_with fail
      obtain ⟨w5, hw5, hC5⟩ := drew_named wr
      have HC5 := Lib.hid hC5
      have HB5 := Lib.hid (HB1.out.chg hC5 id)
      have HSX : Hid (∀ W, Chg (fun _ => False) w5 W → Calls Try.prog 34 #[.pointer (some ⟨bx, 0, none⟩)] W (fun e w' => e = .returned (.int .i64 (sx : Nat)) ∧ W = w')) := fun W hW => by
        have h1 := HRD.out.chg (hC5.trans hW) fun _ _ h => h
        have h2 := size_rd h1
        rw [HBX.out, HSX0.out] at h2
        exact h2
      have HRO5 : Hid (∀ W, Chg (fun _ => False) w5 W → Row2 W 77 (.slice A l cap) (spots qs)) := fun W hW => HROW.out W (hC5.trans hW)
      have SP : Hid (∀ W, Chg (fun _ => False) w5 W → W.cell? ⟨c, 0, none⟩ = some (.slice A l cap)) := fun W hW => (HB5.out.chg hW id).cell_ rfl
      have hC0 : Chg (fun _ => False) w5 w5 := Chg.refl _ _
      have hs5 : wr.heap.size ≤ w5.heap.size := hC5.size
      clear hC5 hcc
      refine wp_region_till (s := 11) (S := (fun W => W.cell? ⟨c, 0, none⟩ = some (.slice A l cap))) (by kernel_rfl) ?_
      rw [hw5]
      clear hw5
      have hS := SP.out w5 hC0
      apply till_take0 (i := 0) (d := some 17)
      case hi => exact rfl
      case hd => exact rfl
      case hchk => kernel_rfl
      case hS => exact (fun _ => hS)
      case hy => apply yields_plain; exact rfl; intro w _; go_simp <;> with_reducible rfl
      case hQ => exact fun _ _ _ h => h
      simp only [Act.put, List.setIfInBounds_toArray, List.set_cons_zero, List.set_cons_succ]
      apply till_take0 (i := 1) (d := some 18)
      case hi => exact rfl
      case hd => exact rfl
      case hchk => kernel_rfl
      case hS => exact (fun _ => hS)
      case hy => apply yields_plain; exact rfl; intro w _; go_simp <;> with_reducible rfl
      case hQ => exact fun _ _ _ h => h
      simp only [Act.put, List.setIfInBounds_toArray, List.set_cons_zero, List.set_cons_succ]
      apply till_take0 (i := 2) (d := some 19)
      case hi => exact rfl
      case hd => exact rfl
      case hchk => kernel_rfl
      case hS => exact (fun _ => hS)
      case hy => apply yields_plain; exact rfl; intro w _; go_simp <;> with_reducible rfl
      case hQ => exact fun _ _ _ h => h
      simp only [Act.put, List.setIfInBounds_toArray, List.set_cons_zero, List.set_cons_succ]
      apply till_take0 (i := 3) (d := some 20)
      case hi => exact rfl
      case hd => exact rfl
      case hchk => kernel_rfl
      case hS => exact (fun _ => hS)
      case hy => apply yields_plain; exact rfl; intro w _; go_simp <;> with_reducible rfl
      case hQ => exact fun _ _ _ h => h
      simp only [Act.put, List.setIfInBounds_toArray, List.set_cons_zero, List.set_cons_succ]
      apply till_take0 (i := 5) (d := some 22)
      case hi => exact rfl
      case hd => exact rfl
      case hchk => kernel_rfl
      case hS => exact (fun _ => hS)
      case hy => apply yields_plain; exact rfl; intro w _; go_simp <;> with_reducible rfl
      case hQ => exact fun _ _ _ h => h
      simp only [Act.put, List.setIfInBounds_toArray, List.set_cons_zero, List.set_cons_succ]
      apply till_take0 (i := 6) (d := some 23)
      case hi => exact rfl
      case hd => exact rfl
      case hchk => kernel_rfl
      case hS => exact (fun _ => hS)
      case hy => apply yields_plain; exact rfl; intro w _; go_simp <;> with_reducible rfl
      case hQ => exact fun _ _ _ h => h
      simp only [Act.put, List.setIfInBounds_toArray, List.set_cons_zero, List.set_cons_succ]
      apply till_take (i := 4) (d := some 21) [11, 4]
      case hi => exact rfl
      case hd => exact rfl
      case hchk => kernel_rfl
      case hS => exact hS
      case hy => apply yields_plain; exact rfl; intro w hSw; (try dsimp only at hSw); go_split_ands; go_simp <;> with_reducible rfl
      case hQ => exact fun _ _ _ h => h
      simp only [Act.put, List.setIfInBounds_toArray, List.set_cons_zero, List.set_cons_succ]
      refine till_all (rs := [7]) (by kernel_rfl) (by simp) (mem_more (till_op (i := 7) (o := ⟨some 24, _, _, _, _, _⟩) rfl rfl (fun K hK => ?_)) (mem_none))
      go_simp
      go_at_call 34
      refine (HSX.out _ hC0).mono ?_
      rintro e w' ⟨rfl, rfl⟩
      refine hK.out _ _ (fun _ => ?_) (fun hS2 => ?_)
      · exact SP.out _ hC0
      have hS3 := hS2 (by kernel_rfl)
      clear hK K hS hS2
      have hS := hS3
      clear hS3
      try simp only [Act.put, List.setIfInBounds_toArray, List.set_cons_zero, List.set_cons_succ]
      apply till_take0 (i := 8) (d := some 25)
      case hi => exact rfl
      case hd => exact rfl
      case hchk => kernel_rfl
      case hS => exact (fun _ => hS)
      case hy => apply yields_plain; exact rfl; intro w _; go_simp <;> with_reducible rfl
      case hQ => exact fun _ _ _ h => h
      simp only [Act.put, List.setIfInBounds_toArray, List.set_cons_zero, List.set_cons_succ]
      apply till_take0 (i := 9) (d := some 26)
      case hi => exact rfl
      case hd => exact rfl
      case hchk => kernel_rfl
      case hS => exact (fun _ => hS)
      case hy => apply yields_plain; exact rfl; intro w _; go_simp <;> with_reducible rfl
      case hQ => exact fun _ _ _ h => h
      simp only [Act.put, List.setIfInBounds_toArray, List.set_cons_zero, List.set_cons_succ]
      refine till_all (rs := [10]) (by kernel_rfl) (by simp) (mem_more (till_op (i := 10) (o := ⟨some 27, _, _, _, _, _⟩) rfl rfl (fun K hK => ?_)) (mem_none))
      go_simp
      obtain ⟨wx, xb, hwx, hxb, hBx, hCx, -⟩ := alloc_named w5 #[.pointer (some ⟨bx, 0, none⟩), .int .i64 ((sx : Int) - 1)] 77
      rw [hwx, hxb]
      have hC0 := hC0.trans hCx
      refine hK.out _ _ (fun _ => ?_) (fun hS2 => ?_)
      · exact SP.out _ hC0
      have hS3 := hS2 (by kernel_rfl)
      clear hK K hS hS2
      have hS := hS3
      clear hS3
      try simp only [Act.put, List.setIfInBounds_toArray, List.set_cons_zero, List.set_cons_succ]
      refine till_all (rs := [11]) (by kernel_rfl) (by simp) (mem_more (till_op (i := 11) (o := ⟨some 28, _, _, _, _, _⟩) rfl rfl (fun K hK => ?_)) (mem_none))
      obtain ⟨g3, c3, w6, hrun, hOw, hg3, hch3⟩ := run_app2 slt_spot (HRO5.out _ hC0) ⟨xb, 0, none⟩ 1 1 (by omega) [(.pointer (some ⟨bx, 0, none⟩), .int .i64 ((sx : Int) - 1))] rfl (pair_cells hBx) (by intro u hu; simp [cells2] at hu; rcases hu with rfl | rfl <;> rfl) (by rw [HQS.out, HL.out]; omega) 73
      rw [HQS.out, HL.out] at hrun hOw
      refine wp_append_ok (.tmp 21) (.tmp 27) _ _ rfl _ _ rfl rfl _ _ hrun ?_
      have hch3 : Chg (fun k => (Value.slice A l cap).ownBlock = some k) w5 w6 := hC0.up.trans hch3
      have hg3 : (Value.slice A l cap).ownBlock = some g3 ∨ wr.heap.size ≤ g3 := hg3.imp id (fun h => by have h1 := hC0.size; omega)
      have hB := HB5.out.chg hch3 HNO.out
      clear hC0 hBx hrun
      refine hK.out _ _ (fun h => by cases (show true = false from h)) (fun _ => ?_)
      clear hK K hS
      try simp only [Act.put, List.setIfInBounds_toArray, List.set_cons_zero, List.set_cons_succ]
      apply till_take0 (i := 12) (d := some 29)
      case hi => exact rfl
      case hd => exact rfl
      case hchk => kernel_rfl
      case hS => exact (fun h => by cases (show true = false from h))
      case hy => apply yields_plain; exact rfl; intro w _; go_simp <;> with_reducible rfl
      case hQ => exact fun _ _ _ h => h
      simp only [Act.put, List.setIfInBounds_toArray, List.set_cons_zero, List.set_cons_succ]
      apply till_take0 (i := 13) (d := some 30)
      case hi => exact rfl
      case hd => exact rfl
      case hchk => kernel_rfl
      case hS => exact (fun h => by cases (show true = false from h))
      case hy => apply yields_plain; exact rfl; intro w _; go_simp <;> with_reducible rfl
      case hQ => exact fun _ _ _ h => h
      simp only [Act.put, List.setIfInBounds_toArray, List.set_cons_zero, List.set_cons_succ]
      refine till_all (rs := [14]) (by kernel_rfl) (by simp) (mem_more (till_op (i := 14) (o := ⟨none, _, _, _, _, _⟩) rfl rfl (fun K hK => ?_)) (mem_none))
      have hbc : (w6).cell? ⟨c, 0, none⟩ = some _ := hB.cell_ rfl
      have hbf := hB.frozen 0
      go_simp
      clear hbc hbf
      obtain ⟨w7, hw7, hB1, hC7⟩ := set_named hB 0 (.slice (some ⟨g3, 0, none⟩) (l + 1) c3)
      rw [hw7]
      have hOw := hOw.past2 hB (by decide) hC7
      have hC6 : Chg (fun k => k = c ∨ (Value.slice A l cap).ownBlock = some k) wr w7 := (HC5.out.up.trans (hch3.mono fun k _ e => .inr e)).trans (hC7.mono fun k _ e => .inl e)
      have hB := hB1
      clear hB1 hw7 hC7 hch3
      refine hK.out _ _ (fun h => by cases (show true = false from h)) (fun _ => ?_)
      clear hK K
      try simp only [Act.put, List.setIfInBounds_toArray, List.set_cons_zero, List.set_cons_succ]
      refine till_done (by kernel_rfl) ?_
      skip
      have hcq : c ∈ fpq := by rw [HFPQ.out]; simp
      have hgq : ∀ k, (Value.slice A l cap).ownBlock = some k → k ∈ fpq := fun k hk => by rw [HFPQ.out]; simp [hk]
      have hs0 := HCHQ.out.size
      have hno : ∀ k, k = c ∨ (Value.slice A l cap).ownBlock = some k → w.heap.size ≤ k := fun k e => HSUBQ.out k (e.elim (fun e => e ▸ hcq) (fun e => hgq k e))
      have hCw : Chg (fun _ => False) w w7 := HCHQ.out.comp hC6 fun k hk e => by have := hno k e; omega
      have hge : ∀ k ∈ [c, g3], w.heap.size ≤ k := by
        intro k hk
        simp only [List.mem_cons, List.not_mem_nil, or_false] at hk
        rcases hk with rfl | rfl
        · exact HSUBQ.out _ hcq
        · rcases hg3 with h | h
          · exact HSUBQ.out _ (hgq _ h)
          · omega
      have hrd7 : Rd w7 S d' u' := HRD.out.chg hC6 fun k hS e => by have := hno k e; have := HV.out.lt k hS; omega
      have hqs7 : spots (qs ++ [(bx, (sx : Int) - 1)]) = spots qs ++ [(.pointer (some ⟨bx, 0, none⟩), .int .i64 ((sx : Int) - 1))] := by simp [spots, ptr]
      have hcur7 : Cur w7 c (qs ++ [(bx, (sx : Int) - 1)]) [c, g3] := ⟨_, hB, by rw [hqs7]; exact hOw, rfl⟩
      have HCU7 := Lib.hid hcur7
      have HGE : Hid (∀ k ∈ [c, g3], w.heap.size ≤ k) := hge
      have HCW := Lib.hid hCw
      have HRD7 := Lib.hid hrd7
      clear hcq hgq hs0 hno hCw hge hqs7 hcur7 hrd7 hC6 hOw hB hg3
      cases d' with
      | zero =>
        obtain ⟨_, vk, vr, hbk, _⟩ := HRD7.out
        have hkc : w7.cell? ⟨bx, 2, none⟩ = some (.slice none 0 0) := HBX.out ▸ hbk.cell_ rfl
        clear hbk
        go_wp2_with fail
        refine HP.out _ _ c [c, g3] rfl ?_ HGE.out HCW.out
        rw [← HQT.out]
        have h := HCU7.out
        rw [← HBX.out, ← HSX0.out] at h
        exact h
      | succ d' =>
        obtain ⟨_, vk, gq, cq, hbk, _, hkids, _, _, hch⟩ := HRD7.out
        have hsx0 : u'.2.2.length = sx := HSX0.out
        obtain ⟨x, hx⟩ : ∃ x, u'.2.2[sx - 1]? = some x := ⟨_, List.getElem?_eq_getElem (by omega)⟩
        have hxm := List.mem_of_getElem? hx
        obtain ⟨by_, hby⟩ : ∃ by_, blk d' x = by_ := ⟨_, rfl⟩
        rw [hsx0] at hbk hkids
        obtain ⟨m, hm⟩ : ∃ m, sx = m + 1 := ⟨sx - 1, by omega⟩
        subst hm
        have hkc : w7.cell? ⟨bx, 2, none⟩ = some (.slice (some ⟨gq, 0, none⟩) (m + 1) cq) := HBX.out ▸ hbk.cell_ rfl
        have hxc : w7.cell? ⟨gq, m, none⟩ = some (.pointer (some ⟨by_, 0, none⟩)) := by
          have := hkids.cell (j := m) (u := ptr (blk d' x)) (by simp at hx; simp [ptrs, hx])
          rw [hby] at this; exact this
        have hwm : IntKind.i64.wrap (m : Int) = (m : Int) := by rw [IntKind.wrap_i64]; unfold maxLen at hsm; omega
        have hmm : (m : Int) < (m : Int) + 1 := by omega
        have HSX7 : Hid (∀ q, Calls Try.prog 34 #[.pointer (some ⟨bx, 0, none⟩)] (w7.drewN q) (fun e w' => e = .returned (.int .i64 ((m : Int) + 1)) ∧ ∃ q', w' = (w7.drewN q).drewN q')) := fun q => by
          have h1 := HRD7.out.chg ((Chg.refl (fun _ => False) w7).drewN q) fun _ _ h => h
          have h2 := size_rd h1
          rw [HBX.out, HSX0.out] at h2
          refine h2.mono ?_
          rintro e w' ⟨h1, rfl⟩
          exact ⟨by rw [h1]; congr 2, 0, rfl⟩
        have HX := Lib.hid hx
        have HBY := Lib.hid hby
        have HRX := Lib.hid (hch x hxm)
        have HFX := Lib.hid (HFU.out.2 x hxm)
        clear hbk hkids hch hx hby hxm hsx0 hwsx
        go_wp2_with fail
        go_quiet ((go_at_call 34; exact Calls.quiet_of (HSX7.out _)))
        go_wp2_with fail
        go_roundg d'
        case measure => omega
        case rel =>
          refine ⟨d', x, qs ++ [(bx, ((m + 1 : Nat) : Int) - 1)], [c, g3], by rw [HBY.out], Nat.le_refl _, HCU7.out.chg ((Chg.refl (fun _ => False) w7).drewN _) (fun _ _ h => h), ?_, HRX.out.chg ((Chg.refl (fun _ => False) w7).drewN _) (fun _ _ h => h), HFX.out,
            by rw [List.length_append, HL.out]; simp; omega, HGE.out, HCW.out.drewN _⟩
          rw [← HQT.out, List.append_assoc]
          congr 1
          show [(bx, ((m + 1 : Nat) : Int) - 1)] ++ downR d' x = (u'.1, (u'.2.2.length : Int) - 1) :: (match u'.2.2[u'.2.2.length - 1]? with | some x => downR d' x | none => [])
          rw [show u'.2.2.length = m + 1 from HSX0.out, HX.out, show u'.1 = bx from HBX.out]; rfl
end Go.Proofs.Ythndplpbnfihdaa
