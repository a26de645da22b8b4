/-
  (*Tree).Seek, walked. Conditions: a sound tree that is read.
-/
import Derived.Test.YthndplpbnfihdaaCs
import Derived.Deep.Cut
set_option linter.unusedVariables false
set_option linter.unusedSimpArgs false
namespace Go.Proofs.Ythndplpbnfihdaa
open Go.RowKit

/-- A new cursor, on place r or on none. -/
def AtPost (w : World) (d : Nat) (u : Nb d) (r : Int) (e : Ending) (w' : World) : Prop :=
  ∃ c ps fpc, e = .returned (ptr c) ∧ Cur w' c ps fpc ∧ (if 0 ≤ r ∧ r < (listU d u).length then Goes 0 d u ps r else ps = []) ∧ (∀ k ∈ fpc, w.heap.size ≤ k) ∧ Chg (fun _ => False) w w'

set_option maxHeartbeats 2000000 in
set_option maxRecDepth 100000 in
theorem seek_calls {w : World} {S : Nat → Prop} {fan tr d : Nat} {u : Nb d} {x0 x1 : Value} (key : ByteArray) (over : Bool) (hV : View w S d u) (hs : Sound fan d (dat d u)) (htr : Blk w tr 64 #[x0, x1, ptr (blk d u)]) :
    Calls Try.prog 11 #[ptr tr, .string key, .bool over] w (AtPost w d u (cntL key over (listU d u) : Int)) := by
  obtain ⟨T, hT⟩ : ∃ T, seekU key over d u = T := ⟨_, rfl⟩
  obtain ⟨R, hR⟩ : ∃ R, R = AtPost w d u (cntL key over (listU d u) : Int) := ⟨_, rfl⟩
  rw [← hR]
  have hgo := seek_goes key over d u hs
  rw [hT] at hgo
  have HP : Hid (∀ e w4 w' c fpc, e = .returned (.pointer (some ⟨c, 0, none⟩)) → Chg (fun _ => False) w w4 → StepPost w4 d u c (cntL key over (listU d u) : Int) fpc w' → (∀ k ∈ fpc, w.heap.size ≤ k) → R e w') := by
    intro e w4 w' c fpc h1 h0 ⟨ps', fpc', h2, h3, h4, h5⟩ h6
    rw [hR]
    have hsz := h0.size
    exact ⟨c, ps', fpc', h1, h2, h3, fun k hk => (h4 k hk).elim (h6 k) (fun h => by omega), h0.comp h5 fun k hk hf => absurd (h6 k hf) (by omega)⟩
  have HV := Lib.hid hV
  have HS := Lib.hid hs
  have HT := Lib.hid hT
  have HGO := Lib.hid hgo
  have htc : w.cell? ⟨tr, 2, none⟩ = some (.pointer (some ⟨blk d u, 0, none⟩)) := htr.cell_ rfl
  have HTR := Lib.hid htr
  have htl : tr < w.heap.size := htr.lt
  obtain ⟨ub, hub⟩ : ∃ ub, blk d u = ub := ⟨_, rfl⟩
  have HUB := Lib.hid hub
  rw [hub] at htc
  unfold ptr
  clear hV hs hT hgo hR htr hub
  go_enter Try.func11, Try.ntmps11
  go_wp2_with fail
  obtain ⟨w0, c, hw0, hc, hBc, hC0, -⟩ := alloc_named w #[.slice none 0 0] 75
  rw [hw0, hc]
  have hcw : w.heap.size ≤ c := by omega
  have hcur0 : Cur w0 c ([] : List (Nat × Int)) [c] := ⟨_, hBc, Row2.nil _ _, rfl⟩
  have HCU := Lib.hid hcur0
  have HC0 := Lib.hid hC0
  have HC := Lib.hid hcw
  clear hw0 hc hBc hC0 hcur0 hcw htc htl
  go_loopg [8] d (fun g s8 wr => ∃ (d' : Nat) (u' : Nb d') (qs : List (Nat × Int)) (fpq : List Nat), s8 = .pointer (some ⟨blk d' u', 0, none⟩) ∧ d' ≤ g ∧ Cur wr c qs fpq ∧ qs ++ seekU key over d' u' = T ∧ Rd wr S d' u' ∧ Sound fan d' (dat d' u') ∧
    qs.length + d' ≤ 1000 ∧ (0 < d' → Full d' u') ∧ (listU d' u').length ≤ 1000 ∧ (∀ k ∈ fpq, w.heap.size ≤ k) ∧ Chg (fun _ => False) w wr)
  case atStart =>
    refine ⟨d, u, [], [c], by rw [HUB.out], Nat.le_refl _, HCU.out, HT.out, HV.out.rd.chg HC0.out fun _ _ h => h, HS.out, by have := HV.out.deep; simpa using this, HV.out.full, HV.out.few, fun k hk => ?_, HC0.out⟩
    simp at hk; subst hk; exact HC.out
  case round =>
    obtain ⟨d', u', qs, fpq, rfl, hdg, hcur, hqT, hrd, hsd, hql, hfull, hfew, hsubq, hchq⟩ := hrel
    have HSUBQ : Hid (∀ k ∈ fpq, w.heap.size ≤ k) := hsubq
    have HCHQ := Lib.hid hchq
    have HQT := Lib.hid hqT
    have HCQ := Lib.hid hcur
    have HSD := Lib.hid hsd
    have HRD := Lib.hid hrd
    clear HCU HC0 HC hsubq hchq hqT hsd
    obtain ⟨v, h1, h2, h3⟩ := hcur
    obtain ⟨A, cap, rfl, _, _, _, _⟩ := h2.shape
    have hqs : (spots qs).length = qs.length := by simp [spots]
    obtain ⟨l, hl⟩ : ∃ l, qs.length = l := ⟨_, rfl⟩
    rw [hqs, hl] at h1 h2 h3
    have HQS := Lib.hid hqs
    have HL := Lib.hid hl
    have HB1 := Lib.hid h1
    have HFPQ := Lib.hid h3
    have hcc : wr.cell? ⟨c, 0, none⟩ = some (.slice A l cap) := h1.cell_ rfl
    have hclt := h1.lt
    have HROW : Hid (∀ W, Chg (fun _ => False) wr W → Row2 W 77 (.slice A l cap) (spots qs)) := fun W hW => h2.chg hW fun _ _ h => h
    have HNO : Hid ((Value.slice A l cap).ownBlock ≠ some c) := h2.ne_blk h1 (by decide)
    have hlb : l + d' ≤ 1000 := by omega
    have hsz := size_le hfull
    clear h1 h2 h3 hqs hl
    cases d' with
    | zero =>
      obtain ⟨_, vk, vr, hbk, hkk, _⟩ := hrd
      obtain ⟨B, ck, rfl, _⟩ := hkk.shape
      have hkl : (strs (keysT u'.2)).length = u'.2.length := by simp [strs, keysT]
      have hul : u'.2.length ≤ 1000 := Nat.le_trans hsz hfew
      obtain ⟨n, hn⟩ : ∃ n, u'.2.length = n := ⟨_, rfl⟩
      rw [hkl, hn] at hbk hkk
      have hPn : pos (keysT u'.2) key ≤ n := by have := pos_le (keysT u'.2) key; have h2 : (keysT u'.2).length = u'.2.length := by simp [keysT]
                                                omega
      obtain ⟨P, hP⟩ : ∃ P, pos (keysT u'.2) key = P := ⟨_, rfl⟩
      obtain ⟨fd, hfd⟩ : ∃ fd, decide ((keysT u'.2)[P]? = some key) = fd := ⟨_, rfl⟩
      have HLA : Hid (leafAt key over u'.2 = P + (if over && fd then 1 else 0)) := by unfold leafAt; rw [hP, hfd]; exact rfl
      obtain ⟨ul, hul'⟩ : ∃ ul, blk 0 u' = ul := ⟨_, rfl⟩
      have hul'' : u'.1 = ul := hul'
      have HUL := Lib.hid hul''
      rw [hul'] 
      have hkc : wr.cell? ⟨ul, 2, none⟩ = some (.slice none 0 0) := hul' ▸ hbk.cell_ rfl
      have hk0 : wr.cell? ⟨ul, 0, none⟩ = some (.slice B n ck) := hul' ▸ hbk.cell_ rfl
      have HBS : Hid (∀ W, Chg (fun _ => False) wr W → Calls Try.prog 30 #[.slice B n ck, .string key] W (fun e w' => e = .returned (.tuple #[.int .i64 (P : Nat), .bool fd]) ∧ ∃ q, w' = W.drewN q)) := fun W hW => by
        have hbig : (keysT u'.2).length ≤ 1000000 := by simp [keysT]; omega
        refine (bs_any _ (keysT u'.2) key W (hkk.chg hW fun _ _ h => h) HSD.out.rise hbig).mono ?_
        rintro e w' ⟨h1, h2⟩
        rw [hP, hfd] at h1
        exact ⟨h1, h2⟩
      have hPb : P ≤ 1000 := by omega
      have hw0 : IntKind.i64.wrap (P : Int) = (P : Int) := by rw [IntKind.wrap_i64]; omega
      have hw1 : IntKind.i64.wrap ((P : Int) + 1) = (P : Int) + 1 := by rw [IntKind.wrap_i64]; omega
      have hw2 : IntKind.i64.wrap ((P : Int) - 1) = (P : Int) - 1 := by rw [IntKind.wrap_i64]; omega
      clear hbk hkk hkl hn hP hfd hul' hul'' hul hPn hfull hfew hsz
      cases fd <;> cases over
      · go_wp2_with (first
          | (go_at_call 30; refine (HBS.out _ (Chg.refl _ _)).mono ?_; rintro e w' ⟨rfl, q, rfl⟩)
          | (at_builtin; refine wpList_app2 rfl (.tmp 64) (.tmp 69) rfl slt_spot (.slice A l cap) (spots qs) rfl (HROW.out _ (by first | exact ((Chg.refl _ _).drewN _).alloc _ | exact (((Chg.refl _ _).drewN _).alloc _).drew)) ⟨wr.heap.size, 0, none⟩ 1 1 (by omega) rfl [(.pointer (some ⟨ul, 0, none⟩), .int .i64 ((P : Int) - 1))] rfl (pair_cells (by first | exact Blk.new _ _ _ | exact Blk.drew (Blk.new _ _ _))) (by intro u hu; simp [cells2] at hu; rcases hu with rfl | rfl <;> rfl) (by rw [HQS.out, HL.out]; omega) ?_; intro g3 c3 w3 hrow3 hg3 hch3; rw [HQS.out, HL.out] at hrow3 ⊢; have hch4 := ((((Chg.refl (fun k => (Value.slice A l cap).ownBlock = some k) wr).drewN q).alloc (.cells #[.pointer (some ⟨ul, 0, none⟩), .int .i64 ((P : Int) - 1)] 77))).trans hch3; have hb3 := HB1.out.chg hch4 HNO.out; have hcw3 : w3.cell? ⟨c, 0, none⟩ = some (.slice A l cap) := hb3.cell_ rfl; have hcf3 := hb3.frozen 0; have HROW3 := Lib.hid hrow3; have HG3 := Lib.hid hg3; have HCH4 := Lib.hid hch4; have HB3 := Lib.hid hb3; clear hrow3 hg3 hch3 hch4 hb3))
        have hz : (((P : Int) - 1) : Int) = (leafAt key false u'.2 : Int) - 1 := by rw [HLA.out]; simp
        have hcq : c ∈ fpq := by rw [HFPQ.out]; simp
        have hgq : ∀ k, (Value.slice A l cap).ownBlock = some k → k ∈ fpq := fun k hk => by rw [HFPQ.out]; simp [hk]
        obtain ⟨w4, hw4, hB4, hC4⟩ := set_named HB3.out 0 (.slice (some ⟨g3, 0, none⟩) (l + 1) c3)
        rw [hw4]
        have hrow4 := HROW3.out.past2 HB3.out (by decide) hC4
        have hCur4 : Cur w4 c T [c, g3] := by
          refine ⟨_, hB4, ?_, rfl⟩
          have he : spots T = spots qs ++ [(.pointer (some ⟨ul, 0, none⟩), .int .i64 ((P : Int) - 1))] := by
            rw [← HQT.out, hz, ← HUL.out]
            show spots (qs ++ [(u'.1, (leafAt key false u'.2 : Int) - 1)]) = _
            simp [spots, ptr]
          rw [he]; exact hrow4
        have hs0 := HCHQ.out.size
        have hCw : Chg (fun _ => False) w w4 := (HCHQ.out.comp HCH4.out fun k hk e => absurd (HSUBQ.out k (hgq k e)) (by omega)).comp hC4 fun k hk e => absurd (HSUBQ.out k (e ▸ hcq)) (by omega)
        have hge : ∀ k ∈ [c, g3], w.heap.size ≤ k := by
          intro k hk
          simp only [List.mem_cons, List.not_mem_nil, or_false] at hk
          rcases hk with rfl | rfl
          · exact HSUBQ.out _ hcq
          · rcases HG3.out with h | h
            · exact HSUBQ.out _ (hgq _ h)
            · have h' : wr.heap.size + 1 ≤ k := by simpa using h
              omega
        go_at_call 37
        refine (go1_calls (HV.out.chg hCw fun _ _ h => h) hCur4 HGO.out (fun k hk hS => by have h1 := hge k hk; have h2 := HV.out.lt k hS; omega)).mono ?_
        rintro e w5 ⟨rfl, hpost⟩
        rw [show (cntL key false (listU d u) : Int) - 1 + 1 = (cntL key false (listU d u) : Int) by omega] at hpost
        have HPO := Lib.hid hpost
        have HGE : Hid (∀ k ∈ [c, g3], w.heap.size ≤ k) := hge
        have HCW := Lib.hid hCw
        clear hpost hge hCw hz hw4 hB4 hC4 hrow4 hCur4
        go_wp2_with fail
        exact HP.out _ w4 _ c [c, g3] rfl HCW.out HPO.out HGE.out
      · go_wp2_with (first
          | (go_at_call 30; refine (HBS.out _ (Chg.refl _ _)).mono ?_; rintro e w' ⟨rfl, q, rfl⟩)
          | (at_builtin; refine wpList_app2 rfl (.tmp 64) (.tmp 69) rfl slt_spot (.slice A l cap) (spots qs) rfl (HROW.out _ (by first | exact ((Chg.refl _ _).drewN _).alloc _ | exact (((Chg.refl _ _).drewN _).alloc _).drew)) ⟨wr.heap.size, 0, none⟩ 1 1 (by omega) rfl [(.pointer (some ⟨ul, 0, none⟩), .int .i64 ((P : Int) - 1))] rfl (pair_cells (by first | exact Blk.new _ _ _ | exact Blk.drew (Blk.new _ _ _))) (by intro u hu; simp [cells2] at hu; rcases hu with rfl | rfl <;> rfl) (by rw [HQS.out, HL.out]; omega) ?_; intro g3 c3 w3 hrow3 hg3 hch3; rw [HQS.out, HL.out] at hrow3 ⊢; have hch4 := ((((Chg.refl (fun k => (Value.slice A l cap).ownBlock = some k) wr).drewN q).alloc (.cells #[.pointer (some ⟨ul, 0, none⟩), .int .i64 ((P : Int) - 1)] 77))).trans hch3; have hb3 := HB1.out.chg hch4 HNO.out; have hcw3 : w3.cell? ⟨c, 0, none⟩ = some (.slice A l cap) := hb3.cell_ rfl; have hcf3 := hb3.frozen 0; have HROW3 := Lib.hid hrow3; have HG3 := Lib.hid hg3; have HCH4 := Lib.hid hch4; have HB3 := Lib.hid hb3; clear hrow3 hg3 hch3 hch4 hb3))
        have hz : (((P : Int) - 1) : Int) = (leafAt key true u'.2 : Int) - 1 := by rw [HLA.out]; simp
        have hcq : c ∈ fpq := by rw [HFPQ.out]; simp
        have hgq : ∀ k, (Value.slice A l cap).ownBlock = some k → k ∈ fpq := fun k hk => by rw [HFPQ.out]; simp [hk]
        obtain ⟨w4, hw4, hB4, hC4⟩ := set_named HB3.out 0 (.slice (some ⟨g3, 0, none⟩) (l + 1) c3)
        rw [hw4]
        have hrow4 := HROW3.out.past2 HB3.out (by decide) hC4
        have hCur4 : Cur w4 c T [c, g3] := by
          refine ⟨_, hB4, ?_, rfl⟩
          have he : spots T = spots qs ++ [(.pointer (some ⟨ul, 0, none⟩), .int .i64 ((P : Int) - 1))] := by
            rw [← HQT.out, hz, ← HUL.out]
            show spots (qs ++ [(u'.1, (leafAt key true u'.2 : Int) - 1)]) = _
            simp [spots, ptr]
          rw [he]; exact hrow4
        have hs0 := HCHQ.out.size
        have hCw : Chg (fun _ => False) w w4 := (HCHQ.out.comp HCH4.out fun k hk e => absurd (HSUBQ.out k (hgq k e)) (by omega)).comp hC4 fun k hk e => absurd (HSUBQ.out k (e ▸ hcq)) (by omega)
        have hge : ∀ k ∈ [c, g3], w.heap.size ≤ k := by
          intro k hk
          simp only [List.mem_cons, List.not_mem_nil, or_false] at hk
          rcases hk with rfl | rfl
          · exact HSUBQ.out _ hcq
          · rcases HG3.out with h | h
            · exact HSUBQ.out _ (hgq _ h)
            · have h' : wr.heap.size + 1 ≤ k := by simpa using h
              omega
        go_at_call 37
        refine (go1_calls (HV.out.chg hCw fun _ _ h => h) hCur4 HGO.out (fun k hk hS => by have h1 := hge k hk; have h2 := HV.out.lt k hS; omega)).mono ?_
        rintro e w5 ⟨rfl, hpost⟩
        rw [show (cntL key true (listU d u) : Int) - 1 + 1 = (cntL key true (listU d u) : Int) by omega] at hpost
        have HPO := Lib.hid hpost
        have HGE : Hid (∀ k ∈ [c, g3], w.heap.size ≤ k) := hge
        have HCW := Lib.hid hCw
        clear hpost hge hCw hz hw4 hB4 hC4 hrow4 hCur4
        go_wp2_with fail
        exact HP.out _ w4 _ c [c, g3] rfl HCW.out HPO.out HGE.out
      · go_wp2_with (first
          | (go_at_call 30; refine (HBS.out _ (Chg.refl _ _)).mono ?_; rintro e w' ⟨rfl, q, rfl⟩)
          | (at_builtin; refine wpList_app2 rfl (.tmp 64) (.tmp 69) rfl slt_spot (.slice A l cap) (spots qs) rfl (HROW.out _ (by first | exact ((Chg.refl _ _).drewN _).alloc _ | exact (((Chg.refl _ _).drewN _).alloc _).drew)) ⟨wr.heap.size, 0, none⟩ 1 1 (by omega) rfl [(.pointer (some ⟨ul, 0, none⟩), .int .i64 ((P : Int) - 1))] rfl (pair_cells (by first | exact Blk.new _ _ _ | exact Blk.drew (Blk.new _ _ _))) (by intro u hu; simp [cells2] at hu; rcases hu with rfl | rfl <;> rfl) (by rw [HQS.out, HL.out]; omega) ?_; intro g3 c3 w3 hrow3 hg3 hch3; rw [HQS.out, HL.out] at hrow3 ⊢; have hch4 := ((((Chg.refl (fun k => (Value.slice A l cap).ownBlock = some k) wr).drewN q).alloc (.cells #[.pointer (some ⟨ul, 0, none⟩), .int .i64 ((P : Int) - 1)] 77))).trans hch3; have hb3 := HB1.out.chg hch4 HNO.out; have hcw3 : w3.cell? ⟨c, 0, none⟩ = some (.slice A l cap) := hb3.cell_ rfl; have hcf3 := hb3.frozen 0; have HROW3 := Lib.hid hrow3; have HG3 := Lib.hid hg3; have HCH4 := Lib.hid hch4; have HB3 := Lib.hid hb3; clear hrow3 hg3 hch3 hch4 hb3))
        have hz : (((P : Int) - 1) : Int) = (leafAt key false u'.2 : Int) - 1 := by rw [HLA.out]; simp
        have hcq : c ∈ fpq := by rw [HFPQ.out]; simp
        have hgq : ∀ k, (Value.slice A l cap).ownBlock = some k → k ∈ fpq := fun k hk => by rw [HFPQ.out]; simp [hk]
        obtain ⟨w4, hw4, hB4, hC4⟩ := set_named HB3.out 0 (.slice (some ⟨g3, 0, none⟩) (l + 1) c3)
        rw [hw4]
        have hrow4 := HROW3.out.past2 HB3.out (by decide) hC4
        have hCur4 : Cur w4 c T [c, g3] := by
          refine ⟨_, hB4, ?_, rfl⟩
          have he : spots T = spots qs ++ [(.pointer (some ⟨ul, 0, none⟩), .int .i64 ((P : Int) - 1))] := by
            rw [← HQT.out, hz, ← HUL.out]
            show spots (qs ++ [(u'.1, (leafAt key false u'.2 : Int) - 1)]) = _
            simp [spots, ptr]
          rw [he]; exact hrow4
        have hs0 := HCHQ.out.size
        have hCw : Chg (fun _ => False) w w4 := (HCHQ.out.comp HCH4.out fun k hk e => absurd (HSUBQ.out k (hgq k e)) (by omega)).comp hC4 fun k hk e => absurd (HSUBQ.out k (e ▸ hcq)) (by omega)
        have hge : ∀ k ∈ [c, g3], w.heap.size ≤ k := by
          intro k hk
          simp only [List.mem_cons, List.not_mem_nil, or_false] at hk
          rcases hk with rfl | rfl
          · exact HSUBQ.out _ hcq
          · rcases HG3.out with h | h
            · exact HSUBQ.out _ (hgq _ h)
            · have h' : wr.heap.size + 1 ≤ k := by simpa using h
              omega
        go_at_call 37
        refine (go1_calls (HV.out.chg hCw fun _ _ h => h) hCur4 HGO.out (fun k hk hS => by have h1 := hge k hk; have h2 := HV.out.lt k hS; omega)).mono ?_
        rintro e w5 ⟨rfl, hpost⟩
        rw [show (cntL key false (listU d u) : Int) - 1 + 1 = (cntL key false (listU d u) : Int) by omega] at hpost
        have HPO := Lib.hid hpost
        have HGE : Hid (∀ k ∈ [c, g3], w.heap.size ≤ k) := hge
        have HCW := Lib.hid hCw
        clear hpost hge hCw hz hw4 hB4 hC4 hrow4 hCur4
        go_wp2_with fail
        exact HP.out _ w4 _ c [c, g3] rfl HCW.out HPO.out HGE.out
      · go_wp2_with (first
          | (go_at_call 30; refine (HBS.out _ (Chg.refl _ _)).mono ?_; rintro e w' ⟨rfl, q, rfl⟩)
          | (at_builtin; refine wpList_app2 rfl (.tmp 64) (.tmp 69) rfl slt_spot (.slice A l cap) (spots qs) rfl (HROW.out _ (by first | exact ((Chg.refl _ _).drewN _).alloc _ | exact (((Chg.refl _ _).drewN _).alloc _).drew)) ⟨wr.heap.size, 0, none⟩ 1 1 (by omega) rfl [(.pointer (some ⟨ul, 0, none⟩), .int .i64 ((P : Int)))] rfl (pair_cells (by first | exact Blk.new _ _ _ | exact Blk.drew (Blk.new _ _ _))) (by intro u hu; simp [cells2] at hu; rcases hu with rfl | rfl <;> rfl) (by rw [HQS.out, HL.out]; omega) ?_; intro g3 c3 w3 hrow3 hg3 hch3; rw [HQS.out, HL.out] at hrow3 ⊢; have hch4 := ((((Chg.refl (fun k => (Value.slice A l cap).ownBlock = some k) wr).drewN q).alloc (.cells #[.pointer (some ⟨ul, 0, none⟩), .int .i64 ((P : Int))] 77))).trans hch3; have hb3 := HB1.out.chg hch4 HNO.out; have hcw3 : w3.cell? ⟨c, 0, none⟩ = some (.slice A l cap) := hb3.cell_ rfl; have hcf3 := hb3.frozen 0; have HROW3 := Lib.hid hrow3; have HG3 := Lib.hid hg3; have HCH4 := Lib.hid hch4; have HB3 := Lib.hid hb3; clear hrow3 hg3 hch3 hch4 hb3))
        have hz : (((P : Int)) : Int) = (leafAt key true u'.2 : Int) - 1 := by rw [HLA.out]; simp
        have hcq : c ∈ fpq := by rw [HFPQ.out]; simp
        have hgq : ∀ k, (Value.slice A l cap).ownBlock = some k → k ∈ fpq := fun k hk => by rw [HFPQ.out]; simp [hk]
        obtain ⟨w4, hw4, hB4, hC4⟩ := set_named HB3.out 0 (.slice (some ⟨g3, 0, none⟩) (l + 1) c3)
        rw [hw4]
        have hrow4 := HROW3.out.past2 HB3.out (by decide) hC4
        have hCur4 : Cur w4 c T [c, g3] := by
          refine ⟨_, hB4, ?_, rfl⟩
          have he : spots T = spots qs ++ [(.pointer (some ⟨ul, 0, none⟩), .int .i64 ((P : Int)))] := by
            rw [← HQT.out, hz, ← HUL.out]
            show spots (qs ++ [(u'.1, (leafAt key true u'.2 : Int) - 1)]) = _
            simp [spots, ptr]
          rw [he]; exact hrow4
        have hs0 := HCHQ.out.size
        have hCw : Chg (fun _ => False) w w4 := (HCHQ.out.comp HCH4.out fun k hk e => absurd (HSUBQ.out k (hgq k e)) (by omega)).comp hC4 fun k hk e => absurd (HSUBQ.out k (e ▸ hcq)) (by omega)
        have hge : ∀ k ∈ [c, g3], w.heap.size ≤ k := by
          intro k hk
          simp only [List.mem_cons, List.not_mem_nil, or_false] at hk
          rcases hk with rfl | rfl
          · exact HSUBQ.out _ hcq
          · rcases HG3.out with h | h
            · exact HSUBQ.out _ (hgq _ h)
            · have h' : wr.heap.size + 1 ≤ k := by simpa using h
              omega
        go_at_call 37
        refine (go1_calls (HV.out.chg hCw fun _ _ h => h) hCur4 HGO.out (fun k hk hS => by have h1 := hge k hk; have h2 := HV.out.lt k hS; omega)).mono ?_
        rintro e w5 ⟨rfl, hpost⟩
        rw [show (cntL key true (listU d u) : Int) - 1 + 1 = (cntL key true (listU d u) : Int) by omega] at hpost
        have HPO := Lib.hid hpost
        have HGE : Hid (∀ k ∈ [c, g3], w.heap.size ≤ k) := hge
        have HCW := Lib.hid hCw
        clear hpost hge hCw hz hw4 hB4 hC4 hrow4 hCur4
        go_wp2_with fail
        exact HP.out _ w4 _ c [c, g3] rfl HCW.out HPO.out HGE.out
    | succ d' =>
      obtain ⟨_, vk, gq, cq, hbk, hkk, hkids, _, _, hch⟩ := hrd
      obtain ⟨i, hi⟩ : ∃ i, wayT u'.2.1 key = i := ⟨_, rfl⟩
      have hil : i < u'.2.2.length := by
        have := HSD.out.way key
        rw [List.length_map] at this
        rw [← hi]; exact this
      obtain ⟨x, hx⟩ : ∃ x, u'.2.2[i]? = some x := ⟨_, List.getElem?_eq_getElem hil⟩
      have hxm := List.mem_of_getElem? hx
      have hrx := hch x hxm
      obtain ⟨hsx, _, _⟩ := HSD.out.child (i := i) (t := dat d' x) (by rw [List.getElem?_map, hx]; rfl)
      have hfl := hfull (by omega)
      have hfx := hfl.2 x hxm
      have hcl := child_le hx
      have hWAY : Hid (∀ W, Chg (fun _ => False) wr W → Calls Try.prog 33 #[.pointer (some ⟨blk (d' + 1) u', 0, none⟩), .string key] W (fun e w' => e = .returned (.int .i64 i) ∧ ∃ q, w' = W.drewN q)) := fun W hW => by
        have hbig : u'.2.1.length ≤ 1000000 := by
          have h1 : u'.2.2.length = u'.2.1.length + 1 := by have := HSD.out.kids.1; rw [List.length_map] at this; exact this
          have h2 : u'.2.2.length ≤ 1000 := Nat.le_trans hsz hfew
          omega
        refine (way_calls W u'.1 vk u'.2.1 key ((hbk.chg hW id).cell_ rfl) (hkk.chg hW fun _ _ h => h) HSD.out.seps.1 hbig).mono ?_
        rintro e w' ⟨h1, h2⟩
        rw [hi] at h1
        exact ⟨h1, h2⟩
      obtain ⟨ul, hul⟩ : ∃ ul, blk (d' + 1) u' = ul := ⟨_, rfl⟩
      have hul' : u'.1 = ul := hul
      obtain ⟨bx, hbx⟩ : ∃ bx, blk d' x = bx := ⟨_, rfl⟩
      obtain ⟨n, hn⟩ : ∃ n, u'.2.2.length = n := ⟨_, rfl⟩
      have hin : (i : Int) < (n : Int) := by omega
      have hib : i ≤ 1000 := by have : u'.2.2.length ≤ 1000 := Nat.le_trans hsz hfew; omega
      rw [hn] at hbk hkids
      rw [hul'] at hbk
      have hkc : wr.cell? ⟨ul, 2, none⟩ = some (.slice (some ⟨gq, 0, none⟩) n cq) := hbk.cell_ rfl
      have HBK := Lib.hid hbk
      have HKI := Lib.hid hkids
      have HNU : Hid ((Value.slice A l cap).ownBlock ≠ some ul) := (HROW.out wr (Chg.refl _ _)).ne_blk hbk (by decide)
      have HNK : Hid (∀ k, (Value.slice (some ⟨gq, 0, none⟩) n cq).ownBlock = some k → ¬ (Value.slice A l cap).ownBlock = some k) := fun k hk e => by
        have hk' : gq = k := by simpa [Value.ownBlock] using hk
        subst hk'
        obtain ⟨g', cur, hA, _, hbl, _⟩ := hkids.open_ (by simp)
        injection hA with hA; injection hA with hA; subst hA
        exact (HROW.out wr (Chg.refl _ _)).ne_blk hbl (by decide) e
      have HNC : Hid (ul ≠ c) := hbk.ne_ HB1.out (by decide)
      have HNG : Hid (∀ k, (Value.slice (some ⟨gq, 0, none⟩) n cq).ownBlock = some k → k ≠ c) := fun k hk e => hkids.ne_blk HB1.out (by decide) (e ▸ hk)
      have HX := Lib.hid hx
      have HUL := Lib.hid hul
      have HBX := Lib.hid hbx
      have HRX := Lib.hid hrx
      have HSX := Lib.hid hsx
      have HFX := Lib.hid hfx
      have HCL := Lib.hid hcl
      have HI := Lib.hid hi
      have HFEW := Lib.hid hfew
      have HXC : Hid ((ptrs (u'.2.2.map (blk d')))[i]? = some (.pointer (some ⟨bx, 0, none⟩))) := by
        show (ptrs (u'.2.2.map (blk d')))[i]? = _
        rw [← hbx]; simp [ptrs, hx, ptr]
      rw [hul] at hWAY ⊢
      clear hbk hkids hch hx hxm hrx hsx hfl hfx hcl hi hul hul' hbx hn hil hfull hfew hsz hkk
      go_wp2_with (first
          | (go_at_call 33; refine (hWAY.out _ (Chg.refl _ _)).mono ?_; rintro e w' ⟨rfl, q, rfl⟩)
          | (at_builtin; refine wpList_app2 rfl (.tmp 30) (.tmp 34) rfl slt_spot (.slice A l cap) (spots qs) rfl (HROW.out _ (by first | exact ((Chg.refl _ _).drewN _).alloc _ | exact (((Chg.refl _ _).drewN _).alloc _).drew)) ⟨wr.heap.size, 0, none⟩ 1 1 (by omega) rfl [(.pointer (some ⟨ul, 0, none⟩), .int .i64 i)] rfl (pair_cells (by first | exact Blk.new _ _ _ | exact Blk.drew (Blk.new _ _ _))) (by intro u hu; simp [cells2] at hu; rcases hu with rfl | rfl <;> rfl) (by rw [HQS.out, HL.out]; omega) ?_; intro g3 c3 w3 hrow3 hg3 hch3; rw [HQS.out, HL.out] at hrow3 ⊢; have hch4 := ((((Chg.refl (fun k => (Value.slice A l cap).ownBlock = some k) wr).drewN q).alloc (.cells #[.pointer (some ⟨ul, 0, none⟩), .int .i64 i] 77))).trans hch3; have hb3 := HB1.out.chg hch4 HNO.out; have hcw3 : w3.cell? ⟨c, 0, none⟩ = some (.slice A l cap) := hb3.cell_ rfl; have hcf3 := hb3.frozen 0; have hn1 : ∀ v, (w3.setCell ⟨c, 0, none⟩ v).cell? ⟨ul, 2, none⟩ = some (.slice (some ⟨gq, 0, none⟩) n cq) := fun v => ((HBK.out.chg hch4 HNU.out).far (p := ⟨c, 0, none⟩) HNC.out v).cell_ rfl; have hn2 : ∀ v, (w3.setCell ⟨c, 0, none⟩ v).cell? ⟨gq, i, none⟩ = some (.pointer (some ⟨bx, 0, none⟩)) := fun v => ((HKI.out.chg hch4 HNK.out).chg ((Chg.refl (fun k => k = c) w3).setCell (p := ⟨c, 0, none⟩) (.inl rfl) v) HNG.out).cell HXC.out; have HROW3 := Lib.hid hrow3; have HG3 := Lib.hid hg3; have HCH4 := Lib.hid hch4; have HB3 := Lib.hid hb3; clear hrow3 hg3 hch3 hch4 hb3))
      obtain ⟨w4, hw4, hB4, hC4⟩ := set_named HB3.out 0 (.slice (some ⟨g3, 0, none⟩) (l + 1) c3)
      rw [hw4]
      have hcq : c ∈ fpq := by rw [HFPQ.out]; simp
      have hgq : ∀ k, (Value.slice A l cap).ownBlock = some k → k ∈ fpq := fun k hk => by rw [HFPQ.out]; simp [hk]
      have hrow4 := HROW3.out.past2 HB3.out (by decide) hC4
      have hs0 := HCHQ.out.size
      have hC5 : Chg (fun k => k = c ∨ (Value.slice A l cap).ownBlock = some k) wr w4 := (HCH4.out.mono fun k _ e => .inr e).trans (hC4.mono fun k _ e => .inl e)
      have hCw : Chg (fun _ => False) w w4 := HCHQ.out.comp hC5 fun k hk e => by
        have h1 : k ∈ fpq := e.elim (fun e => e ▸ hcq) (fun e => hgq k e)
        have := HSUBQ.out k h1
        omega
      have hge : ∀ k ∈ [c, g3], w.heap.size ≤ k := by
        intro k hk
        simp only [List.mem_cons, List.not_mem_nil, or_false] at hk
        rcases hk with rfl | rfl
        · exact HSUBQ.out _ hcq
        · rcases HG3.out with h | h
          · exact HSUBQ.out _ (hgq _ h)
          · have h' : wr.heap.size + 1 ≤ k := by simpa using h
            omega
      go_roundg d'
      case measure => omega
      case rel =>
        refine ⟨d', x, qs ++ [(ul, (i : Int))], [c, g3], by rw [HBX.out], Nat.le_refl _, ⟨_, hB4, ?_, rfl⟩, ?_, HRX.out.chg hC5 fun k hS e => ?_, HSX.out, by rw [List.length_append, HL.out]; simp; omega, fun _ => HFX.out, Nat.le_trans HCL.out HFEW.out, hge, hCw⟩
        · have he : spots (qs ++ [(ul, (i : Int))]) = spots qs ++ [(.pointer (some ⟨ul, 0, none⟩), .int .i64 i)] := by simp [spots, ptr]
          rw [he]; exact hrow4
        · rw [← HQT.out, List.append_assoc]
          congr 1
          show [(ul, (i : Int))] ++ seekU key over d' x = (u'.1, (wayT u'.2.1 key : Int)) :: (match u'.2.2[wayT u'.2.1 key]? with | some x => seekU key over d' x | none => [])
          rw [HI.out, HX.out, show u'.1 = ul from HUL.out]; rfl
        · have h1 : k ∈ fpq := e.elim (fun e => e ▸ hcq) (fun e => hgq k e)
          have h2 := HSUBQ.out k h1
          have h3 := HV.out.lt k hS
          omega
end Go.Proofs.Ythndplpbnfihdaa
