/-
  (*Cursor).Prev. Conditions: the cursor stands on a way down a tree that is read.
-/
import Derived.Test.YthndplpbnfihdaaCg
import Derived.Test.YthndplpbnfihdaaRg
import Derived.StillTailTactics
import Derived.BigRegion
import Derived.Deep.Cut
set_option linter.unusedVariables false
set_option linter.unusedSimpArgs false
namespace Go.Proofs.Ythndplpbnfihdaa
open Go.RowKit

theorem rd_size {w : World} {S : Nat → Prop} : ∀ {d : Nat} {u : Nb d}, Rd w S d u → sizeU d u ≤ maxLen
  | 0, u, ⟨_, vk, vr, hb, hk, hr, _, _⟩ => by
    obtain ⟨A, c, _, h1, h2⟩ := hk.shape
    have hl : (strs (keysT u.2)).length = u.2.length := by simp [strs, keysT]
    show u.2.length ≤ _
    omega
  | d + 1, u, ⟨_, vk, g, c, hb, hk, hc, _, _, _⟩ => by
    obtain ⟨A, c, _, h1, h2⟩ := hc.shape
    have hl : (ptrs (u.2.2.map (blk d))).length = u.2.2.length := by simp [ptrs]
    show u.2.2.length ≤ _
    omega

theorem Row2.past2 {w w' : World} {e t : TypeId} {v : Value} {xs : List (Value × Value)} {b : Nat} {cs : Array Value} (h : Row2 w e v xs) (hb : Blk w b t cs) (hne : e ≠ t) (hc : Chg (fun k => k = b) w w') : Row2 w' e v xs :=
  h.chg hc fun g hg e => h.ne_blk hb hne (e ▸ hg)

def PrevPost (w : World) (c : Nat) (T : List (Nat × Int)) (fpc : List Nat) (e : Ending) (w' : World) : Prop :=
  e = .returned (.bool (!T.isEmpty)) ∧ ∃ fpc', Cur w' c T fpc' ∧ (∀ k ∈ fpc', k ∈ fpc ∨ w.heap.size ≤ k) ∧ Chg (fun k => k ∈ fpc) w w'

set_option maxHeartbeats 2000000 in
set_option maxRecDepth 100000 in
theorem prev_walk (w : World) (S : Nat → Prop) (c : Nat) (fs : List Fr) (fpc : List Nat) (T : List (Nat × Int)) (hC : Cur w c (fs.reverse.map Fr.spot) fpc) (hT : stepR fs = T) (hf : ∀ f ∈ fs, FrOk w S f) (hap : ∀ k ∈ fpc, ¬ S k)
    (hSl : ∀ k, S k → k < w.heap.size) (hdeep : fs.length ≤ 1001) : Calls Try.prog 19 #[ptr c] w (PrevPost w c T fpc) := by
  unfold ptr
  obtain ⟨R, hR⟩ : ∃ R, R = PrevPost w c T fpc := ⟨_, rfl⟩
  rw [← hR]
  have HP : Hid (∀ e w' fpc', e = .returned (.bool (!T.isEmpty)) → Cur w' c T fpc' → (∀ k ∈ fpc', k ∈ fpc ∨ w.heap.size ≤ k) → Chg (fun k => k ∈ fpc) w w' → R e w') := fun e w' fpc' h1 h2 h3 h4 => by rw [hR]; exact ⟨h1, fpc', h2, h3, h4⟩
  have HAP : Hid (∀ k ∈ fpc, ¬ S k) := hap
  have HSL : Hid (∀ k, S k → k < w.heap.size) := hSl
  have HF : Hid (∀ f ∈ fs, FrOk w S f) := hf
  have hc0 : ∃ A cap, w.cell? ⟨c, 0, none⟩ = some (.slice A fs.length cap) := by
    obtain ⟨v, h1, h2, h3⟩ := hC
    obtain ⟨A, cap, rfl, _⟩ := h2.shape
    exact ⟨A, cap, by have := h1.cell_ (i := 0) rfl; simpa [spots] using this⟩
  obtain ⟨A0, cap0, hc0⟩ := hc0
  have HC := Lib.hid hC
  have HT := Lib.hid hT
  clear hR hap hSl hf hC hT
  go_enter Try.func19, Try.ntmps19
  go_wp2_with fail
  go_loopg [3] fs.length (fun g n wr => ∃ fs' fpc', n = .int .i64 fs'.length ∧ Cur wr c (fs'.reverse.map Fr.spot) fpc' ∧ stepR fs' = T ∧ (∀ f ∈ fs', FrOk w S f) ∧ fs'.length ≤ g ∧ fs'.length ≤ 1001 ∧
    (∀ k ∈ fpc', k ∈ fpc ∨ w.heap.size ≤ k) ∧ Chg (fun k => k ∈ fpc) w wr)
  case atStart => exact ⟨fs, fpc, rfl, HC.out, HT.out, HF.out, Nat.le_refl _, hdeep, fun k hk => .inl hk, Chg.refl _ _⟩
  case round =>
    obtain ⟨fs', fpc', rfl, hC', hT', hf', hg', hd', hsub, hch⟩ := hrel
    have HF' : Hid (∀ f ∈ fs', FrOk w S f) := hf'
    have HC' := Lib.hid hC'
    have HT' := Lib.hid hT'
    have HSB : Hid (∀ k ∈ fpc', k ∈ fpc ∨ w.heap.size ≤ k) := hsub
    have HCH := Lib.hid hch
    clear hc0 hf' hC' hT' hsub hch
    rcases fs' with _ | ⟨f, rest⟩
    · go_wp2_with fail
      refine HP.out _ _ fpc' ?_ (HT'.out ▸ HC'.out) HSB.out HCH.out
      rw [← HT'.out]; rfl
    · obtain ⟨d, u, i⟩ := f
      have hfo := HF'.out _ (List.mem_cons_self ..)
      have hlo : -1 ≤ i := hfo.lo
      have hfew := hfo.few
      have hdp : d ≤ 1000 := hfo.deep
      have hfo' : i < sizeU d u ∨ i ≤ 0 := hfo.hi
      have hi1 : i ≤ 1000 := by rcases hfo.hi with h | h <;> simp only at h hfew <;> omega
      obtain ⟨sz, hsz⟩ : ∃ sz, sizeU d u = sz := ⟨_, rfl⟩
      obtain ⟨b, hb⟩ : ∃ b, blk d u = b := ⟨_, rfl⟩
      obtain ⟨m, hm⟩ : ∃ m, rest.length = m := ⟨_, rfl⟩
      have HRD : Hid (Rd wr S d u) := hfo.rd.chg HCH.out fun k h1 h2 => HAP.out k h2 h1
      have HFU : Hid (0 < d → Full d u) := hfo.full
      obtain ⟨v, h1, h2, h3⟩ := HC'.out
      obtain ⟨A, cap, rfl, hcapl, _, hA, _⟩ := h2.shape
      rw [spots_rev] at h1 h2 h3 hA hcapl
      have hrl : (spots (rest.reverse.map Fr.spot)).length = m := by unfold spots; rw [List.length_map, List.length_map, List.length_reverse]; exact hm
      have hsl : (spots (rest.reverse.map Fr.spot) ++ [(ptr (blk d u), Value.int .i64 i)]).length = m + 1 := by rw [List.length_append, hrl]; rfl
      obtain ⟨g, rfl⟩ := hA (by rw [hsl]; omega)
      rw [hsl] at h1 h2 h3 hcapl
      have hmc : (m : Int) ≤ (cap : Int) := by omega
      have hc0 : ¬ (cap = 0) := by omega
      have hget : (spots (rest.reverse.map Fr.spot) ++ [(ptr (blk d u), Value.int .i64 i)])[m]? = some (.pointer (some ⟨b, 0, none⟩), .int .i64 i) := by
        rw [List.getElem?_append_right (by omega), hrl, Nat.sub_self, ← hb]; rfl
      have e1 := h2.fst hget
      have e2 := h2.snd hget
      have e3 := h2.frozen (2 * m + 1)
      have hcc : wr.cell? ⟨c, 0, none⟩ = some (.slice (some ⟨g, 0, none⟩) (m + 1) cap) := h1.cell_ rfl
      have hcf := h1.frozen 0
      have H1 := Lib.hid h1
      have H2 := Lib.hid h2
      have H3 := Lib.hid h3
      have HGET := Lib.hid hget
      have HM := Lib.hid hm
      have hcg : c ≠ g := fun e => h2.ne_blk h1 (by decide) (by rw [e]; rfl)
      rw [Nat.mul_comm] at e1 e2 e3
      have hw1 : IntKind.i64.wrap (m : Int) = (m : Int) := by rw [IntKind.wrap_i64]; simp at hd'; omega
      have hw2 : IntKind.i64.wrap (i - 1) = i - 1 := by rw [IntKind.wrap_i64]; omega
      have hlen : (({ d := d, u := u, i := i } : Fr) :: rest).length = m + 1 := by simp [hm]
      rw [hlen] at hg' hd' ⊢
      clear h1 h2 h3 hget hfo hA hrl hsl hlen hm
      have hmm : (m : Int) < (m : Int) + 1 := by omega
      have hgm : g ∈ fpc' := by rw [H3.out]; simp [Value.ownBlock]
      have hcm : c ∈ fpc' := by rw [H3.out]; simp
      have HAQ : Hid (∀ k ∈ fpc', ¬ S k) := fun k hk hs => (HSB.out k hk).elim (fun h => HAP.out k h hs) (fun h => by have := HSL.out k hs; omega)
      obtain ⟨w1, hw1', hC1⟩ : ∃ w1, wr.setCell ⟨g, m * 2 + 1, none⟩ (.int .i64 (i - 1)) = w1 ∧ Chg (fun k => k = g) wr w1 := ⟨_, rfl, (Chg.refl (fun k => k = g) wr).setCell (p := ⟨g, _, none⟩) (.inl rfl) _⟩
      have h2' := H2.out.set2 HGET.out (.int .i64 (i - 1))
      rw [Nat.mul_comm 2 m, hw1'] at h2'
      have hset : (spots (rest.reverse.map Fr.spot) ++ [(ptr (blk d u), Value.int .i64 i)]).set m (.pointer (some ⟨b, 0, none⟩), .int .i64 (i - 1)) = spots (rest.reverse.map Fr.spot) ++ [(.pointer (some ⟨b, 0, none⟩), .int .i64 (i - 1))] := by
        have hrl : (spots (rest.reverse.map Fr.spot)).length = m := by unfold spots; rw [List.length_map, List.length_map, List.length_reverse]; exact HM.out
        rw [List.set_append, if_neg (by omega), hrl, Nat.sub_self]; rfl
      rw [hset] at h2'
      have hrl : (spots (rest.reverse.map Fr.spot)).length = m := by unfold spots; rw [List.length_map, List.length_map, List.length_reverse]; exact HM.out
      have hget' : (spots (rest.reverse.map Fr.spot) ++ [(Value.pointer (some ⟨b, 0, none⟩), Value.int .i64 (i - 1))])[m]? = some (.pointer (some ⟨b, 0, none⟩), .int .i64 (i - 1)) := by
        rw [List.getElem?_append_right (by omega), hrl, Nat.sub_self]; rfl
      have e1' := h2'.fst hget'
      have e2' := h2'.snd hget'
      rw [Nat.mul_comm 2 m] at e1' e2'
      have h1' := H1.out.chg hC1 hcg
      have hcc' : w1.cell? ⟨c, 0, none⟩ = some (.slice (some ⟨g, 0, none⟩) (m + 1) cap) := h1'.cell_ rfl
      have hcf' := h1'.frozen 0
      have HRD' : Hid (Rd w1 S d u) := HRD.out.chg hC1 fun k hk e => HAQ.out g hgm (e ▸ hk)
      have HCH' : Hid (Chg (fun k => k ∈ fpc) w w1) := HCH.out.comp hC1 fun k hk e => by
        subst e
        rcases HSB.out _ hgm with h | h
        · exact h
        · omega
      have H1' := Lib.hid h1'
      have H2' := Lib.hid h2'
      have HSZE := Lib.hid hsz
      have HBE := Lib.hid hb
      have HRL := Lib.hid hrl
      have hne : c ≠ g := hcg
      have HW1 := Lib.hid hw1'
      have hs1 : ∀ v, (wr.setCell ⟨g, m * 2 + 1, none⟩ v).cell? ⟨g, m * 2, none⟩ = some (.pointer (some ⟨b, 0, none⟩)) := fun v => by
        have h := (H2.out.set2 HGET.out v).fst (j := m) (a := .pointer (some ⟨b, 0, none⟩)) (b := v) (by rw [List.set_append, if_neg (by omega), hrl, Nat.sub_self, ← hb, List.getElem?_append_right (by omega), hrl, Nat.sub_self]; rfl)
        rw [Nat.mul_comm] at h; exact h
      have hs3 : ∀ v, (wr.setCell ⟨g, m * 2 + 1, none⟩ v).cell? ⟨c, 0, none⟩ = some (.slice (some ⟨g, 0, none⟩) (m + 1) cap) := fun v => (H1.out.far (p := ⟨g, m * 2 + 1, none⟩) hcg v).cell_ rfl
      have hs4 : ∀ v, (wr.setCell ⟨g, m * 2 + 1, none⟩ v).frozen? ⟨c, 0, none⟩ = false := fun v => (H1.out.far (p := ⟨g, m * 2 + 1, none⟩) hcg v).frozen 0
      have hs2 : ∀ v, (wr.setCell ⟨g, m * 2 + 1, none⟩ v).cell? ⟨g, m * 2 + 1, none⟩ = some v := fun v => by
        have h := (H2.out.set2 HGET.out v).snd (j := m) (a := .pointer (some ⟨b, 0, none⟩)) (b := v) (by rw [List.set_append, if_neg (by omega), hrl, Nat.sub_self, ← hb, List.getElem?_append_right (by omega), hrl, Nat.sub_self]; rfl)
        rw [Nat.mul_comm] at h; exact h
      clear hw1' hset hrl hget' h1' h2' hC1 e1' e2' hcc' hcf' hsz hb HRD H1 H2 HGET HCH hcg
      by_cases hlt : 0 ≤ i - 1
      · have hj : ∃ j : Nat, i - 1 = (j : Int) := ⟨(i - 1).toNat, by omega⟩
        obtain ⟨j, hj⟩ := hj
        have HJ := Lib.hid hj
        have hji : (j : Int) < sizeU d u := by have h := hfo'; omega
        have HJI := Lib.hid hji
        clear hj hji hfo'
        go_wp2_with fail
        rw [HW1.out]
        have hst : (rest.reverse.map Fr.spot) ++ (blk d u, (j : Int)) :: kidR d u j = T := by
          have h := HT'.out
          have h0 : 0 ≤ i - 1 := hlt
          rw [show stepR (({ d := d, u := u, i := i } : Fr) :: rest) = (if 0 ≤ i - 1 then (rest.reverse.map Fr.spot) ++ (blk d u, i - 1) :: kidR d u (i - 1).toNat else stepR rest) from rfl, if_pos h0, HJ.out, Int.toNat_natCast] at h
          exact h
        have hcur : Cur w1 c (rest.reverse.map Fr.spot ++ [(blk d u, (j : Int))]) fpc' := by
          refine ⟨_, H1'.out, ?_, H3.out⟩
          have := H2'.out
          rw [HJ.out] at this
          have he : spots (rest.reverse.map Fr.spot ++ [(blk d u, (j : Int))]) = spots (rest.reverse.map Fr.spot) ++ [(.pointer (some ⟨b, 0, none⟩), .int .i64 j)] := by rw [← HBE.out]; simp [spots, ptr]
          rw [he]; exact this
        have hrdw : Rd w1 S d u := HRD'.out
        have hchw := HCH'.out
        have hj2 : j < sizeU d u := by have := HJI.out; omega
        have HCUR := Lib.hid hcur
        have HRDW := Lib.hid hrdw
        have HCHW := Lib.hid hchw
        have HST := Lib.hid hst
        have HJ2 := Lib.hid hj2
        have hmd : (rest.reverse.map Fr.spot).length + d ≤ 3000 := by
          have := HM.out; rw [List.length_map, List.length_reverse]; omega
        obtain ⟨wo, rfl⟩ : ∃ wo : World, wo = wr := ⟨_, rfl⟩
        clear hcur hrdw hchw hst hj2 hs1 hs2 hs3 hs4 hcc hcf e1 e2 e3 HT' H1' H2' HRD' HCH' HSZE hlt hw2 HC' HF' HRL hw1 hmm hmc hc0 hlo hi1 hfew
        go_loopg [5] d (fun g s4 wr => ∃ (d' : Nat) (u' : Nb d') (qs : List (Nat × Int)) (fpq : List Nat) (k : Nat), s4 = .pointer (some ⟨blk d' u', 0, none⟩) ∧ d' ≤ g ∧ Cur wr c (qs ++ [(blk d' u', (k : Int))]) fpq ∧ k < sizeU d' u' ∧
          qs ++ (blk d' u', (k : Int)) :: kidR d' u' k = T ∧ Rd wr S d' u' ∧ (0 < d' → Full d' u') ∧ qs.length + d' ≤ 3000 ∧ (∀ k ∈ fpq, k ∈ fpc ∨ w.heap.size ≤ k) ∧ Chg (fun k => k ∈ fpc) w wr)
        case atStart => exact ⟨d, u, _, fpc', j, by rw [HBE.out], Nat.le_refl _, HCUR.out, HJ2.out, HST.out, HRDW.out, HFU.out, hmd, HSB.out, HCHW.out⟩
        case round =>
          obtain ⟨d', u', qs, fpq, k, rfl, hdg, hcur, hk, hqT, hrd, hfull, hql, hsubq, hchq⟩ := hrel
          have HSUBQ : Hid (∀ k ∈ fpq, k ∈ fpc ∨ w.heap.size ≤ k) := hsubq
          have HCHQ := Lib.hid hchq
          have HQT := Lib.hid hqT
          have HCQ := Lib.hid hcur
          clear hsubq hchq hqT HCUR HRDW HCHW HST HJ2
          cases d' with
          | zero =>
            obtain ⟨_, vk, vr, hbk, _⟩ := hrd
            have hkc : wr.cell? ⟨blk 0 u', 2, none⟩ = some (.slice none 0 0) := hbk.cell_ rfl
            clear hbk hcur
            go_wp2_with fail
            refine HP.out _ _ fpq (by rw [← HQT.out]; cases qs <;> rfl) ?_ HSUBQ.out HCHQ.out
            rw [← HQT.out]; exact HCQ.out
          | succ d' =>
            obtain ⟨_, vk, gq, cq, hbk, _, hkids, _, _, hch⟩ := hrd
            obtain ⟨x, hx⟩ : ∃ x, u'.2.2[k]? = some x := ⟨_, List.getElem?_eq_getElem hk⟩
            have hxm := List.mem_of_getElem? hx
            have hfx := (hfull (by omega)).2 x hxm
            have hrx := hch x hxm
            obtain ⟨nq2, hnq2⟩ : ∃ nq2, u'.2.2.length = nq2 := ⟨_, rfl⟩
            have hk' : k < nq2 := hnq2 ▸ hk
            have hki : (k : Int) < (nq2 : Int) := by omega
            rw [hnq2] at hbk hkids
            obtain ⟨bx, hbx⟩ : ∃ bx, blk d' x = bx := ⟨_, rfl⟩
            have hkc : wr.cell? ⟨blk (d' + 1) u', 2, none⟩ = some (.slice (some ⟨gq, 0, none⟩) nq2 cq) := hbk.cell_ rfl
            have hxc : wr.cell? ⟨gq, k, none⟩ = some (.pointer (some ⟨bx, 0, none⟩)) := by
              have := hkids.cell (j := k) (u := ptr (blk d' x)) (by simp [ptrs, hx])
              rw [hbx] at this; exact this
            obtain ⟨v, h1, h2, h3⟩ := hcur
            obtain ⟨A, cap2, rfl, _, _, hA, _⟩ := h2.shape
            have hqs : (spots (qs ++ [(blk (d' + 1) u', (k : Int))])).length = qs.length + 1 := by simp [spots]
            obtain ⟨g2, rfl⟩ := hA (by omega)
            obtain ⟨l, hl⟩ : ∃ l, qs.length = l := ⟨_, rfl⟩
            rw [hqs, hl] at h1 h2 h3
            have hgt : (spots (qs ++ [(blk (d' + 1) u', (k : Int))]))[l]? = some (ptr (blk (d' + 1) u'), .int .i64 k) := by
              rw [spots, List.getElem?_map, List.getElem?_append_right (by omega), hl, Nat.sub_self]; rfl
            have e2 := h2.snd hgt
            rw [Nat.mul_comm] at e2
            have hcc : wr.cell? ⟨c, 0, none⟩ = some (.slice (some ⟨g2, 0, none⟩) (l + 1) cap2) := h1.cell_ rfl
            have hwl : IntKind.i64.wrap (l : Int) = (l : Int) := by rw [IntKind.wrap_i64]; omega
            have hll : (l : Int) < (l : Int) + 1 := by omega
            have hlb : l + 1 + d' ≤ 3000 := by omega
            have HROW : Hid (∀ W, Chg (fun _ => False) wr W → Row2 W 77 (.slice (some ⟨g2, 0, none⟩) (l + 1) cap2) (spots (qs ++ [(blk (d' + 1) u', (k : Int))]))) := fun W hW => h2.chg hW fun _ _ h => h
            have HB1 := Lib.hid h1
            have hn1 : c ≠ g2 := fun e => h2.ne_blk h1 (by decide) (by rw [e]; rfl)
            have HRX := Lib.hid hrx
            have HFX := Lib.hid hfx
            have HX := Lib.hid hx
            have HBX := Lib.hid hbx
            have HL := Lib.hid hl
            have HFPQ := Lib.hid h3
            have HQS := Lib.hid hqs
            obtain ⟨ub, hub⟩ : ∃ ub, blk (d' + 1) u' = ub := ⟨_, rfl⟩
            have HUB := Lib.hid hub
            rw [hub] at hkc ⊢
            clear hbk hkids hch hx hxm hfx hrx hnq2 hk hbx h1 h2 h3 hqs hgt hA hl hfull hub
            go_wp2_with fail
            go_region
            obtain ⟨sx, hsx⟩ : ∃ sx, sizeU d' x = sx := ⟨_, rfl⟩
            have HSX0 : Hid (sizeU d' x = sx) := hsx
            have hwsx : IntKind.i64.wrap ((sx : Int) - 1) = (sx : Int) - 1 := by
              have h1 := rd_size HRX.out
              rw [hsx] at h1
              rw [IntKind.wrap_i64]; unfold maxLen at h1; omega
            go_wp2_with fail
            obtain ⟨w5, hw5, hC5⟩ := drew_named wr.drew
            have hCw5 : Chg (fun _ => False) wr w5 := ((Chg.refl _ wr).drew).trans hC5
            have HC5 := Lib.hid hCw5
            have HB5 := Lib.hid (HB1.out.chg hCw5 id)
            have HSX : Hid (∀ W, Chg (fun _ => False) w5 W → Calls Try.prog 34 #[.pointer (some ⟨bx, 0, none⟩)] W (fun e w' => e = .returned (.int .i64 (sx : Nat)) ∧ W = w')) := fun W hW => by
              have h1 := HRX.out.chg (hCw5.trans hW) fun _ _ h => h
              have h2 := size_rd h1
              rw [HBX.out, hsx] at h2
              exact h2
            have HRO5 : Hid (∀ W, Chg (fun _ => False) w5 W → Row2 W 77 (.slice (some ⟨g2, 0, none⟩) (l + 1) cap2) (spots (qs ++ [(blk (d' + 1) u', (k : Int))]))) := fun W hW => HROW.out W (hCw5.trans hW)
            have SP : Hid (∀ W, Chg (fun _ => False) w5 W → W.cell? ⟨c, 0, none⟩ = some (.slice (some ⟨g2, 0, none⟩) (l + 1) cap2)) := fun W hW => (HB5.out.chg hW id).cell_ rfl
            have hC0 : Chg (fun _ => False) w5 w5 := Chg.refl _ _
            have hs5 : wr.heap.size ≤ w5.heap.size := hCw5.size
            clear hC5 hCw5 hsx
            refine wp_region_till (s := 11) (S := (fun W => W.cell? ⟨c, 0, none⟩ = some (.slice (some ⟨g2, 0, none⟩) (l + 1) cap2))) (by kernel_rfl) ?_
            rw [hw5]
            clear hw5
            have hS := SP.out w5 hC0
            apply till_take0 (i := 0) (d := some 65)
            case hi => exact rfl
            case hd => exact rfl
            case hchk => kernel_rfl
            case hS => exact (fun _ => hS)
            case hy => apply yields_plain; exact rfl; intro w _; go_simp <;> with_reducible rfl
            case hQ => exact fun _ _ _ h => h
            simp only [Act.put, List.setIfInBounds_toArray, List.set_cons_zero, List.set_cons_succ]
            apply till_take0 (i := 1) (d := some 66)
            case hi => exact rfl
            case hd => exact rfl
            case hchk => kernel_rfl
            case hS => exact (fun _ => hS)
            case hy => apply yields_plain; exact rfl; intro w _; go_simp <;> with_reducible rfl
            case hQ => exact fun _ _ _ h => h
            simp only [Act.put, List.setIfInBounds_toArray, List.set_cons_zero, List.set_cons_succ]
            apply till_take0 (i := 2) (d := some 67)
            case hi => exact rfl
            case hd => exact rfl
            case hchk => kernel_rfl
            case hS => exact (fun _ => hS)
            case hy => apply yields_plain; exact rfl; intro w _; go_simp <;> with_reducible rfl
            case hQ => exact fun _ _ _ h => h
            simp only [Act.put, List.setIfInBounds_toArray, List.set_cons_zero, List.set_cons_succ]
            apply till_take0 (i := 3) (d := some 68)
            case hi => exact rfl
            case hd => exact rfl
            case hchk => kernel_rfl
            case hS => exact (fun _ => hS)
            case hy => apply yields_plain; exact rfl; intro w _; go_simp <;> with_reducible rfl
            case hQ => exact fun _ _ _ h => h
            simp only [Act.put, List.setIfInBounds_toArray, List.set_cons_zero, List.set_cons_succ]
            apply till_take0 (i := 5) (d := some 70)
            case hi => exact rfl
            case hd => exact rfl
            case hchk => kernel_rfl
            case hS => exact (fun _ => hS)
            case hy => apply yields_plain; exact rfl; intro w _; go_simp <;> with_reducible rfl
            case hQ => exact fun _ _ _ h => h
            simp only [Act.put, List.setIfInBounds_toArray, List.set_cons_zero, List.set_cons_succ]
            apply till_take0 (i := 6) (d := some 71)
            case hi => exact rfl
            case hd => exact rfl
            case hchk => kernel_rfl
            case hS => exact (fun _ => hS)
            case hy => apply yields_plain; exact rfl; intro w _; go_simp <;> with_reducible rfl
            case hQ => exact fun _ _ _ h => h
            simp only [Act.put, List.setIfInBounds_toArray, List.set_cons_zero, List.set_cons_succ]
            apply till_take (i := 4) (d := some 69) [11, 4]
            case hi => exact rfl
            case hd => exact rfl
            case hchk => kernel_rfl
            case hS => exact hS
            case hy => apply yields_plain; exact rfl; intro w hSw; (try dsimp only at hSw); go_split_ands; go_simp <;> with_reducible rfl
            case hQ => exact fun _ _ _ h => h
            simp only [Act.put, List.setIfInBounds_toArray, List.set_cons_zero, List.set_cons_succ]
            refine till_all (rs := [7]) (by kernel_rfl) (by simp) (mem_more (till_op (i := 7) (o := ⟨some 72, _, _, _, _, _⟩) rfl rfl (fun K hK => ?_)) (mem_none))
            go_simp
            go_at_call 34
            refine (HSX.out _ hC0).mono ?_
            rintro e w' ⟨rfl, rfl⟩
            refine hK.out _ _ (fun _ => ?_) (fun hS2 => ?_)
            · exact SP.out _ hC0
            have hS3 := hS2 (by kernel_rfl)
            clear hK K hS hS2
            have hS := hS3
            clear hS3
            try simp only [Act.put, List.setIfInBounds_toArray, List.set_cons_zero, List.set_cons_succ]
            apply till_take0 (i := 8) (d := some 73)
            case hi => exact rfl
            case hd => exact rfl
            case hchk => kernel_rfl
            case hS => exact (fun _ => hS)
            case hy => apply yields_plain; exact rfl; intro w _; go_simp <;> with_reducible rfl
            case hQ => exact fun _ _ _ h => h
            simp only [Act.put, List.setIfInBounds_toArray, List.set_cons_zero, List.set_cons_succ]
            apply till_take0 (i := 9) (d := some 74)
            case hi => exact rfl
            case hd => exact rfl
            case hchk => kernel_rfl
            case hS => exact (fun _ => hS)
            case hy => apply yields_plain; exact rfl; intro w _; go_simp <;> with_reducible rfl
            case hQ => exact fun _ _ _ h => h
            simp only [Act.put, List.setIfInBounds_toArray, List.set_cons_zero, List.set_cons_succ]
            refine till_all (rs := [10]) (by kernel_rfl) (by simp) (mem_more (till_op (i := 10) (o := ⟨some 75, _, _, _, _, _⟩) rfl rfl (fun K hK => ?_)) (mem_none))
            go_simp
            obtain ⟨wx, xb, hwx, hxb, hBx, hCx, -⟩ := alloc_named w5 #[.pointer (some ⟨bx, 0, none⟩), .int .i64 ((sx : Int) - 1)] 77
            rw [hwx, hxb]
            have hC0 := hC0.trans hCx
            refine hK.out _ _ (fun _ => ?_) (fun hS2 => ?_)
            · exact SP.out _ hC0
            have hS3 := hS2 (by kernel_rfl)
            clear hK K hS hS2
            have hS := hS3
            clear hS3
            try simp only [Act.put, List.setIfInBounds_toArray, List.set_cons_zero, List.set_cons_succ]
            refine till_all (rs := [11]) (by kernel_rfl) (by simp) (mem_more (till_op (i := 11) (o := ⟨some 76, _, _, _, _, _⟩) rfl rfl (fun K hK => ?_)) (mem_none))
            obtain ⟨g3, c3, w6, hrun, hOw, hg3, hch3⟩ := run_app2 slt_spot (HRO5.out _ hC0) ⟨xb, 0, none⟩ 1 1 (by omega) [(.pointer (some ⟨bx, 0, none⟩), .int .i64 ((sx : Int) - 1))] rfl (pair_cells hBx) (by intro u hu; simp [cells2] at hu; rcases hu with rfl | rfl <;> rfl) (by rw [HQS.out, HL.out]; omega) 73
            rw [HQS.out, HL.out] at hrun hOw
            refine wp_append_ok (.tmp 69) (.tmp 75) _ _ rfl _ _ rfl rfl _ _ hrun ?_
            have hch3 : Chg (fun k => k = g2) w5 w6 := hC0.up.trans (hch3.mono fun k _ e => by simp [Value.ownBlock] at e; exact e.symm)
            have hg3 : g3 = g2 ∨ wr.heap.size ≤ g3 := hg3.imp (fun h => by simp [Value.ownBlock] at h; exact h.symm) (fun h => by have h1 := hC0.size; omega)
            have hB := HB5.out.chg hch3 hn1
            clear hC0 hBx hrun
            refine hK.out _ _ (fun h => by cases (show true = false from h)) (fun _ => ?_)
            clear hK K hS
            try simp only [Act.put, List.setIfInBounds_toArray, List.set_cons_zero, List.set_cons_succ]
            apply till_take0 (i := 12) (d := some 77)
            case hi => exact rfl
            case hd => exact rfl
            case hchk => kernel_rfl
            case hS => exact (fun h => by cases (show true = false from h))
            case hy => apply yields_plain; exact rfl; intro w _; go_simp <;> with_reducible rfl
            case hQ => exact fun _ _ _ h => h
            simp only [Act.put, List.setIfInBounds_toArray, List.set_cons_zero, List.set_cons_succ]
            apply till_take0 (i := 13) (d := some 78)
            case hi => exact rfl
            case hd => exact rfl
            case hchk => kernel_rfl
            case hS => exact (fun h => by cases (show true = false from h))
            case hy => apply yields_plain; exact rfl; intro w _; go_simp <;> with_reducible rfl
            case hQ => exact fun _ _ _ h => h
            simp only [Act.put, List.setIfInBounds_toArray, List.set_cons_zero, List.set_cons_succ]
            refine till_all (rs := [14]) (by kernel_rfl) (by simp) (mem_more (till_op (i := 14) (o := ⟨none, _, _, _, _, _⟩) rfl rfl (fun K hK => ?_)) (mem_none))
            have hbc : (w6).cell? ⟨c, 0, none⟩ = some _ := hB.cell_ rfl
            have hbf := hB.frozen 0
            go_simp
            clear hbc hbf
            obtain ⟨w7, hw7, hB1, hC7⟩ := set_named hB 0 (.slice (some ⟨g3, 0, none⟩) (l + 1 + 1) c3)
            rw [hw7]
            have hOw := hOw.past2 hB (by decide) hC7
            have hC6 : Chg (fun k => k = c ∨ k = g2) wr w7 := (HC5.out.up.trans (hch3.mono fun k _ e => .inr e)).trans (hC7.mono fun k _ e => .inl e)
            have hB := hB1
            clear hB1 hw7 hC7 hch3
            refine hK.out _ _ (fun h => by cases (show true = false from h)) (fun _ => ?_)
            clear hK K
            try simp only [Act.put, List.setIfInBounds_toArray, List.set_cons_zero, List.set_cons_succ]
            refine till_done (by kernel_rfl) ?_
            go_wp2_with fail
            have hcq : c ∈ fpq := by rw [HFPQ.out]; simp
            have hgq2 : g2 ∈ fpq := by rw [HFPQ.out]; simp [Value.ownBlock]
            have hszq := HCHQ.out.size
            have HAQ2 : ∀ y, S y → ¬ (y = c ∨ y = g2) := fun y hy e => by
              have hy' : y ∈ fpq := e.elim (fun e => e ▸ hcq) (fun e => e ▸ hgq2)
              rcases HSUBQ.out y hy' with h | h
              · exact HAP.out y h hy
              · have := HSL.out y hy; omega
            go_roundg d'
            case measure => omega
            case rel =>
              refine ⟨d', x, qs ++ [(blk (d' + 1) u', (k : Int))], [c, g3], sizeU d' x - 1, by rw [HBX.out], Nat.le_refl _, ⟨_, hB, ?_, by simp [Value.ownBlock]⟩, by have := full_size HFX.out; omega, ?_, ?_, fun _ => HFX.out, ?_, ?_, ?_⟩
              · have he : spots (qs ++ [(blk (d' + 1) u', (k : Int))] ++ [(blk d' x, ((sizeU d' x - 1 : Nat) : Int))]) = spots (qs ++ [(blk (d' + 1) u', (k : Int))]) ++ [(.pointer (some ⟨bx, 0, none⟩), .int .i64 ((sx : Int) - 1))] := by
                  have h1 := full_size HFX.out
                  have h2 := HSX0.out
                  rw [← HBX.out, show ((sizeU d' x - 1 : Nat) : Int) = (sx : Int) - 1 by omega]; simp [spots, ptr]
                rw [he]; exact hOw
              · have h := HQT.out
                rw [show kidR (d' + 1) u' k = (match u'.2.2[k]? with | some x => downR d' x | none => []) from rfl, HX.out] at h
                rw [← h]
                show _ = qs ++ (blk (d' + 1) u', (k : Int)) :: downR d' x
                rw [downR_eq]
                have h1 := full_size HFX.out
                rw [show ((sizeU d' x - 1 : Nat) : Int) = (sizeU d' x : Int) - 1 by omega]; simp
              · exact HRX.out.chg hC6 fun y hy e => HAQ2 y hy e
              · rw [List.length_append, HL.out]; simp; omega
              · intro y hy
                simp only [List.mem_cons, List.not_mem_nil, or_false] at hy
                rcases hy with rfl | rfl
                · exact HSUBQ.out _ hcq
                · rcases hg3 with h | h
                  · rw [h]; exact HSUBQ.out _ hgq2
                  · exact .inr (by omega)
              · refine HCHQ.out.comp hC6 fun y hy e => ?_
                rcases e with rfl | rfl
                · rcases HSUBQ.out _ hcq with h | h
                  · exact h
                  · omega
                · rcases HSUBQ.out _ hgq2 with h | h
                  · exact h
                  · omega
      · have hge : i - 1 < 0 := by omega
        clear hlt hfo'
        go_wp2_with fail
        rw [HW1.out]
        go_roundg m
        case measure => omega
        case rel =>
          have hst : stepR rest = T := by
            have h := HT'.out
            have h0 : ¬ (0 ≤ i - 1) := by omega
            rw [show stepR (({ d := d, u := u, i := i } : Fr) :: rest) = (if 0 ≤ i - 1 then (rest.reverse.map Fr.spot) ++ (blk d u, i - 1) :: kidR d u (i - 1).toNat else stepR rest) from rfl, if_neg h0] at h
            exact h
          have hC2 : Chg (fun k => k = c) w1 (w1.setCell ⟨c, 0, none⟩ (.slice (some ⟨g, 0, none⟩) m cap)) := (Chg.refl (fun k => k = c) w1).setCell (p := ⟨c, 0, none⟩) (.inl rfl) _
          have h2 := (H2'.out.cut (k := m) (by rw [List.length_append, HRL.out]; simp)).chg hC2 (fun x hx e => hne (by simp [Value.ownBlock] at hx; rw [hx]; exact e.symm))
          rw [List.take_left' HRL.out] at h2
          refine ⟨rest, fpc', by rw [HM.out], ⟨_, (H1'.out).set_ 0 _, h2, by rw [H3.out]; rfl⟩, hst, fun f hf => HF'.out f (List.mem_cons_of_mem _ hf), by rw [HM.out]; exact Nat.le_refl _, by rw [HM.out]; omega, HSB.out, HCH'.out.comp hC2 fun k hk e => ?_⟩
          subst e
          rcases HSB.out _ hcm with h | h
          · exact h
          · omega


theorem prev_calls {w : World} {S : Nat → Prop} {d c : Nat} {u : Nb d} {ps : List (Nat × Int)} {fpc : List Nat} {r : Int} (hV : View w S d u) (hC : Cur w c ps fpc) (hg : Goes 0 d u ps r) (hap : ∀ k ∈ fpc, ¬ S k) :
    Calls Try.prog 19 #[ptr c] w fun e w' => e = .returned (.bool (decide (0 ≤ r - 1))) ∧ StepPost w d u c (r - 1) fpc w' := by
  obtain ⟨fs, hl, hm⟩ := goes_lev hg
  have hok := lev_ok (by omega) hV.rd hV.full hV.few hV.deep hg hl
  have hst := step_prev hV.full hg hl
  have hr := goes_range (by omega) hg
  have hlen := goes_len hg
  have hfl : fs.length = d + 1 := by rw [← hlen, ← hm, List.length_map]
  refine (prev_walk w S c fs.reverse fpc _ (by rw [List.reverse_reverse, hm]; exact hC) rfl (fun f hf => hok f (List.mem_reverse.1 hf)) hap hV.lt (by rw [List.length_reverse, hfl]; have := hV.deep; omega)).mono ?_
  rintro e w' ⟨rfl, fpc', h1, h2, h3⟩
  by_cases h : 0 ≤ r - 1
  · rw [if_pos h] at hst
    have hne := goes_len hst
    refine ⟨?_, _, fpc', h1, ?_, h2, h3⟩
    · rw [decide_eq_true h]
      cases hq : stepR fs.reverse with
      | nil => rw [hq] at hne; cases hne
      | cons a l => rfl
    · rw [if_pos ⟨h, by omega⟩]; exact hst
  · rw [if_neg h] at hst
    refine ⟨by rw [decide_eq_false h, hst]; rfl, _, fpc', h1, ?_, h2, h3⟩
    rw [if_neg (fun hh => h hh.1)]; exact hst

theorem prev_none {w : World} {c : Nat} {fpc : List Nat} (hC : Cur w c [] fpc) : Calls Try.prog 19 #[ptr c] w fun e w' => e = .returned (.bool false) ∧ ∃ fpc', Cur w' c [] fpc' ∧ (∀ k ∈ fpc', k ∈ fpc ∨ w.heap.size ≤ k) ∧ Chg (fun k => k ∈ fpc) w w' := by
  refine (prev_walk w (fun _ => False) c [] fpc [] hC rfl (fun f hf => by cases hf) (fun _ _ h => h) (fun _ h => h.elim) (by simp)).mono ?_
  rintro e w' ⟨rfl, fpc', h1, h2, h3⟩
  exact ⟨rfl, fpc', h1, h2, h3⟩

theorem next_none {w : World} {c : Nat} {fpc : List Nat} (hC : Cur w c [] fpc) : Calls Try.prog 14 #[ptr c] w fun e w' => e = .returned (.bool false) ∧ ∃ fpc', Cur w' c [] fpc' ∧ (∀ k ∈ fpc', k ∈ fpc ∨ w.heap.size ≤ k) ∧ Chg (fun k => k ∈ fpc) w w' := by
  have HG := Lib.hid (go1_none hC)
  obtain ⟨R, hR⟩ : ∃ R : Ending → World → Prop, R = fun e w' => e = .returned (.bool false) ∧ ∃ fpc', Cur w' c [] fpc' ∧ (∀ k ∈ fpc', k ∈ fpc ∨ w.heap.size ≤ k) ∧ Chg (fun k => k ∈ fpc) w w' := ⟨_, rfl⟩
  rw [← hR]
  have HP : Hid (∀ e w', e = .returned (.bool false) → (∃ fpc', Cur w' c [] fpc' ∧ (∀ k ∈ fpc', k ∈ fpc ∨ w.heap.size ≤ k) ∧ Chg (fun k => k ∈ fpc) w w') → R e w') := fun e w' h1 h2 => by rw [hR]; exact ⟨h1, h2⟩
  unfold ptr at *
  clear hC hR
  go_enter Try.func14, Try.ntmps14
  go_wp2_with fail
  go_at_call 37
  refine HG.out.mono ?_
  rintro e w1 ⟨rfl, fpc', h1, h2, h3⟩
  have HO : Hid (Calls Try.prog 12 #[.pointer (some ⟨c, 0, none⟩)] w1 fun e w' => e = .returned (.bool false) ∧ w1 = w') := ok_calls h1
  have HS := Lib.hid (show ∃ fpc', Cur w1 c [] fpc' ∧ (∀ k ∈ fpc', k ∈ fpc ∨ w.heap.size ≤ k) ∧ Chg (fun k => k ∈ fpc) w w1 from ⟨fpc', h1, h2, h3⟩)
  clear h1 h2 h3
  go_wp2_with fail
  go_at_call 12
  refine HO.out.mono ?_
  rintro e w2 ⟨rfl, rfl⟩
  go_wp2_with fail
  exact HP.out _ _ rfl HS.out
end Go.Proofs.Ythndplpbnfihdaa
