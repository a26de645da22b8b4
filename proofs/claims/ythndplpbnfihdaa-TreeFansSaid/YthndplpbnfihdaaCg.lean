/-
  (*Cursor).go1. Conditions: the cursor stands on a way down a tree that is read.
-/
import Derived.Test.YthndplpbnfihdaaCw
import Derived.StillTailTactics
import Derived.BigRegion
import Derived.Deep.Cut
set_option linter.unusedVariables false
set_option linter.unusedSimpArgs false
namespace Go.Proofs.Ythndplpbnfihdaa
open Go.RowKit

/-- A level whose node is read. -/
structure FrOk (w : World) (S : Nat → Prop) (f : Fr) : Prop where
  rd : Rd w S f.d f.u
  full : 0 < f.d → Full f.d f.u
  few : sizeU f.d f.u ≤ 1000
  lo : -1 ≤ f.i
  deep : f.d ≤ 1000
  hi : f.i < sizeU f.d f.u ∨ f.i ≤ 0

theorem flat_ge {d : Nat} : ∀ (l : List (Nb d)), (∀ x ∈ l, Full d x) → l.length ≤ (l.flatMap (listU d)).length
  | [], _ => Nat.le_refl _
  | x :: l, h => by
    have h1 := full_pos (h x (List.mem_cons_self ..))
    have h2 := flat_ge l fun y hy => h y (List.mem_cons_of_mem _ hy)
    simp only [List.flatMap_cons, List.length_append, List.length_cons]
    omega

theorem size_le {d : Nat} {u : Nb d} (h : 0 < d → Full d u) : sizeU d u ≤ (listU d u).length := by
  cases d with
  | zero => exact Nat.le_refl _
  | succ d => exact flat_ge u.2.2 (h (by omega)).2

theorem child_le {d : Nat} {u : Nb (d + 1)} {i : Nat} {x : Nb d} (hx : u.2.2[i]? = some x) : (listU d x).length ≤ (listU (d + 1) u).length := by
  show _ ≤ (u.2.2.flatMap (listU d)).length
  rw [flat_at hx]; simp only [List.length_append]; omega

theorem lev_ok {w : World} {S : Nat → Prop} {lo : Int} (hlo : -1 ≤ lo) : ∀ {d : Nat} {u : Nb d} {ps : List (Nat × Int)} {r : Int} {fs : List Fr}, Rd w S d u → (0 < d → Full d u) → (listU d u).length ≤ 1000 → d ≤ 1000 → Goes lo d u ps r → Lev d u ps fs → ∀ f ∈ fs, FrOk w S f
  | 0, u, ps, r, fs, hR, hf, hl, hd, ⟨h1, h2, h3⟩, ⟨r', h4, h5⟩ => by
    have hr : r' = r := by rw [h1] at h4; injection h4 with h4; injection h4 with _ h4; exact h4.symm
    subst hr h5
    intro f hf'
    simp only [List.mem_cons, List.not_mem_nil, or_false] at hf'
    subst hf'
    exact ⟨hR, hf, hl, by show -1 ≤ r'; omega, hd, .inl h3⟩
  | d + 1, u, ps, r, fs, hR, hf, hl, hd, ⟨i, x, ps', r', hx, hp, hg, hr⟩, ⟨i', x', ps'', fs', hx', hp', hlv, hfs⟩ => by
    rw [hp] at hp'
    injection hp' with e1 e2
    injection e1 with _ e1
    have hii : i' = i := by omega
    subst hii
    rw [hx] at hx'
    injection hx' with hx'
    subst hx' e2 hfs
    have hf' := hf (by omega)
    have hxm := List.mem_of_getElem? hx
    have hil := (List.getElem?_eq_some_iff.1 hx).1
    intro f hfm
    rcases List.mem_cons.1 hfm with rfl | hfm
    · exact ⟨hR, hf, Nat.le_trans (size_le hf) hl, by show (-1 : Int) ≤ (i' : Int); omega, hd, .inl (by show (i' : Int) < (u.2.2.length : Int); omega)⟩
    · obtain ⟨_, _, _, _, _, _, _, _, _, hRc⟩ := hR
      exact lev_ok hlo (hRc x hxm) (fun _ => hf'.2 x hxm) (Nat.le_trans (child_le hx) hl) (by omega) hg hlv f hfm

theorem FrOk.chg {F S : Nat → Prop} {w w' : World} {f : Fr} (h : FrOk w S f) (hc : Chg F w w') (hS : ∀ k, S k → ¬ F k) : FrOk w' S f := ⟨h.rd.chg hc hS, h.full, h.few, h.lo, h.deep, h.hi⟩

/-- A node's size, its children. -/
theorem size_rd {w : World} {S : Nat → Prop} : ∀ {d : Nat} {u : Nb d}, Rd w S d u → Calls Try.prog 34 #[ptr (blk d u)] w fun e w' => e = .returned (.int .i64 (sizeU d u)) ∧ w = w'
  | 0, u, ⟨_, vk, vr, hb, hk, hr, _, _⟩ => by
    obtain ⟨A, c, rfl, _⟩ := hk.shape
    have := size_leaf w u.1 A _ c (hb.cell_ rfl) (hb.cell_ rfl)
    have hl : (strs (keysT u.2)).length = u.2.length := by simp [strs, keysT]
    rw [hl] at this
    exact this
  | d + 1, u, ⟨_, vk, g, c, hb, hk, hc, _, _, _⟩ => size_inner w u.1 g u.2.2.length c (hb.cell_ rfl)

theorem full_size {d : Nat} {u : Nb d} (h : Full d u) : 0 < sizeU d u := by
  cases d with
  | zero => exact h
  | succ d => exact h.1

theorem downL_eq (d : Nat) (u : Nb d) : downL d u = (blk d u, ((0 : Nat) : Int)) :: kidL d u 0 := by
  cases d with
  | zero => rfl
  | succ d => rfl

theorem downR_eq (d : Nat) (u : Nb d) : downR d u = (blk d u, (sizeU d u : Int) - 1) :: kidR d u (sizeU d u - 1) := by
  cases d with
  | zero => rfl
  | succ d => rfl

theorem slt_spot : SlT2 Try.prog 73 77 (.agg #[.pointer none, .int .i64 0]) 16 := ⟨Try.underlying73, by kernel_rfl, rfl, by decide⟩

def Go1Post (w : World) (c : Nat) (T : List (Nat × Int)) (fpc : List Nat) (e : Ending) (w' : World) : Prop :=
  e = .returned (.tuple #[]) ∧ ∃ fpc', Cur w' c T fpc' ∧ (∀ k ∈ fpc', k ∈ fpc ∨ w.heap.size ≤ k) ∧ Chg (fun k => k ∈ fpc) w w'

theorem spots_rev (fs : List Fr) (f : Fr) : spots ((f :: fs).reverse.map Fr.spot) = spots (fs.reverse.map Fr.spot) ++ [(ptr (blk f.d f.u), .int .i64 f.i)] := by
  simp [spots, Fr.spot]

set_option maxHeartbeats 2000000 in
set_option maxRecDepth 100000 in
theorem go1_walk (w : World) (S : Nat → Prop) (c : Nat) (fs : List Fr) (fpc : List Nat) (T : List (Nat × Int)) (hC : Cur w c (fs.reverse.map Fr.spot) fpc) (hT : stepL fs = T) (hf : ∀ f ∈ fs, FrOk w S f) (hap : ∀ k ∈ fpc, ¬ S k)
    (hSl : ∀ k, S k → k < w.heap.size) (hdeep : fs.length ≤ 1001) : Calls Try.prog 37 #[ptr c] w (Go1Post w c T fpc) := by
  unfold ptr
  obtain ⟨R, hR⟩ : ∃ R, R = Go1Post w c T fpc := ⟨_, rfl⟩
  rw [← hR]
  have HP : Hid (∀ e w' fpc', e = .returned (.tuple #[]) → Cur w' c T fpc' → (∀ k ∈ fpc', k ∈ fpc ∨ w.heap.size ≤ k) → Chg (fun k => k ∈ fpc) w w' → R e w') := fun e w' fpc' h1 h2 h3 h4 => by rw [hR]; exact ⟨h1, fpc', h2, h3, h4⟩
  have HAP : Hid (∀ k ∈ fpc, ¬ S k) := hap
  have HSL : Hid (∀ k, S k → k < w.heap.size) := hSl
  have HF : Hid (∀ f ∈ fs, FrOk w S f) := hf
  have hc0 : ∃ A cap, w.cell? ⟨c, 0, none⟩ = some (.slice A fs.length cap) := by
    obtain ⟨v, h1, h2, h3⟩ := hC
    obtain ⟨A, cap, rfl, _⟩ := h2.shape
    exact ⟨A, cap, by have := h1.cell_ (i := 0) rfl; simpa [spots] using this⟩
  obtain ⟨A0, cap0, hc0⟩ := hc0
  have HC := Lib.hid hC
  have HT := Lib.hid hT
  clear hR hap hSl hf hC hT
  go_enter Try.func37, Try.ntmps37
  go_wp2_with fail
  go_loopg [2] fs.length (fun g n wr => ∃ fs' fpc', n = .int .i64 fs'.length ∧ Cur wr c (fs'.reverse.map Fr.spot) fpc' ∧ stepL fs' = T ∧ (∀ f ∈ fs', FrOk w S f) ∧ fs'.length ≤ g ∧ fs'.length ≤ 1001 ∧
    (∀ k ∈ fpc', k ∈ fpc ∨ w.heap.size ≤ k) ∧ Chg (fun k => k ∈ fpc) w wr)
  case atStart => exact ⟨fs, fpc, rfl, HC.out, HT.out, HF.out, Nat.le_refl _, hdeep, fun k hk => .inl hk, Chg.refl _ _⟩
  case round =>
    obtain ⟨fs', fpc', rfl, hC', hT', hf', hg', hd', hsub, hch⟩ := hrel
    have HF' : Hid (∀ f ∈ fs', FrOk w S f) := hf'
    have HC' := Lib.hid hC'
    have HT' := Lib.hid hT'
    have HSB : Hid (∀ k ∈ fpc', k ∈ fpc ∨ w.heap.size ≤ k) := hsub
    have HCH := Lib.hid hch
    clear hc0 hf' hC' hT' hsub hch
    rcases fs' with _ | ⟨f, rest⟩
    · go_wp2_with fail
      refine bodyPost_end (results_none rfl _ _ _) rfl ?_
      exact HP.out _ _ fpc' rfl (HT'.out ▸ HC'.out) HSB.out HCH.out
    · obtain ⟨d, u, i⟩ := f
      have hfo := HF'.out _ (List.mem_cons_self ..)
      have hlo : -1 ≤ i := hfo.lo
      have hfew := hfo.few
      have hdp : d ≤ 1000 := hfo.deep
      have hi1 : i ≤ 1000 := by rcases hfo.hi with h | h <;> simp only at h hfew <;> omega
      obtain ⟨sz, hsz⟩ : ∃ sz, sizeU d u = sz := ⟨_, rfl⟩
      obtain ⟨b, hb⟩ : ∃ b, blk d u = b := ⟨_, rfl⟩
      obtain ⟨m, hm⟩ : ∃ m, rest.length = m := ⟨_, rfl⟩
      have HRD : Hid (Rd wr S d u) := hfo.rd.chg HCH.out fun k h1 h2 => HAP.out k h2 h1
      have HFU : Hid (0 < d → Full d u) := hfo.full
      obtain ⟨v, h1, h2, h3⟩ := HC'.out
      obtain ⟨A, cap, rfl, hcapl, _, hA, _⟩ := h2.shape
      rw [spots_rev] at h1 h2 h3 hA hcapl
      have hrl : (spots (rest.reverse.map Fr.spot)).length = m := by unfold spots; rw [List.length_map, List.length_map, List.length_reverse]; exact hm
      have hsl : (spots (rest.reverse.map Fr.spot) ++ [(ptr (blk d u), Value.int .i64 i)]).length = m + 1 := by rw [List.length_append, hrl]; rfl
      obtain ⟨g, rfl⟩ := hA (by rw [hsl]; omega)
      rw [hsl] at h1 h2 h3 hcapl
      have hmc : (m : Int) ≤ (cap : Int) := by omega
      have hc0 : ¬ (cap = 0) := by omega
      have hget : (spots (rest.reverse.map Fr.spot) ++ [(ptr (blk d u), Value.int .i64 i)])[m]? = some (.pointer (some ⟨b, 0, none⟩), .int .i64 i) := by
        rw [List.getElem?_append_right (by omega), hrl, Nat.sub_self, ← hb]; rfl
      have e1 := h2.fst hget
      have e2 := h2.snd hget
      have e3 := h2.frozen (2 * m + 1)
      have hcc : wr.cell? ⟨c, 0, none⟩ = some (.slice (some ⟨g, 0, none⟩) (m + 1) cap) := h1.cell_ rfl
      have hcf := h1.frozen 0
      have H1 := Lib.hid h1
      have H2 := Lib.hid h2
      have H3 := Lib.hid h3
      have HGET := Lib.hid hget
      have HM := Lib.hid hm
      have hcg : c ≠ g := fun e => h2.ne_blk h1 (by decide) (by rw [e]; rfl)
      rw [Nat.mul_comm] at e1 e2 e3
      have hw1 : IntKind.i64.wrap (m : Int) = (m : Int) := by rw [IntKind.wrap_i64]; simp at hd'; omega
      have hw2 : IntKind.i64.wrap (i + 1) = i + 1 := by rw [IntKind.wrap_i64]; omega
      have hlen : (({ d := d, u := u, i := i } : Fr) :: rest).length = m + 1 := by simp [hm]
      rw [hlen] at hg' hd' ⊢
      clear h1 h2 h3 hget hfo hA hrl hsl hlen hm
      have hmm : (m : Int) < (m : Int) + 1 := by omega
      go_wp2_with fail
      have hgm : g ∈ fpc' := by rw [H3.out]; simp [Value.ownBlock]
      have hcm : c ∈ fpc' := by rw [H3.out]; simp
      have HAQ : Hid (∀ k ∈ fpc', ¬ S k) := fun k hk hs => (HSB.out k hk).elim (fun h => HAP.out k h hs) (fun h => by have := HSL.out k hs; omega)
      obtain ⟨w1, hw1', hC1⟩ : ∃ w1, wr.setCell ⟨g, m * 2 + 1, none⟩ (.int .i64 (i + 1)) = w1 ∧ Chg (fun k => k = g) wr w1 := ⟨_, rfl, (Chg.refl (fun k => k = g) wr).setCell (p := ⟨g, _, none⟩) (.inl rfl) _⟩
      have h2' := H2.out.set2 HGET.out (.int .i64 (i + 1))
      rw [Nat.mul_comm 2 m, hw1'] at h2'
      rw [hw1']
      have hset : (spots (rest.reverse.map Fr.spot) ++ [(ptr (blk d u), Value.int .i64 i)]).set m (.pointer (some ⟨b, 0, none⟩), .int .i64 (i + 1)) = spots (rest.reverse.map Fr.spot) ++ [(.pointer (some ⟨b, 0, none⟩), .int .i64 (i + 1))] := by
        have hrl : (spots (rest.reverse.map Fr.spot)).length = m := by unfold spots; rw [List.length_map, List.length_map, List.length_reverse]; exact HM.out
        rw [List.set_append, if_neg (by omega), hrl, Nat.sub_self]; rfl
      rw [hset] at h2'
      have hrl : (spots (rest.reverse.map Fr.spot)).length = m := by unfold spots; rw [List.length_map, List.length_map, List.length_reverse]; exact HM.out
      have hget' : (spots (rest.reverse.map Fr.spot) ++ [(Value.pointer (some ⟨b, 0, none⟩), Value.int .i64 (i + 1))])[m]? = some (.pointer (some ⟨b, 0, none⟩), .int .i64 (i + 1)) := by
        rw [List.getElem?_append_right (by omega), hrl, Nat.sub_self]; rfl
      have e1' := h2'.fst hget'
      have e2' := h2'.snd hget'
      rw [Nat.mul_comm 2 m] at e1' e2'
      have h1' := H1.out.chg hC1 hcg
      have hcc' : w1.cell? ⟨c, 0, none⟩ = some (.slice (some ⟨g, 0, none⟩) (m + 1) cap) := h1'.cell_ rfl
      have hcf' := h1'.frozen 0
      have HRD' : Hid (Rd w1 S d u) := HRD.out.chg hC1 fun k hk e => HAQ.out g hgm (e ▸ hk)
      have HCH' : Hid (Chg (fun k => k ∈ fpc) w w1) := HCH.out.comp hC1 fun k hk e => by
        subst e
        rcases HSB.out _ hgm with h | h
        · exact h
        · omega
      have HSZ : Hid (∀ q', Calls Try.prog 34 #[.pointer (some ⟨b, 0, none⟩)] (w1.drewN q') (fun e w' => e = .returned (.int .i64 (sz : Nat)) ∧ ∃ m, w' = (w1.drewN q').drewN m)) := fun q' => by
        have hh : Rd (w1.drewN q') S d u := HRD'.out.chg ((Chg.refl (fun _ => False) w1).drewN q') fun _ _ h => h
        have := size_rd hh
        rw [hb, hsz] at this
        refine this.mono ?_
        rintro e w' ⟨h1, rfl⟩
        exact ⟨h1, 0, rfl⟩
      have H1' := Lib.hid h1'
      have H2' := Lib.hid h2'
      have HSZE := Lib.hid hsz
      have HBE := Lib.hid hb
      have HRL := Lib.hid hrl
      have hne : c ≠ g := hcg
      clear hw1' hset hrl hget' h1' h2' hC1 hcc hcf e1 e2 e3 hsz hb HRD H1 H2 HGET HCH hcg
      by_cases hlt : i + 1 < (sz : Int)
      · have hj : ∃ j : Nat, i + 1 = (j : Int) := ⟨(i + 1).toNat, by omega⟩
        obtain ⟨j, hj⟩ := hj
        rw [hj] at hlt hw2 e2' ⊢
        have HJ := Lib.hid hj
        go_wp2_with fail
        go_quiet ((go_at_call 34; exact Calls.quiet_of (HSZ.out _)))
        go_wp2_with fail
        have hst : (rest.reverse.map Fr.spot) ++ (blk d u, (j : Int)) :: kidL d u j = T := by
          have h := HT'.out
          have h0 : i + 1 < sizeU d u := by rw [HSZE.out, HJ.out]; exact hlt
          rw [show stepL (({ d := d, u := u, i := i } : Fr) :: rest) = (if i + 1 < sizeU d u then (rest.reverse.map Fr.spot) ++ (blk d u, i + 1) :: kidL d u (i + 1).toNat else stepL rest) from rfl, if_pos h0, HJ.out, Int.toNat_natCast] at h
          exact h
        have hcur : Cur (w1.drewN nq) c (rest.reverse.map Fr.spot ++ [(blk d u, (j : Int))]) fpc' := by
          refine ⟨_, H1'.out.drewN nq, ?_, H3.out⟩
          have := H2'.out.chg ((Chg.refl (fun _ => False) w1).drewN nq) fun _ _ h => h
          rw [HJ.out] at this
          have he : spots (rest.reverse.map Fr.spot ++ [(blk d u, (j : Int))]) = spots (rest.reverse.map Fr.spot) ++ [(.pointer (some ⟨b, 0, none⟩), .int .i64 j)] := by rw [← HBE.out]; simp [spots, ptr]
          rw [he]; exact this
        have hrdw : Rd (w1.drewN nq) S d u := HRD'.out.chg ((Chg.refl (fun _ => False) w1).drewN nq) fun _ _ h => h
        have hchw := HCH'.out.drewN nq
        have hj2 : j < sizeU d u := by rw [HSZE.out]; omega
        have HCUR := Lib.hid hcur
        have HRDW := Lib.hid hrdw
        have HCHW := Lib.hid hchw
        have HST := Lib.hid hst
        have HJ2 := Lib.hid hj2
        have hmd : (rest.reverse.map Fr.spot).length + d ≤ 3000 := by
          have := HM.out; rw [List.length_map, List.length_reverse]; omega
        obtain ⟨wo, rfl⟩ : ∃ wo : World, wo = wr := ⟨_, rfl⟩
        clear hcur hrdw hchw hst hj2 HSZ e1' e2' hcc' hcf' HT' H1' H2' HRD' HCH' HSZE hlt hw2 HC' HF' HRL hw1 hmm hmc hc0 hlo hi1 hfew
        go_loopg [4] d (fun g s4 wr => ∃ (d' : Nat) (u' : Nb d') (qs : List (Nat × Int)) (fpq : List Nat) (k : Nat), s4 = .pointer (some ⟨blk d' u', 0, none⟩) ∧ d' ≤ g ∧ Cur wr c (qs ++ [(blk d' u', (k : Int))]) fpq ∧ k < sizeU d' u' ∧
          qs ++ (blk d' u', (k : Int)) :: kidL d' u' k = T ∧ Rd wr S d' u' ∧ (0 < d' → Full d' u') ∧ qs.length + d' ≤ 3000 ∧ (∀ k ∈ fpq, k ∈ fpc ∨ w.heap.size ≤ k) ∧ Chg (fun k => k ∈ fpc) w wr)
        case atStart => exact ⟨d, u, _, fpc', j, by rw [HBE.out], Nat.le_refl _, HCUR.out, HJ2.out, HST.out, HRDW.out, HFU.out, hmd, HSB.out, HCHW.out⟩
        case round =>
          obtain ⟨d', u', qs, fpq, k, rfl, hdg, hcur, hk, hqT, hrd, hfull, hql, hsubq, hchq⟩ := hrel
          have HSUBQ : Hid (∀ k ∈ fpq, k ∈ fpc ∨ w.heap.size ≤ k) := hsubq
          have HCHQ := Lib.hid hchq
          have HQT := Lib.hid hqT
          have HCQ := Lib.hid hcur
          clear hsubq hchq hqT HCUR HRDW HCHW HST HJ2
          cases d' with
          | zero =>
            obtain ⟨_, vk, vr, hbk, _⟩ := hrd
            have hkc : wr.cell? ⟨blk 0 u', 2, none⟩ = some (.slice none 0 0) := hbk.cell_ rfl
            clear hbk hcur
            go_wp2_with fail
            refine bodyPost_ret (results_none rfl _ _ _) rfl ?_
            refine HP.out _ _ fpq rfl ?_ HSUBQ.out HCHQ.out
            rw [← HQT.out]; exact HCQ.out
          | succ d' =>
            obtain ⟨_, vk, gq, cq, hbk, _, hkids, _, _, hch⟩ := hrd
            obtain ⟨x, hx⟩ : ∃ x, u'.2.2[k]? = some x := ⟨_, List.getElem?_eq_getElem hk⟩
            have hxm := List.mem_of_getElem? hx
            have hfx := (hfull (by omega)).2 x hxm
            have hrx := hch x hxm
            obtain ⟨nq2, hnq2⟩ : ∃ nq2, u'.2.2.length = nq2 := ⟨_, rfl⟩
            have hk' : k < nq2 := hnq2 ▸ hk
            have hki : (k : Int) < (nq2 : Int) := by omega
            rw [hnq2] at hbk hkids
            obtain ⟨bx, hbx⟩ : ∃ bx, blk d' x = bx := ⟨_, rfl⟩
            have hkc : wr.cell? ⟨blk (d' + 1) u', 2, none⟩ = some (.slice (some ⟨gq, 0, none⟩) nq2 cq) := hbk.cell_ rfl
            have hxc : wr.cell? ⟨gq, k, none⟩ = some (.pointer (some ⟨bx, 0, none⟩)) := by
              have := hkids.cell (j := k) (u := ptr (blk d' x)) (by simp [ptrs, hx])
              rw [hbx] at this; exact this
            obtain ⟨v, h1, h2, h3⟩ := hcur
            obtain ⟨A, cap2, rfl, _, _, hA, _⟩ := h2.shape
            have hqs : (spots (qs ++ [(blk (d' + 1) u', (k : Int))])).length = qs.length + 1 := by simp [spots]
            obtain ⟨g2, rfl⟩ := hA (by omega)
            obtain ⟨l, hl⟩ : ∃ l, qs.length = l := ⟨_, rfl⟩
            rw [hqs, hl] at h1 h2 h3
            have hgt : (spots (qs ++ [(blk (d' + 1) u', (k : Int))]))[l]? = some (ptr (blk (d' + 1) u'), .int .i64 k) := by
              rw [spots, List.getElem?_map, List.getElem?_append_right (by omega), hl, Nat.sub_self]; rfl
            have e2 := h2.snd hgt
            rw [Nat.mul_comm] at e2
            have hcc : wr.cell? ⟨c, 0, none⟩ = some (.slice (some ⟨g2, 0, none⟩) (l + 1) cap2) := h1.cell_ rfl
            have hwl : IntKind.i64.wrap (l : Int) = (l : Int) := by rw [IntKind.wrap_i64]; omega
            have hll : (l : Int) < (l : Int) + 1 := by omega
            have hlb : l + 1 + d' ≤ 3000 := by omega
            have HROW : Hid (∀ W, Chg (fun _ => False) wr W → Row2 W 77 (.slice (some ⟨g2, 0, none⟩) (l + 1) cap2) (spots (qs ++ [(blk (d' + 1) u', (k : Int))]))) := fun W hW => h2.chg hW fun _ _ h => h
            have HB1 := Lib.hid h1
            have hn1 : c ≠ g2 := fun e => h2.ne_blk h1 (by decide) (by rw [e]; rfl)
            have HRX := Lib.hid hrx
            have HFX := Lib.hid hfx
            have HX := Lib.hid hx
            have HBX := Lib.hid hbx
            have HL := Lib.hid hl
            have HFPQ := Lib.hid h3
            have HQS := Lib.hid hqs
            obtain ⟨ub, hub⟩ : ∃ ub, blk (d' + 1) u' = ub := ⟨_, rfl⟩
            have HUB := Lib.hid hub
            rw [hub] at hkc ⊢
            clear hbk hkids hch hx hxm hfx hrx hnq2 hk hbx h1 h2 h3 hqs hgt hA hl hfull hub
            go_wp2_with fail
            go_region
            go_wp2_with (at_builtin; refine wpList_app2 rfl (.tmp 73) (.tmp 76) rfl slt_spot (.slice (some ⟨g2, 0, none⟩) (l + 1) cap2) (spots (qs ++ [(blk (d' + 1) u', (k : Int))])) rfl (HROW.out _ (((Chg.refl _ _).alloc _).drew)) ⟨wr.heap.size, 0, none⟩ 1 1 (by omega) rfl [(.pointer (some ⟨bx, 0, none⟩), .int .i64 0)] rfl (pair_cells (Blk.drew (Blk.new _ _ _))) (by intro u hu; simp [cells2] at hu; rcases hu with rfl | rfl <;> rfl) (by rw [HQS.out, HL.out]; omega) ?_; intro g3 c3 w3 hrow3 hg3 hch3; rw [HQS.out, HL.out] at hrow3 ⊢; have hch4 := ((((Chg.refl (fun k => k = g2) wr).alloc (.cells #[.pointer (some ⟨bx, 0, none⟩), .int .i64 0] 77)).drew).trans (hch3.mono fun k _ e => by simp [Value.ownBlock] at e; exact e.symm)); have hb3 := HB1.out.chg hch4 hn1; have hcw3 : w3.cell? ⟨c, 0, none⟩ = some (.slice (some ⟨g2, 0, none⟩) (l + 1) cap2) := hb3.cell_ rfl; have hcf3 := hb3.frozen 0; have HROW3 := Lib.hid hrow3; have HG3 := Lib.hid hg3; have HCH4 := Lib.hid hch4; have HB3 := Lib.hid hb3; clear hrow3 hg3 hch3 hch4 hb3)
            have hcq : c ∈ fpq := by rw [HFPQ.out]; simp
            have hgq2 : g2 ∈ fpq := by rw [HFPQ.out]; simp [Value.ownBlock]
            have hszq := HCHQ.out.size
            have HAQ2 : ∀ y, S y → ¬ (y = c ∨ y = g2) := fun y hy e => by
              have hy' : y ∈ fpq := e.elim (fun e => e ▸ hcq) (fun e => e ▸ hgq2)
              rcases HSUBQ.out y hy' with h | h
              · exact HAP.out y h hy
              · have := HSL.out y hy; omega
            have hn3 : c ≠ g3 := fun e => HROW3.out.ne_blk HB3.out (by decide) (by rw [e]; rfl)
            have hC5 : Chg (fun k => k = c) w3 (w3.setCell ⟨c, 0, none⟩ (.slice (some ⟨g3, 0, none⟩) (l + 1 + 1) c3)) := (Chg.refl (fun k => k = c) w3).setCell (p := ⟨c, 0, none⟩) (.inl rfl) _
            have hC6 : Chg (fun k => k = c ∨ k = g2) wr (w3.setCell ⟨c, 0, none⟩ (.slice (some ⟨g3, 0, none⟩) (l + 1 + 1) c3)) := (HCH4.out.mono fun k _ e => .inr e).trans (hC5.mono fun k _ e => .inl e)
            go_roundg d'
            case measure => omega
            case rel =>
              refine ⟨d', x, qs ++ [(blk (d' + 1) u', (k : Int))], [c, g3], 0, by rw [HBX.out], Nat.le_refl _, ⟨_, HB3.out.set_ 0 _, ?_, by simp [Value.ownBlock]⟩, full_size HFX.out, ?_, ?_, fun _ => HFX.out, ?_, ?_, ?_⟩
              · have h0 := HROW3.out.chg hC5 (fun y hy e => hn3 (by simp [Value.ownBlock] at hy; rw [hy]; exact e.symm))
                have he : spots (qs ++ [(blk (d' + 1) u', (k : Int))] ++ [(blk d' x, ((0 : Nat) : Int))]) = spots (qs ++ [(blk (d' + 1) u', (k : Int))]) ++ [(.pointer (some ⟨bx, 0, none⟩), .int .i64 0)] := by rw [← HBX.out]; simp [spots, ptr]
                rw [he]; exact h0
              · have h := HQT.out
                rw [show kidL (d' + 1) u' k = (match u'.2.2[k]? with | some x => downL d' x | none => []) from rfl, HX.out] at h
                rw [← h]
                show _ = qs ++ (blk (d' + 1) u', (k : Int)) :: downL d' x
                rw [downL_eq]; simp
              · exact HRX.out.chg hC6 fun y hy e => HAQ2 y hy e
              · rw [List.length_append, HL.out]; simp; omega
              · intro y hy
                simp only [List.mem_cons, List.not_mem_nil, or_false] at hy
                rcases hy with rfl | rfl
                · exact HSUBQ.out _ hcq
                · rcases HG3.out with h | h
                  · have : y = g2 := by simp [Value.ownBlock] at h; exact h.symm
                    rw [this]; exact HSUBQ.out _ hgq2
                  · have h' : wr.heap.size + 1 ≤ y := by simpa using h
                    exact .inr (by omega)
              · refine HCHQ.out.comp hC6 fun y hy e => ?_
                rcases e with rfl | rfl
                · rcases HSUBQ.out _ hcq with h | h
                  · exact h
                  · omega
                · rcases HSUBQ.out _ hgq2 with h | h
                  · exact h
                  · omega
      · have hge : (sz : Int) ≤ i + 1 := by omega
        clear hlt
        go_wp2_with fail
        go_quiet ((go_at_call 34; exact Calls.quiet_of (HSZ.out _)))
        go_wp2_with fail
        go_roundg m
        case measure => omega
        case rel =>
          have hst : stepL rest = T := by
            have h := HT'.out
            have h0 : ¬ (i + 1 < sizeU d u) := by rw [HSZE.out]; omega
            rw [show stepL (({ d := d, u := u, i := i } : Fr) :: rest) = (if i + 1 < sizeU d u then (rest.reverse.map Fr.spot) ++ (blk d u, i + 1) :: kidL d u (i + 1).toNat else stepL rest) from rfl, if_neg h0] at h
            exact h
          have hC2 : Chg (fun k => k = c) w1 ((w1.drewN nq).setCell ⟨c, 0, none⟩ (.slice (some ⟨g, 0, none⟩) m cap)) := ((Chg.refl (fun k => k = c) w1).drewN nq).setCell (p := ⟨c, 0, none⟩) (.inl rfl) _
          have h2 := (H2'.out.cut (k := m) (by rw [List.length_append, HRL.out]; simp)).chg hC2 (fun x hx e => hne (by simp [Value.ownBlock] at hx; rw [hx]; exact e.symm))
          rw [List.take_left' HRL.out] at h2
          refine ⟨rest, fpc', by rw [HM.out], ⟨_, (H1'.out.drewN nq).set_ 0 _, h2, by rw [H3.out]; rfl⟩, hst, fun f hf => HF'.out f (List.mem_cons_of_mem _ hf), by rw [HM.out]; exact Nat.le_refl _, by rw [HM.out]; omega, HSB.out, HCH'.out.comp hC2 fun k hk e => ?_⟩
          subst e
          rcases HSB.out _ hcm with h | h
          · exact h
          · omega

/-- go1: to the next place, or to none. -/
def StepPost (w : World) (d : Nat) (u : Nb d) (c : Nat) (r : Int) (fpc : List Nat) (w' : World) : Prop :=
  ∃ ps' fpc', Cur w' c ps' fpc' ∧ (if 0 ≤ r ∧ r < (listU d u).length then Goes 0 d u ps' r else ps' = []) ∧ (∀ k ∈ fpc', k ∈ fpc ∨ w.heap.size ≤ k) ∧ Chg (fun k => k ∈ fpc) w w'

theorem go1_calls {w : World} {S : Nat → Prop} {d c : Nat} {u : Nb d} {ps : List (Nat × Int)} {fpc : List Nat} {r : Int} (hV : View w S d u) (hC : Cur w c ps fpc) (hg : Goes (-1) d u ps r) (hap : ∀ k ∈ fpc, ¬ S k) :
    Calls Try.prog 37 #[ptr c] w fun e w' => e = .returned (.tuple #[]) ∧ StepPost w d u c (r + 1) fpc w' := by
  obtain ⟨fs, hl, hm⟩ := goes_lev hg
  have hok := lev_ok (by omega) hV.rd hV.full hV.few hV.deep hg hl
  have hst := step_next hV.full hg hl
  have hr := goes_range (by omega) hg
  have hlen := goes_len hg
  have hfl : fs.length = d + 1 := by rw [← hlen, ← hm, List.length_map]
  refine (go1_walk w S c fs.reverse fpc _ (by rw [List.reverse_reverse, hm]; exact hC) rfl (fun f hf => hok f (List.mem_reverse.1 hf)) hap hV.lt (by rw [List.length_reverse, hfl]; have := hV.deep; omega)).mono ?_
  rintro e w' ⟨rfl, fpc', h1, h2, h3⟩
  refine ⟨rfl, _, fpc', h1, ?_, h2, h3⟩
  by_cases h : r + 1 < (listU d u).length
  · rw [if_pos h] at hst; rw [if_pos ⟨by omega, h⟩]; exact hst
  · rw [if_neg h] at hst; rw [if_neg (fun hh => h hh.2)]; exact hst

theorem go1_none {w : World} {c : Nat} {fpc : List Nat} (hC : Cur w c [] fpc) : Calls Try.prog 37 #[ptr c] w fun e w' => e = .returned (.tuple #[]) ∧ ∃ fpc', Cur w' c [] fpc' ∧ (∀ k ∈ fpc', k ∈ fpc ∨ w.heap.size ≤ k) ∧ Chg (fun k => k ∈ fpc) w w' := by
  refine (go1_walk w (fun _ => False) c [] fpc [] hC rfl (fun f hf => by cases hf) (fun _ _ h => h) (fun _ h => h.elim) (by simp)).mono ?_
  rintro e w' ⟨rfl, fpc', h1, h2, h3⟩
  exact ⟨rfl, fpc', h1, h2, h3⟩

theorem next_calls {w : World} {S : Nat → Prop} {d c : Nat} {u : Nb d} {ps : List (Nat × Int)} {fpc : List Nat} {r : Int} (hV : View w S d u) (hC : Cur w c ps fpc) (hg : Goes (-1) d u ps r) (hap : ∀ k ∈ fpc, ¬ S k) :
    Calls Try.prog 14 #[ptr c] w fun e w' => e = .returned (.bool (decide (0 ≤ r + 1 ∧ r + 1 < (listU d u).length))) ∧ StepPost w d u c (r + 1) fpc w' := by
  have HG := Lib.hid (go1_calls hV hC hg hap)
  obtain ⟨R, hR⟩ : ∃ R : Ending → World → Prop, R = fun e w' => e = .returned (.bool (decide (0 ≤ r + 1 ∧ r + 1 < (listU d u).length))) ∧ StepPost w d u c (r + 1) fpc w' := ⟨_, rfl⟩
  rw [← hR]
  obtain ⟨q, hq⟩ : ∃ q, decide (0 ≤ r + 1 ∧ r + 1 < (listU d u).length) = q := ⟨_, rfl⟩
  have HP : Hid (∀ e w', e = .returned (.bool q) → StepPost w d u c (r + 1) fpc w' → R e w') := fun e w' h1 h2 => by rw [hR]; exact ⟨by rw [h1, hq], h2⟩
  have HQ := Lib.hid hq
  unfold ptr at *
  clear hV hC hg hap hR hq
  go_enter Try.func14, Try.ntmps14
  go_wp2_with fail
  go_at_call 37
  refine HG.out.mono ?_
  rintro e w1 ⟨rfl, ps', fpc', h1, h2, h3, h4⟩
  have HO := Lib.hid (ok_calls h1)
  have H2 : Hid (if 0 ≤ r + 1 ∧ r + 1 < (listU d u).length then Goes 0 d u ps' (r + 1) else ps' = []) := h2
  have H3 : Hid (∀ k ∈ fpc', k ∈ fpc ∨ w.heap.size ≤ k) := h3
  have HS := Lib.hid (show StepPost w d u c (r + 1) fpc w1 from ⟨ps', fpc', h1, h2, h3, h4⟩)
  have hb : decide (0 < ps'.length) = decide (0 ≤ r + 1 ∧ r + 1 < (listU d u).length) := by
    split at h2
    · rename_i hh
      rw [decide_eq_true hh]; exact decide_eq_true (by rw [goes_len h2]; omega)
    · rename_i hh
      rw [decide_eq_false hh, h2]; rfl
  have HB := Lib.hid hb
  unfold ptr at HO
  clear h1 h2 h3 h4 hb
  go_wp2_with fail
  go_at_call 12
  refine HO.out.mono ?_
  rintro e w2 ⟨rfl, rfl⟩
  rw [HB.out, HQ.out]
  go_wp2_with fail
  exact HP.out _ _ rfl HS.out
end Go.Proofs.Ythndplpbnfihdaa
