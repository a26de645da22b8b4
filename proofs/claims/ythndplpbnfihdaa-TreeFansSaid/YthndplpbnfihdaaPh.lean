/-
  Put's closure at an inner node whose child is parted. Conditions: the callees' contracts.
-/
import Derived.Test.YthndplpbnfihdaaPl
set_option linter.unusedVariables false
set_option linter.unusedSimpArgs false
namespace Go.Proofs.Ythndplpbnfihdaa
open Go.RowKit

/-- What Put's closure leaves, where it parts a child. -/
def PutHigh (w : World) (d b x bf i n : Nat) (v : Value) (t : Tr d) (fpx : List Nat) (ks : List ByteArray) (xs : List Nat) (key : ByteArray) (row : Int) (fan : Nat) (f0 : Bool) (g : Nat) (e : Ending) (w' : World) : Prop :=
  e = .returned (.tuple #[]) ∧ ∃ w3 b2 fp1 fp2 gk ck g' c',
    At w3 d x (halfT d (putT fan key row d t)).1 fp1 ∧ At w3 d b2 (halfT d (putT fan key row d t)).2.2 fp2 ∧ (fp1 ++ fp2).Nodup ∧ (∀ k ∈ fp1 ++ fp2, k ∈ fpx ∨ w.heap.size ≤ k) ∧
    Chg (fun k => k ∈ fpx ∨ k = bf) w w3 ∧ Blk w3 bf 4 #[.bool (f0 || freshT key d t)] ∧
    Blk w' b 62 #[.slice (some ⟨gk, 0, none⟩) (ks.length + 1) ck, .slice none 0 0, .slice (some ⟨g', 0, none⟩) (n + 1) c'] ∧
    Own w' 9 (.slice (some ⟨gk, 0, none⟩) (ks.length + 1) ck) (strs (ks.take i ++ (halfT d (putT fan key row d t)).2.1 :: ks.drop i)) ∧
    Own w' 59 (.slice (some ⟨g', 0, none⟩) (n + 1) c') (ptrs (xs.take (i + 1) ++ b2 :: xs.drop (i + 1))) ∧
    (v.ownBlock = some gk ∨ w3.heap.size ≤ gk) ∧ (g' = g ∨ w3.heap.size ≤ g') ∧ Chg (fun k => k = b ∨ k = g ∨ v.ownBlock = some k) w3 w'

set_option maxHeartbeats 1000000 in
set_option maxRecDepth 100000 in
theorem put_inner_high (w : World) (d b bk br bf bp bt tr g n c i x : Nat) (Ak : Option Addr) (m ck : Nat) (t : Tr d) (fpx fp : List Nat) (ks : List ByteArray) (xs : List Nat) (key : ByteArray) (row : Int) (fan : Nat) (f0 : Bool)
    (hb : Blk w b 62 #[(.slice Ak m ck), .slice none 0 0, .slice (some ⟨g, 0, none⟩) n c]) (hcell : w.cell? ⟨g, i, none⟩ = some (ptr x)) (hin : i < n) (hbig : n ≤ 1000)
    (he : Env w fp bk br bf bp bt tr key row fan) (hf : Blk w bf 4 #[.bool f0]) (hfx : ∀ k ∈ fpx, k ∈ fp) (hbx : b ∉ fpx) (hfan : fan ≤ 64)
    (HW : Hid (Calls Try.prog 33 #[ptr b, .string key] w (fun e w' => e = .returned (.int .i64 i) ∧ ∃ q, w' = w.drewN q)))
    (HC : Hid (∀ q, Calls Try.prog 29 #[ptr x, ptr bk, ptr br, ptr bf, ptr bp, ptr bt] (w.drewN q) (PutPost (w.drewN q) d x bf t fpx key row fan f0)))
    (hk : Own w 9 (.slice Ak m ck) (strs ks)) (hg : Own w 59 (.slice (some ⟨g, 0, none⟩) n c) (ptrs xs)) (hm : ks.length = m) (hn : xs.length = n) (him : i ≤ m) (hmb : m ≤ 1000)
    (hkx : ∀ k, (Value.slice Ak m ck).ownBlock = some k → k ∉ fpx) (hgx : g ∉ fpx) (hxx : x ∈ fpx) (hshape : Shape d (putT fan key row d t)) (h3s : 3 ≤ sizeT d (putT fan key row d t)) (hszb : sizeT d (putT fan key row d t) ≤ 1000)
    (hsize : fan < sizeT d (putT fan key row d t)) :
    Calls Try.prog 29 #[ptr b, ptr bk, ptr br, ptr bf, ptr bp, ptr bt] w (PutHigh w d b x bf i n (.slice Ak m ck) t fpx ks xs key row fan f0 g) := by
  unfold ptr at *
  obtain ⟨R, hR⟩ : ∃ R, R = PutHigh w d b x bf i n (.slice Ak m ck) t fpx ks xs key row fan f0 g := ⟨_, rfl⟩
  rw [← hR]
  have hkc : w.cell? ⟨b, 2, none⟩ = some (.slice (some ⟨g, 0, none⟩) n c) := hb.cell_ rfl
  have hkey : w.cell? ⟨bk, 0, none⟩ = some (.string key) := he.hk.cell_ rfl
  have hclo : w.cell? ⟨bp, 0, none⟩ = some (.func (.func 29) #[] #[.pointer (some ⟨bk, 0, none⟩), .pointer (some ⟨br, 0, none⟩), .pointer (some ⟨bf, 0, none⟩), .pointer (some ⟨bp, 0, none⟩), .pointer (some ⟨bt, 0, none⟩)]) := he.hp.cell_ rfl
  have hin' : (i : Int) < (n : Int) := by omega
  have HE := Lib.hid he
  have HF := Lib.hid hf
  have HFX : Hid (∀ k ∈ fpx, k ∈ fp) := hfx
  have HS := Lib.hid hsize
  have HP : Hid (∀ e w', PutHigh w d b x bf i n (.slice Ak m ck) t fpx ks xs key row fan f0 g e w' → R e w') := by
    intro e w' h; rw [hR]; exact h
  have HB := Lib.hid hb
  have HK := Lib.hid hk
  have HG := Lib.hid hg
  have HM := Lib.hid hm
  have HN := Lib.hid hn
  have HKX : Hid (∀ k, (Value.slice Ak m ck).ownBlock = some k → k ∉ fpx) := hkx
  have HGX := Lib.hid hgx
  have HBX := Lib.hid hbx
  have HXX := Lib.hid hxx
  have HXF : Hid (x ≠ bf) := fun e => HE.out.af (HFX.out _ (e ▸ hxx))
  have HSH := Lib.hid hshape
  have HH3 := Lib.hid h3s
  have HHB := Lib.hid hszb
  clear hk hg hm hn hkx hgx hbx hxx hshape h3s hszb
  clear hb he hf hfx hsize hR
  go_enter Try.func29, Try.ntmps29
  go_wp2_with fail
  go_at_call 33
  refine HW.out.mono ?_
  rintro e w1 ⟨rfl, q, rfl⟩
  go_wp2_with fail
  refine (HC.out q).mono ?_
  rintro e w2 ⟨rfl, fp', hAt, hnd, hsub, hf2, hC2⟩
  obtain ⟨sz, hsz⟩ : ∃ sz, sizeT d (putT fan key row d t) = sz := ⟨_, rfl⟩
  have HSZ : Hid (∀ q', Calls Try.prog 34 #[.pointer (some ⟨x, 0, none⟩)] (w2.drewN q') (fun e w' => e = .returned (.int .i64 (sz : Nat)) ∧ ∃ m, w' = (w2.drewN q').drewN m)) := fun q' => by
    refine (size_at (hAt.drewN q')).mono ?_
    rintro e w' ⟨h1, rfl⟩
    rw [hsz] at h1
    exact ⟨h1, 0, rfl⟩
  have hle : (fan : Int) < (sz : Int) := by have := HS.out; rw [hsz] at this; omega
  have hE2 : Env w2 fp bk br bf bp bt tr key row fan := (HE.out.chg (fp' := fp) HF.out ((Chg.refl (fun _ => False) w).drewN q) (fun _ h _ => h.elim) fun _ h => .inl h).chg (fp' := fp)
    (HF.out.chg ((Chg.refl (fun _ => False) w).drewN q) id) hC2 (fun k h _ => h.imp (HFX.out k) id) (fun _ h => .inl h)
  have htc : w2.cell? ⟨bt, 0, none⟩ = some (.pointer (some ⟨tr, 0, none⟩)) := hE2.ht.cell_ rfl
  obtain ⟨tn, root, htr⟩ := hE2.htr
  have hfc : w2.cell? ⟨tr, 0, none⟩ = some (.int .i64 fan) := htr.cell_ rfl
  have HHF : Hid (∀ q', Calls Try.prog 35 #[.pointer (some ⟨x, 0, none⟩)] (w2.drewN q') (HalfPost (w2.drewN q') d x (putT fan key row d t) fp')) := fun q' =>
    half_at (hAt.drewN q') hnd HSH.out HH3.out (Nat.le_trans HHB.out (by omega))
  have hCw2 : Chg (fun k => k ∈ fpx ∨ k = bf) w w2 := ((Chg.refl (fun k => k ∈ fpx ∨ k = bf) w).drewN q).trans hC2
  have HC2 := Lib.hid hCw2
  have HF2 := Lib.hid hf2
  have HSB : Hid (∀ k ∈ fp', k ∈ fpx ∨ w.heap.size ≤ k) := hsub
  have hxw : x < w2.heap.size := by
    have := HXX.out
    exact hAt.lt x hAt.head
  clear hAt hnd hsub hf2 hC2 hCw2 hE2 htr hsz HE
  go_wp2_with fail
  go_quiet ((go_at_call 34; exact Calls.quiet_of (HSZ.out _)))
  go_wp2_with fail
  refine (HHF.out _).mono ?_
  rintro e w3 ⟨⟨b2, fp1, fp2, rfl, hA1, hA2, hnd2, hs1, hs2, hb2, hC3⟩⟩
  obtain ⟨mid, hmid⟩ : ∃ mid, (halfT d (putT fan key row d t)).2.1 = mid := ⟨_, rfl⟩
  rw [hmid, show ptr b2 = .pointer (some ⟨b2, 0, none⟩) from rfl]
  have hC3' : Chg (fun k => k ∈ fpx ∨ k = bf) w w3 := ((HC2.out.drewN nq).trans (hC3.mono fun k _ e => .inl (e ▸ HXX.out)))
  have hsub : Hid (∀ k ∈ fp1 ++ fp2, k ∈ fpx ∨ w.heap.size ≤ k) := fun k hk => by
    have h1 := HC2.out.size
    have h3 : (w2.drewN nq).heap.size = w2.heap.size := rfl
    rcases List.mem_append.1 hk with h | h
    · exact HSB.out k (hs1 k h)
    · rcases hs2 k h with h | h
      · exact HSB.out k h
      · exact .inr (by omega)
  have HF3 := Lib.hid ((HF2.out.drewN nq).chg hC3 (fun e => HXF.out e.symm))
  have HB3 := Lib.hid (HB.out.chg hC3' (fun h => h.elim HBX.out (fun e => HB.out.ne_ HF.out (by decide) e)))
  have HK3 := Lib.hid (HK.out.chg hC3' (fun k hk h => h.elim (HKX.out k hk) (fun e => HK.out.ne_blk HF.out (by decide) (e ▸ hk))))
  have HG3 := Lib.hid (HG.out.chg hC3' (fun k hk h => h.elim (fun h1 => HGX.out (by simp [Value.ownBlock] at hk; rw [hk]; exact h1)) (fun e => HG.out.ne_blk HF.out (by decide) (e ▸ hk))))
  have HPP : Hid (∀ e w' gk ck' g' c', e = .returned (.tuple #[]) →
    Blk w' b 62 #[.slice (some ⟨gk, 0, none⟩) (m + 1) ck', .slice none 0 0, .slice (some ⟨g', 0, none⟩) (n + 1) c'] →
    Own w' 9 (.slice (some ⟨gk, 0, none⟩) (m + 1) ck') (strs (ks.take i ++ mid :: ks.drop i)) →
    Own w' 59 (.slice (some ⟨g', 0, none⟩) (n + 1) c') (ptrs (xs.take (i + 1) ++ b2 :: xs.drop (i + 1))) →
    ((Value.slice Ak m ck).ownBlock = some gk ∨ w3.heap.size ≤ gk) → (g' = g ∨ w3.heap.size ≤ g') → Chg (fun k => k = b ∨ k = g ∨ (Value.slice Ak m ck).ownBlock = some k) w3 w' → R e w') := by
    intro e w' gk ck' g' c' a1 a2 a3 a4 a5 a6 a7
    refine HP.out e w' ⟨a1, w3, b2, fp1, fp2, gk, ck', g', c', hA1, hA2, hnd2, hsub.out, hC3', HF3.out, ?_, ?_, a4, a5, a6, a7⟩
    · rw [HM.out]; exact a2
    · rw [HM.out, hmid]; exact a3
  clear HP hA1 hA2 hnd2 hs1 hs2 hb2 hC3 hC3' hsub hmid HF2 HSB HC2 HXX HSH HH3 HHB HHF HKX HGX HBX HF3 hkc hkey hclo htc hfc hcell
  have hwr : IntKind.i64.wrap ((i : Int) + 1) = (i : Int) + 1 := by rw [IntKind.wrap_i64]; omega
  go_wp2_with fail
  obtain ⟨w4, hw4, hC4⟩ := drew_named w3
  have HB4 : Hid (Blk w4 b 62 #[.slice Ak m ck, .slice none 0 0, .slice (some ⟨g, 0, none⟩) n c]) := HB3.out.chg hC4 id
  have HK4 : Hid (Own w4 9 (.slice Ak m ck) (strs ks)) := HK3.out.chg hC4 fun _ _ h => h
  have HG4 : Hid (Own w4 59 (.slice (some ⟨g, 0, none⟩) n c) (ptrs xs)) := HG3.out.chg hC4 fun _ _ h => h
  have hs4 : w3.heap.size ≤ w4.heap.size := hC4.size
  have HC4 := Lib.hid hC4
  have SP : Hid (∀ W, Chg (fun k => k = g) w4 W → W.cell? ⟨b, 0, none⟩ = some (.slice Ak m ck) ∧ W.cell? ⟨b, 2, none⟩ = some (.slice (some ⟨g, 0, none⟩) n c)) := by
    intro W hc
    have h1 := HB4.out.chg hc (fun e => HG4.out.ne_blk HB4.out (by decide) (by rw [e]; rfl))
    exact ⟨h1.cell_ rfl, h1.cell_ rfl⟩
  have hC0 : Chg (fun _ => False) w4 w4 := Chg.refl _ _
  refine wp_region_till (s := 18) (S := (fun W => W.cell? ⟨b, 0, none⟩ = some (.slice Ak m ck) ∧ W.cell? ⟨b, 2, none⟩ = some (.slice (some ⟨g, 0, none⟩) n c))) (by kernel_rfl) ?_
  rw [hw4]
  clear hw4 hC4
  have hS := SP.out w4 hC0.up
  apply till_take0 (i := 0) (d := some 82)
  case hi => exact rfl
  case hd => exact rfl
  case hchk => kernel_rfl
  case hS => exact (fun _ => hS)
  case hy => apply yields_plain; exact rfl; intro w _; go_simp <;> with_reducible rfl
  case hQ => exact fun _ _ _ h => h
  simp only [Act.put, List.setIfInBounds_toArray, List.set_cons_zero, List.set_cons_succ]
  apply till_take0 (i := 1) (d := some 83)
  case hi => exact rfl
  case hd => exact rfl
  case hchk => kernel_rfl
  case hS => exact (fun _ => hS)
  case hy => apply yields_plain; exact rfl; intro w _; go_simp <;> with_reducible rfl
  case hQ => exact fun _ _ _ h => h
  simp only [Act.put, List.setIfInBounds_toArray, List.set_cons_zero, List.set_cons_succ]
  apply till_take0 (i := 2) (d := some 84)
  case hi => exact rfl
  case hd => exact rfl
  case hchk => kernel_rfl
  case hS => exact (fun _ => hS)
  case hy => apply yields_plain; exact rfl; intro w _; go_simp <;> with_reducible rfl
  case hQ => exact fun _ _ _ h => h
  simp only [Act.put, List.setIfInBounds_toArray, List.set_cons_zero, List.set_cons_succ]
  apply till_take0 (i := 3) (d := some 85)
  case hi => exact rfl
  case hd => exact rfl
  case hchk => kernel_rfl
  case hS => exact (fun _ => hS)
  case hy => apply yields_plain; exact rfl; intro w _; go_simp <;> with_reducible rfl
  case hQ => exact fun _ _ _ h => h
  simp only [Act.put, List.setIfInBounds_toArray, List.set_cons_zero, List.set_cons_succ]
  apply till_take0 (i := 4) (d := some 86)
  case hi => exact rfl
  case hd => exact rfl
  case hchk => kernel_rfl
  case hS => exact (fun _ => hS)
  case hy => apply yields_plain; exact rfl; intro w _; go_simp <;> with_reducible rfl
  case hQ => exact fun _ _ _ h => h
  simp only [Act.put, List.setIfInBounds_toArray, List.set_cons_zero, List.set_cons_succ]
  apply till_take0 (i := 6) (d := some 88)
  case hi => exact rfl
  case hd => exact rfl
  case hchk => kernel_rfl
  case hS => exact (fun _ => hS)
  case hy => apply yields_plain; exact rfl; intro w _; go_simp <;> with_reducible rfl
  case hQ => exact fun _ _ _ h => h
  simp only [Act.put, List.setIfInBounds_toArray, List.set_cons_zero, List.set_cons_succ]
  apply till_take0 (i := 7) (d := some 89)
  case hi => exact rfl
  case hd => exact rfl
  case hchk => kernel_rfl
  case hS => exact (fun _ => hS)
  case hy => apply yields_plain; exact rfl; intro w _; go_simp <;> with_reducible rfl
  case hQ => exact fun _ _ _ h => h
  simp only [Act.put, List.setIfInBounds_toArray, List.set_cons_zero, List.set_cons_succ]
  apply till_take0 (i := 8) (d := some 90)
  case hi => exact rfl
  case hd => exact rfl
  case hchk => kernel_rfl
  case hS => exact (fun _ => hS)
  case hy => apply yields_plain; exact rfl; intro w _; go_simp <;> with_reducible rfl
  case hQ => exact fun _ _ _ h => h
  simp only [Act.put, List.setIfInBounds_toArray, List.set_cons_zero, List.set_cons_succ]
  apply till_take0 (i := 11) (d := some 93)
  case hi => exact rfl
  case hd => exact rfl
  case hchk => kernel_rfl
  case hS => exact (fun _ => hS)
  case hy => apply yields_plain; exact rfl; intro w _; go_simp <;> with_reducible rfl
  case hQ => exact fun _ _ _ h => h
  simp only [Act.put, List.setIfInBounds_toArray, List.set_cons_zero, List.set_cons_succ]
  apply till_take0 (i := 12) (d := some 94)
  case hi => exact rfl
  case hd => exact rfl
  case hchk => kernel_rfl
  case hS => exact (fun _ => hS)
  case hy => apply yields_plain; exact rfl; intro w _; go_simp <;> with_reducible rfl
  case hQ => exact fun _ _ _ h => h
  simp only [Act.put, List.setIfInBounds_toArray, List.set_cons_zero, List.set_cons_succ]
  apply till_take0 (i := 13) (d := some 95)
  case hi => exact rfl
  case hd => exact rfl
  case hchk => kernel_rfl
  case hS => exact (fun _ => hS)
  case hy => apply yields_plain; exact rfl; intro w _; go_simp <;> with_reducible rfl
  case hQ => exact fun _ _ _ h => h
  simp only [Act.put, List.setIfInBounds_toArray, List.set_cons_zero, List.set_cons_succ]
  apply till_take0 (i := 15) (d := some 97)
  case hi => exact rfl
  case hd => exact rfl
  case hchk => kernel_rfl
  case hS => exact (fun _ => hS)
  case hy => apply yields_plain; exact rfl; intro w _; go_simp <;> with_reducible rfl
  case hQ => exact fun _ _ _ h => h
  simp only [Act.put, List.setIfInBounds_toArray, List.set_cons_zero, List.set_cons_succ]
  apply till_take0 (i := 16) (d := some 98)
  case hi => exact rfl
  case hd => exact rfl
  case hchk => kernel_rfl
  case hS => exact (fun _ => hS)
  case hy => apply yields_plain; exact rfl; intro w _; go_simp <;> with_reducible rfl
  case hQ => exact fun _ _ _ h => h
  simp only [Act.put, List.setIfInBounds_toArray, List.set_cons_zero, List.set_cons_succ]
  apply till_take (i := 5) (d := some 87) [18, 10, 5]
  case hi => exact rfl
  case hd => exact rfl
  case hchk => kernel_rfl
  case hS => exact hS
  case hy => apply yields_plain; exact rfl; intro w hSw; (try dsimp only at hSw); go_split_ands; go_simp <;> with_reducible rfl
  case hQ => exact fun _ _ _ h => h
  simp only [Act.put, List.setIfInBounds_toArray, List.set_cons_zero, List.set_cons_succ]
  apply till_take (i := 14) (d := some 96) [18, 14]
  case hi => exact rfl
  case hd => exact rfl
  case hchk => kernel_rfl
  case hS => exact hS
  case hy => apply yields_plain; exact rfl; intro w hSw; (try dsimp only at hSw); go_split_ands; go_simp <;> with_reducible rfl
  case hQ => exact fun _ _ _ h => h
  simp only [Act.put, List.setIfInBounds_toArray, List.set_cons_zero, List.set_cons_succ]
  refine till_all (rs := [9, 17]) (by kernel_rfl) (by simp) (mem_more (till_op (i := 9) (o := ⟨some 91, _, _, _, _, _⟩) rfl rfl (fun K hK => ?_)) (mem_more (till_op (i := 17) (o := ⟨some 99, _, _, _, _, _⟩) rfl rfl (fun K hK => ?_)) (mem_none)))
  · skip
    go_simp
    obtain ⟨wx, xb, hwx, hxb, hBx, hCx, -⟩ := alloc_named w4 #[.pointer (some ⟨b2, 0, none⟩)] 59
    have hXG := (HG4.out.chg hC0 (fun _ _ h => h)).ne_new hxb
    rw [hwx, hxb]
    have hC0 := hC0.trans hCx
    try have hBy := hBy.chg hCx id
    refine hK.out _ _ (fun _ => ?_) (fun hS2 => ?_)
    · first | exact SP.out _ hCk | exact SP.out _ hC0.up
    have hS3 := hS2 (by kernel_rfl)
    clear hK K hS hS2
    have hS := hS3
    clear hS3
    try simp only [Act.put, List.setIfInBounds_toArray, List.set_cons_zero, List.set_cons_succ]
    refine till_all (rs := [10, 17]) (by kernel_rfl) (by simp) (mem_more (till_op (i := 10) (o := ⟨some 92, _, _, _, _, _⟩) rfl rfl (fun K hK => ?_)) (mem_more (till_op (i := 17) (o := ⟨some 99, _, _, _, _, _⟩) rfl rfl (fun K hK => ?_)) (mem_none)))
    · skip
      go_simp
      go_at_call 36
      have hO := HG4.out.chg hC0 (fun _ _ h => h)
      refine (ins_ptrs _ _ (i + 1) n (n + 1) (by omega) xs b2 xb wx hO HN.out rfl (by omega) hBx hXG (by omega)).mono ?_
      rintro e w5 ⟨g', c', rfl, hOg, hgg, hCk⟩
      have hgg : g' = g ∨ w3.heap.size ≤ g' := hgg.imp (fun h => by simp [Value.ownBlock] at h; exact h.symm) (fun h => by have h1 := hC0.size; omega)
      have hCk : Chg (fun k => k = g) wx w5 := hCk.mono fun k _ h => by simp [Value.ownBlock] at h; exact h.symm
      try have hBy := hBy.chg hCk (fun e => hO.ne_blk hBy (by decide) (by rw [e]; rfl))
      have hCk : Chg (fun k => k = g) w4 w5 := hC0.up.trans hCk
      clear hC0 hO hBx
      refine hK.out _ _ (fun _ => ?_) (fun hS2 => ?_)
      · first | exact SP.out _ hCk | exact SP.out _ hC0.up
      have hS3 := hS2 (by kernel_rfl)
      clear hK K hS hS2
      have hS := hS3
      clear hS3
      try simp only [Act.put, List.setIfInBounds_toArray, List.set_cons_zero, List.set_cons_succ]
      refine till_all (rs := [17]) (by kernel_rfl) (by simp) (mem_more (till_op (i := 17) (o := ⟨some 99, _, _, _, _, _⟩) rfl rfl (fun K hK => ?_)) (mem_none))
      go_simp
      obtain ⟨wy, yb, hwy, hyb, hBy, hCy, -⟩ := alloc_named w5 #[.string mid] 9
      have hYK : (Value.slice Ak m ck).ownBlock ≠ some yb := by
        first | exact (HK4.out.chg hC0 (fun _ _ h => h)).ne_new hyb | exact (HK4.out.chg hCk (fun k hk e => HK4.out.ne_own HG4.out (by decide) hk (by rw [e]; rfl))).ne_new hyb
      rw [hwy, hyb]
      try have hOg := hOg.chg hCy (fun _ _ h => h)
      try have hC0 := hC0.trans hCy
      try have hCk := hCk.trans hCy.up
      try have hBx := hBx.chg hCy id
      refine hK.out _ _ (fun _ => ?_) (fun hS2 => ?_)
      · first | exact SP.out _ hCk | exact SP.out _ hC0.up
      have hS3 := hS2 (by kernel_rfl)
      clear hK K hS hS2
      have hS := hS3
      clear hS3
      try simp only [Act.put, List.setIfInBounds_toArray, List.set_cons_zero, List.set_cons_succ]
      refine till_all (rs := [18]) (by kernel_rfl) (by simp) (mem_more (till_op (i := 18) (o := ⟨some 100, _, _, _, _, _⟩) rfl rfl (fun K hK => ?_)) (mem_none))
      go_simp
      go_at_call 31
      have hne : ∀ k, (Value.slice Ak m ck).ownBlock = some k → ¬ k = g := fun k hk e => HK4.out.ne_own HG4.out (by decide) hk (by rw [e]; rfl)
      have hO := HK4.out.chg hCk hne
      refine (ins_strs _ _ i m (m + 1) rfl ks mid yb wy hO HM.out rfl him hBy hYK (by omega)).mono ?_
      rintro e w6 ⟨gk, ck', rfl, hOk, hgk, hCr⟩
      have hgk : (Value.slice Ak m ck).ownBlock = some gk ∨ w3.heap.size ≤ gk := hgk.imp id (fun h => by have h1 := hCk.size; omega)
      have hOg := hOg.chg hCr (fun k hk e => hOg.ne_own hO (by decide) hk e)
      have hB1 := HB4.out.chg hCk (fun e => HG4.out.ne_blk HB4.out (by decide) (by rw [e]; rfl))
      have hB := hB1.chg hCr (hO.ne_blk hB1 (by decide))
      have hCC : Chg (fun k => k = b ∨ k = g ∨ (Value.slice Ak m ck).ownBlock = some k) w3 w6 :=
        (HC4.out.up.trans (hCk.mono fun k _ h => .inr (.inl h))).trans (hCr.mono fun k _ h => .inr (.inr h))
      clear hCr hCk hO hBy hB1 hne
      refine hK.out _ _ (fun h => by cases (show true = false from h)) (fun _ => ?_)
      clear hK K hS
      try simp only [Act.put, List.setIfInBounds_toArray, List.set_cons_zero, List.set_cons_succ]
      apply till_take0 (i := 19) (d := some 101)
      case hi => exact rfl
      case hd => exact rfl
      case hchk => kernel_rfl
      case hS => exact (fun h => by cases (show true = false from h))
      case hy => apply yields_plain; exact rfl; intro w _; go_simp <;> with_reducible rfl
      case hQ => exact fun _ _ _ h => h
      simp only [Act.put, List.setIfInBounds_toArray, List.set_cons_zero, List.set_cons_succ]
      apply till_take0 (i := 20) (d := some 102)
      case hi => exact rfl
      case hd => exact rfl
      case hchk => kernel_rfl
      case hS => exact (fun h => by cases (show true = false from h))
      case hy => apply yields_plain; exact rfl; intro w _; go_simp <;> with_reducible rfl
      case hQ => exact fun _ _ _ h => h
      simp only [Act.put, List.setIfInBounds_toArray, List.set_cons_zero, List.set_cons_succ]
      refine till_all (rs := [21]) (by kernel_rfl) (by simp) (mem_more (till_op (i := 21) (o := ⟨none, _, _, _, _, _⟩) rfl rfl (fun K hK => ?_)) (mem_none))
      have hbc : (w6).cell? ⟨b, 2, none⟩ = some _ := hB.cell_ rfl
      have hbf := hB.frozen 2
      go_simp
      clear hbc hbf
      obtain ⟨w7, hw1, hB1, hC1⟩ := set_named hB 2 (.slice (some ⟨g', 0, none⟩) (n + 1) c')
      rw [hw1]
      have hOg := hOg.past hB (by decide) hC1
      have hOk := hOk.past hB (by decide) hC1
      have hCC := hCC.trans (hC1.mono fun k _ h => .inl h)
      have hB := hB1
      clear hB1 hw1 hC1
      refine hK.out _ _ (fun h => by cases (show true = false from h)) (fun _ => ?_)
      clear hK K
      try simp only [Act.put, List.setIfInBounds_toArray, List.set_cons_zero, List.set_cons_succ]
      apply till_take0 (i := 22) (d := some 103)
      case hi => exact rfl
      case hd => exact rfl
      case hchk => kernel_rfl
      case hS => exact (fun h => by cases (show true = false from h))
      case hy => apply yields_plain; exact rfl; intro w _; go_simp <;> with_reducible rfl
      case hQ => exact fun _ _ _ h => h
      simp only [Act.put, List.setIfInBounds_toArray, List.set_cons_zero, List.set_cons_succ]
      apply till_take0 (i := 23) (d := some 104)
      case hi => exact rfl
      case hd => exact rfl
      case hchk => kernel_rfl
      case hS => exact (fun h => by cases (show true = false from h))
      case hy => apply yields_plain; exact rfl; intro w _; go_simp <;> with_reducible rfl
      case hQ => exact fun _ _ _ h => h
      simp only [Act.put, List.setIfInBounds_toArray, List.set_cons_zero, List.set_cons_succ]
      refine till_all (rs := [24]) (by kernel_rfl) (by simp) (mem_more (till_op (i := 24) (o := ⟨none, _, _, _, _, _⟩) rfl rfl (fun K hK => ?_)) (mem_none))
      have hbc : (w7).cell? ⟨b, 0, none⟩ = some _ := hB.cell_ rfl
      have hbf := hB.frozen 0
      go_simp
      clear hbc hbf
      obtain ⟨w8, hw1, hB1, hC1⟩ := set_named hB 0 (.slice (some ⟨gk, 0, none⟩) (m + 1) ck')
      rw [hw1]
      have hOg := hOg.past hB (by decide) hC1
      have hOk := hOk.past hB (by decide) hC1
      have hCC := hCC.trans (hC1.mono fun k _ h => .inl h)
      have hB := hB1
      clear hB1 hw1 hC1
      refine hK.out _ _ (fun h => by cases (show true = false from h)) (fun _ => ?_)
      clear hK K
      try simp only [Act.put, List.setIfInBounds_toArray, List.set_cons_zero, List.set_cons_succ]
      refine till_done (by kernel_rfl) ?_
      go_wp2_with fail
      refine bodyPost_end (results_none rfl _ _ _) rfl ?_
      exact HPP.out _ _ gk ck' g' c' rfl hB hOk hOg hgk hgg hCC
    · skip
      go_simp
      obtain ⟨wy, yb, hwy, hyb, hBy, hCy, -⟩ := alloc_named wx #[.string mid] 9
      have hYK : (Value.slice Ak m ck).ownBlock ≠ some yb := by
        first | exact (HK4.out.chg hC0 (fun _ _ h => h)).ne_new hyb | exact (HK4.out.chg hCk (fun k hk e => HK4.out.ne_own HG4.out (by decide) hk (by rw [e]; rfl))).ne_new hyb
      rw [hwy, hyb]
      try have hOg := hOg.chg hCy (fun _ _ h => h)
      try have hC0 := hC0.trans hCy
      try have hCk := hCk.trans hCy.up
      try have hBx := hBx.chg hCy id
      refine hK.out _ _ (fun _ => ?_) (fun hS2 => ?_)
      · first | exact SP.out _ hCk | exact SP.out _ hC0.up
      have hS3 := hS2 (by kernel_rfl)
      clear hK K hS hS2
      have hS := hS3
      clear hS3
      try simp only [Act.put, List.setIfInBounds_toArray, List.set_cons_zero, List.set_cons_succ]
      refine till_all (rs := [10]) (by kernel_rfl) (by simp) (mem_more (till_op (i := 10) (o := ⟨some 92, _, _, _, _, _⟩) rfl rfl (fun K hK => ?_)) (mem_none))
      go_simp
      go_at_call 36
      have hO := HG4.out.chg hC0 (fun _ _ h => h)
      refine (ins_ptrs _ _ (i + 1) n (n + 1) (by omega) xs b2 xb wy hO HN.out rfl (by omega) hBx hXG (by omega)).mono ?_
      rintro e w5 ⟨g', c', rfl, hOg, hgg, hCk⟩
      have hgg : g' = g ∨ w3.heap.size ≤ g' := hgg.imp (fun h => by simp [Value.ownBlock] at h; exact h.symm) (fun h => by have h1 := hC0.size; omega)
      have hCk : Chg (fun k => k = g) wy w5 := hCk.mono fun k _ h => by simp [Value.ownBlock] at h; exact h.symm
      try have hBy := hBy.chg hCk (fun e => hO.ne_blk hBy (by decide) (by rw [e]; rfl))
      have hCk : Chg (fun k => k = g) w4 w5 := hC0.up.trans hCk
      clear hC0 hO hBx
      refine hK.out _ _ (fun _ => ?_) (fun hS2 => ?_)
      · first | exact SP.out _ hCk | exact SP.out _ hC0.up
      have hS3 := hS2 (by kernel_rfl)
      clear hK K hS hS2
      have hS := hS3
      clear hS3
      try simp only [Act.put, List.setIfInBounds_toArray, List.set_cons_zero, List.set_cons_succ]
      refine till_all (rs := [18]) (by kernel_rfl) (by simp) (mem_more (till_op (i := 18) (o := ⟨some 100, _, _, _, _, _⟩) rfl rfl (fun K hK => ?_)) (mem_none))
      go_simp
      go_at_call 31
      have hne : ∀ k, (Value.slice Ak m ck).ownBlock = some k → ¬ k = g := fun k hk e => HK4.out.ne_own HG4.out (by decide) hk (by rw [e]; rfl)
      have hO := HK4.out.chg hCk hne
      refine (ins_strs _ _ i m (m + 1) rfl ks mid yb w5 hO HM.out rfl him hBy hYK (by omega)).mono ?_
      rintro e w6 ⟨gk, ck', rfl, hOk, hgk, hCr⟩
      have hgk : (Value.slice Ak m ck).ownBlock = some gk ∨ w3.heap.size ≤ gk := hgk.imp id (fun h => by have h1 := hCk.size; omega)
      have hOg := hOg.chg hCr (fun k hk e => hOg.ne_own hO (by decide) hk e)
      have hB1 := HB4.out.chg hCk (fun e => HG4.out.ne_blk HB4.out (by decide) (by rw [e]; rfl))
      have hB := hB1.chg hCr (hO.ne_blk hB1 (by decide))
      have hCC : Chg (fun k => k = b ∨ k = g ∨ (Value.slice Ak m ck).ownBlock = some k) w3 w6 :=
        (HC4.out.up.trans (hCk.mono fun k _ h => .inr (.inl h))).trans (hCr.mono fun k _ h => .inr (.inr h))
      clear hCr hCk hO hBy hB1 hne
      refine hK.out _ _ (fun h => by cases (show true = false from h)) (fun _ => ?_)
      clear hK K hS
      try simp only [Act.put, List.setIfInBounds_toArray, List.set_cons_zero, List.set_cons_succ]
      apply till_take0 (i := 19) (d := some 101)
      case hi => exact rfl
      case hd => exact rfl
      case hchk => kernel_rfl
      case hS => exact (fun h => by cases (show true = false from h))
      case hy => apply yields_plain; exact rfl; intro w _; go_simp <;> with_reducible rfl
      case hQ => exact fun _ _ _ h => h
      simp only [Act.put, List.setIfInBounds_toArray, List.set_cons_zero, List.set_cons_succ]
      apply till_take0 (i := 20) (d := some 102)
      case hi => exact rfl
      case hd => exact rfl
      case hchk => kernel_rfl
      case hS => exact (fun h => by cases (show true = false from h))
      case hy => apply yields_plain; exact rfl; intro w _; go_simp <;> with_reducible rfl
      case hQ => exact fun _ _ _ h => h
      simp only [Act.put, List.setIfInBounds_toArray, List.set_cons_zero, List.set_cons_succ]
      refine till_all (rs := [21]) (by kernel_rfl) (by simp) (mem_more (till_op (i := 21) (o := ⟨none, _, _, _, _, _⟩) rfl rfl (fun K hK => ?_)) (mem_none))
      have hbc : (w6).cell? ⟨b, 2, none⟩ = some _ := hB.cell_ rfl
      have hbf := hB.frozen 2
      go_simp
      clear hbc hbf
      obtain ⟨w7, hw1, hB1, hC1⟩ := set_named hB 2 (.slice (some ⟨g', 0, none⟩) (n + 1) c')
      rw [hw1]
      have hOg := hOg.past hB (by decide) hC1
      have hOk := hOk.past hB (by decide) hC1
      have hCC := hCC.trans (hC1.mono fun k _ h => .inl h)
      have hB := hB1
      clear hB1 hw1 hC1
      refine hK.out _ _ (fun h => by cases (show true = false from h)) (fun _ => ?_)
      clear hK K
      try simp only [Act.put, List.setIfInBounds_toArray, List.set_cons_zero, List.set_cons_succ]
      apply till_take0 (i := 22) (d := some 103)
      case hi => exact rfl
      case hd => exact rfl
      case hchk => kernel_rfl
      case hS => exact (fun h => by cases (show true = false from h))
      case hy => apply yields_plain; exact rfl; intro w _; go_simp <;> with_reducible rfl
      case hQ => exact fun _ _ _ h => h
      simp only [Act.put, List.setIfInBounds_toArray, List.set_cons_zero, List.set_cons_succ]
      apply till_take0 (i := 23) (d := some 104)
      case hi => exact rfl
      case hd => exact rfl
      case hchk => kernel_rfl
      case hS => exact (fun h => by cases (show true = false from h))
      case hy => apply yields_plain; exact rfl; intro w _; go_simp <;> with_reducible rfl
      case hQ => exact fun _ _ _ h => h
      simp only [Act.put, List.setIfInBounds_toArray, List.set_cons_zero, List.set_cons_succ]
      refine till_all (rs := [24]) (by kernel_rfl) (by simp) (mem_more (till_op (i := 24) (o := ⟨none, _, _, _, _, _⟩) rfl rfl (fun K hK => ?_)) (mem_none))
      have hbc : (w7).cell? ⟨b, 0, none⟩ = some _ := hB.cell_ rfl
      have hbf := hB.frozen 0
      go_simp
      clear hbc hbf
      obtain ⟨w8, hw1, hB1, hC1⟩ := set_named hB 0 (.slice (some ⟨gk, 0, none⟩) (m + 1) ck')
      rw [hw1]
      have hOg := hOg.past hB (by decide) hC1
      have hOk := hOk.past hB (by decide) hC1
      have hCC := hCC.trans (hC1.mono fun k _ h => .inl h)
      have hB := hB1
      clear hB1 hw1 hC1
      refine hK.out _ _ (fun h => by cases (show true = false from h)) (fun _ => ?_)
      clear hK K
      try simp only [Act.put, List.setIfInBounds_toArray, List.set_cons_zero, List.set_cons_succ]
      refine till_done (by kernel_rfl) ?_
      go_wp2_with fail
      refine bodyPost_end (results_none rfl _ _ _) rfl ?_
      exact HPP.out _ _ gk ck' g' c' rfl hB hOk hOg hgk hgg hCC
  · skip
    go_simp
    obtain ⟨wy, yb, hwy, hyb, hBy, hCy, -⟩ := alloc_named w4 #[.string mid] 9
    have hYK : (Value.slice Ak m ck).ownBlock ≠ some yb := by
      first | exact (HK4.out.chg hC0 (fun _ _ h => h)).ne_new hyb | exact (HK4.out.chg hCk (fun k hk e => HK4.out.ne_own HG4.out (by decide) hk (by rw [e]; rfl))).ne_new hyb
    rw [hwy, hyb]
    try have hOg := hOg.chg hCy (fun _ _ h => h)
    try have hC0 := hC0.trans hCy
    try have hCk := hCk.trans hCy.up
    try have hBx := hBx.chg hCy id
    refine hK.out _ _ (fun _ => ?_) (fun hS2 => ?_)
    · first | exact SP.out _ hCk | exact SP.out _ hC0.up
    have hS3 := hS2 (by kernel_rfl)
    clear hK K hS hS2
    have hS := hS3
    clear hS3
    try simp only [Act.put, List.setIfInBounds_toArray, List.set_cons_zero, List.set_cons_succ]
    refine till_all (rs := [9]) (by kernel_rfl) (by simp) (mem_more (till_op (i := 9) (o := ⟨some 91, _, _, _, _, _⟩) rfl rfl (fun K hK => ?_)) (mem_none))
    go_simp
    obtain ⟨wx, xb, hwx, hxb, hBx, hCx, -⟩ := alloc_named wy #[.pointer (some ⟨b2, 0, none⟩)] 59
    have hXG := (HG4.out.chg hC0 (fun _ _ h => h)).ne_new hxb
    rw [hwx, hxb]
    have hC0 := hC0.trans hCx
    try have hBy := hBy.chg hCx id
    refine hK.out _ _ (fun _ => ?_) (fun hS2 => ?_)
    · first | exact SP.out _ hCk | exact SP.out _ hC0.up
    have hS3 := hS2 (by kernel_rfl)
    clear hK K hS hS2
    have hS := hS3
    clear hS3
    try simp only [Act.put, List.setIfInBounds_toArray, List.set_cons_zero, List.set_cons_succ]
    refine till_all (rs := [10]) (by kernel_rfl) (by simp) (mem_more (till_op (i := 10) (o := ⟨some 92, _, _, _, _, _⟩) rfl rfl (fun K hK => ?_)) (mem_none))
    go_simp
    go_at_call 36
    have hO := HG4.out.chg hC0 (fun _ _ h => h)
    refine (ins_ptrs _ _ (i + 1) n (n + 1) (by omega) xs b2 xb wx hO HN.out rfl (by omega) hBx hXG (by omega)).mono ?_
    rintro e w5 ⟨g', c', rfl, hOg, hgg, hCk⟩
    have hgg : g' = g ∨ w3.heap.size ≤ g' := hgg.imp (fun h => by simp [Value.ownBlock] at h; exact h.symm) (fun h => by have h1 := hC0.size; omega)
    have hCk : Chg (fun k => k = g) wx w5 := hCk.mono fun k _ h => by simp [Value.ownBlock] at h; exact h.symm
    try have hBy := hBy.chg hCk (fun e => hO.ne_blk hBy (by decide) (by rw [e]; rfl))
    have hCk : Chg (fun k => k = g) w4 w5 := hC0.up.trans hCk
    clear hC0 hO hBx
    refine hK.out _ _ (fun _ => ?_) (fun hS2 => ?_)
    · first | exact SP.out _ hCk | exact SP.out _ hC0.up
    have hS3 := hS2 (by kernel_rfl)
    clear hK K hS hS2
    have hS := hS3
    clear hS3
    try simp only [Act.put, List.setIfInBounds_toArray, List.set_cons_zero, List.set_cons_succ]
    refine till_all (rs := [18]) (by kernel_rfl) (by simp) (mem_more (till_op (i := 18) (o := ⟨some 100, _, _, _, _, _⟩) rfl rfl (fun K hK => ?_)) (mem_none))
    go_simp
    go_at_call 31
    have hne : ∀ k, (Value.slice Ak m ck).ownBlock = some k → ¬ k = g := fun k hk e => HK4.out.ne_own HG4.out (by decide) hk (by rw [e]; rfl)
    have hO := HK4.out.chg hCk hne
    refine (ins_strs _ _ i m (m + 1) rfl ks mid yb w5 hO HM.out rfl him hBy hYK (by omega)).mono ?_
    rintro e w6 ⟨gk, ck', rfl, hOk, hgk, hCr⟩
    have hgk : (Value.slice Ak m ck).ownBlock = some gk ∨ w3.heap.size ≤ gk := hgk.imp id (fun h => by have h1 := hCk.size; omega)
    have hOg := hOg.chg hCr (fun k hk e => hOg.ne_own hO (by decide) hk e)
    have hB1 := HB4.out.chg hCk (fun e => HG4.out.ne_blk HB4.out (by decide) (by rw [e]; rfl))
    have hB := hB1.chg hCr (hO.ne_blk hB1 (by decide))
    have hCC : Chg (fun k => k = b ∨ k = g ∨ (Value.slice Ak m ck).ownBlock = some k) w3 w6 :=
      (HC4.out.up.trans (hCk.mono fun k _ h => .inr (.inl h))).trans (hCr.mono fun k _ h => .inr (.inr h))
    clear hCr hCk hO hBy hB1 hne
    refine hK.out _ _ (fun h => by cases (show true = false from h)) (fun _ => ?_)
    clear hK K hS
    try simp only [Act.put, List.setIfInBounds_toArray, List.set_cons_zero, List.set_cons_succ]
    apply till_take0 (i := 19) (d := some 101)
    case hi => exact rfl
    case hd => exact rfl
    case hchk => kernel_rfl
    case hS => exact (fun h => by cases (show true = false from h))
    case hy => apply yields_plain; exact rfl; intro w _; go_simp <;> with_reducible rfl
    case hQ => exact fun _ _ _ h => h
    simp only [Act.put, List.setIfInBounds_toArray, List.set_cons_zero, List.set_cons_succ]
    apply till_take0 (i := 20) (d := some 102)
    case hi => exact rfl
    case hd => exact rfl
    case hchk => kernel_rfl
    case hS => exact (fun h => by cases (show true = false from h))
    case hy => apply yields_plain; exact rfl; intro w _; go_simp <;> with_reducible rfl
    case hQ => exact fun _ _ _ h => h
    simp only [Act.put, List.setIfInBounds_toArray, List.set_cons_zero, List.set_cons_succ]
    refine till_all (rs := [21]) (by kernel_rfl) (by simp) (mem_more (till_op (i := 21) (o := ⟨none, _, _, _, _, _⟩) rfl rfl (fun K hK => ?_)) (mem_none))
    have hbc : (w6).cell? ⟨b, 2, none⟩ = some _ := hB.cell_ rfl
    have hbf := hB.frozen 2
    go_simp
    clear hbc hbf
    obtain ⟨w7, hw1, hB1, hC1⟩ := set_named hB 2 (.slice (some ⟨g', 0, none⟩) (n + 1) c')
    rw [hw1]
    have hOg := hOg.past hB (by decide) hC1
    have hOk := hOk.past hB (by decide) hC1
    have hCC := hCC.trans (hC1.mono fun k _ h => .inl h)
    have hB := hB1
    clear hB1 hw1 hC1
    refine hK.out _ _ (fun h => by cases (show true = false from h)) (fun _ => ?_)
    clear hK K
    try simp only [Act.put, List.setIfInBounds_toArray, List.set_cons_zero, List.set_cons_succ]
    apply till_take0 (i := 22) (d := some 103)
    case hi => exact rfl
    case hd => exact rfl
    case hchk => kernel_rfl
    case hS => exact (fun h => by cases (show true = false from h))
    case hy => apply yields_plain; exact rfl; intro w _; go_simp <;> with_reducible rfl
    case hQ => exact fun _ _ _ h => h
    simp only [Act.put, List.setIfInBounds_toArray, List.set_cons_zero, List.set_cons_succ]
    apply till_take0 (i := 23) (d := some 104)
    case hi => exact rfl
    case hd => exact rfl
    case hchk => kernel_rfl
    case hS => exact (fun h => by cases (show true = false from h))
    case hy => apply yields_plain; exact rfl; intro w _; go_simp <;> with_reducible rfl
    case hQ => exact fun _ _ _ h => h
    simp only [Act.put, List.setIfInBounds_toArray, List.set_cons_zero, List.set_cons_succ]
    refine till_all (rs := [24]) (by kernel_rfl) (by simp) (mem_more (till_op (i := 24) (o := ⟨none, _, _, _, _, _⟩) rfl rfl (fun K hK => ?_)) (mem_none))
    have hbc : (w7).cell? ⟨b, 0, none⟩ = some _ := hB.cell_ rfl
    have hbf := hB.frozen 0
    go_simp
    clear hbc hbf
    obtain ⟨w8, hw1, hB1, hC1⟩ := set_named hB 0 (.slice (some ⟨gk, 0, none⟩) (m + 1) ck')
    rw [hw1]
    have hOg := hOg.past hB (by decide) hC1
    have hOk := hOk.past hB (by decide) hC1
    have hCC := hCC.trans (hC1.mono fun k _ h => .inl h)
    have hB := hB1
    clear hB1 hw1 hC1
    refine hK.out _ _ (fun h => by cases (show true = false from h)) (fun _ => ?_)
    clear hK K
    try simp only [Act.put, List.setIfInBounds_toArray, List.set_cons_zero, List.set_cons_succ]
    refine till_done (by kernel_rfl) ?_
    go_wp2_with fail
    refine bodyPost_end (results_none rfl _ _ _) rfl ?_
    exact HPP.out _ _ gk ck' g' c' rfl hB hOk hOg hgk hgg hCC
end Go.Proofs.Ythndplpbnfihdaa
