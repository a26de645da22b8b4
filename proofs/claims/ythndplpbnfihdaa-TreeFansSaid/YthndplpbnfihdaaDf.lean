/-
  Del's closure. Conditions: a sound tree.
-/
import Derived.Test.YthndplpbnfihdaaDe
import Derived.Test.YthndplpbnfihdaaBt4
set_option linter.unusedVariables false
set_option linter.unusedSimpArgs false
namespace Go.Proofs.Ythndplpbnfihdaa
open Go.RowKit

set_option maxHeartbeats 4000000 in
set_option maxRecDepth 100000 in
theorem del_inner (w : World) (d b bk bg bd bt tr g n c i x fan : Nat) (vk : Value) (t : Tr d) (fpx fp : List Nat) (ks : List ByteArray) (ts : List (Tr d)) (key : ByteArray) (g0 : Bool)
    (hb : Blk w b 62 #[vk, .slice none 0 0, .slice (some ⟨g, 0, none⟩) n c]) (hcell : w.cell? ⟨g, i, none⟩ = some (ptr x)) (hgo : ∃ xs, Own w 59 (.slice (some ⟨g, 0, none⟩) n c) xs)
    (hin : i < n) (h2 : 2 ≤ n) (hbig : n ≤ 1000) (h4 : 4 ≤ fan) (h64 : fan ≤ 64)
    (he : DEnv w fp bk bg bd bt tr key fan) (hf : Blk w bg 4 #[.bool g0]) (hfx : ∀ k ∈ fpx, k ∈ fp) (hbx : b ∉ fpx) (hgx : g ∉ fpx) (hbf : b ∈ fp) (hgf : g ∈ fp)
    (HW : Hid (Calls Try.prog 33 #[ptr b, .string key] w (fun e w' => e = .returned (.int .i64 i) ∧ ∃ q, w' = w.drewN q)))
    (HC : Hid (∀ W, Chg (fun _ => False) w W → Calls Try.prog 39 #[ptr x, ptr bk, ptr bg, ptr bd, ptr bt] W (DelPost W d x bg t fpx key fan g0)))
    (hszb : sizeT d (delT fan key d t) ≤ 1000)
    (HJ : Hid (∀ w2 fpx', At w2 d x (delT fan key d t) fpx' → fpx'.Nodup → (∀ k ∈ fpx', k ∈ fpx ∨ w.heap.size ≤ k) → Chg (fun k => k ∈ fpx ∨ k = bg) w w2 →
      ∃ fp2, At w2 (d + 1) b (ks, ts.set i (delT fan key d t)) fp2 ∧ fp2.Nodup ∧ (∀ k ∈ fp2, k ∈ fp ∨ w.heap.size ≤ k) ∧ (sizeT d (delT fan key d t) < fan / 2 →
        ∀ W2, Chg (fun _ => False) w2 W2 → Calls Try.prog 42 #[ptr tr, ptr b, .int .i64 (min i (n - 2) : Nat)] W2 (JoinAt W2 fan d b (min i (n - 2)) ks (ts.set i (delT fan key d t)) fp2)))) :
    Calls Try.prog 39 #[ptr b, ptr bk, ptr bg, ptr bd, ptr bt] w (fun e w' => e = .returned (.tuple #[]) ∧ ∃ fp',
      At w' (d + 1) b (if sizeT d (delT fan key d t) < fan / 2 then joinT fan d ks (ts.set i (delT fan key d t)) (min i (n - 2)) else (ks, ts.set i (delT fan key d t))) fp' ∧ fp'.Nodup ∧ (∀ k ∈ fp', k ∈ fp ∨ w.heap.size ≤ k) ∧
      Blk w' bg 4 #[.bool (g0 || !freshT key d t)] ∧ Chg (fun k => k ∈ fp ∨ k = bg) w w') := by
  unfold ptr at *
  obtain ⟨R, hR⟩ : ∃ R : Ending → World → Prop, R = fun e w' => e = .returned (.tuple #[]) ∧ ∃ fp',
      At w' (d + 1) b (if sizeT d (delT fan key d t) < fan / 2 then joinT fan d ks (ts.set i (delT fan key d t)) (min i (n - 2)) else (ks, ts.set i (delT fan key d t))) fp' ∧ fp'.Nodup ∧ (∀ k ∈ fp', k ∈ fp ∨ w.heap.size ≤ k) ∧
      Blk w' bg 4 #[.bool (g0 || !freshT key d t)] ∧ Chg (fun k => k ∈ fp ∨ k = bg) w w' := ⟨_, rfl⟩
  rw [← hR]
  have HP : Hid (∀ e w' fp', e = .returned (.tuple #[]) →
      At w' (d + 1) b (if sizeT d (delT fan key d t) < fan / 2 then joinT fan d ks (ts.set i (delT fan key d t)) (min i (n - 2)) else (ks, ts.set i (delT fan key d t))) fp' → fp'.Nodup → (∀ k ∈ fp', k ∈ fp ∨ w.heap.size ≤ k) →
      Blk w' bg 4 #[.bool (g0 || !freshT key d t)] → Chg (fun k => k ∈ fp ∨ k = bg) w w' → R e w') := by
    intro e w' fp' a1 a2 a3 a4 a5 a6; rw [hR]; exact ⟨a1, fp', a2, a3, a4, a5, a6⟩
  have hkc : w.cell? ⟨b, 2, none⟩ = some (.slice (some ⟨g, 0, none⟩) n c) := hb.cell_ rfl
  have hkey : w.cell? ⟨bk, 0, none⟩ = some (.string key) := he.hk.cell_ rfl
  have hin' : (i : Int) < (n : Int) := by omega
  have HB := Lib.hid hb
  have HE := Lib.hid he
  have HF := Lib.hid hf
  have HFX : Hid (∀ k ∈ fpx, k ∈ fp) := hfx
  have HBX := Lib.hid hbx
  have HGX := Lib.hid hgx
  have HBF := Lib.hid hbf
  have HGF := Lib.hid hgf
  have HSB := Lib.hid hszb
  obtain ⟨gxs, hgo⟩ := hgo
  have HGO := Lib.hid hgo
  have HCELL := Lib.hid hcell
  clear hb he hf hfx hbx hgx hbf hgf hszb hgo hR hcell
  go_enter Try.func39, Try.ntmps39
  go_wp2_with fail
  go_at_call 33
  refine HW.out.mono ?_
  rintro e w1 ⟨rfl, q, hw1⟩
  have hC1 : Chg (fun _ => False) w w1 := hw1 ▸ (Chg.refl _ w).drewN q
  have HC1 := Lib.hid hC1
  have SP : Hid (∀ W, Chg (fun _ => False) w1 W → W.cell? ⟨bd, 0, none⟩ = some (.func (.func 39) #[] #[.pointer (some ⟨bk, 0, none⟩), .pointer (some ⟨bg, 0, none⟩), .pointer (some ⟨bd, 0, none⟩), .pointer (some ⟨bt, 0, none⟩)]) ∧
      W.cell? ⟨b, 2, none⟩ = some (.slice (some ⟨g, 0, none⟩) n c) ∧ W.cell? ⟨g, i, none⟩ = some (.pointer (some ⟨x, 0, none⟩))) := fun W hc => by
    have hw := HC1.out.trans hc
    exact ⟨(HE.out.hp.chg hw id).cell_ rfl, (HB.out.chg hw id).cell_ rfl, by rw [hw.cell (World.block_lt_of_cell? _ _ HCELL.out) id]; exact HCELL.out⟩
  clear hkc hkey hw1 hC1
  go_wp2_with fail
  obtain ⟨w2, hw2, hC2⟩ := drew_named w1
  have hC0 : Chg (fun _ => False) w1 w2 := hC2
  have hS := SP.out w2 hC0
  refine wp_region_till (s := 8) (S := (fun W => W.cell? ⟨bd, 0, none⟩ = some (.func (.func 39) #[] #[.pointer (some ⟨bk, 0, none⟩), .pointer (some ⟨bg, 0, none⟩), .pointer (some ⟨bd, 0, none⟩), .pointer (some ⟨bt, 0, none⟩)]) ∧ W.cell? ⟨b, 2, none⟩ = some (.slice (some ⟨g, 0, none⟩) n c) ∧ W.cell? ⟨g, i, none⟩ = some (.pointer (some ⟨x, 0, none⟩)))) (by kernel_rfl) ?_
  rw [hw2]
  clear hw2 hC2
  apply till_take0 (i := 1) (d := some 50)
  case hi => exact rfl
  case hd => exact rfl
  case hchk => kernel_rfl
  case hS => exact (fun _ => hS)
  case hy => apply yields_plain; exact rfl; intro w _; go_simp <;> with_reducible rfl
  case hQ => exact fun _ _ _ h => h
  simp only [Act.put, List.setIfInBounds_toArray, List.set_cons_zero, List.set_cons_succ]
  apply till_take0 (i := 2) (d := some 51)
  case hi => exact rfl
  case hd => exact rfl
  case hchk => kernel_rfl
  case hS => exact (fun _ => hS)
  case hy => apply yields_plain; exact rfl; intro w _; go_simp <;> with_reducible rfl
  case hQ => exact fun _ _ _ h => h
  simp only [Act.put, List.setIfInBounds_toArray, List.set_cons_zero, List.set_cons_succ]
  apply till_take0 (i := 3) (d := some 52)
  case hi => exact rfl
  case hd => exact rfl
  case hchk => kernel_rfl
  case hS => exact (fun _ => hS)
  case hy => apply yields_plain; exact rfl; intro w _; go_simp <;> with_reducible rfl
  case hQ => exact fun _ _ _ h => h
  simp only [Act.put, List.setIfInBounds_toArray, List.set_cons_zero, List.set_cons_succ]
  apply till_take0 (i := 5) (d := some 54)
  case hi => exact rfl
  case hd => exact rfl
  case hchk => kernel_rfl
  case hS => exact (fun _ => hS)
  case hy => apply yields_plain; exact rfl; intro w _; go_simp <;> with_reducible rfl
  case hQ => exact fun _ _ _ h => h
  simp only [Act.put, List.setIfInBounds_toArray, List.set_cons_zero, List.set_cons_succ]
  apply till_take (i := 0) (d := some 49) [8, 0]
  case hi => exact rfl
  case hd => exact rfl
  case hchk => kernel_rfl
  case hS => exact hS
  case hy => apply yields_plain; exact rfl; intro w hSw; (try dsimp only at hSw); go_split_ands; go_simp <;> with_reducible rfl
  case hQ => exact fun _ _ _ h => h
  simp only [Act.put, List.setIfInBounds_toArray, List.set_cons_zero, List.set_cons_succ]
  apply till_take (i := 4) (d := some 53) [8, 7, 6, 4]
  case hi => exact rfl
  case hd => exact rfl
  case hchk => kernel_rfl
  case hS => exact hS
  case hy => apply yields_plain; exact rfl; intro w hSw; (try dsimp only at hSw); go_split_ands; go_simp <;> with_reducible rfl
  case hQ => exact fun _ _ _ h => h
  simp only [Act.put, List.setIfInBounds_toArray, List.set_cons_zero, List.set_cons_succ]
  apply till_take0 (i := 6) (d := some 55)
  case hi => exact rfl
  case hd => exact rfl
  case hchk => kernel_rfl
  case hS => exact (fun _ => hS)
  case hy => apply yields_plain; exact rfl; intro w _; go_simp <;> with_reducible rfl
  case hQ => exact fun _ _ _ h => h
  simp only [Act.put, List.setIfInBounds_toArray, List.set_cons_zero, List.set_cons_succ]
  apply till_take (i := 7) (d := some 56) [8, 7]
  case hi => exact rfl
  case hd => exact rfl
  case hchk => kernel_rfl
  case hS => exact hS
  case hy => apply yields_plain; exact rfl; intro w hSw; (try dsimp only at hSw); go_split_ands; go_simp <;> with_reducible rfl
  case hQ => exact fun _ _ _ h => h
  simp only [Act.put, List.setIfInBounds_toArray, List.set_cons_zero, List.set_cons_succ]
  refine till_all (rs := [8]) (by kernel_rfl) (by simp) (mem_more (till_op (i := 8) (o := ⟨some 57, _, _, _, _, _⟩) rfl rfl (fun K hK => ?_)) (mem_none))
  go_simp
  refine (HC.out _ (HC1.out.trans hC0)).mono ?_
  rintro e w3 ⟨rfl, fpx', hAt, hnd, hsub, hf3, hC3⟩
  have hC3 : Chg (fun k => k ∈ fpx ∨ k = bg) w w3 := (HC1.out.trans hC0).up.trans hC3
  have hsub : ∀ k ∈ fpx', k ∈ fpx ∨ w.heap.size ≤ k := fun k hk => (hsub k hk).imp id (fun h => by have h1 := HC1.out.size; have h2 := hC0.size; omega)
  refine hK.out _ _ (fun h => by cases (show true = false from h)) (fun _ => ?_)
  clear hK K hS
  try simp only [Act.put, List.setIfInBounds_toArray, List.set_cons_zero, List.set_cons_succ]
  refine till_done (by kernel_rfl) ?_
  skip
  have HA3 := Lib.hid hAt
  obtain ⟨fp2, hA2, hnd2, hsub2, hjn⟩ := HJ.out w3 fpx' hAt hnd hsub hC3
  have HF3 := Lib.hid hf3
  have HC3 := Lib.hid hC3
  have HA2 := Lib.hid hA2
  have HND2 := Lib.hid hnd2
  have HSUB2 : Hid (∀ k ∈ fp2, k ∈ fp ∨ w.heap.size ≤ k) := hsub2
  have hbb : b ≠ bg := HB.out.ne_ HF.out (by decide)
  have hgg : g ≠ bg := fun e => HGO.out.ne_blk HF.out (by decide) (by rw [← e]; rfl)
  have cb : w3.cell? ⟨b, 2, none⟩ = some (.slice (some ⟨g, 0, none⟩) n c) := (HB.out.chg hC3 (fun h => h.elim HBX.out hbb)).cell_ rfl
  have cg : w3.cell? ⟨g, i, none⟩ = some (.pointer (some ⟨x, 0, none⟩)) := by
    rw [hC3.cell (World.block_lt_of_cell? _ _ HCELL.out) (fun h => h.elim HGX.out hgg)]; exact HCELL.out
  have hE3 : DEnv w3 fp bk bg bd bt tr key fan := HE.out.chg HF.out hC3 (fun k h _ => h.imp (HFX.out k) id) (fun k h => .inl h)
  have ct : w3.cell? ⟨bt, 0, none⟩ = some (.pointer (some ⟨tr, 0, none⟩)) := hE3.ht.cell_ rfl
  obtain ⟨tn, root, htr⟩ := hE3.htr
  have cf : w3.cell? ⟨tr, 0, none⟩ = some (.int .i64 fan) := htr.cell_ rfl
  obtain ⟨sz, hsz⟩ : ∃ sz, sizeT d (delT fan key d t) = sz := ⟨_, rfl⟩
  have HSZQ : Hid (∀ q', Calls Try.prog 34 #[.pointer (some ⟨x, 0, none⟩)] (w3.drewN q') (fun e w' => e = .returned (.int .i64 (sz : Nat)) ∧ ∃ m, w' = (w3.drewN q').drewN m)) := fun q' => by
    refine (size_at (hAt.drewN q')).mono ?_
    rintro e w' ⟨h1, rfl⟩
    rw [hsz] at h1
    exact ⟨h1, 0, rfl⟩
  obtain ⟨mn, hmn⟩ : ∃ mn, min i (n - 2) = mn := ⟨_, rfl⟩
  have hmni : mn ≤ i := by omega
  have hmnn : mn + 2 ≤ n := by omega
  have hmne : mn = i ∨ mn = n - 2 := by omega
  rw [hsz, hmn] at hjn HP
  have HJN : Hid (sz < fan / 2 → ∀ W2, Chg (fun _ => False) w3 W2 → Calls Try.prog 42 #[.pointer (some ⟨tr, 0, none⟩), .pointer (some ⟨b, 0, none⟩), .int .i64 (mn : Nat)] W2 (JoinAt W2 fan d b mn ks (ts.set i (delT fan key d t)) fp2)) := hjn
  have HMN := Lib.hid hmn
  have HAF := Lib.hid hE3.ag
  have cff := HF3.out.frozen 0
  have SQ : Hid (∀ W, Chg (fun _ => False) w3 W → W.cell? ⟨b, 2, none⟩ = some (.slice (some ⟨g, 0, none⟩) n c) ∧ W.cell? ⟨bt, 0, none⟩ = some (.pointer (some ⟨tr, 0, none⟩))) := fun W hc =>
    ⟨by rw [hc.cell (World.block_lt_of_cell? _ _ cb) id]; exact cb, by rw [hc.cell (World.block_lt_of_cell? _ _ ct) id]; exact ct⟩
  have hmn2 : IntKind.i64.wrap ((n : Int) - 2) = (n : Int) - 2 := by rw [IntKind.wrap_i64]; omega
  have hbgf : bg < w.heap.size := HF.out.lt
  clear cff hsub hAt hnd hf3 hC3 hA2 hnd2 hsub2 hbb hgg hE3 htr hsz hmn hjn HA3
  by_cases hlow : (sz : Int) < (fan : Int) / 2
  · go_wp2_with fail
    go_quiet ((go_at_call 34; exact Calls.quiet_of (HSZQ.out _)))
    obtain ⟨w4, hw4, hC4⟩ : ∃ w4, w3.drewN nq = w4 ∧ Chg (fun _ => False) w3 w4 := ⟨_, rfl, (Chg.refl _ w3).drewN nq⟩
    rw [hw4]
    have HC4 := Lib.hid hC4
    clear hw4 hC4 cb cg ct cf
    go_wp2_with fail
    obtain ⟨w5, hw5, hC5⟩ := drew_named w4
    have hC0 : Chg (fun _ => False) w3 w5 := HC4.out.trans hC5
    have hS := SQ.out w5 hC0
    refine wp_region_till (s := 10) (S := (fun W => W.cell? ⟨b, 2, none⟩ = some (.slice (some ⟨g, 0, none⟩) n c) ∧ W.cell? ⟨bt, 0, none⟩ = some (.pointer (some ⟨tr, 0, none⟩)))) (by kernel_rfl) ?_
    rw [hw5]
    clear hw5 hC5
    apply till_take0 (i := 1) (d := some 73)
    case hi => exact rfl
    case hd => exact rfl
    case hchk => kernel_rfl
    case hS => exact (fun _ => hS)
    case hy => apply yields_plain; exact rfl; intro w _; go_simp <;> with_reducible rfl
    case hQ => exact fun _ _ _ h => h
    simp only [Act.put, List.setIfInBounds_toArray, List.set_cons_zero, List.set_cons_succ]
    apply till_take0 (i := 2) (d := some 74)
    case hi => exact rfl
    case hd => exact rfl
    case hchk => kernel_rfl
    case hS => exact (fun _ => hS)
    case hy => apply yields_plain; exact rfl; intro w _; go_simp <;> with_reducible rfl
    case hQ => exact fun _ _ _ h => h
    simp only [Act.put, List.setIfInBounds_toArray, List.set_cons_zero, List.set_cons_succ]
    apply till_take0 (i := 3) (d := some 75)
    case hi => exact rfl
    case hd => exact rfl
    case hchk => kernel_rfl
    case hS => exact (fun _ => hS)
    case hy => apply yields_plain; exact rfl; intro w _; go_simp <;> with_reducible rfl
    case hQ => exact fun _ _ _ h => h
    simp only [Act.put, List.setIfInBounds_toArray, List.set_cons_zero, List.set_cons_succ]
    apply till_take0 (i := 4) (d := some 76)
    case hi => exact rfl
    case hd => exact rfl
    case hchk => kernel_rfl
    case hS => exact (fun _ => hS)
    case hy => apply yields_plain; exact rfl; intro w _; go_simp <;> with_reducible rfl
    case hQ => exact fun _ _ _ h => h
    simp only [Act.put, List.setIfInBounds_toArray, List.set_cons_zero, List.set_cons_succ]
    apply till_take0 (i := 5) (d := some 77)
    case hi => exact rfl
    case hd => exact rfl
    case hchk => kernel_rfl
    case hS => exact (fun _ => hS)
    case hy => apply yields_plain; exact rfl; intro w _; go_simp <;> with_reducible rfl
    case hQ => exact fun _ _ _ h => h
    simp only [Act.put, List.setIfInBounds_toArray, List.set_cons_zero, List.set_cons_succ]
    apply till_take (i := 0) (d := some 72) [10, 0]
    case hi => exact rfl
    case hd => exact rfl
    case hchk => kernel_rfl
    case hS => exact hS
    case hy => apply yields_plain; exact rfl; intro w hSw; (try dsimp only at hSw); go_split_ands; go_simp <;> with_reducible rfl
    case hQ => exact fun _ _ _ h => h
    simp only [Act.put, List.setIfInBounds_toArray, List.set_cons_zero, List.set_cons_succ]
    apply till_take (i := 6) (d := some 78) [10, 9, 8, 7, 6]
    case hi => exact rfl
    case hd => exact rfl
    case hchk => kernel_rfl
    case hS => exact hS
    case hy => apply yields_plain; exact rfl; intro w hSw; (try dsimp only at hSw); go_split_ands; go_simp <;> with_reducible rfl
    case hQ => exact fun _ _ _ h => h
    simp only [Act.put, List.setIfInBounds_toArray, List.set_cons_zero, List.set_cons_succ]
    refine till_all (rs := [7]) (by kernel_rfl) (by simp) (mem_more (till_op (i := 7) (o := ⟨some 79, _, _, _, _, _⟩) rfl rfl (fun K hK => ?_)) (mem_none))
    go_simp
    refine hK.out _ _ (fun _ => ?_) (fun hS2 => ?_)
    · exact SQ.out _ hC0
    have hS3 := hS2 (by kernel_rfl)
    clear hK K hS hS2
    have hS := hS3
    clear hS3
    try simp only [Act.put, List.setIfInBounds_toArray, List.set_cons_zero, List.set_cons_succ]
    apply till_take0 (i := 8) (d := some 80)
    case hi => exact rfl
    case hd => exact rfl
    case hchk => kernel_rfl
    case hS => exact (fun _ => hS)
    case hy => apply yields_plain; exact rfl; intro w _; go_simp <;> with_reducible rfl
    case hQ => exact fun _ _ _ h => h
    simp only [Act.put, List.setIfInBounds_toArray, List.set_cons_zero, List.set_cons_succ]
    refine till_all (rs := [9]) (by kernel_rfl) (by simp) (mem_more (till_op (i := 9) (o := ⟨some 81, _, _, _, _, _⟩) rfl rfl (fun K hK => ?_)) (mem_none))
    go_simp
    refine hK.out _ _ (fun _ => ?_) (fun hS2 => ?_)
    · exact SQ.out _ hC0
    have hS3 := hS2 (by kernel_rfl)
    clear hK K hS hS2
    have hS := hS3
    clear hS3
    try simp only [Act.put, List.setIfInBounds_toArray, List.set_cons_zero, List.set_cons_succ]
    refine till_all (rs := [10]) (by kernel_rfl) (by simp) (mem_more (till_op (i := 10) (o := ⟨some 82, _, _, _, _, _⟩) rfl rfl (fun K hK => ?_)) (mem_none))
    go_simp
    rw [show (if (n : Int) - 2 < (i : Int) then (n : Int) - 2 else (i : Int)) = (mn : Int) from by split <;> omega]
    refine (HJN.out (by omega) _ hC0).mono ?_
    rintro e w6 ⟨rfl, fp', hA6, hnd6, hsub6, hC6⟩
    have hz3 := hC0.size
    have hzw := HC3.out.size
    have hbn : bg ∉ fp2 := fun h => (HSUB2.out _ h).elim HAF.out (fun h => by omega)
    have hF6 := (HF3.out.chg hC0 id).chg hC6 hbn
    have hsub6 : ∀ k ∈ fp', k ∈ fp ∨ w.heap.size ≤ k := fun k hk => (hsub6 k hk).elim (HSUB2.out k) (fun h => .inr (by omega))
    have hC6 : Chg (fun k => k ∈ fp ∨ k = bg) w w6 := ((HC3.out.mono fun k _ h => h.imp (HFX.out k) id).trans hC0.up).comp hC6 fun k hk h => (HSUB2.out k h).elim .inl (fun h => by omega)
    refine hK.out _ _ (fun h => by cases (show true = false from h)) (fun _ => ?_)
    clear hK K hS
    try simp only [Act.put, List.setIfInBounds_toArray, List.set_cons_zero, List.set_cons_succ]
    refine till_done (by kernel_rfl) ?_
    go_wp2_with fail
    refine bodyPost_end (results_none rfl _ _ _) rfl ?_
    exact HP.out _ _ fp' rfl (by rw [if_pos (show sz < fan / 2 by omega)]; exact hA6) hnd6 hsub6 hF6 hC6
  · go_wp2_with fail
    go_quiet ((go_at_call 34; exact Calls.quiet_of (HSZQ.out _)))
    go_wp2_with fail
    refine bodyPost_end (results_none rfl _ _ _) rfl ?_
    have hn : ¬ sz < fan / 2 := by omega
    refine HP.out _ _ fp2 rfl (by rw [if_neg hn]; exact HA2.out.drewN _) HND2.out HSUB2.out (HF3.out.drewN _) ((HC3.out.mono fun k _ h => h.imp (HFX.out k) id).drewN _)

theorem del_at {fan : Nat} (h4 : 4 ≤ fan) (h64 : fan ≤ 64) (bk bg bd bt tr : Nat) (key : ByteArray) : ∀ (d : Nat) (w : World) (b : Nat) (t : Tr d) (fp : List Nat) (g0 : Bool),
    At w d b t fp → fp.Nodup → DEnv w fp bk bg bd bt tr key fan → Blk w bg 4 #[.bool g0] → Sound fan d t → sizeT d t ≤ fan → (0 < d → 2 ≤ sizeT d t) →
    Calls Try.prog 39 #[ptr b, ptr bk, ptr bg, ptr bd, ptr bt] w (DelPost w d b bg t fp key fan g0)
  | 0, w, b, l, fp, g0, h, hnd, he, hf, hs, hsz, _ => del_at_leaf h hnd he hf hs.rise (by omega)
  | d + 1, w, b, (ks, ts), fp, g0, h, hnd, he, hf, hs, hsz, hs2 => by
    have hAt := h
    obtain ⟨vk, g, c, cs, hb, hk, hg, hts, hcs, hfp⟩ := h
    subst hts
    have hlm : (cs.map (·.2.1)).length = cs.length := by simp
    have hlen : cs.length ≤ fan := by
      have : sizeT (d + 1) (ks, cs.map (·.2.1)) = cs.length := by simp [sizeT]
      omega
    have hlen2 : 2 ≤ cs.length := by
      have : sizeT (d + 1) (ks, cs.map (·.2.1)) = cs.length := by simp [sizeT]
      have := hs2 (by omega)
      omega
    have hks : ks.length + 1 = cs.length := by have := hs.kids.1; simp at this; omega
    have hway := hs.way key
    simp only [List.length_map] at hway
    obtain ⟨i, hi⟩ : ∃ i, wayT ks key = i := ⟨_, rfl⟩
    rw [hi] at hway
    obtain ⟨⟨x, t, fpx⟩, hx⟩ : ∃ x, cs[i]? = some x := ⟨_, List.getElem?_eq_getElem hway⟩
    have htx : (cs.map (·.2.1))[i]? = some t := by rw [List.getElem?_map, hx]; rfl
    obtain ⟨hsx, hsx1, hsx2⟩ := hs.child htx
    obtain ⟨p1, p2, p3, p4⟩ := del_sound h4 key d t hsx hsx2 (by omega)
    have hAx : At w d x t fpx := hcs _ (List.mem_of_getElem? hx)
    have I := inn hAt hnd hfp hx
    have hcell : w.cell? ⟨g, i, none⟩ = some (ptr x) := hg.cell (by simp [ptrs, hx])
    have HW : Hid (Calls Try.prog 33 #[ptr b, .string key] w (fun e w' => e = .returned (.int .i64 i) ∧ ∃ q, w' = w.drewN q)) := by
      have := way_calls w b _ ks key (hb.cell_ rfl) hk hs.seps.1 (by omega)
      refine this.mono ?_
      rintro e w' ⟨h1, h2⟩
      rw [hi] at h1
      exact ⟨h1, h2⟩
    have HC : Hid (∀ W, Chg (fun _ => False) w W → Calls Try.prog 39 #[ptr x, ptr bk, ptr bg, ptr bd, ptr bt] W (DelPost W d x bg t fpx key fan g0)) := fun W hW =>
      del_at h4 h64 bk bg bd bt tr key d W x t fpx g0 (hAx.chg hW fun _ _ h => h) I.hndx (he.chg hf hW (fun _ h _ => h.elim) fun k hk => .inl (I.hfx k hk)) (hf.chg hW id) hsx hsx2 (fun _ => by omega)
    have hfr : freshT key (d + 1) (ks, cs.map (·.2.1)) = freshT key d t := by
      show freshT key d ((cs.map (·.2.1))[wayT ks key]?.getD default) = _
      rw [hi, htx]; rfl
    have hdel : delT fan key (d + 1) (ks, cs.map (·.2.1)) = (if sizeT d (delT fan key d t) < fan / 2 then joinT fan d ks ((cs.map (·.2.1)).set i (delT fan key d t)) (min i (cs.length - 2)) else (ks, (cs.map (·.2.1)).set i (delT fan key d t))) := by
      show (let i := wayT ks key; let t := delT fan key d ((cs.map (·.2.1))[i]?.getD default); if sizeT d t < fan / 2 then joinT fan d ks ((cs.map (·.2.1)).set i t) (min i ((cs.map (·.2.1)).length - 2)) else _) = _
      simp only [hi, htx, Option.getD_some, hlm]
    refine (del_inner w d b bk bg bd bt tr g cs.length c i x fan vk t fpx fp ks (cs.map (·.2.1)) key g0 hb hcell ⟨_, hg⟩ hway hlen2 (by omega) h4 h64 he hf I.hfx I.hbx I.hgx I.hb I.hg HW HC (by omega) ?_).mono ?_
    · intro w2 fpx' hA' hnd' hsub hC
      obtain ⟨fp', h1, h2, h3, _⟩ := At.swap hAt hnd hb hk hg hcs hfp hx hC (fun k h => by rcases h with h | rfl; (exact .inl h); (exact .inr he.ag)) hA' hnd' hsub
      refine ⟨fp', h1, h2, h3, fun hlow W2 hW2 => ?_⟩
      have hE2 := he.chg hf hC (fp' := fp) (fun k h _ => h.imp (I.hfx k) id) (fun k h => .inl h)
      obtain ⟨tn, root, htr⟩ := hE2.htr
      have htw : tr < w.heap.size := by
        obtain ⟨_, _, h⟩ := he.htr
        exact h.lt
      refine join_at (min i (cs.length - 2)) h4 h64 (htr.chg hW2 id) (fun h => (h3 _ h).elim he.atr (fun h => by omega)) (h1.chg hW2 fun _ _ h => h) h2 (by simp; omega) (by simp; omega) (by simp; omega) ?_
      intro t' ht'
      rcases mem_of_set ht' with rfl | ⟨j, _, hj⟩
      · exact ⟨p2.kids, by omega⟩
      · obtain ⟨q1, q2, q3⟩ := hs.child hj
        exact ⟨q1.kids, q3⟩
    · rintro e w' ⟨rfl, fp', h1, h2, h3, h4', h5⟩
      exact ⟨rfl, fp', by rw [hdel]; exact h1, h2, h3, by rw [hfr]; exact h4', h5⟩
end Go.Proofs.Ythndplpbnfihdaa
