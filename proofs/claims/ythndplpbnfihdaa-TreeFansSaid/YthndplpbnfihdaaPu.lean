/-
  The closure in (*Tree).Put at a leaf: the key's row is replaced, or key and row go in where they belong. Conditions: the leaf's keys rise; lists are short.
-/
import Derived.Test.YthndplpbnfihdaaIns
import Derived.Test.YthndplpbnfihdaaRg
import Derived.Deep.Draws
set_option linter.unusedVariables false
set_option linter.unusedSimpArgs false
namespace Go.Proofs.Ythndplpbnfihdaa
open Go.RowKit

/-- What Put's closure leaves at a leaf that lacks the key. -/
def PutNew (w : World) (b bf : Nat) (vk vr : Value) (ks : List ByteArray) (rs : List Int) (e : Ending) (w' : World) : Prop :=
  ∃ gk ck gr cr, e = .returned (.tuple #[]) ∧ Blk w' b 62 #[.slice (some ⟨gk, 0, none⟩) ks.length ck, .slice (some ⟨gr, 0, none⟩) rs.length cr, .slice none 0 0] ∧
    Own w' 9 (.slice (some ⟨gk, 0, none⟩) ks.length ck) (strs ks) ∧ Own w' 3 (.slice (some ⟨gr, 0, none⟩) rs.length cr) (nums rs) ∧ Blk w' bf 4 #[.bool true] ∧
    (vk.ownBlock = some gk ∨ w.heap.size ≤ gk) ∧ (vr.ownBlock = some gr ∨ w.heap.size ≤ gr) ∧ Chg (fun k => k = b ∨ k = bf ∨ vk.ownBlock = some k ∨ vr.ownBlock = some k) w w'

set_option maxHeartbeats 4000000 in
set_option maxRecDepth 100000 in
theorem put_leaf_new (w : World) (b bk br bf : Nat) (bp bt : Value) (Ak Ar : Option Addr) (n ck cr i : Nat) (ks : List ByteArray) (rs : List Int) (key : ByteArray) (row : Int) (f0 : Bool)
    (hb : Blk w b 62 #[.slice Ak n ck, .slice Ar n cr, .slice none 0 0]) (hk : Own w 9 (.slice Ak n ck) (strs ks)) (hr : Own w 3 (.slice Ar n cr) (nums rs))
    (hbk : Blk w bk 9 #[.string key]) (hbr : Blk w br 3 #[.int .i64 row]) (hbf : Blk w bf 4 #[.bool f0])
    (hn : ks.length = n) (hrn : rs.length = n) (hrise : Rising ks) (hi : pos ks key = i) (hnew : ks[i]? ≠ some key) (hbig : n ≤ 1000)
    (hkb : (Value.slice Ak n ck).ownBlock ≠ some bk) (hrb : (Value.slice Ar n cr).ownBlock ≠ some br) :
    Calls Try.prog 29 #[ptr b, ptr bk, ptr br, ptr bf, bp, bt] w (PutNew w b bf (.slice Ak n ck) (.slice Ar n cr) (ks.take i ++ key :: ks.drop i) (rs.take i ++ row :: rs.drop i)) := by
  unfold ptr
  obtain ⟨R, hR⟩ : ∃ R, R = PutNew w b bf (.slice Ak n ck) (.slice Ar n cr) (ks.take i ++ key :: ks.drop i) (rs.take i ++ row :: rs.drop i) := ⟨_, rfl⟩
  rw [← hR]
  have hkc : w.cell? ⟨b, 0, none⟩ = some (.slice Ak n ck) := hb.cell_ rfl
  have hcc : w.cell? ⟨b, 2, none⟩ = some (.slice none 0 0) := hb.cell_ rfl
  have hkey : w.cell? ⟨bk, 0, none⟩ = some (.string key) := hbk.cell_ rfl
  have hfc : w.cell? ⟨bf, 0, none⟩ = some (.bool f0) := hbf.cell_ rfl
  have hff := hbf.frozen 0
  have HBS : Hid (∀ q, Calls Try.prog 30 #[.slice Ak n ck, .string key] (w.drewN q) (fun e w' => e = .returned (.tuple #[.int .i64 (i : Nat), .bool false]) ∧ ∃ m, w' = (w.drewN q).drewN m)) := fun q => by
    refine (bs_any _ ks key (w.drewN q) (hk.chg ((Chg.refl (fun _ => False) w).drewN q) fun _ _ h => h) hrise (by omega)).mono ?_
    rintro e w' ⟨h1, h2⟩
    rw [hi, decide_eq_false hnew] at h1
    exact ⟨h1, h2⟩
  have hin : i ≤ n := by rw [← hi, ← hn]; exact pos_le _ _
  have HB := Lib.hid hb
  have HK := Lib.hid hk
  have HR := Lib.hid hr
  have HBK := Lib.hid hbk
  have HBR := Lib.hid hbr
  have HBF := Lib.hid hbf
  have HN := Lib.hid hn
  have HRN := Lib.hid hrn
  have HKB := Lib.hid hkb
  have HRB := Lib.hid hrb
  have hbw := hb.lt
  have hkw := hbk.lt
  have hrw := hbr.lt
  have hfw := hbf.lt
  have hnbf : b ≠ bf := hb.ne_ hbf (by decide)
  have hnkf : bk ≠ bf := hbk.ne_ hbf (by decide)
  have hnrf : br ≠ bf := hbr.ne_ hbf (by decide)
  have HP : Hid (∀ e w' gk ck' gr cr', e = .returned (.tuple #[]) → Blk w' b 62 #[.slice (some ⟨gk, 0, none⟩) (n + 1) ck', .slice (some ⟨gr, 0, none⟩) (n + 1) cr', .slice none 0 0] →
    Own w' 9 (.slice (some ⟨gk, 0, none⟩) (n + 1) ck') (strs (ks.take i ++ key :: ks.drop i)) → Own w' 3 (.slice (some ⟨gr, 0, none⟩) (n + 1) cr') (nums (rs.take i ++ row :: rs.drop i)) → Blk w' bf 4 #[.bool true] →
    ((Value.slice Ak n ck).ownBlock = some gk ∨ w.heap.size ≤ gk) → ((Value.slice Ar n cr).ownBlock = some gr ∨ w.heap.size ≤ gr) → Chg (fun k => k = b ∨ k = bf ∨ (Value.slice Ak n ck).ownBlock = some k ∨ (Value.slice Ar n cr).ownBlock = some k) w w' → R e w') := by
    intro e w' gk ck' gr cr' a1 a2 a3 a4 a5 a6 a7 a8
    rw [hR]
    have l1 : (ks.take i ++ key :: ks.drop i).length = n + 1 := by simp [hn]; omega
    have l2 : (rs.take i ++ row :: rs.drop i).length = n + 1 := by simp [hrn]; omega
    refine ⟨gk, ck', gr, cr', a1, ?_, ?_, ?_, a5, a6, a7, a8⟩
    · rw [l1, l2]; exact a2
    · rw [l1]; exact a3
    · rw [l2]; exact a4
  clear hb hk hr hbk hbr hbf hn hrn hrise hi hnew hkb hrb hR
  go_enter Try.func29, Try.ntmps29
  go_wp2_with fail
  go_quiet ((go_at_call 30; exact Calls.quiet_of (HBS.out _)))
  go_wp2_with fail
  have HPP : Hid (∀ e w' gk ck' gr cr', e = .returned (.tuple #[]) → Blk w' b 62 #[.slice (some ⟨gk, 0, none⟩) (n + 1) ck', .slice (some ⟨gr, 0, none⟩) (n + 1) cr', .slice none 0 0] →
    Own w' 9 (.slice (some ⟨gk, 0, none⟩) (n + 1) ck') (strs (ks.take i ++ key :: ks.drop i)) → Own w' 3 (.slice (some ⟨gr, 0, none⟩) (n + 1) cr') (nums (rs.take i ++ row :: rs.drop i)) → Blk w' bf 4 #[.bool true] →
    ((Value.slice Ak n ck).ownBlock = some gk ∨ w.heap.size ≤ gk) → ((Value.slice Ar n cr).ownBlock = some gr ∨ w.heap.size ≤ gr) → Chg (fun k => k = b ∨ k = bf ∨ (Value.slice Ak n ck).ownBlock = some k ∨ (Value.slice Ar n cr).ownBlock = some k) w w' → R e w') := HP
  clear HP hkc hcc hkey hfc hff
  obtain ⟨w1, hw1, HBF1, hC1⟩ := set_named (HBF.out.drewN nq) 0 (.bool true)
  rw [hw1]
  have hC1 : Chg (fun k => k = bf) w w1 := ((Chg.refl _ w).drewN nq).trans hC1
  clear hw1
  have HBF1 : Hid (Blk w1 bf 4 #[.bool true]) := HBF1
  obtain ⟨w2, hw2, hC2⟩ := drew_named w1
  have hC2 : Chg (fun k => k = bf) w w2 := hC1.trans hC2.up
  have HBF2 : Hid (Blk w2 bf 4 #[.bool true]) := by rw [← hw2]; exact HBF1.out
  have HB2 := Lib.hid (HB.out.chg hC2 hnbf)
  have HBK2 := Lib.hid (HBK.out.chg hC2 hnkf)
  have HBR2 := Lib.hid (HBR.out.chg hC2 hnrf)
  have HK2 := Lib.hid (HK.out.chg hC2 (fun g hg e => HK.out.ne_blk HBF.out (by decide) (e ▸ hg)))
  have HR2 := Lib.hid (HR.out.chg hC2 (fun g hg e => HR.out.ne_blk HBF.out (by decide) (e ▸ hg)))
  have SP : Hid (∀ W, Chg (fun k => (Value.slice Ak n ck).ownBlock = some k) w2 W → W.cell? ⟨b, 0, none⟩ = some (.slice Ak n ck) ∧ W.cell? ⟨b, 1, none⟩ = some (.slice Ar n cr) ∧ W.cell? ⟨bk, 0, none⟩ = some (.string key) ∧ W.cell? ⟨br, 0, none⟩ = some (.int .i64 row)) := by
    intro W hc
    have h1 := HB2.out.chg hc (HK2.out.ne_blk HB2.out (by decide))
    exact ⟨h1.cell_ rfl, h1.cell_ rfl, (HBK2.out.chg hc HKB.out).cell_ rfl, (HBR2.out.chg hc (HK2.out.ne_blk HBR2.out (by decide))).cell_ rfl⟩
  have hC0 : Chg (fun _ => False) w2 w2 := Chg.refl _ _
  refine wp_region_till (s := 17) (S := (fun W => W.cell? ⟨b, 0, none⟩ = some (.slice Ak n ck) ∧ W.cell? ⟨b, 1, none⟩ = some (.slice Ar n cr) ∧ W.cell? ⟨bk, 0, none⟩ = some (.string key) ∧ W.cell? ⟨br, 0, none⟩ = some (.int .i64 row))) (by kernel_rfl) ?_
  rw [hw2]
  clear hw2 hC1
  have hS := SP.out w2 hC0.up
  apply till_take0 (i := 0) (d := some 35)
  case hi => exact rfl
  case hd => exact rfl
  case hchk => kernel_rfl
  case hS => exact (fun _ => hS)
  case hy => apply yields_plain; exact rfl; intro w _; go_simp <;> with_reducible rfl
  case hQ => exact fun _ _ _ h => h
  simp only [Act.put, List.setIfInBounds_toArray, List.set_cons_zero, List.set_cons_succ]
  apply till_take0 (i := 1) (d := some 36)
  case hi => exact rfl
  case hd => exact rfl
  case hchk => kernel_rfl
  case hS => exact (fun _ => hS)
  case hy => apply yields_plain; exact rfl; intro w _; go_simp <;> with_reducible rfl
  case hQ => exact fun _ _ _ h => h
  simp only [Act.put, List.setIfInBounds_toArray, List.set_cons_zero, List.set_cons_succ]
  apply till_take0 (i := 2) (d := some 37)
  case hi => exact rfl
  case hd => exact rfl
  case hchk => kernel_rfl
  case hS => exact (fun _ => hS)
  case hy => apply yields_plain; exact rfl; intro w _; go_simp <;> with_reducible rfl
  case hQ => exact fun _ _ _ h => h
  simp only [Act.put, List.setIfInBounds_toArray, List.set_cons_zero, List.set_cons_succ]
  apply till_take0 (i := 3) (d := some 38)
  case hi => exact rfl
  case hd => exact rfl
  case hchk => kernel_rfl
  case hS => exact (fun _ => hS)
  case hy => apply yields_plain; exact rfl; intro w _; go_simp <;> with_reducible rfl
  case hQ => exact fun _ _ _ h => h
  simp only [Act.put, List.setIfInBounds_toArray, List.set_cons_zero, List.set_cons_succ]
  apply till_take0 (i := 4) (d := some 39)
  case hi => exact rfl
  case hd => exact rfl
  case hchk => kernel_rfl
  case hS => exact (fun _ => hS)
  case hy => apply yields_plain; exact rfl; intro w _; go_simp <;> with_reducible rfl
  case hQ => exact fun _ _ _ h => h
  simp only [Act.put, List.setIfInBounds_toArray, List.set_cons_zero, List.set_cons_succ]
  apply till_take0 (i := 6) (d := some 41)
  case hi => exact rfl
  case hd => exact rfl
  case hchk => kernel_rfl
  case hS => exact (fun _ => hS)
  case hy => apply yields_plain; exact rfl; intro w _; go_simp <;> with_reducible rfl
  case hQ => exact fun _ _ _ h => h
  simp only [Act.put, List.setIfInBounds_toArray, List.set_cons_zero, List.set_cons_succ]
  apply till_take0 (i := 10) (d := some 45)
  case hi => exact rfl
  case hd => exact rfl
  case hchk => kernel_rfl
  case hS => exact (fun _ => hS)
  case hy => apply yields_plain; exact rfl; intro w _; go_simp <;> with_reducible rfl
  case hQ => exact fun _ _ _ h => h
  simp only [Act.put, List.setIfInBounds_toArray, List.set_cons_zero, List.set_cons_succ]
  apply till_take0 (i := 11) (d := some 46)
  case hi => exact rfl
  case hd => exact rfl
  case hchk => kernel_rfl
  case hS => exact (fun _ => hS)
  case hy => apply yields_plain; exact rfl; intro w _; go_simp <;> with_reducible rfl
  case hQ => exact fun _ _ _ h => h
  simp only [Act.put, List.setIfInBounds_toArray, List.set_cons_zero, List.set_cons_succ]
  apply till_take0 (i := 12) (d := some 47)
  case hi => exact rfl
  case hd => exact rfl
  case hchk => kernel_rfl
  case hS => exact (fun _ => hS)
  case hy => apply yields_plain; exact rfl; intro w _; go_simp <;> with_reducible rfl
  case hQ => exact fun _ _ _ h => h
  simp only [Act.put, List.setIfInBounds_toArray, List.set_cons_zero, List.set_cons_succ]
  apply till_take0 (i := 14) (d := some 49)
  case hi => exact rfl
  case hd => exact rfl
  case hchk => kernel_rfl
  case hS => exact (fun _ => hS)
  case hy => apply yields_plain; exact rfl; intro w _; go_simp <;> with_reducible rfl
  case hQ => exact fun _ _ _ h => h
  simp only [Act.put, List.setIfInBounds_toArray, List.set_cons_zero, List.set_cons_succ]
  apply till_take (i := 5) (d := some 40) [17, 9, 5]
  case hi => exact rfl
  case hd => exact rfl
  case hchk => kernel_rfl
  case hS => exact hS
  case hy => apply yields_plain; exact rfl; intro w hSw; (try dsimp only at hSw); go_split_ands; go_simp <;> with_reducible rfl
  case hQ => exact fun _ _ _ h => h
  simp only [Act.put, List.setIfInBounds_toArray, List.set_cons_zero, List.set_cons_succ]
  apply till_take (i := 7) (d := some 42) [17, 9, 8, 7]
  case hi => exact rfl
  case hd => exact rfl
  case hchk => kernel_rfl
  case hS => exact hS
  case hy => apply yields_plain; exact rfl; intro w hSw; (try dsimp only at hSw); go_split_ands; go_simp <;> with_reducible rfl
  case hQ => exact fun _ _ _ h => h
  simp only [Act.put, List.setIfInBounds_toArray, List.set_cons_zero, List.set_cons_succ]
  apply till_take (i := 13) (d := some 48) [17, 13]
  case hi => exact rfl
  case hd => exact rfl
  case hchk => kernel_rfl
  case hS => exact hS
  case hy => apply yields_plain; exact rfl; intro w hSw; (try dsimp only at hSw); go_split_ands; go_simp <;> with_reducible rfl
  case hQ => exact fun _ _ _ h => h
  simp only [Act.put, List.setIfInBounds_toArray, List.set_cons_zero, List.set_cons_succ]
  apply till_take (i := 15) (d := some 50) [17, 16, 15]
  case hi => exact rfl
  case hd => exact rfl
  case hchk => kernel_rfl
  case hS => exact hS
  case hy => apply yields_plain; exact rfl; intro w hSw; (try dsimp only at hSw); go_split_ands; go_simp <;> with_reducible rfl
  case hQ => exact fun _ _ _ h => h
  simp only [Act.put, List.setIfInBounds_toArray, List.set_cons_zero, List.set_cons_succ]
  refine till_all (rs := [8, 16]) (by kernel_rfl) (by simp) (mem_more (till_op (i := 8) (o := ⟨some 43, _, _, _, _, _⟩) rfl rfl (fun K hK => ?_)) (mem_more (till_op (i := 16) (o := ⟨some 51, _, _, _, _, _⟩) rfl rfl (fun K hK => ?_)) (mem_none)))
  · skip
    go_simp
    obtain ⟨wx, xb, hwx, hxb, hBx, hCx, -⟩ := alloc_named w2 #[.string key] 9
    have hXK := (HK2.out.chg hC0 (fun _ _ h => h)).ne_new hxb
    rw [hwx, hxb]
    have hC0 := hC0.trans hCx
    try have hBy := hBy.chg hCx id
    refine hK.out _ _ (fun _ => ?_) (fun hS2 => ?_)
    · first | exact SP.out _ hCk | exact SP.out _ hC0.up
    have hS3 := hS2 (by kernel_rfl)
    clear hK K hS hS2
    have hS := hS3
    clear hS3
    try simp only [Act.put, List.setIfInBounds_toArray, List.set_cons_zero, List.set_cons_succ]
    refine till_all (rs := [9, 16]) (by kernel_rfl) (by simp) (mem_more (till_op (i := 9) (o := ⟨some 44, _, _, _, _, _⟩) rfl rfl (fun K hK => ?_)) (mem_more (till_op (i := 16) (o := ⟨some 51, _, _, _, _, _⟩) rfl rfl (fun K hK => ?_)) (mem_none)))
    · skip
      go_simp
      go_at_call 31
      have hO := HK2.out.chg hC0 (fun _ _ h => h)
      refine (ins_strs _ _ i n (n + 1) rfl ks key xb wx hO HN.out rfl hin hBx hXK (by omega)).mono ?_
      rintro e w3 ⟨gk, ck', rfl, hO9, hg9, hCk⟩
      have hg9 : (Value.slice Ak n ck).ownBlock = some gk ∨ w.heap.size ≤ gk := hg9.imp id (fun h => by have h1 := hC0.size; have h2 := hC2.size; omega)
      try have hBy := hBy.chg hCk (hO.ne_blk hBy (by decide))
      have hCk : Chg (fun k => (Value.slice Ak n ck).ownBlock = some k) w2 w3 := hC0.up.trans hCk
      clear hC0 hO hBx
      refine hK.out _ _ (fun _ => ?_) (fun hS2 => ?_)
      · first | exact SP.out _ hCk | exact SP.out _ hC0.up
      have hS3 := hS2 (by kernel_rfl)
      clear hK K hS hS2
      have hS := hS3
      clear hS3
      try simp only [Act.put, List.setIfInBounds_toArray, List.set_cons_zero, List.set_cons_succ]
      refine till_all (rs := [16]) (by kernel_rfl) (by simp) (mem_more (till_op (i := 16) (o := ⟨some 51, _, _, _, _, _⟩) rfl rfl (fun K hK => ?_)) (mem_none))
      go_simp
      obtain ⟨wy, yb, hwy, hyb, hBy, hCy, -⟩ := alloc_named w3 #[.int .i64 row] 3
      have hYR : (Value.slice Ar n cr).ownBlock ≠ some yb := by
        first | exact (HR2.out.chg hC0 (fun _ _ h => h)).ne_new hyb | exact (HR2.out.chg hCk (fun g hg e => HK2.out.ne_own HR2.out (by decide) e hg)).ne_new hyb
      rw [hwy, hyb]
      try have hO9 := hO9.chg hCy (fun _ _ h => h)
      try have hC0 := hC0.trans hCy
      try have hCk := hCk.trans hCy.up
      try have hBx := hBx.chg hCy id
      refine hK.out _ _ (fun _ => ?_) (fun hS2 => ?_)
      · first | exact SP.out _ hCk | exact SP.out _ hC0.up
      have hS3 := hS2 (by kernel_rfl)
      clear hK K hS hS2
      have hS := hS3
      clear hS3
      try simp only [Act.put, List.setIfInBounds_toArray, List.set_cons_zero, List.set_cons_succ]
      refine till_all (rs := [17]) (by kernel_rfl) (by simp) (mem_more (till_op (i := 17) (o := ⟨some 52, _, _, _, _, _⟩) rfl rfl (fun K hK => ?_)) (mem_none))
      go_simp
      go_at_call 32
      have hO := HR2.out.chg hCk (fun g hg e => HK2.out.ne_own HR2.out (by decide) e hg)
      refine (ins_nums _ _ i n (n + 1) rfl rs row yb wy hO HRN.out rfl hin hBy hYR (by omega)).mono ?_
      rintro e w4 ⟨gr, cr', rfl, hO17, hg17, hCr⟩
      have hg17 : (Value.slice Ar n cr).ownBlock = some gr ∨ w.heap.size ≤ gr := hg17.imp id (fun h => by have h1 := hCk.size; have h2 := hC2.size; omega)
      have hO9 := hO9.chg hCr (fun g hg e => hO9.ne_own hO (by decide) hg e)
      have hB := (HB2.out.chg hCk (HK2.out.ne_blk HB2.out (by decide))).chg hCr (hO.ne_blk (HB2.out.chg hCk (HK2.out.ne_blk HB2.out (by decide))) (by decide))
      have hBF := (HBF2.out.chg hCk (HK2.out.ne_blk HBF2.out (by decide))).chg hCr (hO.ne_blk (HBF2.out.chg hCk (HK2.out.ne_blk HBF2.out (by decide))) (by decide))
      have hCC : Chg (fun k => k = b ∨ k = bf ∨ (Value.slice Ak n ck).ownBlock = some k ∨ (Value.slice Ar n cr).ownBlock = some k) w w4 :=
        ((hC2.mono fun k _ h => .inr (.inl h)).trans (hCk.mono fun k _ h => .inr (.inr (.inl h)))).trans (hCr.mono fun k _ h => .inr (.inr (.inr h)))
      clear hCr hCk hO hBy
      refine hK.out _ _ (fun h => by cases (show true = false from h)) (fun _ => ?_)
      clear hK K hS
      try simp only [Act.put, List.setIfInBounds_toArray, List.set_cons_zero, List.set_cons_succ]
      apply till_take0 (i := 18) (d := some 53)
      case hi => exact rfl
      case hd => exact rfl
      case hchk => kernel_rfl
      case hS => exact (fun h => by cases (show true = false from h))
      case hy => apply yields_plain; exact rfl; intro w _; go_simp <;> with_reducible rfl
      case hQ => exact fun _ _ _ h => h
      simp only [Act.put, List.setIfInBounds_toArray, List.set_cons_zero, List.set_cons_succ]
      apply till_take0 (i := 19) (d := some 54)
      case hi => exact rfl
      case hd => exact rfl
      case hchk => kernel_rfl
      case hS => exact (fun h => by cases (show true = false from h))
      case hy => apply yields_plain; exact rfl; intro w _; go_simp <;> with_reducible rfl
      case hQ => exact fun _ _ _ h => h
      simp only [Act.put, List.setIfInBounds_toArray, List.set_cons_zero, List.set_cons_succ]
      refine till_all (rs := [20]) (by kernel_rfl) (by simp) (mem_more (till_op (i := 20) (o := ⟨none, _, _, _, _, _⟩) rfl rfl (fun K hK => ?_)) (mem_none))
      have hbc : (w4).cell? ⟨b, 0, none⟩ = some _ := hB.cell_ rfl
      have hbf := hB.frozen 0
      go_simp
      clear hbc hbf
      obtain ⟨w5, hw5, hB1, hC5⟩ := set_named hB 0 (.slice (some ⟨gk, 0, none⟩) (n + 1) ck')
      rw [hw5]
      have hO9 := hO9.past hB (by decide) hC5
      have hO17 := hO17.past hB (by decide) hC5
      have hBF := hBF.past hB (by decide) hC5
      have hCC := hCC.trans (hC5.mono fun k _ h => .inl h)
      have hB := hB1
      clear hB1 hw5 hC5
      refine hK.out _ _ (fun h => by cases (show true = false from h)) (fun _ => ?_)
      clear hK K
      try simp only [Act.put, List.setIfInBounds_toArray, List.set_cons_zero, List.set_cons_succ]
      apply till_take0 (i := 21) (d := some 55)
      case hi => exact rfl
      case hd => exact rfl
      case hchk => kernel_rfl
      case hS => exact (fun h => by cases (show true = false from h))
      case hy => apply yields_plain; exact rfl; intro w _; go_simp <;> with_reducible rfl
      case hQ => exact fun _ _ _ h => h
      simp only [Act.put, List.setIfInBounds_toArray, List.set_cons_zero, List.set_cons_succ]
      apply till_take0 (i := 22) (d := some 56)
      case hi => exact rfl
      case hd => exact rfl
      case hchk => kernel_rfl
      case hS => exact (fun h => by cases (show true = false from h))
      case hy => apply yields_plain; exact rfl; intro w _; go_simp <;> with_reducible rfl
      case hQ => exact fun _ _ _ h => h
      simp only [Act.put, List.setIfInBounds_toArray, List.set_cons_zero, List.set_cons_succ]
      refine till_all (rs := [23]) (by kernel_rfl) (by simp) (mem_more (till_op (i := 23) (o := ⟨none, _, _, _, _, _⟩) rfl rfl (fun K hK => ?_)) (mem_none))
      have hbc : (w5).cell? ⟨b, 1, none⟩ = some _ := hB.cell_ rfl
      have hbf := hB.frozen 1
      go_simp
      clear hbc hbf
      obtain ⟨w6, hw6, hB1, hC6⟩ := set_named hB 1 (.slice (some ⟨gr, 0, none⟩) (n + 1) cr')
      rw [hw6]
      have hO9 := hO9.past hB (by decide) hC6
      have hO17 := hO17.past hB (by decide) hC6
      have hBF := hBF.past hB (by decide) hC6
      have hCC := hCC.trans (hC6.mono fun k _ h => .inl h)
      have hB := hB1
      clear hB1 hw6 hC6
      refine hK.out _ _ (fun h => by cases (show true = false from h)) (fun _ => ?_)
      clear hK K
      try simp only [Act.put, List.setIfInBounds_toArray, List.set_cons_zero, List.set_cons_succ]
      refine till_done (by kernel_rfl) ?_
      go_wp2_with fail
      refine bodyPost_ret (results_none rfl _ _ _) rfl ?_
      exact HPP.out _ _ gk ck' gr cr' rfl hB hO9 hO17 hBF hg9 hg17 hCC
    · skip
      go_simp
      obtain ⟨wy, yb, hwy, hyb, hBy, hCy, -⟩ := alloc_named wx #[.int .i64 row] 3
      have hYR : (Value.slice Ar n cr).ownBlock ≠ some yb := by
        first | exact (HR2.out.chg hC0 (fun _ _ h => h)).ne_new hyb | exact (HR2.out.chg hCk (fun g hg e => HK2.out.ne_own HR2.out (by decide) e hg)).ne_new hyb
      rw [hwy, hyb]
      try have hO9 := hO9.chg hCy (fun _ _ h => h)
      try have hC0 := hC0.trans hCy
      try have hCk := hCk.trans hCy.up
      try have hBx := hBx.chg hCy id
      refine hK.out _ _ (fun _ => ?_) (fun hS2 => ?_)
      · first | exact SP.out _ hCk | exact SP.out _ hC0.up
      have hS3 := hS2 (by kernel_rfl)
      clear hK K hS hS2
      have hS := hS3
      clear hS3
      try simp only [Act.put, List.setIfInBounds_toArray, List.set_cons_zero, List.set_cons_succ]
      refine till_all (rs := [9]) (by kernel_rfl) (by simp) (mem_more (till_op (i := 9) (o := ⟨some 44, _, _, _, _, _⟩) rfl rfl (fun K hK => ?_)) (mem_none))
      go_simp
      go_at_call 31
      have hO := HK2.out.chg hC0 (fun _ _ h => h)
      refine (ins_strs _ _ i n (n + 1) rfl ks key xb wy hO HN.out rfl hin hBx hXK (by omega)).mono ?_
      rintro e w3 ⟨gk, ck', rfl, hO9, hg9, hCk⟩
      have hg9 : (Value.slice Ak n ck).ownBlock = some gk ∨ w.heap.size ≤ gk := hg9.imp id (fun h => by have h1 := hC0.size; have h2 := hC2.size; omega)
      try have hBy := hBy.chg hCk (hO.ne_blk hBy (by decide))
      have hCk : Chg (fun k => (Value.slice Ak n ck).ownBlock = some k) w2 w3 := hC0.up.trans hCk
      clear hC0 hO hBx
      refine hK.out _ _ (fun _ => ?_) (fun hS2 => ?_)
      · first | exact SP.out _ hCk | exact SP.out _ hC0.up
      have hS3 := hS2 (by kernel_rfl)
      clear hK K hS hS2
      have hS := hS3
      clear hS3
      try simp only [Act.put, List.setIfInBounds_toArray, List.set_cons_zero, List.set_cons_succ]
      refine till_all (rs := [17]) (by kernel_rfl) (by simp) (mem_more (till_op (i := 17) (o := ⟨some 52, _, _, _, _, _⟩) rfl rfl (fun K hK => ?_)) (mem_none))
      go_simp
      go_at_call 32
      have hO := HR2.out.chg hCk (fun g hg e => HK2.out.ne_own HR2.out (by decide) e hg)
      refine (ins_nums _ _ i n (n + 1) rfl rs row yb w3 hO HRN.out rfl hin hBy hYR (by omega)).mono ?_
      rintro e w4 ⟨gr, cr', rfl, hO17, hg17, hCr⟩
      have hg17 : (Value.slice Ar n cr).ownBlock = some gr ∨ w.heap.size ≤ gr := hg17.imp id (fun h => by have h1 := hCk.size; have h2 := hC2.size; omega)
      have hO9 := hO9.chg hCr (fun g hg e => hO9.ne_own hO (by decide) hg e)
      have hB := (HB2.out.chg hCk (HK2.out.ne_blk HB2.out (by decide))).chg hCr (hO.ne_blk (HB2.out.chg hCk (HK2.out.ne_blk HB2.out (by decide))) (by decide))
      have hBF := (HBF2.out.chg hCk (HK2.out.ne_blk HBF2.out (by decide))).chg hCr (hO.ne_blk (HBF2.out.chg hCk (HK2.out.ne_blk HBF2.out (by decide))) (by decide))
      have hCC : Chg (fun k => k = b ∨ k = bf ∨ (Value.slice Ak n ck).ownBlock = some k ∨ (Value.slice Ar n cr).ownBlock = some k) w w4 :=
        ((hC2.mono fun k _ h => .inr (.inl h)).trans (hCk.mono fun k _ h => .inr (.inr (.inl h)))).trans (hCr.mono fun k _ h => .inr (.inr (.inr h)))
      clear hCr hCk hO hBy
      refine hK.out _ _ (fun h => by cases (show true = false from h)) (fun _ => ?_)
      clear hK K hS
      try simp only [Act.put, List.setIfInBounds_toArray, List.set_cons_zero, List.set_cons_succ]
      apply till_take0 (i := 18) (d := some 53)
      case hi => exact rfl
      case hd => exact rfl
      case hchk => kernel_rfl
      case hS => exact (fun h => by cases (show true = false from h))
      case hy => apply yields_plain; exact rfl; intro w _; go_simp <;> with_reducible rfl
      case hQ => exact fun _ _ _ h => h
      simp only [Act.put, List.setIfInBounds_toArray, List.set_cons_zero, List.set_cons_succ]
      apply till_take0 (i := 19) (d := some 54)
      case hi => exact rfl
      case hd => exact rfl
      case hchk => kernel_rfl
      case hS => exact (fun h => by cases (show true = false from h))
      case hy => apply yields_plain; exact rfl; intro w _; go_simp <;> with_reducible rfl
      case hQ => exact fun _ _ _ h => h
      simp only [Act.put, List.setIfInBounds_toArray, List.set_cons_zero, List.set_cons_succ]
      refine till_all (rs := [20]) (by kernel_rfl) (by simp) (mem_more (till_op (i := 20) (o := ⟨none, _, _, _, _, _⟩) rfl rfl (fun K hK => ?_)) (mem_none))
      have hbc : (w4).cell? ⟨b, 0, none⟩ = some _ := hB.cell_ rfl
      have hbf := hB.frozen 0
      go_simp
      clear hbc hbf
      obtain ⟨w5, hw5, hB1, hC5⟩ := set_named hB 0 (.slice (some ⟨gk, 0, none⟩) (n + 1) ck')
      rw [hw5]
      have hO9 := hO9.past hB (by decide) hC5
      have hO17 := hO17.past hB (by decide) hC5
      have hBF := hBF.past hB (by decide) hC5
      have hCC := hCC.trans (hC5.mono fun k _ h => .inl h)
      have hB := hB1
      clear hB1 hw5 hC5
      refine hK.out _ _ (fun h => by cases (show true = false from h)) (fun _ => ?_)
      clear hK K
      try simp only [Act.put, List.setIfInBounds_toArray, List.set_cons_zero, List.set_cons_succ]
      apply till_take0 (i := 21) (d := some 55)
      case hi => exact rfl
      case hd => exact rfl
      case hchk => kernel_rfl
      case hS => exact (fun h => by cases (show true = false from h))
      case hy => apply yields_plain; exact rfl; intro w _; go_simp <;> with_reducible rfl
      case hQ => exact fun _ _ _ h => h
      simp only [Act.put, List.setIfInBounds_toArray, List.set_cons_zero, List.set_cons_succ]
      apply till_take0 (i := 22) (d := some 56)
      case hi => exact rfl
      case hd => exact rfl
      case hchk => kernel_rfl
      case hS => exact (fun h => by cases (show true = false from h))
      case hy => apply yields_plain; exact rfl; intro w _; go_simp <;> with_reducible rfl
      case hQ => exact fun _ _ _ h => h
      simp only [Act.put, List.setIfInBounds_toArray, List.set_cons_zero, List.set_cons_succ]
      refine till_all (rs := [23]) (by kernel_rfl) (by simp) (mem_more (till_op (i := 23) (o := ⟨none, _, _, _, _, _⟩) rfl rfl (fun K hK => ?_)) (mem_none))
      have hbc : (w5).cell? ⟨b, 1, none⟩ = some _ := hB.cell_ rfl
      have hbf := hB.frozen 1
      go_simp
      clear hbc hbf
      obtain ⟨w6, hw6, hB1, hC6⟩ := set_named hB 1 (.slice (some ⟨gr, 0, none⟩) (n + 1) cr')
      rw [hw6]
      have hO9 := hO9.past hB (by decide) hC6
      have hO17 := hO17.past hB (by decide) hC6
      have hBF := hBF.past hB (by decide) hC6
      have hCC := hCC.trans (hC6.mono fun k _ h => .inl h)
      have hB := hB1
      clear hB1 hw6 hC6
      refine hK.out _ _ (fun h => by cases (show true = false from h)) (fun _ => ?_)
      clear hK K
      try simp only [Act.put, List.setIfInBounds_toArray, List.set_cons_zero, List.set_cons_succ]
      refine till_done (by kernel_rfl) ?_
      go_wp2_with fail
      refine bodyPost_ret (results_none rfl _ _ _) rfl ?_
      exact HPP.out _ _ gk ck' gr cr' rfl hB hO9 hO17 hBF hg9 hg17 hCC
  · skip
    go_simp
    obtain ⟨wy, yb, hwy, hyb, hBy, hCy, -⟩ := alloc_named w2 #[.int .i64 row] 3
    have hYR : (Value.slice Ar n cr).ownBlock ≠ some yb := by
      first | exact (HR2.out.chg hC0 (fun _ _ h => h)).ne_new hyb | exact (HR2.out.chg hCk (fun g hg e => HK2.out.ne_own HR2.out (by decide) e hg)).ne_new hyb
    rw [hwy, hyb]
    try have hO9 := hO9.chg hCy (fun _ _ h => h)
    try have hC0 := hC0.trans hCy
    try have hCk := hCk.trans hCy.up
    try have hBx := hBx.chg hCy id
    refine hK.out _ _ (fun _ => ?_) (fun hS2 => ?_)
    · first | exact SP.out _ hCk | exact SP.out _ hC0.up
    have hS3 := hS2 (by kernel_rfl)
    clear hK K hS hS2
    have hS := hS3
    clear hS3
    try simp only [Act.put, List.setIfInBounds_toArray, List.set_cons_zero, List.set_cons_succ]
    refine till_all (rs := [8]) (by kernel_rfl) (by simp) (mem_more (till_op (i := 8) (o := ⟨some 43, _, _, _, _, _⟩) rfl rfl (fun K hK => ?_)) (mem_none))
    go_simp
    obtain ⟨wx, xb, hwx, hxb, hBx, hCx, -⟩ := alloc_named wy #[.string key] 9
    have hXK := (HK2.out.chg hC0 (fun _ _ h => h)).ne_new hxb
    rw [hwx, hxb]
    have hC0 := hC0.trans hCx
    try have hBy := hBy.chg hCx id
    refine hK.out _ _ (fun _ => ?_) (fun hS2 => ?_)
    · first | exact SP.out _ hCk | exact SP.out _ hC0.up
    have hS3 := hS2 (by kernel_rfl)
    clear hK K hS hS2
    have hS := hS3
    clear hS3
    try simp only [Act.put, List.setIfInBounds_toArray, List.set_cons_zero, List.set_cons_succ]
    refine till_all (rs := [9]) (by kernel_rfl) (by simp) (mem_more (till_op (i := 9) (o := ⟨some 44, _, _, _, _, _⟩) rfl rfl (fun K hK => ?_)) (mem_none))
    go_simp
    go_at_call 31
    have hO := HK2.out.chg hC0 (fun _ _ h => h)
    refine (ins_strs _ _ i n (n + 1) rfl ks key xb wx hO HN.out rfl hin hBx hXK (by omega)).mono ?_
    rintro e w3 ⟨gk, ck', rfl, hO9, hg9, hCk⟩
    have hg9 : (Value.slice Ak n ck).ownBlock = some gk ∨ w.heap.size ≤ gk := hg9.imp id (fun h => by have h1 := hC0.size; have h2 := hC2.size; omega)
    try have hBy := hBy.chg hCk (hO.ne_blk hBy (by decide))
    have hCk : Chg (fun k => (Value.slice Ak n ck).ownBlock = some k) w2 w3 := hC0.up.trans hCk
    clear hC0 hO hBx
    refine hK.out _ _ (fun _ => ?_) (fun hS2 => ?_)
    · first | exact SP.out _ hCk | exact SP.out _ hC0.up
    have hS3 := hS2 (by kernel_rfl)
    clear hK K hS hS2
    have hS := hS3
    clear hS3
    try simp only [Act.put, List.setIfInBounds_toArray, List.set_cons_zero, List.set_cons_succ]
    refine till_all (rs := [17]) (by kernel_rfl) (by simp) (mem_more (till_op (i := 17) (o := ⟨some 52, _, _, _, _, _⟩) rfl rfl (fun K hK => ?_)) (mem_none))
    go_simp
    go_at_call 32
    have hO := HR2.out.chg hCk (fun g hg e => HK2.out.ne_own HR2.out (by decide) e hg)
    refine (ins_nums _ _ i n (n + 1) rfl rs row yb w3 hO HRN.out rfl hin hBy hYR (by omega)).mono ?_
    rintro e w4 ⟨gr, cr', rfl, hO17, hg17, hCr⟩
    have hg17 : (Value.slice Ar n cr).ownBlock = some gr ∨ w.heap.size ≤ gr := hg17.imp id (fun h => by have h1 := hCk.size; have h2 := hC2.size; omega)
    have hO9 := hO9.chg hCr (fun g hg e => hO9.ne_own hO (by decide) hg e)
    have hB := (HB2.out.chg hCk (HK2.out.ne_blk HB2.out (by decide))).chg hCr (hO.ne_blk (HB2.out.chg hCk (HK2.out.ne_blk HB2.out (by decide))) (by decide))
    have hBF := (HBF2.out.chg hCk (HK2.out.ne_blk HBF2.out (by decide))).chg hCr (hO.ne_blk (HBF2.out.chg hCk (HK2.out.ne_blk HBF2.out (by decide))) (by decide))
    have hCC : Chg (fun k => k = b ∨ k = bf ∨ (Value.slice Ak n ck).ownBlock = some k ∨ (Value.slice Ar n cr).ownBlock = some k) w w4 :=
      ((hC2.mono fun k _ h => .inr (.inl h)).trans (hCk.mono fun k _ h => .inr (.inr (.inl h)))).trans (hCr.mono fun k _ h => .inr (.inr (.inr h)))
    clear hCr hCk hO hBy
    refine hK.out _ _ (fun h => by cases (show true = false from h)) (fun _ => ?_)
    clear hK K hS
    try simp only [Act.put, List.setIfInBounds_toArray, List.set_cons_zero, List.set_cons_succ]
    apply till_take0 (i := 18) (d := some 53)
    case hi => exact rfl
    case hd => exact rfl
    case hchk => kernel_rfl
    case hS => exact (fun h => by cases (show true = false from h))
    case hy => apply yields_plain; exact rfl; intro w _; go_simp <;> with_reducible rfl
    case hQ => exact fun _ _ _ h => h
    simp only [Act.put, List.setIfInBounds_toArray, List.set_cons_zero, List.set_cons_succ]
    apply till_take0 (i := 19) (d := some 54)
    case hi => exact rfl
    case hd => exact rfl
    case hchk => kernel_rfl
    case hS => exact (fun h => by cases (show true = false from h))
    case hy => apply yields_plain; exact rfl; intro w _; go_simp <;> with_reducible rfl
    case hQ => exact fun _ _ _ h => h
    simp only [Act.put, List.setIfInBounds_toArray, List.set_cons_zero, List.set_cons_succ]
    refine till_all (rs := [20]) (by kernel_rfl) (by simp) (mem_more (till_op (i := 20) (o := ⟨none, _, _, _, _, _⟩) rfl rfl (fun K hK => ?_)) (mem_none))
    have hbc : (w4).cell? ⟨b, 0, none⟩ = some _ := hB.cell_ rfl
    have hbf := hB.frozen 0
    go_simp
    clear hbc hbf
    obtain ⟨w5, hw5, hB1, hC5⟩ := set_named hB 0 (.slice (some ⟨gk, 0, none⟩) (n + 1) ck')
    rw [hw5]
    have hO9 := hO9.past hB (by decide) hC5
    have hO17 := hO17.past hB (by decide) hC5
    have hBF := hBF.past hB (by decide) hC5
    have hCC := hCC.trans (hC5.mono fun k _ h => .inl h)
    have hB := hB1
    clear hB1 hw5 hC5
    refine hK.out _ _ (fun h => by cases (show true = false from h)) (fun _ => ?_)
    clear hK K
    try simp only [Act.put, List.setIfInBounds_toArray, List.set_cons_zero, List.set_cons_succ]
    apply till_take0 (i := 21) (d := some 55)
    case hi => exact rfl
    case hd => exact rfl
    case hchk => kernel_rfl
    case hS => exact (fun h => by cases (show true = false from h))
    case hy => apply yields_plain; exact rfl; intro w _; go_simp <;> with_reducible rfl
    case hQ => exact fun _ _ _ h => h
    simp only [Act.put, List.setIfInBounds_toArray, List.set_cons_zero, List.set_cons_succ]
    apply till_take0 (i := 22) (d := some 56)
    case hi => exact rfl
    case hd => exact rfl
    case hchk => kernel_rfl
    case hS => exact (fun h => by cases (show true = false from h))
    case hy => apply yields_plain; exact rfl; intro w _; go_simp <;> with_reducible rfl
    case hQ => exact fun _ _ _ h => h
    simp only [Act.put, List.setIfInBounds_toArray, List.set_cons_zero, List.set_cons_succ]
    refine till_all (rs := [23]) (by kernel_rfl) (by simp) (mem_more (till_op (i := 23) (o := ⟨none, _, _, _, _, _⟩) rfl rfl (fun K hK => ?_)) (mem_none))
    have hbc : (w5).cell? ⟨b, 1, none⟩ = some _ := hB.cell_ rfl
    have hbf := hB.frozen 1
    go_simp
    clear hbc hbf
    obtain ⟨w6, hw6, hB1, hC6⟩ := set_named hB 1 (.slice (some ⟨gr, 0, none⟩) (n + 1) cr')
    rw [hw6]
    have hO9 := hO9.past hB (by decide) hC6
    have hO17 := hO17.past hB (by decide) hC6
    have hBF := hBF.past hB (by decide) hC6
    have hCC := hCC.trans (hC6.mono fun k _ h => .inl h)
    have hB := hB1
    clear hB1 hw6 hC6
    refine hK.out _ _ (fun h => by cases (show true = false from h)) (fun _ => ?_)
    clear hK K
    try simp only [Act.put, List.setIfInBounds_toArray, List.set_cons_zero, List.set_cons_succ]
    refine till_done (by kernel_rfl) ?_
    go_wp2_with fail
    refine bodyPost_ret (results_none rfl _ _ _) rfl ?_
    exact HPP.out _ _ gk ck' gr cr' rfl hB hO9 hO17 hBF hg9 hg17 hCC
end Go.Proofs.Ythndplpbnfihdaa
