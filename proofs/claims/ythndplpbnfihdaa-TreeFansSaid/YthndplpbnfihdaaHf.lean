/-
  (*node).half: the node keeps the first half, a new node has the second; the key between. Conditions: the node has from two to a million items.
-/
import Derived.Test.YthndplpbnfihdaaNd
import Derived.Deep.RegionHeld3
import Derived.Deep.Cut
import Derived.StillTailTactics
import Derived.BigRegion
set_option linter.unusedVariables false
set_option linter.unusedSimpArgs false
namespace Go.Proofs.Ythndplpbnfihdaa
open Go.RowKit

theorem keep2 {w W w1 : World} {b i j : Nat} {v0 v1 : Value} (hb : b < w.heap.size) (hS : W.cell? ⟨b, i, none⟩ = some v0 ∧ W.cell? ⟨b, j, none⟩ = some v1 ∧ Chg (fun _ => False) w W)
    (h : Chg (fun _ => False) W w1) : w1.cell? ⟨b, i, none⟩ = some v0 ∧ w1.cell? ⟨b, j, none⟩ = some v1 ∧ Chg (fun _ => False) w w1 := by
  have hbW : b < W.heap.size := Nat.lt_of_lt_of_le hb hS.2.2.size
  exact ⟨(h.cell (p := ⟨b, i, none⟩) hbW id).trans hS.1, (h.cell (p := ⟨b, j, none⟩) hbW id).trans hS.2.1, hS.2.2.trans h⟩

theorem two_sets {w : World} {b : Nat} {t : TypeId} {cs : Array Value} (hb : Blk w b t cs) (i j : Nat) (u v : Value) :
    Blk ((w.setCell ⟨b, i, none⟩ u).setCell ⟨b, j, none⟩ v).drew b t ((cs.setIfInBounds i u).setIfInBounds j v) ∧ Chg (fun k => k = b) w ((w.setCell ⟨b, i, none⟩ u).setCell ⟨b, j, none⟩ v).drew :=
  ⟨((hb.set_ i u).set_ j v).drew, (((Chg.refl (fun k => k = b) w).setCell (p := ⟨b, i, none⟩) (.inl rfl) u).setCell (p := ⟨b, j, none⟩) (.inl rfl) v).drew⟩

/-- What half leaves, of a leaf. -/
def HalfLeaf (w : World) (b gk ck gr cr h : Nat) (ks : List ByteArray) (rs : List Int) (e : Ending) (w' : World) : Prop :=
  ∃ b2 g1 c1 g2 c2 m, e = .returned (.tuple #[ptr b2, .string m]) ∧ ks[h]? = some m ∧ w.heap.size ≤ b2 ∧ w.heap.size ≤ g1 ∧ w.heap.size ≤ g2 ∧ b2 ≠ g1 ∧ b2 ≠ g2 ∧ g1 ≠ g2 ∧
    Blk w' b 62 #[.slice (some ⟨gk, 0, none⟩) h ck, .slice (some ⟨gr, 0, none⟩) h cr, .slice none 0 0] ∧
    Blk w' b2 62 #[.slice (some ⟨g1, 0, none⟩) (ks.length - h) c1, .slice (some ⟨g2, 0, none⟩) (ks.length - h) c2, .slice none 0 0] ∧
    Own w' 9 (.slice (some ⟨g1, 0, none⟩) (ks.length - h) c1) (strs (ks.drop h)) ∧ Own w' 3 (.slice (some ⟨g2, 0, none⟩) (ks.length - h) c2) (nums (rs.drop h)) ∧ Chg (fun k => k = b) w w'

set_option maxHeartbeats 2000000 in
set_option maxRecDepth 100000 in
theorem half_leaf (w : World) (b gk ck gr cr n h : Nat) (ks : List ByteArray) (rs : List Int) (hn : ks.length = n) (hrn : rs.length = n) (h2 : 2 ≤ n) (hh : h = n / 2) (hbig : n ≤ 1000000)
    (hb : Blk w b 62 #[.slice (some ⟨gk, 0, none⟩) n ck, .slice (some ⟨gr, 0, none⟩) n cr, .slice none 0 0])
    (hk : Own w 9 (.slice (some ⟨gk, 0, none⟩) n ck) (strs ks)) (hr : Own w 3 (.slice (some ⟨gr, 0, none⟩) n cr) (nums rs)) :
    Calls Try.prog 35 #[ptr b] w (HalfLeaf w b gk ck gr cr h ks rs) := by
  unfold ptr
  obtain ⟨R, hR⟩ : ∃ R, R = HalfLeaf w b gk ck gr cr h ks rs := ⟨_, rfl⟩
  rw [← hR]
  have hkc : w.cell? ⟨b, 0, none⟩ = some (.slice (some ⟨gk, 0, none⟩) n ck) := hb.cell_ rfl
  have hrc : w.cell? ⟨b, 1, none⟩ = some (.slice (some ⟨gr, 0, none⟩) n cr) := hb.cell_ rfl
  have hcc : w.cell? ⟨b, 2, none⟩ = some (.slice none 0 0) := hb.cell_ rfl
  have hbw := hb.lt
  have hn2 : n = 2 * h ∨ n = 2 * h + 1 := by omega
  have hh' : ((n : Int) / 2) = (h : Int) := by omega
  have HH := Lib.hid hh'
  have hck : n ≤ ck := by have := hk.open_ (by simp); obtain ⟨_, _, _, e, _, h1, _⟩ := this; rw [← e] at h1; exact h1
  have hcr : n ≤ cr := by have := hr.open_ (by simp); obtain ⟨_, _, _, e, _, h1, _⟩ := this; rw [← e] at h1; exact h1
  have hRk : Hid (∀ W, Chg (fun _ => False) w W → Reads W (some ⟨gk, h, none⟩) (n - h) (strs (ks.drop h))) := fun W hc => by
    have := (Reads.tail hk (k := h) (by simp [strs]; omega)).chg hc (fun _ _ h => h)
    simpa [strs, List.map_drop] using this
  have hRr : Hid (∀ W, Chg (fun _ => False) w W → Reads W (some ⟨gr, h, none⟩) (n - h) (nums (rs.drop h))) := fun W hc => by
    have := (Reads.tail hr (k := h) (by simp [nums]; omega)).chg hc (fun _ _ h => h)
    simpa [nums, List.map_drop] using this
  have HB := Lib.hid hb
  have HN := Lib.hid hn
  have HRN := Lib.hid hrn
  have h1 : (0 : Int) ≤ (h : Int) := by omega
  have h3 : (h : Int) ≤ (n : Int) := by omega
  have h4 : h ≤ n := by omega
  have h5 : ¬ (ck = h) := by omega
  have h6 : ¬ (cr = h) := by omega
  have h7 : h ≤ ck := by omega
  have h8 : h ≤ cr := by omega
  have HP : Hid (∀ e w' b2 g1 c1 g2 c2 m, e = .returned (.tuple #[ptr b2, .string m]) → ks[h]? = some m → w.heap.size ≤ b2 → w.heap.size ≤ g1 → w.heap.size ≤ g2 → b2 ≠ g1 → b2 ≠ g2 → g1 ≠ g2 →
    Blk w' b 62 #[.slice (some ⟨gk, 0, none⟩) h ck, .slice (some ⟨gr, 0, none⟩) h cr, .slice none 0 0] →
    Blk w' b2 62 #[.slice (some ⟨g1, 0, none⟩) (n - h) c1, .slice (some ⟨g2, 0, none⟩) (n - h) c2, .slice none 0 0] →
    Own w' 9 (.slice (some ⟨g1, 0, none⟩) (n - h) c1) (strs (ks.drop h)) → Own w' 3 (.slice (some ⟨g2, 0, none⟩) (n - h) c2) (nums (rs.drop h)) → Chg (fun k => k = b) w w' → R e w') := by
    intro e w' b2 g1 c1 g2 c2 m a1 a2 a3 a4 a5 a6 a7 a8 a9 a10 a11 a12 a13
    rw [hR]
    rw [← hn] at a10 a11 a12
    exact ⟨b2, g1, c1, g2, c2, m, a1, a2, a3, a4, a5, a6, a7, a8, a9, a10, a11, a12, a13⟩
  clear hb hk hr hn hrn hR hh hh'
  go_enter Try.func35, Try.ntmps35
  go_wp2_with (go_at_call 34; refine (size_leaf _ b (some ⟨gk, 0, none⟩) n ck hkc hcc).mono ?_; rintro e w' ⟨rfl, rfl⟩)
  rw [HH.out]
  go_region_held3 (fun w' => w'.cell? ⟨b, 0, none⟩ = some (.slice (some ⟨gk, 0, none⟩) n ck) ∧ w'.cell? ⟨b, 1, none⟩ = some (.slice (some ⟨gr, 0, none⟩) n cr) ∧ Chg (fun _ => False) w w')
    (first
      | exact ⟨hkc, hrc, (Chg.refl _ w).drew⟩
      | exact keep2 hbw (by assumption) hch1
      | exact keep2 hbw (by assumption) hch2
      | exact keep2 hbw (by assumption) ((Chg.refl _ _).alloc _))
    (first
      | (go_at_call 50; refine (clone_string _ _ _ _ _ (hRk.out _ (by have hS : _ ∧ _ ∧ Chg _ w _ := (by assumption); exact hS.2.2)) (by omega) (by omega) (one_strs _)).mono ?_; rintro e w1 ⟨g1, c1, rfl, hown1, hg1, hch1⟩)
      | (go_at_call 51; refine (clone_int _ _ _ _ _ (hRr.out _ (by have hS : _ ∧ _ ∧ Chg _ w _ := (by assumption); exact hS.2.2)) (by omega) (by omega) (one_nums _)).mono ?_; rintro e w2 ⟨g2, c2, rfl, hown2, hg2, hch2⟩))
  have hl1 : (strs (ks.drop h)).length = n - h := by simp [strs, HN.out]
  have hl2 : (nums (rs.drop h)).length = n - h := by simp [nums, HRN.out]
  rw [hl1] at hown1 ⊢
  rw [hl2] at hown2 ⊢
  have hb2w : w.heap.size ≤ w2.heap.size := by have h1 := hch1.size; have h2 := hch2.size; simp at h1; omega
  have hg1w : w.heap.size ≤ g1 := by simp at hg1; omega
  have hg2w : w.heap.size ≤ g2 := by have h1 := hch1.size; simp at h1; omega
  have hg1l := hown1.lt (g := g1) rfl
  have hg2l := hown2.lt (g := g2) rfl
  have hs12 := hch2.size
  obtain ⟨b2, hb2⟩ : ∃ b2, w2.heap.size = b2 := ⟨_, rfl⟩
  obtain ⟨w3, hw3, HX, HB2, HO1, HO2⟩ : ∃ w3, w2.alloc (.cells #[.slice (some ⟨g1, 0, none⟩) (n - h) c1, .slice (some ⟨g2, 0, none⟩) (n - h) c2, .slice none 0 0] 62) = w3 ∧ Hid (Chg (fun _ => False) w w3) ∧
      Hid (Blk w3 b2 62 #[.slice (some ⟨g1, 0, none⟩) (n - h) c1, .slice (some ⟨g2, 0, none⟩) (n - h) c2, .slice none 0 0]) ∧
      Hid (Own w3 9 (.slice (some ⟨g1, 0, none⟩) (n - h) c1) (strs (ks.drop h))) ∧ Hid (Own w3 3 (.slice (some ⟨g2, 0, none⟩) (n - h) c2) (nums (rs.drop h))) :=
    ⟨_, rfl, ((((Chg.refl _ w).drew).trans hch1).trans hch2).alloc _, hb2 ▸ Blk.new _ _ _, hown1.chg (hch2.alloc _) (fun _ _ h => h), hown2.chg ((Chg.refl (fun _ => False) w2).alloc _) (fun _ _ h => h)⟩
  rw [hw3]
  have hbd1 : w.heap.size ≤ b2 := by omega
  have hbd2 : g1 < b2 := by omega
  have hbd3 : g2 < b2 := by omega
  have hbd4 : g1 < g2 := by omega
  clear hw3 hch1 hch2 hown1 hown2
  rw [hb2]
  clear hb2
  have hb3 := HB.out.chg HX.out id
  have k0 : w3.cell? ⟨b, 0, none⟩ = some (.slice (some ⟨gk, 0, none⟩) n ck) := hb3.cell_ rfl
  have k1 : w3.cell? ⟨b, 1, none⟩ = some (.slice (some ⟨gr, 0, none⟩) n cr) := hb3.cell_ rfl
  have f0 := hb3.frozen 0
  have f1 := hb3.frozen 1
  have HB3 := Lib.hid hb3
  clear hb3 hkc hrc hcc
  go_wp2_with fail
  go_region
  have hbb2 : b2 ≠ b := by omega
  have hbg1 : g1 ≠ b := by omega
  have hbg2 : g2 ≠ b := by omega
  obtain ⟨m, hm⟩ : ∃ m, ks[h]? = some m := ⟨_, List.getElem?_eq_getElem (by rw [HN.out]; omega)⟩
  have HM := Lib.hid hm
  clear hm
  obtain ⟨w4, hw4, HX4, HB4, HB42, HO41, HO42⟩ : ∃ w4, ((w3.setCell ⟨b, 0, none⟩ (.slice (some ⟨gk, 0, none⟩) h ck)).setCell ⟨b, 1, none⟩ (.slice (some ⟨gr, 0, none⟩) h cr)).drew = w4 ∧ Hid (Chg (fun k => k = b) w w4) ∧
      Hid (Blk w4 b 62 #[.slice (some ⟨gk, 0, none⟩) h ck, .slice (some ⟨gr, 0, none⟩) h cr, .slice none 0 0]) ∧
      Hid (Blk w4 b2 62 #[.slice (some ⟨g1, 0, none⟩) (n - h) c1, .slice (some ⟨g2, 0, none⟩) (n - h) c2, .slice none 0 0]) ∧
      Hid (Own w4 9 (.slice (some ⟨g1, 0, none⟩) (n - h) c1) (strs (ks.drop h))) ∧ Hid (Own w4 3 (.slice (some ⟨g2, 0, none⟩) (n - h) c2) (nums (rs.drop h))) := by
    obtain ⟨x1, x2⟩ := two_sets HB3.out 0 1 (.slice (some ⟨gk, 0, none⟩) h ck) (.slice (some ⟨gr, 0, none⟩) h cr)
    exact ⟨_, rfl, (HX.out.mono (fun _ _ h => h.elim)).trans x2, x1, HB2.out.chg x2 hbb2, HO1.out.chg x2 (fun g hg => by injection hg with hg; rw [← hg]; exact hbg1), HO2.out.chg x2 (fun g hg => by injection hg with hg; rw [← hg]; exact hbg2)⟩
  rw [hw4]
  clear hw4 k0 k1 f0 f1
  have k2 : w4.cell? ⟨b2, 0, none⟩ = some (.slice (some ⟨g1, 0, none⟩) (n - h) c1) := HB42.out.cell_ rfl
  have k3 : w4.cell? ⟨g1, 0, none⟩ = some (.string m) := HO41.out.cell (by rw [strs, List.getElem?_map, List.getElem?_drop, Nat.add_zero, HM.out]; rfl)
  have k4 : 0 < n - h := by omega
  have k5 : (0 : Int) < ((n - h : Nat) : Int) := by omega
  go_wp2_with fail
  go_quiet (fail)
  go_wp2_with fail
  refine HP.out _ _ b2 g1 c1 g2 c2 m ?_ HM.out hbd1 hg1w hg2w (by omega) (by omega) (by omega) (HB4.out.drewN _) (HB42.out.drewN _) (HO41.out.chg ((Chg.refl (fun _ => False) w4).drewN _) (fun _ _ h => h)) (HO42.out.chg ((Chg.refl (fun _ => False) w4).drewN _) (fun _ _ h => h)) (HX4.out.drewN _)
  first | rfl | simp
/-- What half leaves, of an inner node: kn keys, n children. -/
def HalfInner (w : World) (b gk ck gc cc h : Nat) (ks : List ByteArray) (bs : List Nat) (e : Ending) (w' : World) : Prop :=
  ∃ b2 g1 c1 g2 c2 m, e = .returned (.tuple #[ptr b2, .string m]) ∧ ks[h - 1]? = some m ∧ w.heap.size ≤ b2 ∧ w.heap.size ≤ g1 ∧ w.heap.size ≤ g2 ∧ b2 ≠ g1 ∧ b2 ≠ g2 ∧ g1 ≠ g2 ∧
    Blk w' b 62 #[.slice (some ⟨gk, 0, none⟩) (h - 1) ck, .slice none 0 0, .slice (some ⟨gc, 0, none⟩) h cc] ∧
    Blk w' b2 62 #[.slice (some ⟨g1, 0, none⟩) (ks.length - h) c1, .slice none 0 0, .slice (some ⟨g2, 0, none⟩) (bs.length - h) c2] ∧
    Own w' 9 (.slice (some ⟨g1, 0, none⟩) (ks.length - h) c1) (strs (ks.drop h)) ∧ Own w' 59 (.slice (some ⟨g2, 0, none⟩) (bs.length - h) c2) (ptrs (bs.drop h)) ∧ Chg (fun k => k = b) w w'

set_option maxHeartbeats 2000000 in
set_option maxRecDepth 100000 in
theorem half_inner (w : World) (b gk ck gc cc kn n h : Nat) (ks : List ByteArray) (bs : List Nat) (hn : ks.length = kn) (hrn : bs.length = n) (hkn : kn + 1 = n) (h2 : 3 ≤ n) (hh : h = n / 2) (hbig : n ≤ 1000000)
    (hb : Blk w b 62 #[.slice (some ⟨gk, 0, none⟩) kn ck, .slice none 0 0, .slice (some ⟨gc, 0, none⟩) n cc])
    (hk : Own w 9 (.slice (some ⟨gk, 0, none⟩) kn ck) (strs ks)) (hr : Own w 59 (.slice (some ⟨gc, 0, none⟩) n cc) (ptrs bs)) :
    Calls Try.prog 35 #[ptr b] w (HalfInner w b gk ck gc cc h ks bs) := by
  unfold ptr
  obtain ⟨R, hR⟩ : ∃ R, R = HalfInner w b gk ck gc cc h ks bs := ⟨_, rfl⟩
  rw [← hR]
  have hkc : w.cell? ⟨b, 0, none⟩ = some (.slice (some ⟨gk, 0, none⟩) kn ck) := hb.cell_ rfl
  have hrc : w.cell? ⟨b, 2, none⟩ = some (.slice (some ⟨gc, 0, none⟩) n cc) := hb.cell_ rfl
  have hbw := hb.lt
  have hn2 : n = 2 * h ∨ n = 2 * h + 1 := by omega
  have hh' : ((n : Int) / 2) = (h : Int) := by omega
  have HH := Lib.hid hh'
  have hck : kn ≤ ck := by have := hk.open_ (by simp); obtain ⟨_, _, _, e, _, h1, _⟩ := this; rw [← e] at h1; exact h1
  have hcr : n ≤ cc := by have := hr.open_ (by simp); obtain ⟨_, _, _, e, _, h1, _⟩ := this; rw [← e] at h1; exact h1
  have hRk : Hid (∀ W, Chg (fun _ => False) w W → Reads W (some ⟨gk, h, none⟩) (kn - h) (strs (ks.drop h))) := fun W hc => by
    have := (Reads.tail hk (k := h) (by simp [strs]; omega)).chg hc (fun _ _ h => h)
    simpa [strs, List.map_drop] using this
  have hRr : Hid (∀ W, Chg (fun _ => False) w W → Reads W (some ⟨gc, h, none⟩) (n - h) (ptrs (bs.drop h))) := fun W hc => by
    have := (Reads.tail hr (k := h) (by simp [ptrs]; omega)).chg hc (fun _ _ h => h)
    simpa [ptrs, List.map_drop] using this
  have HB := Lib.hid hb
  have HK := Lib.hid hk
  have HN := Lib.hid hn
  have HRN := Lib.hid hrn
  have h1 : (0 : Int) ≤ (h : Int) := by omega
  have h3 : (h : Int) ≤ (n : Int) := by omega
  have h3' : (h : Int) ≤ (kn : Int) := by omega
  have h4 : h ≤ n := by omega
  have h4' : h ≤ kn := by omega
  have h9 : h < kn := by omega
  have h10 : 1 ≤ h := by omega
  have h5 : ¬ (ck = h) := by omega
  have h6 : ¬ (cc = h) := by omega
  have h7 : h ≤ ck := by omega
  have h8 : h ≤ cc := by omega
  have HP : Hid (∀ e w' b2 g1 c1 g2 c2 m, e = .returned (.tuple #[ptr b2, .string m]) → ks[h - 1]? = some m → w.heap.size ≤ b2 → w.heap.size ≤ g1 → w.heap.size ≤ g2 → b2 ≠ g1 → b2 ≠ g2 → g1 ≠ g2 →
    Blk w' b 62 #[.slice (some ⟨gk, 0, none⟩) (h - 1) ck, .slice none 0 0, .slice (some ⟨gc, 0, none⟩) h cc] →
    Blk w' b2 62 #[.slice (some ⟨g1, 0, none⟩) (kn - h) c1, .slice none 0 0, .slice (some ⟨g2, 0, none⟩) (n - h) c2] →
    Own w' 9 (.slice (some ⟨g1, 0, none⟩) (kn - h) c1) (strs (ks.drop h)) → Own w' 59 (.slice (some ⟨g2, 0, none⟩) (n - h) c2) (ptrs (bs.drop h)) → Chg (fun k => k = b) w w' → R e w') := by
    intro e w' b2 g1 c1 g2 c2 m a1 a2 a3 a4 a5 a6 a7 a8 a9 a10 a11 a12 a13
    rw [hR]
    rw [← hn, ← hrn] at a10
    rw [← hn] at a11
    rw [← hrn] at a12
    exact ⟨b2, g1, c1, g2, c2, m, a1, a2, a3, a4, a5, a6, a7, a8, a9, a10, a11, a12, a13⟩
  clear hb hk hr hn hrn hR hh hh' hn2
  go_enter Try.func35, Try.ntmps35
  go_wp2_with (go_at_call 34; refine (size_inner _ b gc n cc hrc).mono ?_; rintro e w' ⟨rfl, rfl⟩)
  rw [HH.out]
  go_region_held3 (fun w' => w'.cell? ⟨b, 0, none⟩ = some (.slice (some ⟨gk, 0, none⟩) kn ck) ∧ w'.cell? ⟨b, 2, none⟩ = some (.slice (some ⟨gc, 0, none⟩) n cc) ∧ Chg (fun _ => False) w w')
    (first
      | exact ⟨hkc, hrc, (Chg.refl _ w).drew⟩
      | exact keep2 hbw (by assumption) hch1
      | exact keep2 hbw (by assumption) hch2
      | exact keep2 hbw (by assumption) ((Chg.refl _ _).alloc _))
    (first
      | (go_at_call 50; refine (clone_string _ _ _ _ _ (hRk.out _ (by have hS : _ ∧ _ ∧ Chg _ w _ := (by assumption); exact hS.2.2)) (by omega) (by omega) (one_strs _)).mono ?_; rintro e w1 ⟨g1, c1, rfl, hown1, hg1, hch1⟩)
      | (go_at_call 52; refine (clone_node _ _ _ _ _ (hRr.out _ (by have hS : _ ∧ _ ∧ Chg _ w _ := (by assumption); exact hS.2.2)) (by omega) (by omega) (one_ptrs _)).mono ?_; rintro e w2 ⟨g2, c2, rfl, hown2, hg2, hch2⟩))
  have hl1 : (strs (ks.drop h)).length = kn - h := by simp [strs, HN.out]
  have hl2 : (ptrs (bs.drop h)).length = n - h := by simp [ptrs, HRN.out]
  rw [hl1] at hown1 ⊢
  rw [hl2] at hown2 ⊢
  have hb2w : w.heap.size ≤ w2.heap.size := by have h1 := hch1.size; have h2 := hch2.size; simp at h1; omega
  have hg1w : w.heap.size ≤ g1 := by simp at hg1; omega
  have hg2w : w.heap.size ≤ g2 := by have h1 := hch1.size; simp at h1; omega
  have hg1l := hown1.lt (g := g1) rfl
  have hg2l := hown2.lt (g := g2) rfl
  have hs12 := hch2.size
  obtain ⟨b2, hb2⟩ : ∃ b2, w2.heap.size = b2 := ⟨_, rfl⟩
  obtain ⟨w3, hw3, HX, HB2, HO1, HO2⟩ : ∃ w3, w2.alloc (.cells #[.slice (some ⟨g1, 0, none⟩) (kn - h) c1, .slice none 0 0, .slice (some ⟨g2, 0, none⟩) (n - h) c2] 62) = w3 ∧ Hid (Chg (fun _ => False) w w3) ∧
      Hid (Blk w3 b2 62 #[.slice (some ⟨g1, 0, none⟩) (kn - h) c1, .slice none 0 0, .slice (some ⟨g2, 0, none⟩) (n - h) c2]) ∧
      Hid (Own w3 9 (.slice (some ⟨g1, 0, none⟩) (kn - h) c1) (strs (ks.drop h))) ∧ Hid (Own w3 59 (.slice (some ⟨g2, 0, none⟩) (n - h) c2) (ptrs (bs.drop h))) :=
    ⟨_, rfl, ((((Chg.refl _ w).drew).trans hch1).trans hch2).alloc _, hb2 ▸ Blk.new _ _ _, hown1.chg (hch2.alloc _) (fun _ _ h => h), hown2.chg ((Chg.refl (fun _ => False) w2).alloc _) (fun _ _ h => h)⟩
  rw [hw3]
  have hbd1 : w.heap.size ≤ b2 := by omega
  have hbd2 : g1 < b2 := by omega
  have hbd3 : g2 < b2 := by omega
  have hbd4 : g1 < g2 := by omega
  clear hw3 hch1 hch2 hown1 hown2
  rw [hb2]
  clear hb2
  have hb3 := HB.out.chg HX.out id
  obtain ⟨m, hm⟩ : ∃ m, ks[h - 1]? = some m := ⟨_, List.getElem?_eq_getElem (by rw [HN.out]; omega)⟩
  have HM := Lib.hid hm
  have k0 : w3.cell? ⟨b, 0, none⟩ = some (.slice (some ⟨gk, 0, none⟩) kn ck) := hb3.cell_ rfl
  have k1 : w3.cell? ⟨b, 2, none⟩ = some (.slice (some ⟨gc, 0, none⟩) n cc) := hb3.cell_ rfl
  have k2 : w3.cell? ⟨gk, h - 1, none⟩ = some (.string m) := (HK.out.chg HX.out (fun _ _ h => h)).cell (by rw [strs, List.getElem?_map, hm]; rfl)
  have f0 := hb3.frozen 0
  have f1 := hb3.frozen 2
  have i1 : (0 : Int) ≤ (h : Int) - 1 := by omega
  have i2 : ((h : Int) - 1).toNat = h - 1 := by omega
  have i3 : (h : Int) - 1 < (kn : Int) := by omega
  have i4 : (h : Int) - 1 ≤ (kn : Int) := by omega
  have i5 : h - 1 ≤ ck := by omega
  have i6 : h - 1 ≤ kn := by omega
  have HB3 := Lib.hid hb3
  clear hb3 hkc hrc hm
  go_wp2_with fail
  have hw1 : IntKind.i64.wrap ((h : Int) - 1) = (h : Int) - 1 := by rw [IntKind.wrap_i64]; omega
  go_region
  clear hw1
  have hbb2 : b2 ≠ b := by omega
  have hbg1 : g1 ≠ b := by omega
  have hbg2 : g2 ≠ b := by omega
  obtain ⟨w4, hw4, HX4, HB4, HB42, HO41, HO42⟩ : ∃ w4, ((w3.setCell ⟨b, 0, none⟩ (.slice (some ⟨gk, 0, none⟩) (h - 1) ck)).setCell ⟨b, 2, none⟩ (.slice (some ⟨gc, 0, none⟩) h cc)).drew = w4 ∧ Hid (Chg (fun k => k = b) w w4) ∧
      Hid (Blk w4 b 62 #[.slice (some ⟨gk, 0, none⟩) (h - 1) ck, .slice none 0 0, .slice (some ⟨gc, 0, none⟩) h cc]) ∧
      Hid (Blk w4 b2 62 #[.slice (some ⟨g1, 0, none⟩) (kn - h) c1, .slice none 0 0, .slice (some ⟨g2, 0, none⟩) (n - h) c2]) ∧
      Hid (Own w4 9 (.slice (some ⟨g1, 0, none⟩) (kn - h) c1) (strs (ks.drop h))) ∧ Hid (Own w4 59 (.slice (some ⟨g2, 0, none⟩) (n - h) c2) (ptrs (bs.drop h))) := by
    obtain ⟨x1, x2⟩ := two_sets HB3.out 0 2 (.slice (some ⟨gk, 0, none⟩) (h - 1) ck) (.slice (some ⟨gc, 0, none⟩) h cc)
    exact ⟨_, rfl, (HX.out.mono (fun _ _ h => h.elim)).trans x2, x1, HB2.out.chg x2 hbb2, HO1.out.chg x2 (fun g hg => by injection hg with hg; rw [← hg]; exact hbg1), HO2.out.chg x2 (fun g hg => by injection hg with hg; rw [← hg]; exact hbg2)⟩
  rw [hw4]
  clear hw4 k0 k1 k2 f0 f1
  go_wp2_with fail
  refine HP.out _ _ b2 g1 c1 g2 c2 m ?_ HM.out hbd1 hg1w hg2w (by omega) (by omega) (by omega) HB4.out HB42.out HO41.out HO42.out HX4.out
  first | rfl | simp

end Go.Proofs.Ythndplpbnfihdaa
