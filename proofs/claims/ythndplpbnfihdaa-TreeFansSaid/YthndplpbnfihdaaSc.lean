/-
  slices.Clone, slices.Insert of one element and slices.Delete of one element over rows that read as lists. Conditions: lists are short.
-/
import Derived.Test.YthndplpbnfihdaaProg
import Derived.Test.YthndplpbnfihdaaSl
import Derived.KernelRfl
import Derived.Deep.RegionLaw
set_option linter.unusedVariables false
set_option linter.unusedSimpArgs false
namespace Go.Proofs.Ythndplpbnfihdaa
open Go.RowKit

/-- A new row with the list xs. -/
def FreshRow (w : World) (E : TypeId) (xs : List Value) (e : Ending) (w' : World) : Prop :=
  ∃ g c, e = .returned (.slice (some ⟨g, 0, none⟩) xs.length c) ∧ Own w' E (.slice (some ⟨g, 0, none⟩) xs.length c) xs ∧ w.heap.size ≤ g ∧ Chg (fun _ => False) w w'

/-- The row v turned into one with the list xs: in place, or a new one. -/
def RowPost (w : World) (E : TypeId) (v : Value) (xs : List Value) (e : Ending) (w' : World) : Prop :=
  ∃ g c, e = .returned (.slice (some ⟨g, 0, none⟩) xs.length c) ∧ Own w' E (.slice (some ⟨g, 0, none⟩) xs.length c) xs ∧ (v.ownBlock = some g ∨ w.heap.size ≤ g) ∧ Chg (fun k => v.ownBlock = some k) w w'

theorem oneCells_take {xs : List Value} (h : OneCells xs) (k : Nat) : OneCells (xs.take k) := fun u hu => h u (List.mem_of_mem_take hu)
theorem oneCells_drop {xs : List Value} (h : OneCells xs) (k : Nat) : OneCells (xs.drop k) := fun u hu => h u (List.mem_of_mem_drop hu)

theorem insert_lists {α : Type} (xs : List α) (x z : α) (i : Nat) (hi : i ≤ xs.length) (Z : List α) (hZ : Z.length = xs.length + 1 - i) :
    splice (splice (xs.take i ++ Z) i [x]) (i + 1) (xs.drop i) = xs.take i ++ x :: xs.drop i := by
  have hl : (xs.take i).length = i := by simp; omega
  unfold splice
  have e1 : (xs.take i ++ Z).take i = xs.take i := by rw [List.take_append_of_le_length (by omega)]; exact List.take_of_length_le (by omega)
  have e2 : (xs.take i ++ Z).drop (i + [x].length) = Z.drop 1 := by rw [List.drop_append]; simp [hl]
  rw [e1, e2]
  have e3 : (xs.take i ++ ([x] ++ Z.drop 1)).take (i + 1) = xs.take i ++ [x] := by
    rw [← List.append_assoc, List.take_append_of_le_length (by simp; omega)]; exact List.take_of_length_le (by simp; omega)
  have e4 : (xs.take i ++ ([x] ++ Z.drop 1)).drop (i + 1 + (xs.drop i).length) = [] := by
    apply List.drop_eq_nil_of_le; simp; omega
  rw [e3, e4]; simp

theorem shift_lists {α : Type} (xs : List α) (x j : α) (i : Nat) (hi : i ≤ xs.length) :
    splice (splice (xs ++ [j]) (i + 1) (xs.drop i)) i [x] = xs.take i ++ x :: xs.drop i := by
  unfold splice
  have e4 : (xs ++ [j]).drop (i + 1 + (xs.drop i).length) = [] := by
    apply List.drop_eq_nil_of_le; simp; omega
  rw [e4, List.append_nil]
  have e1 : ((xs ++ [j]).take (i + 1) ++ xs.drop i).take i = xs.take i := by
    rw [List.take_append_of_le_length (by simp; omega), List.take_take, Nat.min_eq_left (by omega), List.take_append_of_le_length hi]
  have e2 : ((xs ++ [j]).take (i + 1) ++ xs.drop i).drop (i + [x].length) = xs.drop i := by
    have : ((xs ++ [j]).take (i + 1)).length = i + 1 := by simp; omega
    rw [List.drop_append]; simp [this]
  rw [e1, e2]; simp

theorem slt_string : SlT Try.prog 22 9 (.string ⟨#[]⟩) 16 where
  ht := Try.underlying22
  info := by kernel_rfl
  hz := rfl
  hz1 := rfl
  hv := Try.zeroValue9
  hb := by omega

set_option maxHeartbeats 1000000 in
theorem clone_string (ad : Addr) (n c : Nat) (xs : List Value) (w : World) (hr : Reads w (some ad) n xs) (h0 : 0 < n) (hbig : n ≤ 1000000) (h1 : OneCells xs) :
    Calls Try.prog 50 #[.slice (some ad) n c] w (FreshRow w 9 xs) := by
  have hnn := fun w => Lib.run_eql_slice_nil (P := Try.prog) w 22 9 (some ad) n c 0 0 Try.underlying22
  have HR : Hid (∀ o, Reads ((w.alloc o)) (some ad) n xs) := fun o => hr.chg ((Chg.refl (fun _ => False) w).alloc o) (fun _ _ h => h)
  have HO : Hid (OneCells xs) := h1
  have HZ : Hid (Own (w.alloc (.cells #[] 9)) 9 (.slice (some ⟨w.heap.size, 0, none⟩) 0 0) []) := Own.close (xs := []) (Blk.new w _ _) (Nat.zero_le _) (by decide) rfl rfl
  have HL := Lib.hid hr.1
  have HP : Hid (∀ (e : Ending) (W : World) (g c : Nat), e = .returned (.slice (some ⟨g, 0, none⟩) n c) → Own W 9 (.slice (some ⟨g, 0, none⟩) n c) xs → w.heap.size ≤ g → Chg (fun _ => False) w W → FreshRow w 9 xs e W) := by
    intro e W g c h2 h3 h4 h5
    rw [← HL.out] at h2 h3
    exact ⟨g, c, h2, h3, h4, h5⟩
  clear hr h1
  go_enter Try.func50, Try.ntmps50
  go_wp2_with (at_builtin; refine wpList_app rfl (.tmp 5) (.tmp 6) rfl slt_string (.slice (some ⟨w.heap.size, 0, none⟩) 0 0) [] rfl HZ.out (some ad) n c rfl xs (HR.out _) HO.out (by simp; omega) ?_; intro A' c' w1 hown hg hb hnil)
  have hA : A' ≠ none := by
    intro h
    have := (hnil.1 h).1
    injection this with h; cases h
  have hown' : Own w1 9 (.slice A' n c') xs := by simpa using hown
  obtain ⟨g, cur, rfl, _⟩ := hown'.open_ hA
  go_ret
  refine HP.out _ _ g c' (by simp) hown' ?_ ?_
  · simp [Value.ownBlock] at hb
    rcases hb with hb | hb <;> omega
  · exact ((Chg.refl (fun _ => False) w).alloc _).grown hg (fun k hk => by simp [Value.ownBlock] at hk; right; omega)

set_option maxHeartbeats 1000000 in
theorem insert_end_string (A : Option Addr) (n c : Nat) (xs : List Value) (x : Value) (vb : Nat) (w : World) (hown : Own w 9 (.slice A n c) xs) (hl : xs.length = n) (hb : Blk w vb 9 #[x])
    (hnc : n ≤ c) (hc63 : c ≤ maxLen) (hx : x.oneCell' = true) (hbig : n + 1 ≤ 1000000) :
    Calls Try.prog 31 #[.slice A n c, .int .i64 n, .slice (some ⟨vb, 0, none⟩) 1 1] w (RowPost w 9 (.slice A n c) (xs ++ [x])) := by
  unfold maxLen at hc63
  obtain ⟨R, hR⟩ : ∃ R, R = RowPost w 9 (.slice A n c) (xs ++ [x]) := ⟨_, rfl⟩
  rw [← hR]
  have HR : Hid (Reads w (some ⟨vb, 0, none⟩) 1 [x]) := ⟨rfl, fun _ => ⟨_, rfl, fun j u hu => by
    cases j with
    | zero => simp at hu; subst hu; rw [add_lit]; exact hb.cell_ rfl
    | succ j => simp at hu⟩⟩
  have H1 : Hid (OneCells [x]) := fun u hu => by simp at hu; subst hu; exact hx
  have HO := Lib.hid hown
  have HL := Lib.hid hl
  have HP : Hid (∀ (e : Ending) (W : World) (g c' : Nat), e = .returned (.slice (some ⟨g, 0, none⟩) (n + 1) c') → Own W 9 (.slice (some ⟨g, 0, none⟩) (n + 1) c') (xs ++ [x]) →
      ((Value.slice A n c).ownBlock = some g ∨ w.heap.size ≤ g) → Chg (fun k => (Value.slice A n c).ownBlock = some k) w W → R e W) := by
    intro e W g c' h2 h3 h4 h5
    rw [hR]
    have : (xs ++ [x]).length = n + 1 := by simp [HL.out]
    rw [← this] at h2 h3
    exact ⟨g, c', h2, h3, h4, h5⟩
  clear hown hl hb hx hR
  go_enter Try.func31, Try.ntmps31
  go_wp2_with (at_builtin; refine wpList_app rfl (.tmp 23) (.tmp 24) rfl slt_string (.slice A n c) xs rfl HO.out (some ⟨vb, 0, none⟩) 1 1 rfl [x] HR.out H1.out (by rw [HL.out]; omega) ?_; intro A' c' w1 hown hg hb hnil)
  all_goals
    have hown' : Own w1 9 (.slice A' (n + 1) c') (xs ++ [x]) := by rw [HL.out] at hown; exact hown
    obtain ⟨g, cur, rfl, _⟩ := hown'.open_ (hown'.some_of_pos (by simp))
    refine HP.out _ _ g c' ?_ hown' ?_ ?_
    · rw [HL.out]
    · rw [HL.out] at hb
      rcases hb with hb | hb
      · left; rw [← hb]; rfl
      · right; simp [Value.ownBlock] at hb; omega
    · exact (Chg.refl _ w).grown hg (fun k hk => .inl hk)

set_option maxHeartbeats 2000000 in
set_option maxRecDepth 100000 in
theorem insert_grow_string (g n c i : Nat) (xs : List Value) (x : Value) (vb : Nat) (w : World) (hown : Own w 9 (.slice (some ⟨g, 0, none⟩) n c) xs) (hl : xs.length = n) (hb : Blk w vb 9 #[x])
    (hin : i < n) (hnc : n ≤ c) (hcn : c < n + 1) (hx : x.oneCell' = true) (h1 : OneCells xs) (hbig : n + 1 ≤ 1000000) :
    Calls Try.prog 31 #[.slice (some ⟨g, 0, none⟩) n c, .int .i64 i, .slice (some ⟨vb, 0, none⟩) 1 1] w (RowPost w 9 (.slice (some ⟨g, 0, none⟩) n c) (xs.take i ++ x :: xs.drop i)) := by
  obtain rfl : c = n := by omega
  obtain ⟨R, hR⟩ : ∃ R, R = RowPost w 9 (.slice (some ⟨g, 0, none⟩) c c) (xs.take i ++ x :: xs.drop i) := ⟨_, rfl⟩
  rw [← hR]
  have hgw : g < w.heap.size := hown.lt rfl
  have hvw : vb < w.heap.size := hb.lt
  have HX : Hid (Blk w vb 9 #[x]) := hb
  have H1x : Hid (OneCells [x]) := fun u hu => by simp at hu; subst hu; exact hx
  have H1 : Hid (OneCells (xs.drop i)) := oneCells_drop h1 i
  have HO := Lib.hid hown
  have HC : Hid (Own w 9 (.slice (some ⟨g, 0, none⟩) i c) (xs.take i)) := hown.cut (by omega) (by simp)
  have HL := Lib.hid hl
  have HLi : Hid ((xs.take i).length = i) := by show (xs.take i).length = i; simp; omega
  have HLd : Hid ((xs.drop i).length = c - i) := by show (xs.drop i).length = c - i; simp; omega
  have HP : Hid (∀ (e : Ending) (W : World) (g' c' : Nat) (zs : List Value), e = .returned (.slice (some ⟨g', 0, none⟩) (c + 1) c') → zs = xs.take i ++ x :: xs.drop i → Own W 9 (.slice (some ⟨g', 0, none⟩) (c + 1) c') zs →
      w.heap.size ≤ g' → Chg (fun _ => False) w W → R e W) := by
    intro e W g' c' zs h2 hz h3 h4 h5
    rw [hR]
    have : (xs.take i ++ x :: xs.drop i).length = c + 1 := by simp [HL.out]; omega
    rw [← this] at h2 h3
    exact ⟨g', c', h2, hz ▸ h3, .inr h4, h5.mono fun _ _ h => h.elim⟩
  have hki : (c : Int) + 1 - (i : Int) = ((c + 1 - i : Nat) : Int) := by omega
  have HKI := Lib.hid hki
  have hci : ¬ (c = i) := by omega
  have hii : ¬ ((i : Int) = (c : Int)) := by omega
  have hi1 : (0 : Int) ≤ (i : Int) + 1 := by omega
  have hi2 : ((i : Int) + 1).toNat = i + 1 := by omega
  clear hown hl hb hx hR h1 hki hcn hnc
  go_enter Try.func31, Try.ntmps31
  go_wp2_with (at_builtin; rw [HKI.out]; refine wpList_app_zeros rfl (.tmp 34) (.tmp 39) 3 rfl slt_string Try.underlying3 (some ⟨g, 0, none⟩) i c (xs.take i) rfl HC.out (c + 1 - i) rfl (by omega) (by rw [HLi.out]; omega) (by rw [HLi.out]; omega) ?_; rw [HLi.out, show i + (c + 1 - i) = c + 1 by omega]; intro c1 w1 hown1 hg1 hc1; have hci1 : ¬ (c1 = i) := (by omega); have hci2 : ¬ (c1 = i + 1) := (by omega))
  have hch1 : Chg (fun _ => False) w w1 := (Chg.refl _ w).grown hg1 (fun k hk => by cases hk)
  obtain ⟨w2, hr2, hown2, hg2⟩ := run_cpy slt_string hown1 (dp := some ⟨w.heap.size, i, none⟩) (dLen := c + 1 - i) (dCap := c1 - i) (off := i) (A := some ⟨vb, 0, none⟩) (m := 1) (cs := [x])
    (by simp [Nat.min_def]; omega) (fun _ => ⟨rfl, _, rfl, fun j u hu => by
      cases j with
      | zero => simp at hu; subst hu; rw [add_lit]; exact (HX.out.chg hch1 id).cell_ rfl
      | succ j => simp at hu⟩) H1x.out (by simp [HLi.out]; omega) 3 1
  rw [hr2]
  have hch2 : Chg (fun _ => False) w w2 := hch1.grown hg2 (fun k hk => by injection hk with hk; right; omega)
  clear hr2 hg1 hg2 hown1
  have H2 := Lib.hid hown2
  have HLs : Hid ((splice (xs.take i ++ List.replicate (c + 1 - i) (.string ⟨#[]⟩)) i [x]).length = c + 1) := by
    show (splice (xs.take i ++ List.replicate (c + 1 - i) (.string ⟨#[]⟩)) i [x]).length = c + 1
    rw [length_splice _ _ _ (by simp [HLi.out]; omega)]; simp [HLi.out]; omega
  have HC2 := Lib.hid hch2
  have HS : Hid (∀ (j : Nat) (u : Value), (xs.drop i)[j]? = some u → ∀ n, (w2.drewN n).cell? ((⟨g, i, none⟩ : Addr).add j) = some u) := by
    intro j u hu n
    rw [add_lit]
    rw [List.getElem?_drop] at hu
    show w2.cell? _ = _
    rw [hch2.cell hgw id]
    exact HO.out.cell hu
  clear hown2 hch1 hch2
  go_wp2_with fail
  have hw1 : IntKind.i64.wrap ((i : Int) + 1) = (i : Int) + 1 := by rw [IntKind.wrap_i64]; omega
  have hin' : i ≤ c := by omega
  go_region_law (refine step_cpy rfl (.tmp 50) (.tmp 53) rfl slt_string w.heap.size (c + 1) c1 _ (by exact H2.out) (some ⟨w.heap.size, i + 1, none⟩) (c + 1 - (i + 1)) (c1 - (i + 1)) (i + 1) (some ⟨g, i, none⟩) (c - i) (c - i) (xs.drop i) (by simp [Act.eval, Act.put]) (by simp [Act.eval, Act.put]) (by rw [HLd.out]; simp only [Nat.min_def]; split <;> omega) (fun _ => ⟨rfl, _, rfl, fun j u hu => HS.out j u hu 1⟩) H1.out (by rw [HLs.out, HLd.out]; omega) ?_; intro w3 hown3 hg3)
  clear hw1
  go_wp2_with fail
  have H3 := Lib.hid hown3
  refine HP.out _ _ _ _ _ rfl ?_ H3.out (Nat.le_refl _) ?_
  · exact insert_lists xs x (.string ⟨#[]⟩) i (by rw [HL.out]; omega) _ (by simp [HL.out])
  · exact (HC2.out.drew).grown hg3 (fun k hk => by injection hk with hk; right; omega)

set_option maxHeartbeats 2000000 in
set_option maxRecDepth 100000 in
theorem insert_shift_string (g n c i : Nat) (xs : List Value) (x : Value) (vb : Nat) (w : World) (hown : Own w 9 (.slice (some ⟨g, 0, none⟩) n c) xs) (hl : xs.length = n) (hb : Blk w vb 9 #[x]) (hvg : vb ≠ g)
    (hin : i < n) (hcn : n + 1 ≤ c) (hx : x.oneCell' = true) (h1 : OneCells xs) (hbig : n + 1 ≤ 1000000) (hc63 : c ≤ maxLen) :
    Calls Try.prog 31 #[.slice (some ⟨g, 0, none⟩) n c, .int .i64 i, .slice (some ⟨vb, 0, none⟩) 1 1] w (RowPost w 9 (.slice (some ⟨g, 0, none⟩) n c) (xs.take i ++ x :: xs.drop i)) := by
  unfold maxLen at hc63
  obtain ⟨R, hR⟩ : ∃ R, R = RowPost w 9 (.slice (some ⟨g, 0, none⟩) n c) (xs.take i ++ x :: xs.drop i) := ⟨_, rfl⟩
  rw [← hR]
  obtain ⟨g', cur, hg', hn', hblk, hl1, hl2, hl3, hl4⟩ := hown.open_ (by simp)
  injection hg' with hg'; injection hg' with hg' _; subst hg'
  -- the row with one element more
  obtain ⟨y, hy⟩ : ∃ y, cur[n]? = some y := ⟨_, Array.getElem?_eq_getElem (by omega)⟩
  have hE : Own w 9 (.slice (some ⟨g, 0, none⟩) (n + 1) c) (xs ++ [y]) := by
    have hlen : (xs ++ [y]).length = n + 1 := by simp [hl]
    have := Own.close (xs := xs ++ [y]) (e := 9) hblk (c := c) (by rw [hlen]; exact hcn) hl2 hl3 (by
      rw [hlen, List.take_add_one, show cur.toList.take n = xs by rw [← hl]; exact hl4]
      simp [hy])
    rwa [hlen] at this
  have hgw : g < w.heap.size := hown.lt rfl
  have HX : Hid (Blk w vb 9 #[x]) := hb
  have H1x : Hid (OneCells [x]) := fun u hu => by simp at hu; subst hu; exact hx
  have H1 : Hid (OneCells (xs.drop i)) := oneCells_drop h1 i
  have HE := Lib.hid hE
  have HL := Lib.hid hl
  have HLd : Hid ((xs.drop i).length = n - i) := by show (xs.drop i).length = n - i; simp; omega
  have HP : Hid (∀ (e : Ending) (W : World) (zs : List Value), e = .returned (.slice (some ⟨g, 0, none⟩) (n + 1) c) → zs = xs.take i ++ x :: xs.drop i → Own W 9 (.slice (some ⟨g, 0, none⟩) (n + 1) c) zs →
      Chg (fun k => k = g) w W → R e W) := by
    intro e W zs h2 hz h3 h5
    rw [hR]
    have : (xs.take i ++ x :: xs.drop i).length = n + 1 := by simp [HL.out]; omega
    rw [← this] at h2 h3
    exact ⟨g, c, h2, hz ▸ h3, .inl rfl, h5.mono fun k _ h => by subst h; rfl⟩
  have HS : Hid (∀ (j : Nat) (u : Value), (xs.drop i)[j]? = some u → (w.drew).cell? ((⟨g, i, none⟩ : Addr).add j) = some u) := by
    intro j u hu
    rw [add_lit]
    rw [List.getElem?_drop] at hu
    exact hown.cell hu
  have hov : ∀ lb cb, (callFunc 46 #[.slice (some ⟨vb, 0, none⟩) 1 1, .slice (some ⟨g, i + 1, none⟩) lb cb]).run Try.prog w = .ok (.value (.bool false)) w := fun lb cb => by
    rw [run_callFunc_extern Try.func46 (by kernel_rfl) (by kernel_rfl) (by kernel_rfl) (e := Extern.SlicesOverlaps.overlaps #[22, 22] #[4]) (by kernel_rfl),
      Lib.run_overlaps_apart w 22 4 9 Try.underlying22 1 Try.sizeOf9 ⟨vb, 0, none⟩ ⟨g, i + 1, none⟩ 1 1 lb cb hvg 9 9 1 c (by simp only [World.shape?, show w.heap[vb]? = _ from hb]; rfl) (by simp only [World.shape?, show w.heap[g]? = _ from hblk, hl3]) (by omega) (hb.frozen 0) (hb.frozen 1)]
    rfl
  have hci : ¬ (c = i) := by omega
  have hci2 : ¬ (c = i + 1) := by omega
  have hii : ¬ ((i : Int) = (n : Int)) := by omega
  have hi1 : (0 : Int) ≤ (i : Int) + 1 := by omega
  have hi2 : ((i : Int) + 1).toNat = i + 1 := by omega
  have hi3 : i ≤ n := by omega
  clear hown hl hb hx hR h1 hblk hl1 hl2 hl3 hl4 hn' hE hy
  go_enter Try.func31, Try.ntmps31
  go_wp2_with (simp only [hov])
  have hw1 : IntKind.i64.wrap ((i : Int) + 1) = (i : Int) + 1 := by rw [IntKind.wrap_i64]; omega
  have hi4 : (i : Int) ≤ (n : Int) + 1 := by omega
  have hi5 : i ≤ n + 1 := by omega
  go_region_law (refine step_cpy rfl (.tmp 73) (.tmp 76) rfl slt_string g (n + 1) c _ (by exact HE.out) (some ⟨g, i + 1, none⟩) (n - i) (c - (i + 1)) (i + 1) (some ⟨g, i, none⟩) (n + 1 - i) (c - i) (xs.drop i) (by simp [Act.eval, Act.put]) (by simp [Act.eval, Act.put]) (by rw [HLd.out]; simp only [Nat.min_def]; split <;> omega) (fun _ => ⟨rfl, _, rfl, HS.out⟩) H1.out (by rw [HLd.out]; simp [HL.out]; omega) ?_; intro w2 hown2 hg2)
  clear hw1 hov
  have H2 := Lib.hid hown2
  have hch2 : Chg (fun k => k = g) w w2 := ((Chg.refl _ w).drew).grown hg2 (fun k hk => by injection hk with hk; exact .inl hk.symm)
  have HC2 := Lib.hid hch2
  clear hown2 hch2 hg2
  go_wp2_with fail
  obtain ⟨w3, hr3, hown3, hg3⟩ := run_cpy slt_string H2.out (dp := some ⟨g, i, none⟩) (dLen := n + 1 - i) (dCap := c - i) (off := i) (A := some ⟨vb, 0, none⟩) (m := 1) (cs := [x])
    (by simp [Nat.min_def]; omega) (fun _ => ⟨rfl, _, rfl, fun j u hu => by
      cases j with
      | zero => simp at hu; subst hu; rw [add_lit]; exact (HX.out.chg HC2.out hvg).cell_ rfl
      | succ j => simp at hu⟩) H1x.out (by rw [length_splice _ _ _ (by simp [HL.out, HLd.out]; omega)]; simp [HL.out]; omega) 3 1
  rw [hr3]
  have H3 := Lib.hid hown3
  clear hr3 hown3
  go_wp2_with fail
  refine HP.out _ _ _ rfl ?_ H3.out ?_
  · exact shift_lists xs x y i (by rw [HL.out]; omega)
  · exact HC2.out.grown hg3 (fun k hk => by injection hk with hk; exact .inl hk.symm)

theorem insert_string (v : Value) (xs : List Value) (x : Value) (i vb : Nat) (w : World) (hown : Own w 9 v xs) (hi : i ≤ xs.length) (hb : Blk w vb 9 #[x]) (hne : v.ownBlock ≠ some vb)
    (h1 : OneCells xs) (hx : x.oneCell' = true) (hbig : xs.length + 1 ≤ 1000000) :
    Calls Try.prog 31 #[v, .int .i64 i, .slice (some ⟨vb, 0, none⟩) 1 1] w (RowPost w 9 v (xs.take i ++ x :: xs.drop i)) := by
  obtain ⟨A, c, rfl, hnc, hc⟩ := hown.shape
  rcases Nat.lt_or_ge i xs.length with h | h
  · obtain ⟨g, cur, rfl, _⟩ := hown.open_ (hown.some_of_pos (by omega))
    rcases Nat.lt_or_ge c (xs.length + 1) with hr | hr
    · exact insert_grow_string g _ c i xs x vb w hown rfl hb h hnc hr hx h1 hbig
    · exact insert_shift_string g _ c i xs x vb w hown rfl hb (by intro e; subst e; exact hne rfl) h hr hx h1 hbig hc
  · obtain rfl : i = xs.length := by omega
    have := insert_end_string A _ c xs x vb w hown rfl hb hnc hc hx hbig
    simpa using this
theorem slt_int : SlT Try.prog 40 3 (.int .i64 0) 8 where
  ht := Try.underlying40
  info := by kernel_rfl
  hz := rfl
  hz1 := rfl
  hv := Try.zeroValue3
  hb := by omega

set_option maxHeartbeats 1000000 in
theorem clone_int (ad : Addr) (n c : Nat) (xs : List Value) (w : World) (hr : Reads w (some ad) n xs) (h0 : 0 < n) (hbig : n ≤ 1000000) (h1 : OneCells xs) :
    Calls Try.prog 51 #[.slice (some ad) n c] w (FreshRow w 3 xs) := by
  have hnn := fun w => Lib.run_eql_slice_nil (P := Try.prog) w 40 3 (some ad) n c 0 0 Try.underlying40
  have HR : Hid (∀ o, Reads ((w.alloc o)) (some ad) n xs) := fun o => hr.chg ((Chg.refl (fun _ => False) w).alloc o) (fun _ _ h => h)
  have HO : Hid (OneCells xs) := h1
  have HZ : Hid (Own (w.alloc (.cells #[] 3)) 3 (.slice (some ⟨w.heap.size, 0, none⟩) 0 0) []) := Own.close (xs := []) (Blk.new w _ _) (Nat.zero_le _) (by decide) rfl rfl
  have HL := Lib.hid hr.1
  have HP : Hid (∀ (e : Ending) (W : World) (g c : Nat), e = .returned (.slice (some ⟨g, 0, none⟩) n c) → Own W 3 (.slice (some ⟨g, 0, none⟩) n c) xs → w.heap.size ≤ g → Chg (fun _ => False) w W → FreshRow w 3 xs e W) := by
    intro e W g c h2 h3 h4 h5
    rw [← HL.out] at h2 h3
    exact ⟨g, c, h2, h3, h4, h5⟩
  clear hr h1
  go_enter Try.func51, Try.ntmps51
  go_wp2_with (at_builtin; refine wpList_app rfl (.tmp 5) (.tmp 6) rfl slt_int (.slice (some ⟨w.heap.size, 0, none⟩) 0 0) [] rfl HZ.out (some ad) n c rfl xs (HR.out _) HO.out (by simp; omega) ?_; intro A' c' w1 hown hg hb hnil)
  have hA : A' ≠ none := by
    intro h
    have := (hnil.1 h).1
    injection this with h; cases h
  have hown' : Own w1 3 (.slice A' n c') xs := by simpa using hown
  obtain ⟨g, cur, rfl, _⟩ := hown'.open_ hA
  go_ret
  refine HP.out _ _ g c' (by simp) hown' ?_ ?_
  · simp [Value.ownBlock] at hb
    rcases hb with hb | hb <;> omega
  · exact ((Chg.refl (fun _ => False) w).alloc _).grown hg (fun k hk => by simp [Value.ownBlock] at hk; right; omega)

set_option maxHeartbeats 1000000 in
theorem insert_end_int (A : Option Addr) (n c : Nat) (xs : List Value) (x : Value) (vb : Nat) (w : World) (hown : Own w 3 (.slice A n c) xs) (hl : xs.length = n) (hb : Blk w vb 3 #[x])
    (hnc : n ≤ c) (hc63 : c ≤ maxLen) (hx : x.oneCell' = true) (hbig : n + 1 ≤ 1000000) :
    Calls Try.prog 32 #[.slice A n c, .int .i64 n, .slice (some ⟨vb, 0, none⟩) 1 1] w (RowPost w 3 (.slice A n c) (xs ++ [x])) := by
  unfold maxLen at hc63
  obtain ⟨R, hR⟩ : ∃ R, R = RowPost w 3 (.slice A n c) (xs ++ [x]) := ⟨_, rfl⟩
  rw [← hR]
  have HR : Hid (Reads w (some ⟨vb, 0, none⟩) 1 [x]) := ⟨rfl, fun _ => ⟨_, rfl, fun j u hu => by
    cases j with
    | zero => simp at hu; subst hu; rw [add_lit]; exact hb.cell_ rfl
    | succ j => simp at hu⟩⟩
  have H1 : Hid (OneCells [x]) := fun u hu => by simp at hu; subst hu; exact hx
  have HO := Lib.hid hown
  have HL := Lib.hid hl
  have HP : Hid (∀ (e : Ending) (W : World) (g c' : Nat), e = .returned (.slice (some ⟨g, 0, none⟩) (n + 1) c') → Own W 3 (.slice (some ⟨g, 0, none⟩) (n + 1) c') (xs ++ [x]) →
      ((Value.slice A n c).ownBlock = some g ∨ w.heap.size ≤ g) → Chg (fun k => (Value.slice A n c).ownBlock = some k) w W → R e W) := by
    intro e W g c' h2 h3 h4 h5
    rw [hR]
    have : (xs ++ [x]).length = n + 1 := by simp [HL.out]
    rw [← this] at h2 h3
    exact ⟨g, c', h2, h3, h4, h5⟩
  clear hown hl hb hx hR
  go_enter Try.func32, Try.ntmps32
  go_wp2_with (at_builtin; refine wpList_app rfl (.tmp 23) (.tmp 24) rfl slt_int (.slice A n c) xs rfl HO.out (some ⟨vb, 0, none⟩) 1 1 rfl [x] HR.out H1.out (by rw [HL.out]; omega) ?_; intro A' c' w1 hown hg hb hnil)
  all_goals
    have hown' : Own w1 3 (.slice A' (n + 1) c') (xs ++ [x]) := by rw [HL.out] at hown; exact hown
    obtain ⟨g, cur, rfl, _⟩ := hown'.open_ (hown'.some_of_pos (by simp))
    refine HP.out _ _ g c' ?_ hown' ?_ ?_
    · rw [HL.out]
    · rw [HL.out] at hb
      rcases hb with hb | hb
      · left; rw [← hb]; rfl
      · right; simp [Value.ownBlock] at hb; omega
    · exact (Chg.refl _ w).grown hg (fun k hk => .inl hk)

set_option maxHeartbeats 2000000 in
set_option maxRecDepth 100000 in
theorem insert_grow_int (g n c i : Nat) (xs : List Value) (x : Value) (vb : Nat) (w : World) (hown : Own w 3 (.slice (some ⟨g, 0, none⟩) n c) xs) (hl : xs.length = n) (hb : Blk w vb 3 #[x])
    (hin : i < n) (hnc : n ≤ c) (hcn : c < n + 1) (hx : x.oneCell' = true) (h1 : OneCells xs) (hbig : n + 1 ≤ 1000000) :
    Calls Try.prog 32 #[.slice (some ⟨g, 0, none⟩) n c, .int .i64 i, .slice (some ⟨vb, 0, none⟩) 1 1] w (RowPost w 3 (.slice (some ⟨g, 0, none⟩) n c) (xs.take i ++ x :: xs.drop i)) := by
  obtain rfl : c = n := by omega
  obtain ⟨R, hR⟩ : ∃ R, R = RowPost w 3 (.slice (some ⟨g, 0, none⟩) c c) (xs.take i ++ x :: xs.drop i) := ⟨_, rfl⟩
  rw [← hR]
  have hgw : g < w.heap.size := hown.lt rfl
  have hvw : vb < w.heap.size := hb.lt
  have HX : Hid (Blk w vb 3 #[x]) := hb
  have H1x : Hid (OneCells [x]) := fun u hu => by simp at hu; subst hu; exact hx
  have H1 : Hid (OneCells (xs.drop i)) := oneCells_drop h1 i
  have HO := Lib.hid hown
  have HC : Hid (Own w 3 (.slice (some ⟨g, 0, none⟩) i c) (xs.take i)) := hown.cut (by omega) (by simp)
  have HL := Lib.hid hl
  have HLi : Hid ((xs.take i).length = i) := by show (xs.take i).length = i; simp; omega
  have HLd : Hid ((xs.drop i).length = c - i) := by show (xs.drop i).length = c - i; simp; omega
  have HP : Hid (∀ (e : Ending) (W : World) (g' c' : Nat) (zs : List Value), e = .returned (.slice (some ⟨g', 0, none⟩) (c + 1) c') → zs = xs.take i ++ x :: xs.drop i → Own W 3 (.slice (some ⟨g', 0, none⟩) (c + 1) c') zs →
      w.heap.size ≤ g' → Chg (fun _ => False) w W → R e W) := by
    intro e W g' c' zs h2 hz h3 h4 h5
    rw [hR]
    have : (xs.take i ++ x :: xs.drop i).length = c + 1 := by simp [HL.out]; omega
    rw [← this] at h2 h3
    exact ⟨g', c', h2, hz ▸ h3, .inr h4, h5.mono fun _ _ h => h.elim⟩
  have hki : (c : Int) + 1 - (i : Int) = ((c + 1 - i : Nat) : Int) := by omega
  have HKI := Lib.hid hki
  have hci : ¬ (c = i) := by omega
  have hii : ¬ ((i : Int) = (c : Int)) := by omega
  have hi1 : (0 : Int) ≤ (i : Int) + 1 := by omega
  have hi2 : ((i : Int) + 1).toNat = i + 1 := by omega
  clear hown hl hb hx hR h1 hki hcn hnc
  go_enter Try.func32, Try.ntmps32
  go_wp2_with (at_builtin; rw [HKI.out]; refine wpList_app_zeros rfl (.tmp 34) (.tmp 39) 3 rfl slt_int Try.underlying3 (some ⟨g, 0, none⟩) i c (xs.take i) rfl HC.out (c + 1 - i) rfl (by omega) (by rw [HLi.out]; omega) (by rw [HLi.out]; omega) ?_; rw [HLi.out, show i + (c + 1 - i) = c + 1 by omega]; intro c1 w1 hown1 hg1 hc1; have hci1 : ¬ (c1 = i) := (by omega); have hci2 : ¬ (c1 = i + 1) := (by omega))
  have hch1 : Chg (fun _ => False) w w1 := (Chg.refl _ w).grown hg1 (fun k hk => by cases hk)
  obtain ⟨w2, hr2, hown2, hg2⟩ := run_cpy slt_int hown1 (dp := some ⟨w.heap.size, i, none⟩) (dLen := c + 1 - i) (dCap := c1 - i) (off := i) (A := some ⟨vb, 0, none⟩) (m := 1) (cs := [x])
    (by simp [Nat.min_def]; omega) (fun _ => ⟨rfl, _, rfl, fun j u hu => by
      cases j with
      | zero => simp at hu; subst hu; rw [add_lit]; exact (HX.out.chg hch1 id).cell_ rfl
      | succ j => simp at hu⟩) H1x.out (by simp [HLi.out]; omega) 3 1
  rw [hr2]
  have hch2 : Chg (fun _ => False) w w2 := hch1.grown hg2 (fun k hk => by injection hk with hk; right; omega)
  clear hr2 hg1 hg2 hown1
  have H2 := Lib.hid hown2
  have HLs : Hid ((splice (xs.take i ++ List.replicate (c + 1 - i) (.int .i64 0)) i [x]).length = c + 1) := by
    show (splice (xs.take i ++ List.replicate (c + 1 - i) (.int .i64 0)) i [x]).length = c + 1
    rw [length_splice _ _ _ (by simp [HLi.out]; omega)]; simp [HLi.out]; omega
  have HC2 := Lib.hid hch2
  have HS : Hid (∀ (j : Nat) (u : Value), (xs.drop i)[j]? = some u → ∀ n, (w2.drewN n).cell? ((⟨g, i, none⟩ : Addr).add j) = some u) := by
    intro j u hu n
    rw [add_lit]
    rw [List.getElem?_drop] at hu
    show w2.cell? _ = _
    rw [hch2.cell hgw id]
    exact HO.out.cell hu
  clear hown2 hch1 hch2
  go_wp2_with fail
  have hw1 : IntKind.i64.wrap ((i : Int) + 1) = (i : Int) + 1 := by rw [IntKind.wrap_i64]; omega
  have hin' : i ≤ c := by omega
  go_region_law (refine step_cpy rfl (.tmp 50) (.tmp 53) rfl slt_int w.heap.size (c + 1) c1 _ (by exact H2.out) (some ⟨w.heap.size, i + 1, none⟩) (c + 1 - (i + 1)) (c1 - (i + 1)) (i + 1) (some ⟨g, i, none⟩) (c - i) (c - i) (xs.drop i) (by simp [Act.eval, Act.put]) (by simp [Act.eval, Act.put]) (by rw [HLd.out]; simp only [Nat.min_def]; split <;> omega) (fun _ => ⟨rfl, _, rfl, fun j u hu => HS.out j u hu 1⟩) H1.out (by rw [HLs.out, HLd.out]; omega) ?_; intro w3 hown3 hg3)
  clear hw1
  go_wp2_with fail
  have H3 := Lib.hid hown3
  refine HP.out _ _ _ _ _ rfl ?_ H3.out (Nat.le_refl _) ?_
  · exact insert_lists xs x (.int .i64 0) i (by rw [HL.out]; omega) _ (by simp [HL.out])
  · exact (HC2.out.drew).grown hg3 (fun k hk => by injection hk with hk; right; omega)

set_option maxHeartbeats 2000000 in
set_option maxRecDepth 100000 in
theorem insert_shift_int (g n c i : Nat) (xs : List Value) (x : Value) (vb : Nat) (w : World) (hown : Own w 3 (.slice (some ⟨g, 0, none⟩) n c) xs) (hl : xs.length = n) (hb : Blk w vb 3 #[x]) (hvg : vb ≠ g)
    (hin : i < n) (hcn : n + 1 ≤ c) (hx : x.oneCell' = true) (h1 : OneCells xs) (hbig : n + 1 ≤ 1000000) (hc63 : c ≤ maxLen) :
    Calls Try.prog 32 #[.slice (some ⟨g, 0, none⟩) n c, .int .i64 i, .slice (some ⟨vb, 0, none⟩) 1 1] w (RowPost w 3 (.slice (some ⟨g, 0, none⟩) n c) (xs.take i ++ x :: xs.drop i)) := by
  unfold maxLen at hc63
  obtain ⟨R, hR⟩ : ∃ R, R = RowPost w 3 (.slice (some ⟨g, 0, none⟩) n c) (xs.take i ++ x :: xs.drop i) := ⟨_, rfl⟩
  rw [← hR]
  obtain ⟨g', cur, hg', hn', hblk, hl1, hl2, hl3, hl4⟩ := hown.open_ (by simp)
  injection hg' with hg'; injection hg' with hg' _; subst hg'
  -- the row with one element more
  obtain ⟨y, hy⟩ : ∃ y, cur[n]? = some y := ⟨_, Array.getElem?_eq_getElem (by omega)⟩
  have hE : Own w 3 (.slice (some ⟨g, 0, none⟩) (n + 1) c) (xs ++ [y]) := by
    have hlen : (xs ++ [y]).length = n + 1 := by simp [hl]
    have := Own.close (xs := xs ++ [y]) (e := 3) hblk (c := c) (by rw [hlen]; exact hcn) hl2 hl3 (by
      rw [hlen, List.take_add_one, show cur.toList.take n = xs by rw [← hl]; exact hl4]
      simp [hy])
    rwa [hlen] at this
  have hgw : g < w.heap.size := hown.lt rfl
  have HX : Hid (Blk w vb 3 #[x]) := hb
  have H1x : Hid (OneCells [x]) := fun u hu => by simp at hu; subst hu; exact hx
  have H1 : Hid (OneCells (xs.drop i)) := oneCells_drop h1 i
  have HE := Lib.hid hE
  have HL := Lib.hid hl
  have HLd : Hid ((xs.drop i).length = n - i) := by show (xs.drop i).length = n - i; simp; omega
  have HP : Hid (∀ (e : Ending) (W : World) (zs : List Value), e = .returned (.slice (some ⟨g, 0, none⟩) (n + 1) c) → zs = xs.take i ++ x :: xs.drop i → Own W 3 (.slice (some ⟨g, 0, none⟩) (n + 1) c) zs →
      Chg (fun k => k = g) w W → R e W) := by
    intro e W zs h2 hz h3 h5
    rw [hR]
    have : (xs.take i ++ x :: xs.drop i).length = n + 1 := by simp [HL.out]; omega
    rw [← this] at h2 h3
    exact ⟨g, c, h2, hz ▸ h3, .inl rfl, h5.mono fun k _ h => by subst h; rfl⟩
  have HS : Hid (∀ (j : Nat) (u : Value), (xs.drop i)[j]? = some u → (w.drew).cell? ((⟨g, i, none⟩ : Addr).add j) = some u) := by
    intro j u hu
    rw [add_lit]
    rw [List.getElem?_drop] at hu
    exact hown.cell hu
  have hov : ∀ lb cb, (callFunc 48 #[.slice (some ⟨vb, 0, none⟩) 1 1, .slice (some ⟨g, i + 1, none⟩) lb cb]).run Try.prog w = .ok (.value (.bool false)) w := fun lb cb => by
    rw [run_callFunc_extern Try.func48 (by kernel_rfl) (by kernel_rfl) (by kernel_rfl) (e := Extern.SlicesOverlaps.overlaps #[40, 40] #[4]) (by kernel_rfl),
      Lib.run_overlaps_apart w 40 4 3 Try.underlying40 1 Try.sizeOf3 ⟨vb, 0, none⟩ ⟨g, i + 1, none⟩ 1 1 lb cb hvg 3 3 1 c (by simp only [World.shape?, show w.heap[vb]? = _ from hb]; rfl) (by simp only [World.shape?, show w.heap[g]? = _ from hblk, hl3]) (by omega) (hb.frozen 0) (hb.frozen 1)]
    rfl
  have hci : ¬ (c = i) := by omega
  have hci2 : ¬ (c = i + 1) := by omega
  have hii : ¬ ((i : Int) = (n : Int)) := by omega
  have hi1 : (0 : Int) ≤ (i : Int) + 1 := by omega
  have hi2 : ((i : Int) + 1).toNat = i + 1 := by omega
  have hi3 : i ≤ n := by omega
  clear hown hl hb hx hR h1 hblk hl1 hl2 hl3 hl4 hn' hE hy
  go_enter Try.func32, Try.ntmps32
  go_wp2_with (simp only [hov])
  have hw1 : IntKind.i64.wrap ((i : Int) + 1) = (i : Int) + 1 := by rw [IntKind.wrap_i64]; omega
  have hi4 : (i : Int) ≤ (n : Int) + 1 := by omega
  have hi5 : i ≤ n + 1 := by omega
  go_region_law (refine step_cpy rfl (.tmp 73) (.tmp 76) rfl slt_int g (n + 1) c _ (by exact HE.out) (some ⟨g, i + 1, none⟩) (n - i) (c - (i + 1)) (i + 1) (some ⟨g, i, none⟩) (n + 1 - i) (c - i) (xs.drop i) (by simp [Act.eval, Act.put]) (by simp [Act.eval, Act.put]) (by rw [HLd.out]; simp only [Nat.min_def]; split <;> omega) (fun _ => ⟨rfl, _, rfl, HS.out⟩) H1.out (by rw [HLd.out]; simp [HL.out]; omega) ?_; intro w2 hown2 hg2)
  clear hw1 hov
  have H2 := Lib.hid hown2
  have hch2 : Chg (fun k => k = g) w w2 := ((Chg.refl _ w).drew).grown hg2 (fun k hk => by injection hk with hk; exact .inl hk.symm)
  have HC2 := Lib.hid hch2
  clear hown2 hch2 hg2
  go_wp2_with fail
  obtain ⟨w3, hr3, hown3, hg3⟩ := run_cpy slt_int H2.out (dp := some ⟨g, i, none⟩) (dLen := n + 1 - i) (dCap := c - i) (off := i) (A := some ⟨vb, 0, none⟩) (m := 1) (cs := [x])
    (by simp [Nat.min_def]; omega) (fun _ => ⟨rfl, _, rfl, fun j u hu => by
      cases j with
      | zero => simp at hu; subst hu; rw [add_lit]; exact (HX.out.chg HC2.out hvg).cell_ rfl
      | succ j => simp at hu⟩) H1x.out (by rw [length_splice _ _ _ (by simp [HL.out, HLd.out]; omega)]; simp [HL.out]; omega) 3 1
  rw [hr3]
  have H3 := Lib.hid hown3
  clear hr3 hown3
  go_wp2_with fail
  refine HP.out _ _ _ rfl ?_ H3.out ?_
  · exact shift_lists xs x y i (by rw [HL.out]; omega)
  · exact HC2.out.grown hg3 (fun k hk => by injection hk with hk; exact .inl hk.symm)

theorem insert_int (v : Value) (xs : List Value) (x : Value) (i vb : Nat) (w : World) (hown : Own w 3 v xs) (hi : i ≤ xs.length) (hb : Blk w vb 3 #[x]) (hne : v.ownBlock ≠ some vb)
    (h1 : OneCells xs) (hx : x.oneCell' = true) (hbig : xs.length + 1 ≤ 1000000) :
    Calls Try.prog 32 #[v, .int .i64 i, .slice (some ⟨vb, 0, none⟩) 1 1] w (RowPost w 3 v (xs.take i ++ x :: xs.drop i)) := by
  obtain ⟨A, c, rfl, hnc, hc⟩ := hown.shape
  rcases Nat.lt_or_ge i xs.length with h | h
  · obtain ⟨g, cur, rfl, _⟩ := hown.open_ (hown.some_of_pos (by omega))
    rcases Nat.lt_or_ge c (xs.length + 1) with hr | hr
    · exact insert_grow_int g _ c i xs x vb w hown rfl hb h hnc hr hx h1 hbig
    · exact insert_shift_int g _ c i xs x vb w hown rfl hb (by intro e; subst e; exact hne rfl) h hr hx h1 hbig hc
  · obtain rfl : i = xs.length := by omega
    have := insert_end_int A _ c xs x vb w hown rfl hb hnc hc hx hbig
    simpa using this
theorem slt_node : SlT Try.prog 60 59 (.pointer none) 8 where
  ht := Try.underlying60
  info := by kernel_rfl
  hz := rfl
  hz1 := rfl
  hv := Try.zeroValue59
  hb := by omega

set_option maxHeartbeats 1000000 in
theorem clone_node (ad : Addr) (n c : Nat) (xs : List Value) (w : World) (hr : Reads w (some ad) n xs) (h0 : 0 < n) (hbig : n ≤ 1000000) (h1 : OneCells xs) :
    Calls Try.prog 52 #[.slice (some ad) n c] w (FreshRow w 59 xs) := by
  have hnn := fun w => Lib.run_eql_slice_nil (P := Try.prog) w 60 59 (some ad) n c 0 0 Try.underlying60
  have HR : Hid (∀ o, Reads ((w.alloc o)) (some ad) n xs) := fun o => hr.chg ((Chg.refl (fun _ => False) w).alloc o) (fun _ _ h => h)
  have HO : Hid (OneCells xs) := h1
  have HZ : Hid (Own (w.alloc (.cells #[] 59)) 59 (.slice (some ⟨w.heap.size, 0, none⟩) 0 0) []) := Own.close (xs := []) (Blk.new w _ _) (Nat.zero_le _) (by decide) rfl rfl
  have HL := Lib.hid hr.1
  have HP : Hid (∀ (e : Ending) (W : World) (g c : Nat), e = .returned (.slice (some ⟨g, 0, none⟩) n c) → Own W 59 (.slice (some ⟨g, 0, none⟩) n c) xs → w.heap.size ≤ g → Chg (fun _ => False) w W → FreshRow w 59 xs e W) := by
    intro e W g c h2 h3 h4 h5
    rw [← HL.out] at h2 h3
    exact ⟨g, c, h2, h3, h4, h5⟩
  clear hr h1
  go_enter Try.func52, Try.ntmps52
  go_wp2_with (at_builtin; refine wpList_app rfl (.tmp 5) (.tmp 6) rfl slt_node (.slice (some ⟨w.heap.size, 0, none⟩) 0 0) [] rfl HZ.out (some ad) n c rfl xs (HR.out _) HO.out (by simp; omega) ?_; intro A' c' w1 hown hg hb hnil)
  have hA : A' ≠ none := by
    intro h
    have := (hnil.1 h).1
    injection this with h; cases h
  have hown' : Own w1 59 (.slice A' n c') xs := by simpa using hown
  obtain ⟨g, cur, rfl, _⟩ := hown'.open_ hA
  go_ret
  refine HP.out _ _ g c' (by simp) hown' ?_ ?_
  · simp [Value.ownBlock] at hb
    rcases hb with hb | hb <;> omega
  · exact ((Chg.refl (fun _ => False) w).alloc _).grown hg (fun k hk => by simp [Value.ownBlock] at hk; right; omega)

set_option maxHeartbeats 1000000 in
theorem insert_end_node (A : Option Addr) (n c : Nat) (xs : List Value) (x : Value) (vb : Nat) (w : World) (hown : Own w 59 (.slice A n c) xs) (hl : xs.length = n) (hb : Blk w vb 59 #[x])
    (hnc : n ≤ c) (hc63 : c ≤ maxLen) (hx : x.oneCell' = true) (hbig : n + 1 ≤ 1000000) :
    Calls Try.prog 36 #[.slice A n c, .int .i64 n, .slice (some ⟨vb, 0, none⟩) 1 1] w (RowPost w 59 (.slice A n c) (xs ++ [x])) := by
  unfold maxLen at hc63
  obtain ⟨R, hR⟩ : ∃ R, R = RowPost w 59 (.slice A n c) (xs ++ [x]) := ⟨_, rfl⟩
  rw [← hR]
  have HR : Hid (Reads w (some ⟨vb, 0, none⟩) 1 [x]) := ⟨rfl, fun _ => ⟨_, rfl, fun j u hu => by
    cases j with
    | zero => simp at hu; subst hu; rw [add_lit]; exact hb.cell_ rfl
    | succ j => simp at hu⟩⟩
  have H1 : Hid (OneCells [x]) := fun u hu => by simp at hu; subst hu; exact hx
  have HO := Lib.hid hown
  have HL := Lib.hid hl
  have HP : Hid (∀ (e : Ending) (W : World) (g c' : Nat), e = .returned (.slice (some ⟨g, 0, none⟩) (n + 1) c') → Own W 59 (.slice (some ⟨g, 0, none⟩) (n + 1) c') (xs ++ [x]) →
      ((Value.slice A n c).ownBlock = some g ∨ w.heap.size ≤ g) → Chg (fun k => (Value.slice A n c).ownBlock = some k) w W → R e W) := by
    intro e W g c' h2 h3 h4 h5
    rw [hR]
    have : (xs ++ [x]).length = n + 1 := by simp [HL.out]
    rw [← this] at h2 h3
    exact ⟨g, c', h2, h3, h4, h5⟩
  clear hown hl hb hx hR
  go_enter Try.func36, Try.ntmps36
  go_wp2_with (at_builtin; refine wpList_app rfl (.tmp 23) (.tmp 24) rfl slt_node (.slice A n c) xs rfl HO.out (some ⟨vb, 0, none⟩) 1 1 rfl [x] HR.out H1.out (by rw [HL.out]; omega) ?_; intro A' c' w1 hown hg hb hnil)
  all_goals
    have hown' : Own w1 59 (.slice A' (n + 1) c') (xs ++ [x]) := by rw [HL.out] at hown; exact hown
    obtain ⟨g, cur, rfl, _⟩ := hown'.open_ (hown'.some_of_pos (by simp))
    refine HP.out _ _ g c' ?_ hown' ?_ ?_
    · rw [HL.out]
    · rw [HL.out] at hb
      rcases hb with hb | hb
      · left; rw [← hb]; rfl
      · right; simp [Value.ownBlock] at hb; omega
    · exact (Chg.refl _ w).grown hg (fun k hk => .inl hk)

set_option maxHeartbeats 2000000 in
set_option maxRecDepth 100000 in
theorem insert_grow_node (g n c i : Nat) (xs : List Value) (x : Value) (vb : Nat) (w : World) (hown : Own w 59 (.slice (some ⟨g, 0, none⟩) n c) xs) (hl : xs.length = n) (hb : Blk w vb 59 #[x])
    (hin : i < n) (hnc : n ≤ c) (hcn : c < n + 1) (hx : x.oneCell' = true) (h1 : OneCells xs) (hbig : n + 1 ≤ 1000000) :
    Calls Try.prog 36 #[.slice (some ⟨g, 0, none⟩) n c, .int .i64 i, .slice (some ⟨vb, 0, none⟩) 1 1] w (RowPost w 59 (.slice (some ⟨g, 0, none⟩) n c) (xs.take i ++ x :: xs.drop i)) := by
  obtain rfl : c = n := by omega
  obtain ⟨R, hR⟩ : ∃ R, R = RowPost w 59 (.slice (some ⟨g, 0, none⟩) c c) (xs.take i ++ x :: xs.drop i) := ⟨_, rfl⟩
  rw [← hR]
  have hgw : g < w.heap.size := hown.lt rfl
  have hvw : vb < w.heap.size := hb.lt
  have HX : Hid (Blk w vb 59 #[x]) := hb
  have H1x : Hid (OneCells [x]) := fun u hu => by simp at hu; subst hu; exact hx
  have H1 : Hid (OneCells (xs.drop i)) := oneCells_drop h1 i
  have HO := Lib.hid hown
  have HC : Hid (Own w 59 (.slice (some ⟨g, 0, none⟩) i c) (xs.take i)) := hown.cut (by omega) (by simp)
  have HL := Lib.hid hl
  have HLi : Hid ((xs.take i).length = i) := by show (xs.take i).length = i; simp; omega
  have HLd : Hid ((xs.drop i).length = c - i) := by show (xs.drop i).length = c - i; simp; omega
  have HP : Hid (∀ (e : Ending) (W : World) (g' c' : Nat) (zs : List Value), e = .returned (.slice (some ⟨g', 0, none⟩) (c + 1) c') → zs = xs.take i ++ x :: xs.drop i → Own W 59 (.slice (some ⟨g', 0, none⟩) (c + 1) c') zs →
      w.heap.size ≤ g' → Chg (fun _ => False) w W → R e W) := by
    intro e W g' c' zs h2 hz h3 h4 h5
    rw [hR]
    have : (xs.take i ++ x :: xs.drop i).length = c + 1 := by simp [HL.out]; omega
    rw [← this] at h2 h3
    exact ⟨g', c', h2, hz ▸ h3, .inr h4, h5.mono fun _ _ h => h.elim⟩
  have hki : (c : Int) + 1 - (i : Int) = ((c + 1 - i : Nat) : Int) := by omega
  have HKI := Lib.hid hki
  have hci : ¬ (c = i) := by omega
  have hii : ¬ ((i : Int) = (c : Int)) := by omega
  have hi1 : (0 : Int) ≤ (i : Int) + 1 := by omega
  have hi2 : ((i : Int) + 1).toNat = i + 1 := by omega
  clear hown hl hb hx hR h1 hki hcn hnc
  go_enter Try.func36, Try.ntmps36
  go_wp2_with (at_builtin; rw [HKI.out]; refine wpList_app_zeros rfl (.tmp 34) (.tmp 39) 3 rfl slt_node Try.underlying3 (some ⟨g, 0, none⟩) i c (xs.take i) rfl HC.out (c + 1 - i) rfl (by omega) (by rw [HLi.out]; omega) (by rw [HLi.out]; omega) ?_; rw [HLi.out, show i + (c + 1 - i) = c + 1 by omega]; intro c1 w1 hown1 hg1 hc1; have hci1 : ¬ (c1 = i) := (by omega); have hci2 : ¬ (c1 = i + 1) := (by omega))
  have hch1 : Chg (fun _ => False) w w1 := (Chg.refl _ w).grown hg1 (fun k hk => by cases hk)
  obtain ⟨w2, hr2, hown2, hg2⟩ := run_cpy slt_node hown1 (dp := some ⟨w.heap.size, i, none⟩) (dLen := c + 1 - i) (dCap := c1 - i) (off := i) (A := some ⟨vb, 0, none⟩) (m := 1) (cs := [x])
    (by simp [Nat.min_def]; omega) (fun _ => ⟨rfl, _, rfl, fun j u hu => by
      cases j with
      | zero => simp at hu; subst hu; rw [add_lit]; exact (HX.out.chg hch1 id).cell_ rfl
      | succ j => simp at hu⟩) H1x.out (by simp [HLi.out]; omega) 3 1
  rw [hr2]
  have hch2 : Chg (fun _ => False) w w2 := hch1.grown hg2 (fun k hk => by injection hk with hk; right; omega)
  clear hr2 hg1 hg2 hown1
  have H2 := Lib.hid hown2
  have HLs : Hid ((splice (xs.take i ++ List.replicate (c + 1 - i) (.pointer none)) i [x]).length = c + 1) := by
    show (splice (xs.take i ++ List.replicate (c + 1 - i) (.pointer none)) i [x]).length = c + 1
    rw [length_splice _ _ _ (by simp [HLi.out]; omega)]; simp [HLi.out]; omega
  have HC2 := Lib.hid hch2
  have HS : Hid (∀ (j : Nat) (u : Value), (xs.drop i)[j]? = some u → ∀ n, (w2.drewN n).cell? ((⟨g, i, none⟩ : Addr).add j) = some u) := by
    intro j u hu n
    rw [add_lit]
    rw [List.getElem?_drop] at hu
    show w2.cell? _ = _
    rw [hch2.cell hgw id]
    exact HO.out.cell hu
  clear hown2 hch1 hch2
  go_wp2_with fail
  have hw1 : IntKind.i64.wrap ((i : Int) + 1) = (i : Int) + 1 := by rw [IntKind.wrap_i64]; omega
  have hin' : i ≤ c := by omega
  go_region_law (refine step_cpy rfl (.tmp 50) (.tmp 53) rfl slt_node w.heap.size (c + 1) c1 _ (by exact H2.out) (some ⟨w.heap.size, i + 1, none⟩) (c + 1 - (i + 1)) (c1 - (i + 1)) (i + 1) (some ⟨g, i, none⟩) (c - i) (c - i) (xs.drop i) (by simp [Act.eval, Act.put]) (by simp [Act.eval, Act.put]) (by rw [HLd.out]; simp only [Nat.min_def]; split <;> omega) (fun _ => ⟨rfl, _, rfl, fun j u hu => HS.out j u hu 1⟩) H1.out (by rw [HLs.out, HLd.out]; omega) ?_; intro w3 hown3 hg3)
  clear hw1
  go_wp2_with fail
  have H3 := Lib.hid hown3
  refine HP.out _ _ _ _ _ rfl ?_ H3.out (Nat.le_refl _) ?_
  · exact insert_lists xs x (.pointer none) i (by rw [HL.out]; omega) _ (by simp [HL.out])
  · exact (HC2.out.drew).grown hg3 (fun k hk => by injection hk with hk; right; omega)

set_option maxHeartbeats 2000000 in
set_option maxRecDepth 100000 in
theorem insert_shift_node (g n c i : Nat) (xs : List Value) (x : Value) (vb : Nat) (w : World) (hown : Own w 59 (.slice (some ⟨g, 0, none⟩) n c) xs) (hl : xs.length = n) (hb : Blk w vb 59 #[x]) (hvg : vb ≠ g)
    (hin : i < n) (hcn : n + 1 ≤ c) (hx : x.oneCell' = true) (h1 : OneCells xs) (hbig : n + 1 ≤ 1000000) (hc63 : c ≤ maxLen) :
    Calls Try.prog 36 #[.slice (some ⟨g, 0, none⟩) n c, .int .i64 i, .slice (some ⟨vb, 0, none⟩) 1 1] w (RowPost w 59 (.slice (some ⟨g, 0, none⟩) n c) (xs.take i ++ x :: xs.drop i)) := by
  unfold maxLen at hc63
  obtain ⟨R, hR⟩ : ∃ R, R = RowPost w 59 (.slice (some ⟨g, 0, none⟩) n c) (xs.take i ++ x :: xs.drop i) := ⟨_, rfl⟩
  rw [← hR]
  obtain ⟨g', cur, hg', hn', hblk, hl1, hl2, hl3, hl4⟩ := hown.open_ (by simp)
  injection hg' with hg'; injection hg' with hg' _; subst hg'
  -- the row with one element more
  obtain ⟨y, hy⟩ : ∃ y, cur[n]? = some y := ⟨_, Array.getElem?_eq_getElem (by omega)⟩
  have hE : Own w 59 (.slice (some ⟨g, 0, none⟩) (n + 1) c) (xs ++ [y]) := by
    have hlen : (xs ++ [y]).length = n + 1 := by simp [hl]
    have := Own.close (xs := xs ++ [y]) (e := 59) hblk (c := c) (by rw [hlen]; exact hcn) hl2 hl3 (by
      rw [hlen, List.take_add_one, show cur.toList.take n = xs by rw [← hl]; exact hl4]
      simp [hy])
    rwa [hlen] at this
  have hgw : g < w.heap.size := hown.lt rfl
  have HX : Hid (Blk w vb 59 #[x]) := hb
  have H1x : Hid (OneCells [x]) := fun u hu => by simp at hu; subst hu; exact hx
  have H1 : Hid (OneCells (xs.drop i)) := oneCells_drop h1 i
  have HE := Lib.hid hE
  have HL := Lib.hid hl
  have HLd : Hid ((xs.drop i).length = n - i) := by show (xs.drop i).length = n - i; simp; omega
  have HP : Hid (∀ (e : Ending) (W : World) (zs : List Value), e = .returned (.slice (some ⟨g, 0, none⟩) (n + 1) c) → zs = xs.take i ++ x :: xs.drop i → Own W 59 (.slice (some ⟨g, 0, none⟩) (n + 1) c) zs →
      Chg (fun k => k = g) w W → R e W) := by
    intro e W zs h2 hz h3 h5
    rw [hR]
    have : (xs.take i ++ x :: xs.drop i).length = n + 1 := by simp [HL.out]; omega
    rw [← this] at h2 h3
    exact ⟨g, c, h2, hz ▸ h3, .inl rfl, h5.mono fun k _ h => by subst h; rfl⟩
  have HS : Hid (∀ (j : Nat) (u : Value), (xs.drop i)[j]? = some u → (w.drew).cell? ((⟨g, i, none⟩ : Addr).add j) = some u) := by
    intro j u hu
    rw [add_lit]
    rw [List.getElem?_drop] at hu
    exact hown.cell hu
  have hov : ∀ lb cb, (callFunc 53 #[.slice (some ⟨vb, 0, none⟩) 1 1, .slice (some ⟨g, i + 1, none⟩) lb cb]).run Try.prog w = .ok (.value (.bool false)) w := fun lb cb => by
    rw [run_callFunc_extern Try.func53 (by kernel_rfl) (by kernel_rfl) (by kernel_rfl) (e := Extern.SlicesOverlaps.overlaps #[60, 60] #[4]) (by kernel_rfl),
      Lib.run_overlaps_apart w 60 4 59 Try.underlying60 1 Try.sizeOf59 ⟨vb, 0, none⟩ ⟨g, i + 1, none⟩ 1 1 lb cb hvg 59 59 1 c (by simp only [World.shape?, show w.heap[vb]? = _ from hb]; rfl) (by simp only [World.shape?, show w.heap[g]? = _ from hblk, hl3]) (by omega) (hb.frozen 0) (hb.frozen 1)]
    rfl
  have hci : ¬ (c = i) := by omega
  have hci2 : ¬ (c = i + 1) := by omega
  have hii : ¬ ((i : Int) = (n : Int)) := by omega
  have hi1 : (0 : Int) ≤ (i : Int) + 1 := by omega
  have hi2 : ((i : Int) + 1).toNat = i + 1 := by omega
  have hi3 : i ≤ n := by omega
  clear hown hl hb hx hR h1 hblk hl1 hl2 hl3 hl4 hn' hE hy
  go_enter Try.func36, Try.ntmps36
  go_wp2_with (simp only [hov])
  have hw1 : IntKind.i64.wrap ((i : Int) + 1) = (i : Int) + 1 := by rw [IntKind.wrap_i64]; omega
  have hi4 : (i : Int) ≤ (n : Int) + 1 := by omega
  have hi5 : i ≤ n + 1 := by omega
  go_region_law (refine step_cpy rfl (.tmp 73) (.tmp 76) rfl slt_node g (n + 1) c _ (by exact HE.out) (some ⟨g, i + 1, none⟩) (n - i) (c - (i + 1)) (i + 1) (some ⟨g, i, none⟩) (n + 1 - i) (c - i) (xs.drop i) (by simp [Act.eval, Act.put]) (by simp [Act.eval, Act.put]) (by rw [HLd.out]; simp only [Nat.min_def]; split <;> omega) (fun _ => ⟨rfl, _, rfl, HS.out⟩) H1.out (by rw [HLd.out]; simp [HL.out]; omega) ?_; intro w2 hown2 hg2)
  clear hw1 hov
  have H2 := Lib.hid hown2
  have hch2 : Chg (fun k => k = g) w w2 := ((Chg.refl _ w).drew).grown hg2 (fun k hk => by injection hk with hk; exact .inl hk.symm)
  have HC2 := Lib.hid hch2
  clear hown2 hch2 hg2
  go_wp2_with fail
  obtain ⟨w3, hr3, hown3, hg3⟩ := run_cpy slt_node H2.out (dp := some ⟨g, i, none⟩) (dLen := n + 1 - i) (dCap := c - i) (off := i) (A := some ⟨vb, 0, none⟩) (m := 1) (cs := [x])
    (by simp [Nat.min_def]; omega) (fun _ => ⟨rfl, _, rfl, fun j u hu => by
      cases j with
      | zero => simp at hu; subst hu; rw [add_lit]; exact (HX.out.chg HC2.out hvg).cell_ rfl
      | succ j => simp at hu⟩) H1x.out (by rw [length_splice _ _ _ (by simp [HL.out, HLd.out]; omega)]; simp [HL.out]; omega) 3 1
  rw [hr3]
  have H3 := Lib.hid hown3
  clear hr3 hown3
  go_wp2_with fail
  refine HP.out _ _ _ rfl ?_ H3.out ?_
  · exact shift_lists xs x y i (by rw [HL.out]; omega)
  · exact HC2.out.grown hg3 (fun k hk => by injection hk with hk; exact .inl hk.symm)

theorem insert_node (v : Value) (xs : List Value) (x : Value) (i vb : Nat) (w : World) (hown : Own w 59 v xs) (hi : i ≤ xs.length) (hb : Blk w vb 59 #[x]) (hne : v.ownBlock ≠ some vb)
    (h1 : OneCells xs) (hx : x.oneCell' = true) (hbig : xs.length + 1 ≤ 1000000) :
    Calls Try.prog 36 #[v, .int .i64 i, .slice (some ⟨vb, 0, none⟩) 1 1] w (RowPost w 59 v (xs.take i ++ x :: xs.drop i)) := by
  obtain ⟨A, c, rfl, hnc, hc⟩ := hown.shape
  rcases Nat.lt_or_ge i xs.length with h | h
  · obtain ⟨g, cur, rfl, _⟩ := hown.open_ (hown.some_of_pos (by omega))
    rcases Nat.lt_or_ge c (xs.length + 1) with hr | hr
    · exact insert_grow_node g _ c i xs x vb w hown rfl hb h hnc hr hx h1 hbig
    · exact insert_shift_node g _ c i xs x vb w hown rfl hb (by intro e; subst e; exact hne rfl) h hr hx h1 hbig hc
  · obtain rfl : i = xs.length := by omega
    have := insert_end_node A _ c xs x vb w hown rfl hb hnc hc hx hbig
    simpa using this

end Go.Proofs.Ythndplpbnfihdaa
