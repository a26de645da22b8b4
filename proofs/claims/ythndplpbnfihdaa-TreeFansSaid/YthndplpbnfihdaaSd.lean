/-
  slices.Delete of one element of a row that reads as a list: in place. Conditions: the place lies in the list; the list is short.
-/
import Derived.Test.YthndplpbnfihdaaSc
set_option linter.unusedVariables false
set_option linter.unusedSimpArgs false
namespace Go.Proofs.Ythndplpbnfihdaa
open Go.RowKit

/-- The row at block g, in place, with the list xs. -/
def PlacePost (w : World) (E : TypeId) (g c : Nat) (xs : List Value) (e : Ending) (w' : World) : Prop :=
  e = .returned (.slice (some ⟨g, 0, none⟩) xs.length c) ∧ Own w' E (.slice (some ⟨g, 0, none⟩) xs.length c) xs ∧ Chg (fun k => k = g) w w'

set_option maxHeartbeats 2000000 in
set_option maxRecDepth 100000 in
theorem delete_string (g n c i : Nat) (xs : List Value) (w : World) (hown : Own w 9 (.slice (some ⟨g, 0, none⟩) n c) xs) (hl : xs.length = n)
    (hin : i < n) (hnc : n ≤ c) (h1 : OneCells xs) (hbig : n + 1 ≤ 1000000) (hc63 : c ≤ maxLen) :
    Calls Try.prog 40 #[.slice (some ⟨g, 0, none⟩) n c, .int .i64 i, .int .i64 (i + 1)] w (PlacePost w 9 g c (xs.take i ++ xs.drop (i + 1))) := by
  unfold maxLen at hc63
  obtain ⟨R, hR⟩ : ∃ R, R = PlacePost w 9 g c (xs.take i ++ xs.drop (i + 1)) := ⟨_, rfl⟩
  rw [← hR]
  have H1 : Hid (OneCells (xs.drop (i + 1))) := oneCells_drop h1 _
  have HO : Hid (Own w 9 (.slice (some ⟨g, 0, none⟩) i c) (xs.take i)) := hown.cut (by omega) (by simp)
  have HL := Lib.hid hl
  have HLd : Hid ((xs.drop (i + 1)).length = n - (i + 1)) := by show (xs.drop (i + 1)).length = n - (i + 1); simp; omega
  have HP : Hid (∀ (e : Ending) (W : World) (zs : List Value), e = .returned (.slice (some ⟨g, 0, none⟩) (n - 1) c) → zs = xs.take i ++ xs.drop (i + 1) → Own W 9 (.slice (some ⟨g, 0, none⟩) (n - 1) c) zs →
      Chg (fun k => k = g) w W → R e W) := by
    intro e W zs h2 hz h3 h5
    rw [hR]
    have : (xs.take i ++ xs.drop (i + 1)).length = n - 1 := by simp [HL.out]; omega
    rw [← this] at h2 h3
    exact ⟨h2, hz ▸ h3, h5⟩
  obtain ⟨A, hA, HRd⟩ : ∃ A : Addr, (if c = i + 1 then some (⟨g, 0, none⟩ : Addr) else some ⟨g, i + 1, none⟩) = some A ∧ Hid (Reads w.drew (some A) (n - (i + 1)) (xs.drop (i + 1))) := by
    by_cases h : c = i + 1
    · refine ⟨⟨g, 0, none⟩, by simp [h], HLd.out, fun h0 => ?_⟩
      omega
    · exact ⟨⟨g, i + 1, none⟩, by simp [h], Reads.tail hown (by omega)⟩
  have hi1 : (0 : Int) ≤ (i : Int) + 1 := by omega
  have hi2 : ((i : Int) + 1).toNat = i + 1 := by omega
  have hi3 : i ≤ c := by omega
  have hi4 : ¬ ((i : Int) = (i : Int) + 1) := by omega
  have hi5 : (i : Int) + 1 ≤ (n : Int) := by omega
  have hi6 : (i : Int) ≤ (i : Int) + 1 := by omega
  have hi7 : i + 1 ≤ c := by omega
  have hi8 : i + 1 ≤ n := by omega
  clear hown hl h1 hR
  go_enter Try.func40, Try.ntmps40
  go_wp2_with fail
  have hw1 : IntKind.i64.wrap ((i : Int) + 1) = (i : Int) + 1 := by rw [IntKind.wrap_i64]; omega
  go_region_law (refine step_app_room rfl (.tmp 22) (.tmp 25) rfl slt_string g i c (xs.take i) (by simp [Act.eval, Act.put]) (by exact HO.out) (some A) (n - (i + 1)) (c - (i + 1)) (by simp [Act.eval, Act.put, hA]) (xs.drop (i + 1)) HRd.out H1.out (.inl (by simp)) (by omega) ?_; rw [show i + (n - (i + 1)) = n - 1 by omega]; intro w1 hown1 hg1)
  clear hw1
  have H2 := Lib.hid hown1
  have HC2 : Hid (Chg (fun k => k = g) w w1) := ((Chg.refl _ w).drew).grown hg1 (fun k hk => by injection hk with hk; exact .inl hk.symm)
  clear hown1 hg1
  have hn1 : ((n - 1 : Nat) : Int) ≤ (n : Int) := by omega
  have hn2 : ¬ (c = n - 1) := by omega
  have hn3 : n - (n - 1) = 1 := by omega
  have hn4 : n - 1 ≤ c := by omega
  go_wp2_with fail
  obtain ⟨w2, hr2, hown2, hg2⟩ := run_clr slt_string H2.out (m := 1) (dCap := c - (n - 1)) (by omega) (by omega) 0
  rw [hr2]
  have H3 := Lib.hid hown2
  clear hr2 hown2
  go_wp2_with fail
  exact HP.out _ _ _ rfl rfl H3.out (HC2.out.grown hg2 (fun k hk => by injection hk with hk; exact .inl hk.symm))

/-- slices.Delete(s, a, a + 1). -/
theorem delete_any_string (v : Value) (a b : Int) (i : Nat) (ha : a = (i : Int)) (hb : b = (i : Int) + 1) (xs : List Value) (w : World) (hown : Own w 9 v xs)
    (hin : i < xs.length) (h1 : OneCells xs) (hbig : xs.length + 1 ≤ 1000000) :
    Calls Try.prog 40 #[v, .int .i64 a, .int .i64 b] w (RowPost w 9 v (xs.take i ++ xs.drop (i + 1))) := by
  subst ha; subst hb
  obtain ⟨A, c, rfl, hnc, hc⟩ := hown.shape
  obtain ⟨g, cur, rfl, _⟩ := hown.open_ (hown.some_of_pos (by omega))
  refine (delete_string g _ c i xs w hown rfl hin hnc h1 hbig hc).mono ?_
  rintro e w' ⟨h2, h3, h4⟩
  exact ⟨g, c, h2, h3, .inl rfl, h4.mono fun k _ h => by subst h; rfl⟩

/-- slices.Insert(s, a, x). -/
theorem insert_any_string (v : Value) (a : Int) (i : Nat) (ha : a = (i : Int)) (xs : List Value) (x : Value) (vb : Nat) (w : World) (hown : Own w 9 v xs) (hi : i ≤ xs.length) (hb : Blk w vb 9 #[x]) (hne : v.ownBlock ≠ some vb)
    (h1 : OneCells xs) (hx : x.oneCell' = true) (hbig : xs.length + 1 ≤ 1000000) :
    Calls Try.prog 31 #[v, .int .i64 a, .slice (some ⟨vb, 0, none⟩) 1 1] w (RowPost w 9 v (xs.take i ++ x :: xs.drop i)) := by
  subst ha
  exact insert_string v xs x i vb w hown hi hb hne h1 hx hbig
set_option maxHeartbeats 2000000 in
set_option maxRecDepth 100000 in
theorem delete_int (g n c i : Nat) (xs : List Value) (w : World) (hown : Own w 3 (.slice (some ⟨g, 0, none⟩) n c) xs) (hl : xs.length = n)
    (hin : i < n) (hnc : n ≤ c) (h1 : OneCells xs) (hbig : n + 1 ≤ 1000000) (hc63 : c ≤ maxLen) :
    Calls Try.prog 41 #[.slice (some ⟨g, 0, none⟩) n c, .int .i64 i, .int .i64 (i + 1)] w (PlacePost w 3 g c (xs.take i ++ xs.drop (i + 1))) := by
  unfold maxLen at hc63
  obtain ⟨R, hR⟩ : ∃ R, R = PlacePost w 3 g c (xs.take i ++ xs.drop (i + 1)) := ⟨_, rfl⟩
  rw [← hR]
  have H1 : Hid (OneCells (xs.drop (i + 1))) := oneCells_drop h1 _
  have HO : Hid (Own w 3 (.slice (some ⟨g, 0, none⟩) i c) (xs.take i)) := hown.cut (by omega) (by simp)
  have HL := Lib.hid hl
  have HLd : Hid ((xs.drop (i + 1)).length = n - (i + 1)) := by show (xs.drop (i + 1)).length = n - (i + 1); simp; omega
  have HP : Hid (∀ (e : Ending) (W : World) (zs : List Value), e = .returned (.slice (some ⟨g, 0, none⟩) (n - 1) c) → zs = xs.take i ++ xs.drop (i + 1) → Own W 3 (.slice (some ⟨g, 0, none⟩) (n - 1) c) zs →
      Chg (fun k => k = g) w W → R e W) := by
    intro e W zs h2 hz h3 h5
    rw [hR]
    have : (xs.take i ++ xs.drop (i + 1)).length = n - 1 := by simp [HL.out]; omega
    rw [← this] at h2 h3
    exact ⟨h2, hz ▸ h3, h5⟩
  obtain ⟨A, hA, HRd⟩ : ∃ A : Addr, (if c = i + 1 then some (⟨g, 0, none⟩ : Addr) else some ⟨g, i + 1, none⟩) = some A ∧ Hid (Reads w.drew (some A) (n - (i + 1)) (xs.drop (i + 1))) := by
    by_cases h : c = i + 1
    · refine ⟨⟨g, 0, none⟩, by simp [h], HLd.out, fun h0 => ?_⟩
      omega
    · exact ⟨⟨g, i + 1, none⟩, by simp [h], Reads.tail hown (by omega)⟩
  have hi1 : (0 : Int) ≤ (i : Int) + 1 := by omega
  have hi2 : ((i : Int) + 1).toNat = i + 1 := by omega
  have hi3 : i ≤ c := by omega
  have hi4 : ¬ ((i : Int) = (i : Int) + 1) := by omega
  have hi5 : (i : Int) + 1 ≤ (n : Int) := by omega
  have hi6 : (i : Int) ≤ (i : Int) + 1 := by omega
  have hi7 : i + 1 ≤ c := by omega
  have hi8 : i + 1 ≤ n := by omega
  clear hown hl h1 hR
  go_enter Try.func41, Try.ntmps41
  go_wp2_with fail
  have hw1 : IntKind.i64.wrap ((i : Int) + 1) = (i : Int) + 1 := by rw [IntKind.wrap_i64]; omega
  go_region_law (refine step_app_room rfl (.tmp 22) (.tmp 25) rfl slt_int g i c (xs.take i) (by simp [Act.eval, Act.put]) (by exact HO.out) (some A) (n - (i + 1)) (c - (i + 1)) (by simp [Act.eval, Act.put, hA]) (xs.drop (i + 1)) HRd.out H1.out (.inl (by simp)) (by omega) ?_; rw [show i + (n - (i + 1)) = n - 1 by omega]; intro w1 hown1 hg1)
  clear hw1
  have H2 := Lib.hid hown1
  have HC2 : Hid (Chg (fun k => k = g) w w1) := ((Chg.refl _ w).drew).grown hg1 (fun k hk => by injection hk with hk; exact .inl hk.symm)
  clear hown1 hg1
  have hn1 : ((n - 1 : Nat) : Int) ≤ (n : Int) := by omega
  have hn2 : ¬ (c = n - 1) := by omega
  have hn3 : n - (n - 1) = 1 := by omega
  have hn4 : n - 1 ≤ c := by omega
  go_wp2_with fail
  obtain ⟨w2, hr2, hown2, hg2⟩ := run_clr slt_int H2.out (m := 1) (dCap := c - (n - 1)) (by omega) (by omega) 0
  rw [hr2]
  have H3 := Lib.hid hown2
  clear hr2 hown2
  go_wp2_with fail
  exact HP.out _ _ _ rfl rfl H3.out (HC2.out.grown hg2 (fun k hk => by injection hk with hk; exact .inl hk.symm))

/-- slices.Delete(s, a, a + 1). -/
theorem delete_any_int (v : Value) (a b : Int) (i : Nat) (ha : a = (i : Int)) (hb : b = (i : Int) + 1) (xs : List Value) (w : World) (hown : Own w 3 v xs)
    (hin : i < xs.length) (h1 : OneCells xs) (hbig : xs.length + 1 ≤ 1000000) :
    Calls Try.prog 41 #[v, .int .i64 a, .int .i64 b] w (RowPost w 3 v (xs.take i ++ xs.drop (i + 1))) := by
  subst ha; subst hb
  obtain ⟨A, c, rfl, hnc, hc⟩ := hown.shape
  obtain ⟨g, cur, rfl, _⟩ := hown.open_ (hown.some_of_pos (by omega))
  refine (delete_int g _ c i xs w hown rfl hin hnc h1 hbig hc).mono ?_
  rintro e w' ⟨h2, h3, h4⟩
  exact ⟨g, c, h2, h3, .inl rfl, h4.mono fun k _ h => by subst h; rfl⟩

/-- slices.Insert(s, a, x). -/
theorem insert_any_int (v : Value) (a : Int) (i : Nat) (ha : a = (i : Int)) (xs : List Value) (x : Value) (vb : Nat) (w : World) (hown : Own w 3 v xs) (hi : i ≤ xs.length) (hb : Blk w vb 3 #[x]) (hne : v.ownBlock ≠ some vb)
    (h1 : OneCells xs) (hx : x.oneCell' = true) (hbig : xs.length + 1 ≤ 1000000) :
    Calls Try.prog 32 #[v, .int .i64 a, .slice (some ⟨vb, 0, none⟩) 1 1] w (RowPost w 3 v (xs.take i ++ x :: xs.drop i)) := by
  subst ha
  exact insert_int v xs x i vb w hown hi hb hne h1 hx hbig
set_option maxHeartbeats 2000000 in
set_option maxRecDepth 100000 in
theorem delete_node (g n c i : Nat) (xs : List Value) (w : World) (hown : Own w 59 (.slice (some ⟨g, 0, none⟩) n c) xs) (hl : xs.length = n)
    (hin : i < n) (hnc : n ≤ c) (h1 : OneCells xs) (hbig : n + 1 ≤ 1000000) (hc63 : c ≤ maxLen) :
    Calls Try.prog 55 #[.slice (some ⟨g, 0, none⟩) n c, .int .i64 i, .int .i64 (i + 1)] w (PlacePost w 59 g c (xs.take i ++ xs.drop (i + 1))) := by
  unfold maxLen at hc63
  obtain ⟨R, hR⟩ : ∃ R, R = PlacePost w 59 g c (xs.take i ++ xs.drop (i + 1)) := ⟨_, rfl⟩
  rw [← hR]
  have H1 : Hid (OneCells (xs.drop (i + 1))) := oneCells_drop h1 _
  have HO : Hid (Own w 59 (.slice (some ⟨g, 0, none⟩) i c) (xs.take i)) := hown.cut (by omega) (by simp)
  have HL := Lib.hid hl
  have HLd : Hid ((xs.drop (i + 1)).length = n - (i + 1)) := by show (xs.drop (i + 1)).length = n - (i + 1); simp; omega
  have HP : Hid (∀ (e : Ending) (W : World) (zs : List Value), e = .returned (.slice (some ⟨g, 0, none⟩) (n - 1) c) → zs = xs.take i ++ xs.drop (i + 1) → Own W 59 (.slice (some ⟨g, 0, none⟩) (n - 1) c) zs →
      Chg (fun k => k = g) w W → R e W) := by
    intro e W zs h2 hz h3 h5
    rw [hR]
    have : (xs.take i ++ xs.drop (i + 1)).length = n - 1 := by simp [HL.out]; omega
    rw [← this] at h2 h3
    exact ⟨h2, hz ▸ h3, h5⟩
  obtain ⟨A, hA, HRd⟩ : ∃ A : Addr, (if c = i + 1 then some (⟨g, 0, none⟩ : Addr) else some ⟨g, i + 1, none⟩) = some A ∧ Hid (Reads w.drew (some A) (n - (i + 1)) (xs.drop (i + 1))) := by
    by_cases h : c = i + 1
    · refine ⟨⟨g, 0, none⟩, by simp [h], HLd.out, fun h0 => ?_⟩
      omega
    · exact ⟨⟨g, i + 1, none⟩, by simp [h], Reads.tail hown (by omega)⟩
  have hi1 : (0 : Int) ≤ (i : Int) + 1 := by omega
  have hi2 : ((i : Int) + 1).toNat = i + 1 := by omega
  have hi3 : i ≤ c := by omega
  have hi4 : ¬ ((i : Int) = (i : Int) + 1) := by omega
  have hi5 : (i : Int) + 1 ≤ (n : Int) := by omega
  have hi6 : (i : Int) ≤ (i : Int) + 1 := by omega
  have hi7 : i + 1 ≤ c := by omega
  have hi8 : i + 1 ≤ n := by omega
  clear hown hl h1 hR
  go_enter Try.func55, Try.ntmps55
  go_wp2_with fail
  have hw1 : IntKind.i64.wrap ((i : Int) + 1) = (i : Int) + 1 := by rw [IntKind.wrap_i64]; omega
  go_region_law (refine step_app_room rfl (.tmp 22) (.tmp 25) rfl slt_node g i c (xs.take i) (by simp [Act.eval, Act.put]) (by exact HO.out) (some A) (n - (i + 1)) (c - (i + 1)) (by simp [Act.eval, Act.put, hA]) (xs.drop (i + 1)) HRd.out H1.out (.inl (by simp)) (by omega) ?_; rw [show i + (n - (i + 1)) = n - 1 by omega]; intro w1 hown1 hg1)
  clear hw1
  have H2 := Lib.hid hown1
  have HC2 : Hid (Chg (fun k => k = g) w w1) := ((Chg.refl _ w).drew).grown hg1 (fun k hk => by injection hk with hk; exact .inl hk.symm)
  clear hown1 hg1
  have hn1 : ((n - 1 : Nat) : Int) ≤ (n : Int) := by omega
  have hn2 : ¬ (c = n - 1) := by omega
  have hn3 : n - (n - 1) = 1 := by omega
  have hn4 : n - 1 ≤ c := by omega
  go_wp2_with fail
  obtain ⟨w2, hr2, hown2, hg2⟩ := run_clr slt_node H2.out (m := 1) (dCap := c - (n - 1)) (by omega) (by omega) 0
  rw [hr2]
  have H3 := Lib.hid hown2
  clear hr2 hown2
  go_wp2_with fail
  exact HP.out _ _ _ rfl rfl H3.out (HC2.out.grown hg2 (fun k hk => by injection hk with hk; exact .inl hk.symm))

/-- slices.Delete(s, a, a + 1). -/
theorem delete_any_node (v : Value) (a b : Int) (i : Nat) (ha : a = (i : Int)) (hb : b = (i : Int) + 1) (xs : List Value) (w : World) (hown : Own w 59 v xs)
    (hin : i < xs.length) (h1 : OneCells xs) (hbig : xs.length + 1 ≤ 1000000) :
    Calls Try.prog 55 #[v, .int .i64 a, .int .i64 b] w (RowPost w 59 v (xs.take i ++ xs.drop (i + 1))) := by
  subst ha; subst hb
  obtain ⟨A, c, rfl, hnc, hc⟩ := hown.shape
  obtain ⟨g, cur, rfl, _⟩ := hown.open_ (hown.some_of_pos (by omega))
  refine (delete_node g _ c i xs w hown rfl hin hnc h1 hbig hc).mono ?_
  rintro e w' ⟨h2, h3, h4⟩
  exact ⟨g, c, h2, h3, .inl rfl, h4.mono fun k _ h => by subst h; rfl⟩

/-- slices.Insert(s, a, x). -/
theorem insert_any_node (v : Value) (a : Int) (i : Nat) (ha : a = (i : Int)) (xs : List Value) (x : Value) (vb : Nat) (w : World) (hown : Own w 59 v xs) (hi : i ≤ xs.length) (hb : Blk w vb 59 #[x]) (hne : v.ownBlock ≠ some vb)
    (h1 : OneCells xs) (hx : x.oneCell' = true) (hbig : xs.length + 1 ≤ 1000000) :
    Calls Try.prog 36 #[v, .int .i64 a, .slice (some ⟨vb, 0, none⟩) 1 1] w (RowPost w 59 v (xs.take i ++ x :: xs.drop i)) := by
  subst ha
  exact insert_node v xs x i vb w hown hi hb hne h1 hx hbig
end Go.Proofs.Ythndplpbnfihdaa
