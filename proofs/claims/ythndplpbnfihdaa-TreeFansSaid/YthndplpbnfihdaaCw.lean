/-
  A cursor in memory: Ok, Key, Row. Conditions: it stands on a key or on none.
-/
import Derived.Test.YthndplpbnfihdaaCu
import Derived.Deep.Draws
set_option linter.unusedVariables false
set_option linter.unusedSimpArgs false
namespace Go.Proofs.Ythndplpbnfihdaa
open Go.RowKit

def spots (ps : List (Nat × Int)) : List (Value × Value) := ps.map fun p => (ptr p.1, .int .i64 p.2)

/-- The cursor at block c stands on this way. -/
def Cur (w : World) (c : Nat) (ps : List (Nat × Int)) (fpc : List Nat) : Prop :=
  ∃ v, Blk w c 75 #[v] ∧ Row2 w 77 v (spots ps) ∧ fpc = c :: v.ownBlock.toList

theorem Cur.chg {F : Nat → Prop} {w w' : World} {c : Nat} {ps : List (Nat × Int)} {fpc : List Nat} (h : Cur w c ps fpc) (hc : Chg F w w') (hF : ∀ k ∈ fpc, ¬ F k) : Cur w' c ps fpc := by
  obtain ⟨v, h1, h2, h3⟩ := h
  exact ⟨v, h1.chg hc (hF c (by rw [h3]; simp)), h2.chg hc fun g hg => hF g (by rw [h3]; simp [hg]), h3⟩

theorem Cur.lt {w : World} {c : Nat} {ps : List (Nat × Int)} {fpc : List Nat} (h : Cur w c ps fpc) : ∀ k ∈ fpc, k < w.heap.size := by
  obtain ⟨v, h1, h2, h3⟩ := h
  intro k hk
  rw [h3] at hk
  simp only [List.mem_cons, Option.mem_toList] at hk
  rcases hk with rfl | hk
  · exact h1.lt
  · exact h2.lt hk

theorem ok_calls {w : World} {c : Nat} {ps : List (Nat × Int)} {fpc : List Nat} (h : Cur w c ps fpc) :
    Calls Try.prog 12 #[ptr c] w fun e w' => e = .returned (.bool (decide (0 < ps.length))) ∧ w = w' := by
  obtain ⟨v, h1, h2, h3⟩ := h
  obtain ⟨A, cap, rfl, _⟩ := h2.shape
  have hc : w.cell? ⟨c, 0, none⟩ = some (.slice A ps.length cap) := by
    have := h1.cell_ (i := 0) rfl; simpa [spots] using this
  obtain ⟨n, hn⟩ : ∃ n, ps.length = n := ⟨_, rfl⟩
  rw [hn] at hc ⊢
  unfold ptr
  clear h1 h2 h3 hn
  go_enter Try.func12, Try.ntmps12
  go_wp2
  go_ret
  exact ⟨by simp, rfl⟩

set_option maxHeartbeats 1000000 in
set_option maxRecDepth 100000 in
theorem key_walk (w : World) (c g n cap b gk kn kc i : Nat) (x : ByteArray) (hc : w.cell? ⟨c, 0, none⟩ = some (.slice (some ⟨g, 0, none⟩) n cap)) (hn : 0 < n) (hb : w.cell? ⟨g, (n - 1) * 2, none⟩ = some (.pointer (some ⟨b, 0, none⟩)))
    (hi : w.cell? ⟨g, (n - 1) * 2 + 1, none⟩ = some (.int .i64 i)) (hk : w.cell? ⟨b, 0, none⟩ = some (.slice (some ⟨gk, 0, none⟩) kn kc)) (hkey : w.cell? ⟨gk, i, none⟩ = some (.string x)) (hik : i < kn) (hbig : n ≤ 1000000) (hkb : kn ≤ 1000000) :
    Calls Try.prog 13 #[ptr c] w fun e w' => e = .returned (.string x) ∧ Chg (fun _ => False) w w' := by
  unfold ptr
  obtain ⟨m, rfl⟩ : ∃ m, n = m + 1 := ⟨n - 1, by omega⟩
  simp only [Nat.add_sub_cancel] at hb hi
  obtain ⟨R, hR⟩ : ∃ R : Ending → World → Prop, R = fun e w' => e = .returned (.string x) ∧ Chg (fun _ => False) w w' := ⟨_, rfl⟩
  rw [← hR]
  have HP : Hid (∀ e w', e = .returned (.string x) → Chg (fun _ => False) w w' → R e w') := fun e w' h1 h2 => by rw [hR]; exact ⟨h1, h2⟩
  have HOK : Hid (Calls Try.prog 12 #[.pointer (some ⟨c, 0, none⟩)] w fun e w' => e = .returned (.bool true) ∧ w = w') := by
    go_enter Try.func12, Try.ntmps12
    go_wp2
    go_ret
    exact ⟨by simp, rfl⟩
  clear hR
  have hw1 : IntKind.i64.wrap (m : Int) = (m : Int) := by rw [IntKind.wrap_i64]; omega
  have hlc : c < w.heap.size := World.block_lt_of_cell? _ _ hc
  have hlg : g < w.heap.size := World.block_lt_of_cell? _ _ hb
  have hlb : b < w.heap.size := World.block_lt_of_cell? _ _ hk
  have hlk : gk < w.heap.size := World.block_lt_of_cell? _ _ hkey
  have hmm : (m : Int) < (m : Int) + 1 := by omega
  have hik' : (i : Int) < (kn : Int) := by omega
  go_enter Try.func13, Try.ntmps13
  go_wp2_with (go_at_call 12; refine HOK.out.mono ?_; rintro e w' ⟨rfl, rfl⟩)
  go_region
  go_wp2_with fail
  go_region
  go_wp2_with fail
  exact HP.out _ _ rfl ((((Chg.refl _ w).alloc _).drew).drew)
set_option maxHeartbeats 1000000 in
set_option maxRecDepth 100000 in
theorem row_walk (w : World) (c g n cap b gk kn kc i : Nat) (x : Int) (hc : w.cell? ⟨c, 0, none⟩ = some (.slice (some ⟨g, 0, none⟩) n cap)) (hn : 0 < n) (hb : w.cell? ⟨g, (n - 1) * 2, none⟩ = some (.pointer (some ⟨b, 0, none⟩)))
    (hi : w.cell? ⟨g, (n - 1) * 2 + 1, none⟩ = some (.int .i64 i)) (hk : w.cell? ⟨b, 1, none⟩ = some (.slice (some ⟨gk, 0, none⟩) kn kc)) (hkey : w.cell? ⟨gk, i, none⟩ = some (.int .i64 x)) (hik : i < kn) (hbig : n ≤ 1000000) (hkb : kn ≤ 1000000) :
    Calls Try.prog 18 #[ptr c] w fun e w' => e = .returned (.int .i64 x) ∧ Chg (fun _ => False) w w' := by
  unfold ptr
  obtain ⟨m, rfl⟩ : ∃ m, n = m + 1 := ⟨n - 1, by omega⟩
  simp only [Nat.add_sub_cancel] at hb hi
  obtain ⟨R, hR⟩ : ∃ R : Ending → World → Prop, R = fun e w' => e = .returned (.int .i64 x) ∧ Chg (fun _ => False) w w' := ⟨_, rfl⟩
  rw [← hR]
  have HP : Hid (∀ e w', e = .returned (.int .i64 x) → Chg (fun _ => False) w w' → R e w') := fun e w' h1 h2 => by rw [hR]; exact ⟨h1, h2⟩
  have HOK : Hid (Calls Try.prog 12 #[.pointer (some ⟨c, 0, none⟩)] w fun e w' => e = .returned (.bool true) ∧ w = w') := by
    go_enter Try.func12, Try.ntmps12
    go_wp2
    go_ret
    exact ⟨by simp, rfl⟩
  clear hR
  have hw1 : IntKind.i64.wrap (m : Int) = (m : Int) := by rw [IntKind.wrap_i64]; omega
  have hlc : c < w.heap.size := World.block_lt_of_cell? _ _ hc
  have hlg : g < w.heap.size := World.block_lt_of_cell? _ _ hb
  have hlb : b < w.heap.size := World.block_lt_of_cell? _ _ hk
  have hlk : gk < w.heap.size := World.block_lt_of_cell? _ _ hkey
  have hmm : (m : Int) < (m : Int) + 1 := by omega
  have hik' : (i : Int) < (kn : Int) := by omega
  go_enter Try.func18, Try.ntmps18
  go_wp2_with (go_at_call 12; refine HOK.out.mono ?_; rintro e w' ⟨rfl, rfl⟩)
  go_region
  go_wp2_with fail
  go_region
  go_wp2_with fail
  exact HP.out _ _ rfl ((((Chg.refl _ w).alloc _).drew).drew)

theorem key_none {w : World} {c : Nat} {fpc : List Nat} (h : Cur w c [] fpc) : Calls Try.prog 13 #[ptr c] w fun e w' => e = .returned (.string ByteArray.empty) ∧ w = w' := by
  have HOK : Hid (Calls Try.prog 12 #[.pointer (some ⟨c, 0, none⟩)] w fun e w' => e = .returned (.bool false) ∧ w = w') := ok_calls h
  unfold ptr
  clear h
  go_enter Try.func13, Try.ntmps13
  go_wp2_with (go_at_call 12; refine HOK.out.mono ?_; rintro e w' ⟨rfl, rfl⟩)
  go_ret
  exact ⟨rfl, rfl⟩
theorem row_none {w : World} {c : Nat} {fpc : List Nat} (h : Cur w c [] fpc) : Calls Try.prog 18 #[ptr c] w fun e w' => e = .returned (.int .i64 0) ∧ w = w' := by
  have HOK : Hid (Calls Try.prog 12 #[.pointer (some ⟨c, 0, none⟩)] w fun e w' => e = .returned (.bool false) ∧ w = w') := ok_calls h
  unfold ptr
  clear h
  go_enter Try.func18, Try.ntmps18
  go_wp2_with (go_at_call 12; refine HOK.out.mono ?_; rintro e w' ⟨rfl, rfl⟩)
  go_ret
  exact ⟨rfl, rfl⟩

/-- A tree that is read. -/
structure View (w : World) (S : Nat → Prop) (d : Nat) (u : Nb d) : Prop where
  rd : Rd w S d u
  full : 0 < d → Full d u
  deep : d ≤ 1000
  few : (listU d u).length ≤ 1000
  lt : ∀ k, S k → k < w.heap.size

theorem View.chg {F S : Nat → Prop} {w w' : World} {d : Nat} {u : Nb d} (h : View w S d u) (hc : Chg F w w') (hS : ∀ k, S k → ¬ F k) : View w' S d u :=
  ⟨h.rd.chg hc hS, h.full, h.deep, h.few, fun k hk => Nat.lt_of_lt_of_le (h.lt k hk) hc.size⟩

theorem last_get {α : Type} {l : List α} {x : α} (h : l.getLast? = some x) : 0 < l.length ∧ l[l.length - 1]? = some x := by
  rw [List.getLast?_eq_getElem?] at h
  exact ⟨by have := (List.getElem?_eq_some_iff.1 h).1; omega, h⟩

theorem key_calls {w : World} {S : Nat → Prop} {d c : Nat} {u : Nb d} {ps : List (Nat × Int)} {fpc : List Nat} {r : Int} {p : ByteArray × Int} (hV : View w S d u) (h : Cur w c ps fpc) (hg : Goes 0 d u ps r) (hp : (listU d u)[r.toNat]? = some p) :
    Calls Try.prog 13 #[ptr c] w fun e w' => e = .returned (.string p.1) ∧ Chg (fun _ => False) w w' := by
  obtain ⟨v, h1, h2, h3⟩ := h
  obtain ⟨A, cap, rfl, _, _, hA, _⟩ := h2.shape
  obtain ⟨x, i, hx, hl, hi, hil, hxl⟩ := goes_last hV.rd hg
  obtain ⟨hpos, hget⟩ := last_get hl
  have hsl : (spots ps).length = ps.length := by simp [spots]
  obtain ⟨g, rfl⟩ := hA (by rw [hsl]; exact hpos)
  have hsg : (spots ps)[ps.length - 1]? = some (ptr x.1, .int .i64 i) := by rw [spots, List.getElem?_map, hget]; rfl
  obtain ⟨_, vk, vr, hb, hk, hr, _, _⟩ := hx
  obtain ⟨B, kc, rfl, _⟩ := hk.shape
  have hkl : (strs (keysT x.2)).length = x.2.length := by simp [strs, keysT]
  obtain ⟨gk, _, rfl, _⟩ := hk.open_ (hk.some_of_pos (by rw [hkl]; omega))
  rw [hkl] at hb hk
  rw [hsl] at h1 h2
  have hlen := goes_len hg
  have hdeep := hV.deep
  have hfew := hV.few
  have e1 := h2.fst hsg
  have e2 := h2.snd hsg
  rw [Nat.mul_comm] at e1 e2
  refine key_walk w c g ps.length cap x.1 gk x.2.length kc i p.1 (h1.cell_ rfl) hpos e1 e2 (hb.cell_ rfl) (hk.cell ?_) hil (by omega) (by omega)
  rw [hp] at hi
  simp [strs, keysT, hi]
theorem row_calls {w : World} {S : Nat → Prop} {d c : Nat} {u : Nb d} {ps : List (Nat × Int)} {fpc : List Nat} {r : Int} {p : ByteArray × Int} (hV : View w S d u) (h : Cur w c ps fpc) (hg : Goes 0 d u ps r) (hp : (listU d u)[r.toNat]? = some p) :
    Calls Try.prog 18 #[ptr c] w fun e w' => e = .returned (.int .i64 p.2) ∧ Chg (fun _ => False) w w' := by
  obtain ⟨v, h1, h2, h3⟩ := h
  obtain ⟨A, cap, rfl, _, _, hA, _⟩ := h2.shape
  obtain ⟨x, i, hx, hl, hi, hil, hxl⟩ := goes_last hV.rd hg
  obtain ⟨hpos, hget⟩ := last_get hl
  have hsl : (spots ps).length = ps.length := by simp [spots]
  obtain ⟨g, rfl⟩ := hA (by rw [hsl]; exact hpos)
  have hsg : (spots ps)[ps.length - 1]? = some (ptr x.1, .int .i64 i) := by rw [spots, List.getElem?_map, hget]; rfl
  obtain ⟨_, vk, vr, hb, hk, hr, _, _⟩ := hx
  obtain ⟨B, kc, rfl, _⟩ := hr.shape
  have hkl : (nums (rowsT x.2)).length = x.2.length := by simp [nums, rowsT]
  obtain ⟨gk, _, rfl, _⟩ := hr.open_ (hr.some_of_pos (by rw [hkl]; omega))
  rw [hkl] at hb hr
  rw [hsl] at h1 h2
  have hlen := goes_len hg
  have hdeep := hV.deep
  have hfew := hV.few
  have e1 := h2.fst hsg
  have e2 := h2.snd hsg
  rw [Nat.mul_comm] at e1 e2
  refine row_walk w c g ps.length cap x.1 gk x.2.length kc i p.2 (h1.cell_ rfl) hpos e1 e2 (hb.cell_ rfl) (hr.cell ?_) hil (by omega) (by omega)
  rw [hp] at hi
  simp [nums, rowsT, hi]
end Go.Proofs.Ythndplpbnfihdaa
