/-
  A B+ tree in memory: which blocks read as which tree; a node's size and the way to a key. Conditions: the node's lists are short.
-/
import Derived.Test.YthndplpbnfihdaaBt3
import Derived.Test.YthndplpbnfihdaaBs
import Derived.Test.YthndplpbnfihdaaSd
import Derived.WideLaws
set_option linter.unusedVariables false
set_option linter.unusedSimpArgs false
namespace Go.Proofs.Ythndplpbnfihdaa
open Go.RowKit

@[go_sem] theorem eql_kids (A : Option Addr) (n c : Nat) (w : World) : (binOp .eql 60 (.slice A n c) (.slice none 0 0)).run Try.prog w = .ok (.bool A.isNone) w :=
  Lib.run_eql_slice_nil w 60 59 A n c 0 0 Try.underlying60
@[go_sem] theorem neq_kids (A : Option Addr) (n c : Nat) (w : World) : (binOp .neq 60 (.slice A n c) (.slice none 0 0)).run Try.prog w = .ok (.bool (!A.isNone)) w :=
  run_neq_slice_nil_any w 60 59 A n c 0 0 Try.underlying60

def ptr (b : Nat) : Value := .pointer (some ⟨b, 0, none⟩)
def strs (l : List ByteArray) : List Value := l.map Value.string
def nums (l : List Int) : List Value := l.map (Value.int .i64)
def ptrs (l : List Nat) : List Value := l.map ptr
def rowsT (l : List (ByteArray × Int)) : List Int := l.map (·.2)

theorem one_ptrs (l : List Nat) : OneCells (ptrs l) := by
  intro u hu; obtain ⟨x, _, rfl⟩ := List.mem_map.1 hu; rfl
theorem one_strs (l : List ByteArray) : OneCells (strs l) := one_strings l
theorem one_nums (l : List Int) : OneCells (nums l) := one_ints l

/-- The node at block b reads as t, through just the blocks fp. -/
def At (w : World) : (d : Nat) → Nat → Tr d → List Nat → Prop
  | 0, b, l, fp => ∃ vk vr, Blk w b 62 #[vk, vr, .slice none 0 0] ∧ Own w 9 vk (strs (keysT l)) ∧ Own w 3 vr (nums (rowsT l)) ∧ fp = b :: (vk.ownBlock.toList ++ vr.ownBlock.toList)
  | d + 1, b, (ks, ts), fp => ∃ vk g c, ∃ cs : List (Nat × Tr d × List Nat), Blk w b 62 #[vk, .slice none 0 0, .slice (some ⟨g, 0, none⟩) cs.length c] ∧ Own w 9 vk (strs ks) ∧
      Own w 59 (.slice (some ⟨g, 0, none⟩) cs.length c) (ptrs (cs.map (·.1))) ∧ ts = cs.map (·.2.1) ∧ (∀ x ∈ cs, At w d x.1 x.2.1 x.2.2) ∧ fp = b :: (vk.ownBlock.toList ++ g :: cs.flatMap (·.2.2))

theorem At.head {w : World} {b : Nat} {fp : List Nat} : ∀ {d : Nat} {t : Tr d}, At w d b t fp → b ∈ fp
  | 0, l, ⟨vk, vr, _, _, _, h⟩ => by rw [h]; exact List.mem_cons_self ..
  | d + 1, (ks, ts), ⟨vk, g, c, cs, _, _, _, _, _, h⟩ => by rw [h]; exact List.mem_cons_self ..

theorem At.lt {w : World} : ∀ {d : Nat} {b : Nat} {t : Tr d} {fp : List Nat}, At w d b t fp → ∀ k ∈ fp, k < w.heap.size
  | 0, b, l, fp, ⟨vk, vr, hb, hk, hr, h⟩, k, hkm => by
    rw [h] at hkm
    simp only [List.mem_cons, List.mem_append, Option.mem_toList] at hkm
    rcases hkm with rfl | hkm | hkm
    · exact hb.lt
    · exact hk.lt hkm
    · exact hr.lt hkm
  | d + 1, b, (ks, ts), fp, ⟨vk, g, c, cs, hb, hk, hc, ht, hcs, h⟩, k, hkm => by
    rw [h] at hkm
    simp only [List.mem_cons, List.mem_append, Option.mem_toList, List.mem_flatMap] at hkm
    rcases hkm with rfl | hkm | rfl | ⟨x, hx, hkm⟩
    · exact hb.lt
    · exact hk.lt hkm
    · exact hc.lt rfl
    · exact At.lt (hcs x hx) k hkm

/-- A tree whose blocks haven't changed reads as it did. -/
theorem At.chg {w w' : World} {F : Nat → Prop} (hc : Chg F w w') : ∀ {d : Nat} {b : Nat} {t : Tr d} {fp : List Nat}, At w d b t fp → (∀ k ∈ fp, ¬ F k) → At w' d b t fp
  | 0, b, l, fp, ⟨vk, vr, hb, hk, hr, h⟩, hF => by
    refine ⟨vk, vr, hb.chg hc (hF _ ?_), hk.chg hc fun g hg => hF _ ?_, hr.chg hc fun g hg => hF _ ?_, h⟩
    · rw [h]; exact List.mem_cons_self ..
    · rw [h]; simp [hg]
    · rw [h]; simp [hg]
  | d + 1, b, (ks, ts), fp, ⟨vk, g, c, cs, hb, hk, hcc, ht, hcs, h⟩, hF => by
    refine ⟨vk, g, c, cs, hb.chg hc (hF _ ?_), hk.chg hc fun g' hg => hF _ ?_, hcc.chg hc fun g' hg => hF _ ?_, ht, fun x hx => At.chg hc (hcs x hx) fun k hk => hF _ ?_, h⟩
    · rw [h]; exact List.mem_cons_self ..
    · rw [h]; simp [hg]
    · simp [Value.ownBlock] at hg; subst hg; rw [h]; simp
    · rw [h]
      simp only [List.mem_cons, List.mem_append, List.mem_flatMap]
      exact .inr (.inr (.inr ⟨x, hx, hk⟩))

theorem At.drewN {w : World} {d b : Nat} {t : Tr d} {fp : List Nat} (h : At w d b t fp) (n : Nat) : At (w.drewN n) d b t fp :=
  h.chg ((Chg.refl (fun _ => False) w).drewN n) fun _ _ h => h

/-! size -/
theorem size_leaf (w : World) (b : Nat) (A : Option Addr) (n c : Nat) (hk : w.cell? ⟨b, 0, none⟩ = some (.slice A n c)) (hc : w.cell? ⟨b, 2, none⟩ = some (.slice none 0 0)) :
    Calls Try.prog 34 #[ptr b] w fun e w' => e = .returned (.int .i64 n) ∧ w = w' := by
  unfold ptr
  go_enter Try.func34, Try.ntmps34
  go_wp2
  go_ret
  exact ⟨rfl, rfl⟩

theorem size_inner (w : World) (b g n c : Nat) (hc : w.cell? ⟨b, 2, none⟩ = some (.slice (some ⟨g, 0, none⟩) n c)) :
    Calls Try.prog 34 #[ptr b] w fun e w' => e = .returned (.int .i64 n) ∧ w = w' := by
  unfold ptr
  go_enter Try.func34, Try.ntmps34
  go_wp2
  go_ret
  exact ⟨rfl, rfl⟩

theorem size_at {w : World} {b : Nat} {fp : List Nat} : ∀ {d : Nat} {t : Tr d}, At w d b t fp → Calls Try.prog 34 #[ptr b] w fun e w' => e = .returned (.int .i64 (sizeT d t)) ∧ w = w'
  | 0, l, ⟨vk, vr, hb, hk, hr, h⟩ => by
    obtain ⟨A, c, rfl, _⟩ := hk.shape
    have := size_leaf w b A _ c (hb.cell_ rfl) (hb.cell_ rfl)
    simpa [sizeT, strs, keysT] using this
  | d + 1, (ks, ts), ⟨vk, g, c, cs, hb, hk, hc, ht, hcs, h⟩ => by
    have := size_inner w b g cs.length c (hb.cell_ rfl)
    subst ht
    simpa [sizeT] using this

/-! way -/
def WayPost (ks : List ByteArray) (key : ByteArray) (w : World) (e : Ending) (w' : World) : Prop := e = .returned (.int .i64 (wayT ks key : Nat)) ∧ ∃ q, w' = w.drewN q

set_option maxHeartbeats 400000 in
theorem way_calls (w : World) (b : Nat) (v : Value) (ks : List ByteArray) (key : ByteArray) (hk : w.cell? ⟨b, 0, none⟩ = some v) (hown : Own w 9 v (strs ks)) (hr : Rising ks) (hbig : ks.length ≤ 1000000) :
    Calls Try.prog 33 #[ptr b, .string key] w (WayPost ks key w) := by
  unfold ptr
  obtain ⟨R, hR⟩ : ∃ R, R = WayPost ks key w := ⟨_, rfl⟩
  rw [← hR]
  have HW : Hid (∀ e W (q : Nat), e = .returned (.int .i64 (wayT ks key : Nat)) → W = w.drewN q → R e W) := by
    intro e W q h1 h2; rw [hR]; exact ⟨h1, q, h2⟩
  have HB : Hid (Calls Try.prog 30 #[v, .string key] w (BsPost ks key w)) := bs_any v ks key _ hown hr hbig
  have hp : pos ks key ≤ 1000000 := Nat.le_trans (pos_le _ _) hbig
  obtain ⟨A, c, rfl, _⟩ := hown.shape
  clear hown hR
  have HWe : Hid (wayT ks key = if ks[pos ks key]? = some key then pos ks key + 1 else pos ks key) := rfl
  by_cases hd : ks[pos ks key]? = some key
  · have HD := Lib.hid hd
    clear hd
    go_enter Try.func33, Try.ntmps33
    go_wp2_with fail
    refine HB.out.mono ?_
    rintro e w1 ⟨rfl, q, rfl⟩
    rw [decide_eq_true HD.out]
    generalize hP : pos ks key = P at *
    have HP := Lib.hid hP
    clear hP
    go_wp2_with fail
    refine HW.out _ _ q ?_ rfl
    rw [HWe.out, if_pos HD.out]
    first | rfl | simp
  · have HD := Lib.hid hd
    clear hd
    go_enter Try.func33, Try.ntmps33
    go_wp2_with fail
    refine HB.out.mono ?_
    rintro e w1 ⟨rfl, q, rfl⟩
    rw [decide_eq_false HD.out]
    go_wp2_with fail
    refine HW.out _ _ q ?_ rfl
    rw [HWe.out, if_neg HD.out]
    first | rfl | simp

end Go.Proofs.Ythndplpbnfihdaa
