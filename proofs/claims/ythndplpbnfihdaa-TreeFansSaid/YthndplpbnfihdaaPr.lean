/-
  Rows of pairs: cutting, appending. Conditions: the rows fit.
-/
import Derived.Test.YthndplpbnfihdaaR2
import Derived.Test.YthndplpbnfihdaaPt
import Derived.Test.YthndplpbnfihdaaGe
set_option linter.unusedVariables false
set_option linter.unusedSimpArgs false
namespace Go.Proofs.Ythndplpbnfihdaa
open Go.RowKit

def prs (L : List (ByteArray × Int)) : List (Value × Value) := L.map fun p => (.string p.1, .int .i64 p.2)
theorem prs_len (L : List (ByteArray × Int)) : (prs L).length = L.length := by simp [prs]
theorem prs_get {L : List (ByteArray × Int)} {i : Nat} {p : ByteArray × Int} (h : L[i]? = some p) : (prs L)[i]? = some (.string p.1, .int .i64 p.2) := by rw [prs, List.getElem?_map, h]; rfl
theorem prs_take (L : List (ByteArray × Int)) (k : Nat) : (prs L).take k = prs (L.take k) := by simp [prs, List.map_take]
theorem prs_drop (L : List (ByteArray × Int)) (k : Nat) : (prs L).drop k = prs (L.drop k) := by simp [prs, List.map_drop]
theorem prs_app (L M : List (ByteArray × Int)) : prs L ++ prs M = prs (L ++ M) := by simp [prs]
theorem prs_one (L : List (ByteArray × Int)) : ∀ u ∈ cells2 (prs L), u.oneCell' = true := by
  intro u hu
  obtain ⟨p, hp, hu⟩ := List.mem_flatMap.1 hu
  obtain ⟨q, _, rfl⟩ := List.mem_map.1 hp
  simp at hu
  rcases hu with rfl | rfl <;> rfl

theorem slt_pair : SlT2 Try.prog 46 52 (.agg #[.string ⟨#[]⟩, .int .i64 0]) 24 where
  ht := Try.underlying46
  info := by kernel_rfl
  hz := rfl
  hb := by omega

/-- A slice of pairs that is read. -/
def Reads2 (w : World) (A : Option Addr) (m : Nat) (ps : List (Value × Value)) : Prop :=
  ps.length = m ∧ (0 < m → ∃ ad, A = some ad ∧ ∀ j u, (cells2 ps)[j]? = some u → w.cell? (ad.add j) = some u)

theorem Reads2.of_row {w : World} {e : TypeId} {A : Option Addr} {n c : Nat} {ps : List (Value × Value)} (h : Row2 w e (.slice A n c) ps) : Reads2 w A n ps := by
  obtain ⟨A', c', hv, _, _, hA, _⟩ := h.shape
  injection hv with h1 h2 h3
  subst h1 h2
  refine ⟨rfl, fun hp => ?_⟩
  obtain ⟨g, rfl⟩ := hA hp
  exact ⟨_, rfl, fun j u hu => by rw [add_lit, Nat.zero_add]; exact h.cell hu⟩

theorem Reads2.chg {F : Nat → Prop} {w w' : World} {A : Option Addr} {m : Nat} {ps : List (Value × Value)} (h : Reads2 w A m ps) (hc : Chg F w w') (hA : ∀ ad, A = some ad → ¬ F ad.block) : Reads2 w' A m ps := by
  refine ⟨h.1, fun hp => ?_⟩
  obtain ⟨ad, rfl, hcell⟩ := h.2 hp
  refine ⟨ad, rfl, fun j u hu => ?_⟩
  have h1 := hcell j u hu
  rw [hc.cell (World.block_lt_of_cell? _ _ h1) (by rw [block_of_add]; exact hA ad rfl)]
  exact h1

theorem Reads2.one {w : World} {b : Nat} {e : TypeId} {x y : Value} (hb : Blk w b e #[x, y]) : Reads2 w (some ⟨b, 0, none⟩) 1 [(x, y)] :=
  ⟨rfl, fun _ => ⟨_, rfl, pair_cells hb⟩⟩

theorem cells2_drop : ∀ (ps : List (Value × Value)) (k : Nat), cells2 (ps.drop k) = (cells2 ps).drop (k * 2)
  | [], k => by simp [cells2]
  | p :: ps, 0 => by simp
  | p :: ps, k + 1 => by
    rw [List.drop_succ_cons, cells2_drop ps k, cells2_cons, show (k + 1) * 2 = k * 2 + 1 + 1 by omega, List.drop_succ_cons, List.drop_succ_cons]

/-- l[:k]. -/
theorem run_take2 {w : World} {A : Option Addr} {n c : Nat} {ps : List (Value × Value)} (h : Row2 w 52 (.slice A n c) ps) (k : Nat) (hk : k ≤ n) :
    (∀ W, (Instr.sliceAt 46 (.slice A n c) none (some (.int .i64 k)) none).run Try.prog W = .ok (.slice A k c) W) ∧ Reads2 w A k (ps.take k) := by
  obtain ⟨A', c', hv, hle, _, hA, hnil⟩ := h.shape
  injection hv with h1 h2 h3
  subst h1 h2 h3
  have hel : Try.prog.underlying 46 = some (.slice (Try.prog.elem 46)) := by kernel_rfl
  have hsz : ∀ W, (sizeOf (Try.prog.elem 46)).run Try.prog W = .ok 2 W := fun W => by kernel_rfl
  constructor
  · intro W
    rw [run_sliceAt_slice W _ _ _ _ _ hel, run_slice_h W _ A ps.length c hel .i64 k (by omega) (by omega), hsz]
    simp only [Result.andThen, sliced, Int.toNat_natCast, Nat.zero_mul, Nat.sub_zero]
    by_cases hc0 : c = 0
    · rw [if_pos hc0]
    · rw [if_neg hc0]
      cases A with
      | none => rfl
      | some ad =>
        rcases h.2 with ⟨hv, _⟩ | ⟨g, cap, cur, hv, _⟩
        · cases hv
        · injection hv with hv; injection hv with hv; subst hv; rfl
  · have hr := Reads2.of_row h
    refine ⟨by simp; omega, fun hp => ?_⟩
    obtain ⟨ad, hA1, hcell⟩ := hr.2 (by omega)
    refine ⟨ad, hA1, fun j u hu => hcell j u ?_⟩
    rw [← cells2_take, List.getElem?_take] at hu
    split at hu
    · exact hu
    · cases hu

/-- l[k:]. -/
theorem run_drop2 {w : World} {A : Option Addr} {n c : Nat} {ps : List (Value × Value)} (h : Row2 w 52 (.slice A n c) ps) (k : Nat) (hk : k ≤ n) :
    ∃ A' c', (∀ W, (Instr.sliceAt 46 (.slice A n c) (some (.int .i64 k)) none none).run Try.prog W = .ok (.slice A' (n - k) c') W) ∧ Reads2 w A' (n - k) (ps.drop k) ∧
      (∀ ad, A' = some ad → (Value.slice A n c).ownBlock = some ad.block) := by
  obtain ⟨A0, c0, hv, hle, _, hA, hnil⟩ := h.shape
  injection hv with h1 h2 h3
  subst h1 h2 h3
  have hel : Try.prog.underlying 46 = some (.slice (Try.prog.elem 46)) := by kernel_rfl
  have hsz : ∀ W, (sizeOf (Try.prog.elem 46)).run Try.prog W = .ok 2 W := fun W => by kernel_rfl
  refine ⟨if c = k then A else A.map (·.add (k * 2)), c - k, ?_, ?_, ?_⟩
  · intro W
    rw [run_sliceAt_slice W _ _ _ _ _ hel, run_slice_l W _ A ps.length c hel .i64 k (by omega) (by omega), hsz]
    simp only [Result.andThen, sliced, Int.toNat_natCast]
  · refine ⟨by simp, fun hp => ?_⟩
    obtain ⟨g, rfl⟩ := hA (by omega)
    rw [if_neg (by omega)]
    refine ⟨_, rfl, fun j u hu => ?_⟩
    show w.cell? (((⟨g, 0, none⟩ : Addr).add (k * 2)).add j) = some u
    rw [add_lit, add_lit, Nat.zero_add]
    rw [cells2_drop, List.getElem?_drop] at hu
    exact h.cell hu
  · intro ad had
    rcases h.2 with ⟨hv, _⟩ | ⟨g, cap, cur, hv, _⟩
    · injection hv with hv
      subst hv
      split at had <;> cases had
    · injection hv with hv
      subst hv
      split at had
      · injection had with had; subst had; rfl
      · injection had with had; subst had; rw [block_of_add]; rfl

/-- append of pairs, none or some. -/
theorem run_pairs {w : World} {A : Option Addr} {n c : Nat} {ps : List (Value × Value)} (h : Row2 w 52 (.slice A n c) ps) {B : Option Addr} {m d : Nat} {news : List (Value × Value)} (hr : Reads2 w B m news)
    (h1 : ∀ u ∈ cells2 news, u.oneCell' = true) (hbig : n + m ≤ 1000000) (ty : TypeId) :
    ∃ A' c' w', (Builtin.append_ #[46, 46] ty #[.slice A n c, .slice B m d]).run Try.prog w = .ok (.slice A' (n + m) c') w' ∧ Row2 w' 52 (.slice A' (n + m) c') (ps ++ news) ∧
      (∀ k, (Value.slice A' (n + m) c').ownBlock = some k → (Value.slice A n c).ownBlock = some k ∨ w.heap.size ≤ k) ∧ Chg (fun k => (Value.slice A n c).ownBlock = some k) w w' := by
  obtain ⟨A0, c0, hv, hle, hmax, hA, hnil⟩ := h.shape
  injection hv with e1 e2 e3
  subst e1 e2 e3
  rcases Nat.eq_zero_or_pos m with hm | hm
  · subst hm
    have hn : news = [] := List.eq_nil_of_length_eq_zero hr.1
    subst hn
    obtain ⟨i, hi, h0, hs, hby⟩ := info_parts slt_pair.info
    refine ⟨A, c, w, ?_, by simpa using h, fun k hk => .inl hk, Chg.refl _ w⟩
    rcases B with _ | ad
    · rcases h.2 with ⟨hv, hx⟩ | ⟨g, cap, cur, hv, _, _, hnc, _⟩
      · injection hv with e1 e2 e3
        subst e1; subst e3
        rw [hx]
        simp [Builtin.append_, run_underlying slt_pair.ht, sizeOf, typeInfo, hi, Builtin.lenOf, Builtin.firstCells]
      · injection hv with e1 e2 e3
        subst e1; subst e3
        simp [Builtin.append_, run_underlying slt_pair.ht, sizeOf, typeInfo, hi, Builtin.lenOf, Builtin.firstCells, hnc, storeCells]
    · rcases h.2 with ⟨hv, hx⟩ | ⟨g, cap, cur, hv, _, _, hnc, _⟩
      · injection hv with e1 e2 e3
        subst e1; subst e3
        rw [hx]
        have hf := run_firstCells_some (P := Try.prog) w 2 0 ad 0 d [] rfl (by simp)
        simp [Builtin.append_, run_underlying slt_pair.ht, sizeOf, typeInfo, hi, Builtin.lenOf, hs, hf]
      · injection hv with e1 e2 e3
        subst e1; subst e3
        have hf := run_firstCells_some (P := Try.prog) w 2 0 ad 0 d [] rfl (by simp)
        simp [Builtin.append_, run_underlying slt_pair.ht, sizeOf, typeInfo, hi, Builtin.lenOf, hs, hf, hnc, storeCells]
  · obtain ⟨ad, rfl, hcell⟩ := hr.2 hm
    obtain ⟨g', c', w', hrun, h2, h3, h4⟩ := run_app2 slt_pair h ad m d hm news hr.1 hcell h1 hbig ty
    exact ⟨_, c', w', hrun, h2, fun k hk => by
      have : k = g' := by simp [Value.ownBlock] at hk; exact hk.symm
      subst this; exact h3, h4⟩

theorem wp_pairs {w : World} {o : Oper} {act : Act} {Q : Exit → Act → World → Prop} {K : Act → World → Prop} (s x : Operand)
    (ho : o.op = .call { callee := .builtin .append, args := #[s, x], argTypes := #[46, 46] }) (A : Option Addr) (n c : Nat) (ps : List (Value × Value)) (hs : act.eval s = .slice A n c)
    (h : Row2 w 52 (.slice A n c) ps) (B : Option Addr) (m d : Nat) (hx : act.eval x = .slice B m d) (news : List (Value × Value)) (hr : Reads2 w B m news) (h1 : ∀ u ∈ cells2 news, u.oneCell' = true) (hbig : n + m ≤ 1000000)
    (hK : ∀ A' c' w', Row2 w' 52 (.slice A' (n + m) c') (ps ++ news) → Chg (fun k => (Value.slice A n c).ownBlock = some k) w w' →
      (∀ k, (Value.slice A' (n + m) c').ownBlock = some k → (Value.slice A n c).ownBlock = some k ∨ w.heap.size ≤ k) → K (act.put o.dst (.slice A' (n + m) c')) w') : o.wp Try.prog act w K Q := by
  obtain ⟨A', c', w', hrun, h2, h3, h4⟩ := run_pairs h (d := d) hr h1 hbig o.type
  exact wp_append_ok s x _ _ ho _ _ hs hx _ _ hrun (hK A' c' w' h2 h4 h3)

theorem row_empty {w : World} {b : Nat} (hb : Blk w b 52 #[]) : Row2 w 52 (.slice (some ⟨b, 0, none⟩) 0 0) [] :=
  Row2.close (ps := []) (c := 0) hb (Nat.le_refl _) (by unfold maxLen; omega) rfl rfl

/-- A tree's blocks are no row of pairs. -/
theorem At.kind {w : World} : ∀ {d b : Nat} {t : Tr d} {fp : List Nat}, At w d b t fp → ∀ k ∈ fp, ∃ (T : TypeId) (cs : Array Value), Blk w k T cs ∧ (T = 62 ∨ T = 9 ∨ T = 3 ∨ T = 59)
  | 0, b, l, fp, ⟨vk, vr, hb, hk, hr, h⟩, k, hkm => by
    rw [h] at hkm
    simp only [List.mem_cons, List.mem_append, Option.mem_toList] at hkm
    rcases hkm with rfl | hkm | hkm
    · exact ⟨_, _, hb, .inl rfl⟩
    · rcases hk.2 with ⟨rfl, _⟩ | ⟨g, cap, cur, rfl, _, hg, _⟩
      · cases hkm
      · have : g = k := by simpa [Value.ownBlock] using hkm
        exact ⟨_, _, this ▸ hg, .inr (.inl rfl)⟩
    · rcases hr.2 with ⟨rfl, _⟩ | ⟨g, cap, cur, rfl, _, hg, _⟩
      · cases hkm
      · have : g = k := by simpa [Value.ownBlock] using hkm
        exact ⟨_, _, this ▸ hg, .inr (.inr (.inl rfl))⟩
  | d + 1, b, (ks, ts), fp, ⟨vk, g, c, cs, hb, hk, hc, ht, hcs, h⟩, k, hkm => by
    rw [h] at hkm
    simp only [List.mem_cons, List.mem_append, Option.mem_toList, List.mem_flatMap] at hkm
    rcases hkm with rfl | hkm | rfl | ⟨x, hx, hkm⟩
    · exact ⟨_, _, hb, .inl rfl⟩
    · rcases hk.2 with ⟨rfl, _⟩ | ⟨g', cap, cur, rfl, _, hg, _⟩
      · cases hkm
      · have : g' = k := by simpa [Value.ownBlock] using hkm
        exact ⟨_, _, this ▸ hg, .inr (.inl rfl)⟩
    · obtain ⟨g', cur, hg, _, hb2, _⟩ := hc.open_ (by simp)
      injection hg with hg; injection hg with hg
      exact ⟨_, _, hg ▸ hb2, .inr (.inr (.inr rfl))⟩
    · exact At.kind (hcs x hx) k hkm

theorem Tree.off {w : World} {tr fan d : Nat} {t : Tr d} {fp : List Nat} (hT : Tree w tr fan d t fp) {v : Value} {ps : List (Value × Value)} (hR : Row2 w 52 v ps) : ∀ k, v.ownBlock = some k → k ∉ fp ∧ k ≠ tr := by
  obtain ⟨root, hb, hA⟩ := hT.mem
  intro k hk
  constructor
  · intro h
    obtain ⟨T, cs, hB, hT⟩ := hA.kind k h
    refine hR.ne_blk hB ?_ hk
    rcases hT with rfl | rfl | rfl | rfl <;> decide
  · rintro rfl
    exact hR.ne_blk hb (by decide) hk
end Go.Proofs.Ythndplpbnfihdaa
