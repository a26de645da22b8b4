/-
  A tree with its blocks at hand, ways down it, and what a step on them does; no walk. Conditions: none.
-/
import Derived.Test.YthndplpbnfihdaaPt
import Derived.Test.YthndplpbnfihdaaR2
set_option linter.unusedVariables false
set_option linter.unusedSimpArgs false
namespace Go.Proofs.Ythndplpbnfihdaa
open Go.RowKit

/-- A tree with each node's block. -/
abbrev Nb : Nat → Type
  | 0 => Nat × List (ByteArray × Int)
  | d + 1 => Nat × List ByteArray × List (Nb d)

def blk : (d : Nat) → Nb d → Nat
  | 0, u => u.1
  | d + 1, u => u.1

def dat : (d : Nat) → Nb d → Tr d
  | 0, u => u.2
  | d + 1, u => (u.2.1, u.2.2.map (dat d))

def sizeU : (d : Nat) → Nb d → Nat
  | 0, u => u.2.length
  | d + 1, u => u.2.2.length

def listU : (d : Nat) → Nb d → List (ByteArray × Int)
  | 0, u => u.2
  | d + 1, u => u.2.2.flatMap (listU d)

theorem sizeU_dat : ∀ (d : Nat) (u : Nb d), sizeT d (dat d u) = sizeU d u
  | 0, u => rfl
  | d + 1, u => by simp [sizeT, dat, sizeU]
theorem listU_dat : ∀ (d : Nat) (u : Nb d), toL d (dat d u) = listU d u
  | 0, u => rfl
  | d + 1, u => by
    show (u.2.2.map (dat d)).flatMap (toL d) = u.2.2.flatMap (listU d)
    rw [List.flatMap_map]
    congr 1
    funext x
    exact listU_dat d x

/-- The memory reads as this, through blocks in S. -/
def Rd (w : World) (S : Nat → Prop) : (d : Nat) → Nb d → Prop
  | 0, u => S u.1 ∧ ∃ vk vr, Blk w u.1 62 #[vk, vr, .slice none 0 0] ∧ Own w 9 vk (strs (keysT u.2)) ∧ Own w 3 vr (nums (rowsT u.2)) ∧ (∀ g, vk.ownBlock = some g → S g) ∧ (∀ g, vr.ownBlock = some g → S g)
  | d + 1, u => S u.1 ∧ ∃ vk g c, Blk w u.1 62 #[vk, .slice none 0 0, .slice (some ⟨g, 0, none⟩) u.2.2.length c] ∧ Own w 9 vk (strs u.2.1) ∧
      Own w 59 (.slice (some ⟨g, 0, none⟩) u.2.2.length c) (ptrs (u.2.2.map (blk d))) ∧ (∀ g, vk.ownBlock = some g → S g) ∧ S g ∧ ∀ x ∈ u.2.2, Rd w S d x

theorem Rd.chg {F S : Nat → Prop} {w w' : World} (hc : Chg F w w') (hS : ∀ k, S k → ¬ F k) : ∀ {d : Nat} {u : Nb d}, Rd w S d u → Rd w' S d u
  | 0, u, ⟨h0, vk, vr, h1, h2, h3, h4, h5⟩ => ⟨h0, vk, vr, h1.chg hc (hS _ h0), h2.chg hc fun g hg => hS _ (h4 g hg), h3.chg hc fun g hg => hS _ (h5 g hg), h4, h5⟩
  | d + 1, u, ⟨h0, vk, g, c, h1, h2, h3, h4, h5, h6⟩ =>
    ⟨h0, vk, g, c, h1.chg hc (hS _ h0), h2.chg hc fun g hg => hS _ (h4 g hg), h3.chg hc fun g' hg => by simp [Value.ownBlock] at hg; subst hg; exact hS _ h5, h4, h5, fun x hx => Rd.chg hc hS (h6 x hx)⟩

theorem Rd.mono {S S' : Nat → Prop} {w : World} (hS : ∀ k, S k → S' k) : ∀ {d : Nat} {u : Nb d}, Rd w S d u → Rd w S' d u
  | 0, u, ⟨h0, vk, vr, h1, h2, h3, h4, h5⟩ => ⟨hS _ h0, vk, vr, h1, h2, h3, fun g hg => hS _ (h4 g hg), fun g hg => hS _ (h5 g hg)⟩
  | d + 1, u, ⟨h0, vk, g, c, h1, h2, h3, h4, h5, h6⟩ => ⟨hS _ h0, vk, g, c, h1, h2, h3, fun g hg => hS _ (h4 g hg), hS _ h5, fun x hx => Rd.mono hS (h6 x hx)⟩

theorem all_some {α β : Type} {P : α → β → Prop} : ∀ (l : List α), (∀ x ∈ l, ∃ y, P x y) → ∃ m : List β, m.length = l.length ∧ ∀ (i : Nat) (x : α) (y : β), l[i]? = some x → m[i]? = some y → P x y
  | [], _ => ⟨[], rfl, fun i x y h => by cases h⟩
  | x :: l, h => by
    obtain ⟨y, hy⟩ := h x (List.mem_cons_self ..)
    obtain ⟨m, hm, hall⟩ := all_some l fun z hz => h z (List.mem_cons_of_mem _ hz)
    refine ⟨y :: m, by simp [hm], fun i a b ha hb => ?_⟩
    cases i with
    | zero => injection ha with ha; injection hb with hb; subst ha hb; exact hy
    | succ i => exact hall i a b ha hb

theorem rd_of_at {w : World} : ∀ {d b : Nat} {t : Tr d} {fp : List Nat}, At w d b t fp → ∃ u, Rd w (· ∈ fp) d u ∧ blk d u = b ∧ dat d u = t
  | 0, b, l, fp, ⟨vk, vr, hb, hk, hr, hfp⟩ => ⟨(b, l), ⟨by rw [hfp]; exact List.mem_cons_self .., vk, vr, hb, hk, hr, fun g hg => by rw [hfp]; simp [hg], fun g hg => by rw [hfp]; simp [hg]⟩, rfl, rfl⟩
  | d + 1, b, (ks, ts), fp, ⟨vk, g, c, cs, hb, hk, hg, hts, hcs, hfp⟩ => by
    obtain ⟨m, hm, hall⟩ := all_some (P := fun (x : Nat × Tr d × List Nat) (u : Nb d) => Rd w (· ∈ fp) d u ∧ blk d u = x.1 ∧ dat d u = x.2.1) cs fun x hx => by
      obtain ⟨u, h1, h2, h3⟩ := rd_of_at (hcs x hx)
      exact ⟨u, h1.mono fun k hk => by rw [hfp]; exact List.mem_cons_of_mem _ (List.mem_append_right _ (List.mem_cons_of_mem _ (List.mem_flatMap.2 ⟨x, hx, hk⟩))), h2, h3⟩
    have e1 : m.map (blk d) = cs.map (·.1) := by
      apply List.ext_getElem?
      intro i
      rw [List.getElem?_map, List.getElem?_map]
      rcases Nat.lt_or_ge i cs.length with h | h
      · obtain ⟨x, hx⟩ : ∃ x, cs[i]? = some x := ⟨_, List.getElem?_eq_getElem h⟩
        obtain ⟨y, hy⟩ : ∃ y, m[i]? = some y := ⟨_, List.getElem?_eq_getElem (by omega)⟩
        rw [hx, hy]; simp [(hall i x y hx hy).2.1]
      · rw [List.getElem?_eq_none h, List.getElem?_eq_none (by omega)]; rfl
    have e2 : m.map (dat d) = ts := by
      rw [hts]
      apply List.ext_getElem?
      intro i
      rw [List.getElem?_map, List.getElem?_map]
      rcases Nat.lt_or_ge i cs.length with h | h
      · obtain ⟨x, hx⟩ : ∃ x, cs[i]? = some x := ⟨_, List.getElem?_eq_getElem h⟩
        obtain ⟨y, hy⟩ : ∃ y, m[i]? = some y := ⟨_, List.getElem?_eq_getElem (by omega)⟩
        rw [hx, hy]; simp [(hall i x y hx hy).2.2]
      · rw [List.getElem?_eq_none h, List.getElem?_eq_none (by omega)]; rfl
    refine ⟨(b, ks, m), ⟨by rw [hfp]; exact List.mem_cons_self .., vk, g, c, by rw [show (b, ks, m).2.2.length = cs.length from hm]; exact hb, hk, ?_, fun g hg => by rw [hfp]; simp [hg], by rw [hfp]; simp, fun x hx => ?_⟩, rfl, ?_⟩
    · show Own w _ (.slice _ m.length c) (ptrs (m.map (blk d)))
      rw [hm, e1]; exact hg
    · obtain ⟨i, hi⟩ := List.mem_iff_getElem?.1 hx
      have hi' : m[i]? = some x := hi
      obtain ⟨y, hy⟩ : ∃ y, cs[i]? = some y := ⟨_, List.getElem?_eq_getElem (by have := (List.getElem?_eq_some_iff.1 hi').1; omega)⟩
      exact (hall i y x hy hi').1
    · show (ks, m.map (dat d)) = (ks, ts)
      rw [e2]

/-! Ways -/
/-- Sizes of what lies below. -/
def Full : (d : Nat) → Nb d → Prop
  | 0, u => 0 < u.2.length
  | d + 1, u => 0 < u.2.2.length ∧ ∀ x ∈ u.2.2, Full d x

/-- The leftmost way, the rightmost way. -/
def downL : (d : Nat) → Nb d → List (Nat × Int)
  | 0, u => [(u.1, 0)]
  | d + 1, u => (u.1, 0) :: match u.2.2[0]? with
    | some x => downL d x
    | none => []
def downR : (d : Nat) → Nb d → List (Nat × Int)
  | 0, u => [(u.1, (u.2.length : Int) - 1)]
  | d + 1, u => (u.1, (u.2.2.length : Int) - 1) :: match u.2.2[u.2.2.length - 1]? with
    | some x => downR d x
    | none => []

/-- A way down to place r (among the keys of u), in the leaf from lo on. -/
def Goes (lo : Int) : (d : Nat) → Nb d → List (Nat × Int) → Int → Prop
  | 0, u, ps, r => ps = [(u.1, r)] ∧ lo ≤ r ∧ r < u.2.length
  | d + 1, u, ps, r => ∃ (i : Nat) (x : Nb d) (ps' : List (Nat × Int)) (r' : Int), u.2.2[i]? = some x ∧ ps = (u.1, (i : Int)) :: ps' ∧ Goes lo d x ps' r' ∧ r = ((u.2.2.take i).flatMap (listU d)).length + r'

theorem Goes.weak {lo lo' : Int} (h : lo' ≤ lo) : ∀ {d : Nat} {u : Nb d} {ps : List (Nat × Int)} {r : Int}, Goes lo d u ps r → Goes lo' d u ps r
  | 0, u, ps, r, ⟨h1, h2, h3⟩ => ⟨h1, by omega, h3⟩
  | d + 1, u, ps, r, ⟨i, x, ps', r', h1, h2, h3, h4⟩ => ⟨i, x, ps', r', h1, h2, h3.weak h, h4⟩

theorem flat_at {d : Nat} {l : List (Nb d)} {i : Nat} {x : Nb d} (h : l[i]? = some x) : l.flatMap (listU d) = (l.take i).flatMap (listU d) ++ (listU d x ++ (l.drop (i + 1)).flatMap (listU d)) := by
  conv => lhs; rw [← List.take_append_drop i l, drop_cons_of_get h]
  simp [List.flatMap_append, List.flatMap_cons]

theorem flat_take {d : Nat} {l : List (Nb d)} {i : Nat} {x : Nb d} (h : l[i]? = some x) : (l.take (i + 1)).flatMap (listU d) = (l.take i).flatMap (listU d) ++ listU d x := by
  rw [List.take_add_one, h]; simp [List.flatMap_append]

theorem full_pos : ∀ {d : Nat} {u : Nb d}, Full d u → 0 < (listU d u).length
  | 0, u, h => h
  | d + 1, u, ⟨h1, h2⟩ => by
    obtain ⟨x, hx⟩ : ∃ x, u.2.2[0]? = some x := ⟨_, List.getElem?_eq_getElem h1⟩
    have := full_pos (h2 x (List.mem_of_getElem? hx))
    show 0 < (u.2.2.flatMap (listU d)).length
    rw [flat_at hx]
    simp only [List.length_append]
    omega

theorem goes_downL : ∀ {d : Nat} {u : Nb d}, Full d u → Goes 0 d u (downL d u) 0
  | 0, u, h => ⟨rfl, Int.le_refl _, by have : 0 < u.2.length := h; omega⟩
  | d + 1, u, ⟨h1, h2⟩ => by
    obtain ⟨x, hx⟩ : ∃ x, u.2.2[0]? = some x := ⟨_, List.getElem?_eq_getElem h1⟩
    refine ⟨0, x, downL d x, 0, hx, ?_, goes_downL (h2 x (List.mem_of_getElem? hx)), by simp⟩
    show (u.1, (0 : Int)) :: (match u.2.2[0]? with | some x => downL d x | none => []) = _
    rw [hx]; rfl

theorem goes_downR : ∀ {d : Nat} {u : Nb d}, Full d u → Goes 0 d u (downR d u) ((listU d u).length - 1)
  | 0, u, h => ⟨rfl, by have : 0 < u.2.length := h; show 0 ≤ (u.2.length : Int) - 1; omega, by show (u.2.length : Int) - 1 < u.2.length; omega⟩
  | d + 1, u, ⟨h1, h2⟩ => by
    obtain ⟨x, hx⟩ : ∃ x, u.2.2[u.2.2.length - 1]? = some x := ⟨_, List.getElem?_eq_getElem (by omega)⟩
    refine ⟨u.2.2.length - 1, x, downR d x, (listU d x).length - 1, hx, ?_, goes_downR (h2 x (List.mem_of_getElem? hx)), ?_⟩
    · show (u.1, (u.2.2.length : Int) - 1) :: (match u.2.2[u.2.2.length - 1]? with | some x => downR d x | none => []) = _
      rw [hx, show ((u.2.2.length - 1 : Nat) : Int) = (u.2.2.length : Int) - 1 by omega]
    · show ((u.2.2.flatMap (listU d)).length : Int) - 1 = _
      rw [flat_at hx, show u.2.2.length - 1 + 1 = u.2.2.length by omega]
      simp; omega

theorem goes_range {lo : Int} (hlo : lo ≤ 0) : ∀ {d : Nat} {u : Nb d} {ps : List (Nat × Int)} {r : Int}, Goes lo d u ps r → lo ≤ r ∧ r < (listU d u).length
  | 0, u, ps, r, h => ⟨h.2.1, h.2.2⟩
  | d + 1, u, ps, r, ⟨i, x, ps', r', hx, _, h, hr⟩ => by
    obtain ⟨h1, h2⟩ := goes_range hlo h
    show lo ≤ r ∧ r < ((u.2.2.flatMap (listU d)).length : Int)
    rw [flat_at hx]
    simp only [List.length_append]
    omega

/-- A level of a way: the node, the place in it. -/
structure Fr where
  d : Nat
  u : Nb d
  i : Int

def Fr.spot (f : Fr) : Nat × Int := (blk f.d f.u, f.i)

/-- What lies below one place of a node. -/
def kidL : (d : Nat) → Nb d → Nat → List (Nat × Int)
  | 0, _, _ => []
  | d + 1, u, j => match u.2.2[j]? with
    | some x => downL d x
    | none => []
def kidR : (d : Nat) → Nb d → Nat → List (Nat × Int)
  | 0, _, _ => []
  | d + 1, u, j => match u.2.2[j]? with
    | some x => downR d x
    | none => []

/-- The levels of a way, the lowest first. -/
def stepL : List Fr → List (Nat × Int)
  | [] => []
  | f :: l => if f.i + 1 < sizeU f.d f.u then (l.reverse.map Fr.spot) ++ (blk f.d f.u, f.i + 1) :: kidL f.d f.u (f.i + 1).toNat else stepL l
def stepR : List Fr → List (Nat × Int)
  | [] => []
  | f :: l => if 0 ≤ f.i - 1 then (l.reverse.map Fr.spot) ++ (blk f.d f.u, f.i - 1) :: kidR f.d f.u (f.i - 1).toNat else stepR l

/-- A way's levels. -/
def Lev : (d : Nat) → Nb d → List (Nat × Int) → List Fr → Prop
  | 0, u, ps, fs => ∃ r, ps = [(u.1, r)] ∧ fs = [⟨0, u, r⟩]
  | d + 1, u, ps, fs => ∃ (i : Nat) (x : Nb d) (ps' : List (Nat × Int)) (fs' : List Fr), u.2.2[i]? = some x ∧ ps = (u.1, (i : Int)) :: ps' ∧ Lev d x ps' fs' ∧ fs = ⟨d + 1, u, (i : Int)⟩ :: fs'

theorem goes_lev {lo : Int} : ∀ {d : Nat} {u : Nb d} {ps : List (Nat × Int)} {r : Int}, Goes lo d u ps r → ∃ fs, Lev d u ps fs ∧ fs.map Fr.spot = ps
  | 0, u, ps, r, ⟨h, _⟩ => ⟨[⟨0, u, r⟩], ⟨r, h, rfl⟩, h ▸ rfl⟩
  | d + 1, u, ps, r, ⟨i, x, ps', r', hx, hp, h, hr⟩ => by
    obtain ⟨fs, h1, h2⟩ := goes_lev h
    refine ⟨⟨d + 1, u, (i : Int)⟩ :: fs, ⟨i, x, ps', fs, hx, hp, h1, rfl⟩, ?_⟩
    rw [List.map_cons, h2, hp]; rfl

theorem stepL_append : ∀ (A B : List Fr), stepL (A ++ B) = match stepL A with | [] => stepL B | q => B.reverse.map Fr.spot ++ q
  | [], B => rfl
  | f :: A, B => by
    show (if _ then _ else stepL (A ++ B)) = (match (if _ then _ else stepL A) with | [] => _ | q => _)
    split
    · simp
    · exact stepL_append A B

theorem stepR_append : ∀ (A B : List Fr), stepR (A ++ B) = match stepR A with | [] => stepR B | q => B.reverse.map Fr.spot ++ q
  | [], B => rfl
  | f :: A, B => by
    show (if _ then _ else stepR (A ++ B)) = (match (if _ then _ else stepR A) with | [] => _ | q => _)
    split
    · simp
    · exact stepR_append A B

/-- The next place. -/
theorem step_next : ∀ {d : Nat} {u : Nb d} {ps : List (Nat × Int)} {r : Int} {fs : List Fr}, (0 < d → Full d u) → Goes (-1) d u ps r → Lev d u ps fs →
    if r + 1 < (listU d u).length then Goes 0 d u (stepL fs.reverse) (r + 1) else stepL fs.reverse = []
  | 0, u, ps, r, fs, _, ⟨h1, h2, h3⟩, ⟨r', h4, h5⟩ => by
    have hr : r' = r := by rw [h1] at h4; injection h4 with h4; injection h4 with _ h4; exact h4.symm
    subst hr
    subst h5
    show if r' + 1 < (u.2.length : Int) then Goes 0 0 u (if r' + 1 < (u.2.length : Int) then _ else _) (r' + 1) else (if r' + 1 < (u.2.length : Int) then _ else _) = []
    split
    · exact ⟨rfl, by omega, by assumption⟩
    · rfl
  | d + 1, u, ps, r, fs, hf, ⟨i, x, ps', r', hx, hp, hg, hr⟩, ⟨i', x', ps'', fs', hx', hp', hl, hfs⟩ => by
    have hf' := hf (by omega)
    rw [hp] at hp'
    injection hp' with e1 e2
    injection e1 with _ e1
    have hii : i' = i := by omega
    subst hii
    rw [hx] at hx'
    injection hx' with hx'
    subst hx' e2 hfs
    have hfx := hf'.2 x (List.mem_of_getElem? hx)
    have ih := step_next (fun _ => hfx) hg hl
    have hrg := goes_range (by omega) hg
    have htot : (listU (d + 1) u).length = ((u.2.2.take i').flatMap (listU d)).length + ((listU d x).length + ((u.2.2.drop (i' + 1)).flatMap (listU d)).length) := by
      show (u.2.2.flatMap (listU d)).length = _
      rw [flat_at hx]; simp
    rw [List.reverse_cons, stepL_append]
    by_cases h1 : r' + 1 < (listU d x).length
    · rw [if_pos h1] at ih
      have hne : stepL fs'.reverse ≠ [] := by
        intro h0; rw [h0] at ih
        cases d with
        | zero => obtain ⟨h, _⟩ := ih; cases h
        | succ d => obtain ⟨_, _, _, _, _, h, _⟩ := ih; cases h
      rw [if_pos (by omega)]
      refine ⟨i', x, stepL fs'.reverse, r' + 1, hx, ?_, ih, by omega⟩
      cases hs : stepL fs'.reverse with
      | nil => exact absurd hs hne
      | cons a l => rfl
    · rw [if_neg h1] at ih
      rw [ih]
      show if _ then Goes 0 (d + 1) u (if (i' : Int) + 1 < (u.2.2.length : Int) then _ else _) _ else (if (i' : Int) + 1 < (u.2.2.length : Int) then _ else _) = []
      by_cases h2 : i' + 1 < u.2.2.length
      · obtain ⟨y, hy⟩ : ∃ y, u.2.2[i' + 1]? = some y := ⟨_, List.getElem?_eq_getElem h2⟩
        have hfy := hf'.2 y (List.mem_of_getElem? hy)
        have hpos := full_pos hfy
        have hdr : ((u.2.2.drop (i' + 1)).flatMap (listU d)).length = (listU d y).length + ((u.2.2.drop (i' + 1 + 1)).flatMap (listU d)).length := by
          rw [drop_cons_of_get hy]; simp
        rw [if_pos (by omega), if_pos (by omega)]
        refine ⟨i' + 1, y, downL d y, 0, hy, ?_, goes_downL hfy, ?_⟩
        · show [] ++ (u.1, (i' : Int) + 1) :: (match u.2.2[((i' : Int) + 1).toNat]? with | some x => downL d x | none => []) = _
          rw [show ((i' : Int) + 1).toNat = i' + 1 by omega, hy]
          rfl
        · rw [flat_take hx]; simp only [List.length_append]; omega
      · have hdr : u.2.2.drop (i' + 1) = [] := List.drop_eq_nil_of_le (by omega)
        rw [hdr] at htot
        simp only [List.flatMap_nil, List.length_nil] at htot
        rw [if_neg (by omega), if_neg (by omega)]
        rfl

/-- The place ahead. -/
theorem step_prev : ∀ {d : Nat} {u : Nb d} {ps : List (Nat × Int)} {r : Int} {fs : List Fr}, (0 < d → Full d u) → Goes 0 d u ps r → Lev d u ps fs →
    if 0 ≤ r - 1 then Goes 0 d u (stepR fs.reverse) (r - 1) else stepR fs.reverse = []
  | 0, u, ps, r, fs, _, ⟨h1, h2, h3⟩, ⟨r', h4, h5⟩ => by
    have hr : r' = r := by rw [h1] at h4; injection h4 with h4; injection h4 with _ h4; exact h4.symm
    subst hr
    subst h5
    show if 0 ≤ r' - 1 then Goes 0 0 u (if 0 ≤ r' - 1 then _ else _) (r' - 1) else (if 0 ≤ r' - 1 then _ else _) = []
    split
    · exact ⟨rfl, by omega, by omega⟩
    · rfl
  | d + 1, u, ps, r, fs, hf, ⟨i, x, ps', r', hx, hp, hg, hr⟩, ⟨i', x', ps'', fs', hx', hp', hl, hfs⟩ => by
    have hf' := hf (by omega)
    rw [hp] at hp'
    injection hp' with e1 e2
    injection e1 with _ e1
    have hii : i' = i := by omega
    subst hii
    rw [hx] at hx'
    injection hx' with hx'
    subst hx' e2 hfs
    have hfx := hf'.2 x (List.mem_of_getElem? hx)
    have ih := step_prev (fun _ => hfx) hg hl
    have hrg := goes_range (by omega) hg
    rw [List.reverse_cons, stepR_append]
    by_cases h1 : 0 ≤ r' - 1
    · rw [if_pos h1] at ih
      have hne : stepR fs'.reverse ≠ [] := by
        intro h0; rw [h0] at ih
        cases d with
        | zero => obtain ⟨h, _⟩ := ih; cases h
        | succ d => obtain ⟨_, _, _, _, _, h, _⟩ := ih; cases h
      rw [if_pos (by omega)]
      refine ⟨i', x, stepR fs'.reverse, r' - 1, hx, ?_, ih, by omega⟩
      cases hs : stepR fs'.reverse with
      | nil => exact absurd hs hne
      | cons a l => rfl
    · rw [if_neg h1] at ih
      rw [ih]
      show if _ then Goes 0 (d + 1) u (if 0 ≤ (i' : Int) - 1 then _ else _) _ else (if 0 ≤ (i' : Int) - 1 then _ else _) = []
      by_cases h2 : 0 < i'
      · have hil := (List.getElem?_eq_some_iff.1 hx).1
        obtain ⟨y, hy⟩ : ∃ y, u.2.2[i' - 1]? = some y := ⟨_, List.getElem?_eq_getElem (by omega)⟩
        have hfy := hf'.2 y (List.mem_of_getElem? hy)
        have hpos := full_pos hfy
        have htk := flat_take hy
        rw [show i' - 1 + 1 = i' by omega] at htk
        have htl : ((u.2.2.take i').flatMap (listU d)).length = ((u.2.2.take (i' - 1)).flatMap (listU d)).length + (listU d y).length := by rw [htk]; simp
        rw [if_pos (by omega), if_pos (by omega)]
        refine ⟨i' - 1, y, downR d y, (listU d y).length - 1, hy, ?_, goes_downR hfy, by omega⟩
        show [] ++ (u.1, (i' : Int) - 1) :: (match u.2.2[((i' : Int) - 1).toNat]? with | some x => downR d x | none => []) = _
        rw [show ((i' : Int) - 1).toNat = i' - 1 by omega, hy, show ((i' - 1 : Nat) : Int) = (i' : Int) - 1 by omega]
        rfl
      · have h0 : i' = 0 := by omega
        subst h0
        rw [if_neg (by simp at hr; omega), if_neg (by omega)]
        rfl

/-- What stands at the way's end. -/
theorem goes_last {w : World} {S : Nat → Prop} : ∀ {d : Nat} {u : Nb d} {ps : List (Nat × Int)} {r : Int}, Rd w S d u → Goes 0 d u ps r →
    ∃ (v : Nb 0) (i : Nat), Rd w S 0 v ∧ ps.getLast? = some (v.1, (i : Int)) ∧ v.2[i]? = (listU d u)[r.toNat]? ∧ i < v.2.length ∧ v.2.length ≤ (listU d u).length
  | 0, u, ps, r, hR, ⟨h1, h2, h3⟩ => ⟨u, r.toNat, hR, by rw [h1, show ((r.toNat : Nat) : Int) = r by omega]; rfl, rfl, by omega, Nat.le_refl _⟩
  | d + 1, u, ps, r, ⟨_, _, _, _, _, _, _, _, _, hR⟩, ⟨i, x, ps', r', hx, hp, hg, hr⟩ => by
    obtain ⟨v, j, h1, h2, h3, h4, h5⟩ := goes_last (hR x (List.mem_of_getElem? hx)) hg
    obtain ⟨g1, g2⟩ := goes_range (by omega) hg
    refine ⟨v, j, h1, ?_, ?_, h4, ?_⟩
    · rw [hp, List.getLast?_cons, h2]; rfl
    · show _ = (u.2.2.flatMap (listU d))[r.toNat]?
      rw [h3, flat_at hx, List.getElem?_append_right (by omega), List.getElem?_append_left (by omega)]
      congr 1; omega
    · show _ ≤ (u.2.2.flatMap (listU d)).length
      rw [flat_at hx]; simp only [List.length_append]; omega

theorem goes_len {lo : Int} : ∀ {d : Nat} {u : Nb d} {ps : List (Nat × Int)} {r : Int}, Goes lo d u ps r → ps.length = d + 1
  | 0, u, ps, r, ⟨h, _⟩ => by rw [h]; rfl
  | d + 1, u, ps, r, ⟨i, x, ps', r', _, hp, h, _⟩ => by rw [hp, List.length_cons, goes_len h]
end Go.Proofs.Ythndplpbnfihdaa
