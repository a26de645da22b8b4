/-
  Check's closure over a whole tree. Conditions: a sound tree that is read.
-/
import Derived.Test.YthndplpbnfihdaaKd
set_option linter.unusedVariables false
set_option linter.unusedSimpArgs false
namespace Go.Proofs.Ythndplpbnfihdaa
open Go.RowKit

theorem full_of {fan : Nat} (hf : 4 ≤ fan) : ∀ {d : Nat} {u : Nb d}, Kids fan d (dat d u) → 0 < sizeU d u → Full d u
  | 0, u, _, h => h
  | d + 1, u, ⟨hl, hk⟩, h => by
    refine ⟨h, fun x hx => ?_⟩
    obtain ⟨k1, k2, k3⟩ := hk (dat d x) (List.mem_map.2 ⟨x, hx, rfl⟩)
    rw [sizeU_dat] at k2
    exact full_of hf k1 (by omega)

theorem check_at {S : Nat → Prop} {bt bok bdp bso bla bn bch tr root fan N : Nat} {deep : Int} (h4 : 4 ≤ fan) (h64 : fan ≤ 64) (hSr : S root) : ∀ (d : Nat) (u : Nb d) (w : World) (L : List (ByteArray × Int)) (D : Int) (rt : TypeId) (rx : Array Value),
    Rd w S d u → CkEnv w S bt bok bdp bso bla bn bch tr root fan N deep → CkSt w bok bso bla bn L → Blk w root rt rx → Sound fan d (dat d u) → sizeU d u ≤ fan → (blk d u = root ∨ fan / 2 ≤ sizeU d u) → (0 < d → 2 ≤ sizeU d u) →
    (D + d = deep ∨ (N = 0 ∧ d = 0)) → (L ++ listU d u).length ≤ 1000 → Rising (keysT (L ++ listU d u)) → -1000 ≤ D → D + d ≤ 1000 →
    Calls Try.prog 38 #[ptr (blk d u), .int .i64 D, ptr bt, ptr bok, ptr bdp, ptr bso, ptr bla, ptr bn, ptr bch] w (CkPost w bok bso bla bn (L ++ listU d u))
  | 0, u, w, L, D, rt, rx, hR, hE, hS, hrb, hs, hsz, hroot, _, hdeep, hL, hrise, _, _ =>
    check_leaf hR hE hS h64 hsz hrb hroot (hdeep.elim (fun h => .inl (by omega)) (fun h => .inr h.1)) hrise hL
  | d + 1, u, w, L, D, rt, rx, hR, hE, hS, hrb, hs, hsz, hroot, h2, hdeep, hL, hrise, hD1, hD2 => by
    have hkl : u.2.2.length = u.2.1.length + 1 := by have := hs.kids.1; rw [List.length_map] at this; exact this
    have hch : ∀ x ∈ u.2.2, Sound fan d (dat d x) ∧ fan / 2 ≤ sizeU d x ∧ sizeU d x ≤ fan := fun x hx => by
      obtain ⟨i, hi⟩ := List.mem_iff_getElem?.1 hx
      have := hs.child (i := i) (t := dat d x) (by rw [List.getElem?_map, hi]; rfl)
      rw [sizeU_dat] at this
      exact this
    have hfull : ∀ x ∈ u.2.2, Full d x := fun x hx => full_of h4 (hch x hx).1.kids (by have := (hch x hx).2.1; omega)
    refine check_inner hR hE hS h64 hsz hrb hroot (h2 (by omega)) hkl hs.seps.2.1 hfull ⟨hD1, by omega⟩ fun i x wr hx hst hcw => ?_
    have hxm := List.mem_of_getElem? hx
    obtain ⟨c1, c2, c3⟩ := hch x hxm
    obtain ⟨_, vk, gq, cq, _, _, _, _, _, hRc⟩ := hR
    have hpre : L ++ listU (d + 1) u = ((L ++ (u.2.2.take i).flatMap (listU d)) ++ listU d x) ++ (u.2.2.drop (i + 1)).flatMap (listU d) := by
      show L ++ u.2.2.flatMap (listU d) = _
      rw [flat_at hx]; simp [List.append_assoc]
    rw [hpre] at hrise hL
    refine check_at h4 h64 hSr d x wr _ (D + 1) rt rx ((hRc x hxm).chg hcw hE.nos) (hE.chg hS hcw) hst (hrb.chg hcw (hE.nos _ hSr)) c1 c3 (.inr c2) (fun _ => by omega) ?_ ?_ (rising_append.1 hrise).1 (by omega) (by omega)
    · rcases hdeep with h | h
      · exact .inl (by omega)
      · exact absurd h.2 (by omega)
    · simp only [List.length_append] at hL ⊢; omega
end Go.Proofs.Ythndplpbnfihdaa
