/-
  Put's closure at a leaf, whether it has the key or not; what the closure reads besides the tree. Conditions: the leaf is in order.
-/
import Derived.Test.YthndplpbnfihdaaPu
import Derived.StillTailTactics
import Derived.BigRegion
set_option linter.unusedVariables false
set_option linter.unusedSimpArgs false
namespace Go.Proofs.Ythndplpbnfihdaa
open Go.RowKit

/-- A row's cell is written. -/
theorem own_set {w : World} {e : TypeId} {g n c i : Nat} {xs : List Value} (h : Own w e (.slice (some ⟨g, 0, none⟩) n c) xs) (hi : i < xs.length) (u : Value) :
    Own (w.setCell ⟨g, i, none⟩ u) e (.slice (some ⟨g, 0, none⟩) n c) (xs.set i u) := by
  obtain ⟨g', cur, hA, rfl, hb, h1, h2, h3, h4⟩ := h.open_ (by simp)
  injection hA with hA; injection hA with hA; subst hA
  have := Own.close (xs := xs.set i u) (hb.set_ i u) (c := c) (by simpa using h1) h2 (by simp [h3]) (by
    rw [Array.toList_setIfInBounds, List.take_set, List.length_set, h4])
  rwa [List.length_set] at this

def PutOld (w : World) (gr i : Nat) (row : Int) (e : Ending) (w' : World) : Prop := e = .returned (.tuple #[]) ∧ ∃ p q, w' = ((w.drewN p).setCell ⟨gr, i, none⟩ (.int .i64 row)).drewN q

set_option maxHeartbeats 1000000 in
set_option maxRecDepth 100000 in
theorem put_leaf_old (w : World) (b bk br gr : Nat) (bf bp bt : Value) (Ak : Option Addr) (n ck cr i : Nat) (ks : List ByteArray) (rs : List Int) (key : ByteArray) (row : Int)
    (hb : Blk w b 62 #[.slice Ak n ck, .slice (some ⟨gr, 0, none⟩) n cr, .slice none 0 0]) (hk : Own w 9 (.slice Ak n ck) (strs ks)) (hr : Own w 3 (.slice (some ⟨gr, 0, none⟩) n cr) (nums rs))
    (hbk : Blk w bk 9 #[.string key]) (hbr : Blk w br 3 #[.int .i64 row])
    (hn : ks.length = n) (hrn : rs.length = n) (hrise : Rising ks) (hi : pos ks key = i) (hold : ks[i]? = some key) (hbig : n ≤ 1000) :
    Calls Try.prog 29 #[ptr b, ptr bk, ptr br, bf, bp, bt] w (PutOld w gr i row) := by
  unfold ptr
  obtain ⟨R, hR⟩ : ∃ R, R = PutOld w gr i row := ⟨_, rfl⟩
  rw [← hR]
  have hkc : w.cell? ⟨b, 0, none⟩ = some (.slice Ak n ck) := hb.cell_ rfl
  have hrc : w.cell? ⟨b, 1, none⟩ = some (.slice (some ⟨gr, 0, none⟩) n cr) := hb.cell_ rfl
  have hcc : w.cell? ⟨b, 2, none⟩ = some (.slice none 0 0) := hb.cell_ rfl
  have hkey : w.cell? ⟨bk, 0, none⟩ = some (.string key) := hbk.cell_ rfl
  have hrow : w.cell? ⟨br, 0, none⟩ = some (.int .i64 row) := hbr.cell_ rfl
  have hin : i < n := by rw [← hn]; exact (List.getElem?_eq_some_iff.1 hold).1
  have hin' : (i : Int) < (n : Int) := by omega
  have hrl : (nums rs).length = n := by simp [nums, hrn]
  obtain ⟨x, hx⟩ : ∃ x, rs[i]? = some x := by rw [← hrn] at hin; exact ⟨_, List.getElem?_eq_getElem hin⟩
  have hcell : w.cell? ⟨gr, i, none⟩ = some (.int .i64 x) := hr.cell (by simp [nums, hx])
  have hfro : w.frozen? ⟨gr, i, none⟩ = false := by
    obtain ⟨g', cur, hA, _, hbl, _⟩ := hr.open_ (by simp)
    injection hA with hA; injection hA with hA; subst hA
    exact hbl.frozen i
  have HBS : Hid (∀ q, Calls Try.prog 30 #[.slice Ak n ck, .string key] (w.drewN q) (fun e w' => e = .returned (.tuple #[.int .i64 (i : Nat), .bool true]) ∧ ∃ m, w' = (w.drewN q).drewN m)) := fun q => by
    refine (bs_any _ ks key (w.drewN q) (hk.chg ((Chg.refl (fun _ => False) w).drewN q) fun _ _ h => h) hrise (by omega)).mono ?_
    rintro e w' ⟨h1, h2⟩
    rw [hi, decide_eq_true hold] at h1
    exact ⟨h1, h2⟩
  have HP : Hid (∀ e w' p q, e = .returned (.tuple #[]) → w' = ((w.drewN p).setCell ⟨gr, i, none⟩ (.int .i64 row)).drewN q → R e w') := by
    intro e w' p q h1 h2; rw [hR]; exact ⟨h1, p, q, h2⟩
  clear hb hk hr hbk hbr hn hrn hrise hi hold hx hrl hR hin
  go_enter Try.func29, Try.ntmps29
  go_wp2_with fail
  go_quiet ((go_at_call 30; exact Calls.quiet_of (HBS.out _)))
  go_wp2_with fail
  go_region
  go_wp2_with fail
  refine bodyPost_ret (results_none rfl _ _ _) rfl ?_
  exact HP.out _ _ _ 0 rfl rfl

/-- What Put's closure reads besides the tree. -/
structure Env (w : World) (fp : List Nat) (bk br bf bp bt tr : Nat) (key : ByteArray) (row : Int) (fan : Nat) : Prop where
  hk : Blk w bk 9 #[.string key]
  hr : Blk w br 3 #[.int .i64 row]
  hp : Blk w bp 65 #[.func (.func 29) #[] #[ptr bk, ptr br, ptr bf, ptr bp, ptr bt]]
  ht : Blk w bt 23 #[ptr tr]
  htr : ∃ n root, Blk w tr 64 #[.int .i64 fan, n, root]
  ak : bk ∉ fp
  ar : br ∉ fp
  af : bf ∉ fp
  ap : bp ∉ fp
  at_ : bt ∉ fp
  atr : tr ∉ fp

theorem Env.chg {w w' : World} {F : Nat → Prop} {fp fp' : List Nat} {bk br bf bp bt tr : Nat} {key : ByteArray} {row : Int} {fan : Nat} {f0 : Bool} (h : Env w fp bk br bf bp bt tr key row fan) (hf : Blk w bf 4 #[.bool f0])
    (hc : Chg F w w') (hF : ∀ k, F k → k < w.heap.size → k ∈ fp ∨ k = bf) (hfp : ∀ k ∈ fp', k ∈ fp ∨ w.heap.size ≤ k) : Env w' fp' bk br bf bp bt tr key row fan := by
  obtain ⟨n, root, htr⟩ := h.htr
  have no : ∀ {x : Nat} {t : TypeId} {cs : Array Value}, Blk w x t cs → x ∉ fp → t ≠ 4 → ¬ F x := fun hb hx ht hF' => by
    rcases hF _ hF' hb.lt with h1 | h1
    · exact hx h1
    · exact hb.ne_ hf ht h1
  have no' : ∀ {x : Nat} {t : TypeId} {cs : Array Value}, Blk w x t cs → x ∉ fp → x ∉ fp' := fun hb hx h1 => by
    rcases hfp _ h1 with h2 | h2
    · exact hx h2
    · have := hb.lt; omega
  exact ⟨h.hk.chg hc (no h.hk h.ak (by decide)), h.hr.chg hc (no h.hr h.ar (by decide)), h.hp.chg hc (no h.hp h.ap (by decide)), h.ht.chg hc (no h.ht h.at_ (by decide)),
    ⟨n, root, htr.chg hc (no htr h.atr (by decide))⟩, no' h.hk h.ak, no' h.hr h.ar, no' hf h.af, no' h.hp h.ap, no' h.ht h.at_, no' htr h.atr⟩

/-- What Put's closure leaves. -/
def PutPost (w : World) (d b bf : Nat) (t : Tr d) (fp : List Nat) (key : ByteArray) (row : Int) (fan : Nat) (f0 : Bool) (e : Ending) (w' : World) : Prop :=
  e = .returned (.tuple #[]) ∧ ∃ fp', At w' d b (putT fan key row d t) fp' ∧ fp'.Nodup ∧ (∀ k ∈ fp', k ∈ fp ∨ w.heap.size ≤ k) ∧ Blk w' bf 4 #[.bool (f0 || freshT key d t)] ∧ Chg (fun k => k ∈ fp ∨ k = bf) w w'

theorem keysT_ins (l : List (ByteArray × Int)) (i : Nat) (k : ByteArray) (r : Int) : keysT (l.take i ++ (k, r) :: l.drop i) = (keysT l).take i ++ k :: (keysT l).drop i := by simp [keysT, List.map_take, List.map_drop]
theorem rowsT_ins (l : List (ByteArray × Int)) (i : Nat) (k : ByteArray) (r : Int) : rowsT (l.take i ++ (k, r) :: l.drop i) = (rowsT l).take i ++ r :: (rowsT l).drop i := by simp [rowsT, List.map_take, List.map_drop]

theorem put_at_leaf {w : World} {b bk br bf bp bt tr : Nat} {key : ByteArray} {row : Int} {fan : Nat} {l : Tr 0} {fp : List Nat} {f0 : Bool} (h : At w 0 b l fp) (hnd : fp.Nodup) (he : Env w fp bk br bf bp bt tr key row fan)
    (hf : Blk w bf 4 #[.bool f0]) (hrise : Rising (keysT l)) (hbig : sizeT 0 l ≤ 1000) :
    Calls Try.prog 29 #[ptr b, ptr bk, ptr br, ptr bf, ptr bp, ptr bt] w (PutPost w 0 b bf l fp key row fan f0) := by
  obtain ⟨vk, vr, hb, hk, hr, hfp⟩ := h
  have hlk : (keysT l).length = sizeT 0 l := by simp [keysT, sizeT]
  have hlr : (rowsT l).length = sizeT 0 l := by simp [rowsT, sizeT]
  obtain ⟨Ak, ck, rfl, _⟩ := hk.shape
  obtain ⟨Ar, cr, rfl, _⟩ := hr.shape
  have l1 : (strs (keysT l)).length = sizeT 0 l := by simp [strs, hlk]
  have l2 : (nums (rowsT l)).length = sizeT 0 l := by simp [nums, hlr]
  rw [l1] at hb hk hfp
  rw [l2] at hb hr hfp
  by_cases hold : (keysT l)[pos (keysT l) key]? = some key
  · have hin : pos (keysT l) key < sizeT 0 l := by rw [← hlk]; exact (List.getElem?_eq_some_iff.1 hold).1
    obtain ⟨gr, _, rfl, _⟩ := hr.open_ (hr.some_of_pos (by rw [l2]; omega))
    have hput : putT fan key row 0 l = (show List (ByteArray × Int) from l).set (pos (keysT l) key) (key, row) := by
      show (if (keysT l)[pos (keysT l) key]? = some key then (show List (ByteArray × Int) from l).set (pos (keysT l) key) (key, row) else _) = _
      rw [if_pos hold]
    have hfr : freshT key 0 l = false := by
      show (!decide ((keysT l)[pos (keysT l) key]? = some key)) = false
      simp [hold]
    refine (put_leaf_old w b bk br gr _ _ _ Ak (sizeT 0 l) ck cr _ (keysT l) (rowsT l) key row hb hk hr he.hk he.hr hlk hlr hrise rfl hold hbig).mono ?_
    rintro e w' ⟨rfl, p, q, rfl⟩
    refine ⟨rfl, fp, ?_, hnd, fun k hk => .inl hk, ?_, ?_⟩
    all_goals have hC : Chg (fun k => k = gr) w (((w.drewN p).setCell ⟨gr, pos (keysT l) key, none⟩ (.int .i64 row)).drewN q) := (((Chg.refl (fun k => k = gr) w).drewN p).setCell (p := ⟨gr, _, none⟩) (.inl rfl) _).drewN q
    · rw [hput]
      refine ⟨_, _, hb.chg hC ?_, ?_, ?_, hfp⟩
      · intro e; have h0 := hr.ne_blk hb (by decide); rw [e] at h0; exact h0 rfl
      · have e1 : keysT ((show List (ByteArray × Int) from l).set (pos (keysT l) key) (key, row)) = keysT l := by
          have : (keysT l).set (pos (keysT l) key) key = keysT l := by
            obtain ⟨h1, h2⟩ := List.getElem?_eq_some_iff.1 hold
            have h3 := List.set_getElem_self h1
            rw [h2] at h3
            exact h3
          unfold keysT at *
          rw [List.map_set]; exact this
        rw [e1]
        exact hk.chg hC (fun g hg e => hk.ne_own hr (by decide) hg (by rw [e]; rfl))
      · have e1 : rowsT ((show List (ByteArray × Int) from l).set (pos (keysT l) key) (key, row)) = (rowsT l).set (pos (keysT l) key) row := by unfold rowsT; rw [List.map_set]
        rw [e1]
        have h1 := own_set (hr.chg ((Chg.refl (fun _ => False) w).drewN p) fun _ _ h => h) (i := pos (keysT l) key) (by rw [l2]; exact hin) (.int .i64 row)
        have h2 := h1.chg ((Chg.refl (fun _ => False) _).drewN q) fun _ _ h => h
        unfold nums at *
        rw [List.map_set]; exact h2
    · rw [hfr, Bool.or_false]
      exact hf.chg hC (fun e => hr.ne_blk hf (by decide) (by rw [e]; rfl))
    · refine hC.mono fun k _ e => .inl ?_
      rw [hfp, e]; simp [Value.ownBlock]
  · have hput : putT fan key row 0 l = (show List (ByteArray × Int) from l).take (pos (keysT l) key) ++ (key, row) :: (show List (ByteArray × Int) from l).drop (pos (keysT l) key) := by
      show (if (keysT l)[pos (keysT l) key]? = some key then _ else _) = _
      rw [if_neg hold]
    have hfr : freshT key 0 l = true := by
      show (!decide ((keysT l)[pos (keysT l) key]? = some key)) = true
      simp [hold]
    have hkm : ∀ g, (Value.slice Ak (sizeT 0 l) ck).ownBlock = some g → g ∈ fp := fun g hg => by rw [hfp]; simp [hg]
    have hrm : ∀ g, (Value.slice Ar (sizeT 0 l) cr).ownBlock = some g → g ∈ fp := fun g hg => by rw [hfp]; simp [hg]
    have hbm : b ∈ fp := by rw [hfp]; exact List.mem_cons_self ..
    refine (put_leaf_new w b bk br bf _ _ Ak Ar (sizeT 0 l) ck cr _ (keysT l) (rowsT l) key row f0 hb hk hr he.hk he.hr hf hlk hlr hrise rfl hold hbig (fun e => he.ak (hkm _ e)) (fun e => he.ar (hrm _ e))).mono ?_
    rintro e w' ⟨gk, ck', gr, cr', rfl, hb', hk', hr', hf', hgk, hgr, hC⟩
    refine ⟨rfl, [b, gk, gr], ?_, ?_, ?_, ?_, ?_⟩
    · rw [hput]
      refine ⟨_, _, hb', ?_, ?_, by simp [Value.ownBlock]⟩
      · rw [keysT_ins]; exact hk'
      · rw [rowsT_ins]; exact hr'
    · have n1 : b ≠ gk := fun e => hk'.ne_blk hb' (by decide) (by rw [e]; rfl)
      have n2 : b ≠ gr := fun e => hr'.ne_blk hb' (by decide) (by rw [e]; rfl)
      have n3 : gk ≠ gr := fun e => hk'.ne_own hr' (by decide) (g := gk) rfl (by rw [e]; rfl)
      simp [n1, n2, n3]
    · intro k hk
      simp only [List.mem_cons, List.not_mem_nil, or_false] at hk
      rcases hk with rfl | rfl | rfl
      · exact .inl hbm
      · exact hgk.imp (hkm _) id
      · exact hgr.imp (hrm _) id
    · rw [hfr, Bool.or_true]; exact hf'
    · refine hC.mono fun k _ e => ?_
      rcases e with rfl | rfl | e | e
      · exact .inl hbm
      · exact .inr rfl
      · exact .inl (hkm _ e)
      · exact .inl (hrm _ e)
end Go.Proofs.Ythndplpbnfihdaa
