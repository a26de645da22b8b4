/-
  Del's closure at a leaf. Conditions: the rows stand apart.
-/
import Derived.Test.YthndplpbnfihdaaJo
set_option linter.unusedVariables false
set_option linter.unusedSimpArgs false
namespace Go.Proofs.Ythndplpbnfihdaa
open Go.RowKit

/-- What Del's closure reads besides the tree. -/
structure DEnv (w : World) (fp : List Nat) (bk bg bd bt tr : Nat) (key : ByteArray) (fan : Nat) : Prop where
  hk : Blk w bk 9 #[.string key]
  hp : Blk w bd 65 #[.func (.func 39) #[] #[ptr bk, ptr bg, ptr bd, ptr bt]]
  ht : Blk w bt 23 #[ptr tr]
  htr : ∃ n root, Blk w tr 64 #[.int .i64 fan, n, root]
  ak : bk ∉ fp
  ag : bg ∉ fp
  ap : bd ∉ fp
  at_ : bt ∉ fp
  atr : tr ∉ fp

theorem DEnv.chg {w w' : World} {F : Nat → Prop} {fp fp' : List Nat} {bk bg bd bt tr : Nat} {key : ByteArray} {fan : Nat} {g0 : Bool} (h : DEnv w fp bk bg bd bt tr key fan) (hf : Blk w bg 4 #[.bool g0])
    (hc : Chg F w w') (hF : ∀ k, F k → k < w.heap.size → k ∈ fp ∨ k = bg) (hfp : ∀ k ∈ fp', k ∈ fp ∨ w.heap.size ≤ k) : DEnv w' fp' bk bg bd bt tr key fan := by
  obtain ⟨n, root, htr⟩ := h.htr
  have no : ∀ {x : Nat} {t : TypeId} {cs : Array Value}, Blk w x t cs → x ∉ fp → t ≠ 4 → ¬ F x := fun hb hx ht hF' => by
    rcases hF _ hF' hb.lt with h1 | h1
    · exact hx h1
    · exact hb.ne_ hf ht h1
  have no' : ∀ {x : Nat} {t : TypeId} {cs : Array Value}, Blk w x t cs → x ∉ fp → x ∉ fp' := fun hb hx h1 => by
    rcases hfp _ h1 with h2 | h2
    · exact hx h2
    · have := hb.lt; omega
  exact ⟨h.hk.chg hc (no h.hk h.ak (by decide)), h.hp.chg hc (no h.hp h.ap (by decide)), h.ht.chg hc (no h.ht h.at_ (by decide)),
    ⟨n, root, htr.chg hc (no htr h.atr (by decide))⟩, no' h.hk h.ak, no' hf h.ag, no' h.hp h.ap, no' h.ht h.at_, no' htr h.atr⟩

/-- What Del's closure leaves. -/
def DelPost (w : World) (d b bg : Nat) (t : Tr d) (fp : List Nat) (key : ByteArray) (fan : Nat) (g0 : Bool) (e : Ending) (w' : World) : Prop :=
  e = .returned (.tuple #[]) ∧ ∃ fp', At w' d b (delT fan key d t) fp' ∧ fp'.Nodup ∧ (∀ k ∈ fp', k ∈ fp ∨ w.heap.size ≤ k) ∧ Blk w' bg 4 #[.bool (g0 || !freshT key d t)] ∧ Chg (fun k => k ∈ fp ∨ k = bg) w w'

def DelGone (w : World) (b bg m : Nat) (vk vr : Value) (ks : List ByteArray) (rs : List Int) (e : Ending) (w' : World) : Prop :=
  ∃ gk ck gr cr, e = .returned (.tuple #[]) ∧ Blk w' b 62 #[.slice (some ⟨gk, 0, none⟩) m ck, .slice (some ⟨gr, 0, none⟩) m cr, .slice none 0 0] ∧
    Own w' 9 (.slice (some ⟨gk, 0, none⟩) m ck) (strs ks) ∧ Own w' 3 (.slice (some ⟨gr, 0, none⟩) m cr) (nums rs) ∧ Blk w' bg 4 #[.bool true] ∧
    (vk.ownBlock = some gk ∨ w.heap.size ≤ gk) ∧ (vr.ownBlock = some gr ∨ w.heap.size ≤ gr) ∧ Chg (fun k => k = b ∨ k = bg ∨ vk.ownBlock = some k ∨ vr.ownBlock = some k) w w'

set_option maxHeartbeats 1000000 in
set_option maxRecDepth 100000 in
theorem del_leaf_none (w : World) (b bk bg : Nat) (bd bt : Value) (Ak Ar : Option Addr) (n ck cr i : Nat) (ks : List ByteArray) (key : ByteArray)
    (hb : Blk w b 62 #[.slice Ak n ck, .slice Ar n cr, .slice none 0 0]) (hk : Own w 9 (.slice Ak n ck) (strs ks))
    (hbk : Blk w bk 9 #[.string key]) (hn : ks.length = n) (hrise : Rising ks) (hi : pos ks key = i) (hnew : ks[i]? ≠ some key) (hbig : n ≤ 1000) :
    Calls Try.prog 39 #[ptr b, ptr bk, ptr bg, bd, bt] w (fun e w' => e = .returned (.tuple #[]) ∧ ∃ q, w' = w.drewN q) := by
  unfold ptr
  have hkc : w.cell? ⟨b, 0, none⟩ = some (.slice Ak n ck) := hb.cell_ rfl
  have hcc : w.cell? ⟨b, 2, none⟩ = some (.slice none 0 0) := hb.cell_ rfl
  have hkey : w.cell? ⟨bk, 0, none⟩ = some (.string key) := hbk.cell_ rfl
  have HBS : Hid (∀ q, Calls Try.prog 30 #[.slice Ak n ck, .string key] (w.drewN q) (fun e w' => e = .returned (.tuple #[.int .i64 (i : Nat), .bool false]) ∧ ∃ m, w' = (w.drewN q).drewN m)) := fun q => by
    refine (bs_any _ ks key (w.drewN q) (hk.chg ((Chg.refl (fun _ => False) w).drewN q) fun _ _ h => h) hrise (by omega)).mono ?_
    rintro e w' ⟨h1, h2⟩
    rw [hi, decide_eq_false hnew] at h1
    exact ⟨h1, h2⟩
  clear hb hk hbk hn hrise hi hnew
  obtain ⟨R, hR⟩ : ∃ R : Ending → World → Prop, R = fun e w' => e = .returned (.tuple #[]) ∧ ∃ q, w' = w.drewN q := ⟨_, rfl⟩
  rw [← hR]
  have HP : Hid (∀ e w' q, e = .returned (.tuple #[]) → w' = w.drewN q → R e w') := by
    intro e w' q h1 h2; rw [hR]; exact ⟨h1, q, h2⟩
  clear hR
  go_enter Try.func39, Try.ntmps39
  go_wp2_with fail
  go_quiet ((go_at_call 30; exact Calls.quiet_of (HBS.out _)))
  go_wp2_with fail
  refine bodyPost_ret (results_none rfl _ _ _) rfl ?_
  exact HP.out _ _ _ rfl rfl

set_option maxHeartbeats 4000000 in
set_option maxRecDepth 100000 in
theorem del_leaf_gone (w : World) (b bk bg : Nat) (bd bt : Value) (Ak Ar : Option Addr) (n ck cr i : Nat) (ks : List ByteArray) (rs : List Int) (key : ByteArray) (g0 : Bool)
    (hb : Blk w b 62 #[.slice Ak n ck, .slice Ar n cr, .slice none 0 0]) (hk : Own w 9 (.slice Ak n ck) (strs ks)) (hr : Own w 3 (.slice Ar n cr) (nums rs))
    (hbk : Blk w bk 9 #[.string key]) (hbf : Blk w bg 4 #[.bool g0])
    (hn : ks.length = n) (hrn : rs.length = n) (hrise : Rising ks) (hi : pos ks key = i) (hold : ks[i]? = some key) (hbig : n ≤ 1000) :
    Calls Try.prog 39 #[ptr b, ptr bk, ptr bg, bd, bt] w (DelGone w b bg (n - 1) (.slice Ak n ck) (.slice Ar n cr) (ks.take i ++ ks.drop (i + 1)) (rs.take i ++ rs.drop (i + 1))) := by
  unfold ptr
  obtain ⟨R, hR⟩ : ∃ R, R = DelGone w b bg (n - 1) (.slice Ak n ck) (.slice Ar n cr) (ks.take i ++ ks.drop (i + 1)) (rs.take i ++ rs.drop (i + 1)) := ⟨_, rfl⟩
  rw [← hR]
  have hkc : w.cell? ⟨b, 0, none⟩ = some (.slice Ak n ck) := hb.cell_ rfl
  have hcc : w.cell? ⟨b, 2, none⟩ = some (.slice none 0 0) := hb.cell_ rfl
  have hkey : w.cell? ⟨bk, 0, none⟩ = some (.string key) := hbk.cell_ rfl
  have hfc : w.cell? ⟨bg, 0, none⟩ = some (.bool g0) := hbf.cell_ rfl
  have hff := hbf.frozen 0
  have HBS : Hid (∀ q, Calls Try.prog 30 #[.slice Ak n ck, .string key] (w.drewN q) (fun e w' => e = .returned (.tuple #[.int .i64 (i : Nat), .bool true]) ∧ ∃ m, w' = (w.drewN q).drewN m)) := fun q => by
    refine (bs_any _ ks key (w.drewN q) (hk.chg ((Chg.refl (fun _ => False) w).drewN q) fun _ _ h => h) hrise (by omega)).mono ?_
    rintro e w' ⟨h1, h2⟩
    rw [hi, decide_eq_true hold] at h1
    exact ⟨h1, h2⟩
  have hin : i < n := by rw [← hn]; exact (List.getElem?_eq_some_iff.1 hold).1
  have HB := Lib.hid hb
  have HK := Lib.hid hk
  have HR := Lib.hid hr
  have HBF := Lib.hid hbf
  have HN := Lib.hid hn
  have HRN := Lib.hid hrn
  have hnbf : b ≠ bg := hb.ne_ hbf (by decide)
  have HP : Hid (∀ e w', DelGone w b bg (n - 1) (.slice Ak n ck) (.slice Ar n cr) (ks.take i ++ ks.drop (i + 1)) (rs.take i ++ rs.drop (i + 1)) e w' → R e w') := by
    intro e w' h; rw [hR]; exact h
  clear hb hk hr hbk hbf hn hrn hrise hi hold hR
  go_enter Try.func39, Try.ntmps39
  go_wp2_with fail
  go_quiet ((go_at_call 30; exact Calls.quiet_of (HBS.out _)))
  go_wp2_with fail
  clear hkc hcc hkey hfc hff
  obtain ⟨w1, hw1, HBF1, hC1⟩ := set_named (HBF.out.drewN nq) 0 (.bool true)
  rw [hw1]
  have hC1 : Chg (fun k => k = bg) w w1 := ((Chg.refl _ w).drewN nq).trans hC1
  clear hw1
  have HBF1 : Hid (Blk w1 bg 4 #[.bool true]) := HBF1
  obtain ⟨w2, hw2, hC2⟩ := drew_named w1
  have hC2 : Chg (fun k => k = bg) w w2 := hC1.trans hC2.up
  have HBF2 : Hid (Blk w2 bg 4 #[.bool true]) := by rw [← hw2]; exact HBF1.out
  have HB2 := Lib.hid (HB.out.chg hC2 hnbf)
  have HK2 := Lib.hid (HK.out.chg hC2 (fun g hg e => HK.out.ne_blk HBF.out (by decide) (e ▸ hg)))
  have HR2 := Lib.hid (HR.out.chg hC2 (fun g hg e => HR.out.ne_blk HBF.out (by decide) (e ▸ hg)))
  have SP : Hid (∀ W, Chg (fun k => (Value.slice Ak n ck).ownBlock = some k) w2 W → W.cell? ⟨b, 0, none⟩ = some (.slice Ak n ck) ∧ W.cell? ⟨b, 1, none⟩ = some (.slice Ar n cr)) := by
    intro W hc
    have h1 := HB2.out.chg hc (HK2.out.ne_blk HB2.out (by decide))
    exact ⟨h1.cell_ rfl, h1.cell_ rfl⟩
  have hC0 : Chg (fun _ => False) w2 w2 := Chg.refl _ _
  have hiw : IntKind.i64.wrap ((i : Int) + 1) = (i : Int) + 1 := by rw [IntKind.wrap_i64]; omega
  refine wp_region_till (s := 17) (S := (fun W => W.cell? ⟨b, 0, none⟩ = some (.slice Ak n ck) ∧ W.cell? ⟨b, 1, none⟩ = some (.slice Ar n cr))) (by kernel_rfl) ?_
  rw [hw2]
  clear hw2 hC1
  have hS := SP.out w2 hC0.up
  apply till_take0 (i := 0) (d := some 24)
  case hi => exact rfl
  case hd => exact rfl
  case hchk => kernel_rfl
  case hS => exact (fun _ => hS)
  case hy => apply yields_plain; exact rfl; intro w _; go_simp <;> with_reducible rfl
  case hQ => exact fun _ _ _ h => h
  simp only [Act.put, List.setIfInBounds_toArray, List.set_cons_zero, List.set_cons_succ]
  apply till_take0 (i := 1) (d := some 25)
  case hi => exact rfl
  case hd => exact rfl
  case hchk => kernel_rfl
  case hS => exact (fun _ => hS)
  case hy => apply yields_plain; exact rfl; intro w _; go_simp <;> with_reducible rfl
  case hQ => exact fun _ _ _ h => h
  simp only [Act.put, List.setIfInBounds_toArray, List.set_cons_zero, List.set_cons_succ]
  apply till_take0 (i := 2) (d := some 26)
  case hi => exact rfl
  case hd => exact rfl
  case hchk => kernel_rfl
  case hS => exact (fun _ => hS)
  case hy => apply yields_plain; exact rfl; intro w _; go_simp <;> with_reducible rfl
  case hQ => exact fun _ _ _ h => h
  simp only [Act.put, List.setIfInBounds_toArray, List.set_cons_zero, List.set_cons_succ]
  apply till_take0 (i := 3) (d := some 27)
  case hi => exact rfl
  case hd => exact rfl
  case hchk => kernel_rfl
  case hS => exact (fun _ => hS)
  case hy => apply yields_plain; exact rfl; intro w _; go_simp <;> with_reducible rfl
  case hQ => exact fun _ _ _ h => h
  simp only [Act.put, List.setIfInBounds_toArray, List.set_cons_zero, List.set_cons_succ]
  apply till_take0 (i := 4) (d := some 28)
  case hi => exact rfl
  case hd => exact rfl
  case hchk => kernel_rfl
  case hS => exact (fun _ => hS)
  case hy => apply yields_plain; exact rfl; intro w _; go_simp <;> with_reducible rfl
  case hQ => exact fun _ _ _ h => h
  simp only [Act.put, List.setIfInBounds_toArray, List.set_cons_zero, List.set_cons_succ]
  apply till_take0 (i := 6) (d := some 30)
  case hi => exact rfl
  case hd => exact rfl
  case hchk => kernel_rfl
  case hS => exact (fun _ => hS)
  case hy => apply yields_plain; exact rfl; intro w _; go_simp <;> with_reducible rfl
  case hQ => exact fun _ _ _ h => h
  simp only [Act.put, List.setIfInBounds_toArray, List.set_cons_zero, List.set_cons_succ]
  apply till_take0 (i := 7) (d := some 31)
  case hi => exact rfl
  case hd => exact rfl
  case hchk => kernel_rfl
  case hS => exact (fun _ => hS)
  case hy => apply yields_plain; exact rfl; intro w _; go_simp <;> with_reducible rfl
  case hQ => exact fun _ _ _ h => h
  simp only [Act.put, List.setIfInBounds_toArray, List.set_cons_zero, List.set_cons_succ]
  apply till_take0 (i := 8) (d := some 32)
  case hi => exact rfl
  case hd => exact rfl
  case hchk => kernel_rfl
  case hS => exact (fun _ => hS)
  case hy => apply yields_plain; exact rfl; intro w _; go_simp <;> with_reducible rfl
  case hQ => exact fun _ _ _ h => h
  simp only [Act.put, List.setIfInBounds_toArray, List.set_cons_zero, List.set_cons_succ]
  apply till_take0 (i := 10) (d := some 34)
  case hi => exact rfl
  case hd => exact rfl
  case hchk => kernel_rfl
  case hS => exact (fun _ => hS)
  case hy => apply yields_plain; exact rfl; intro w _; go_simp <;> with_reducible rfl
  case hQ => exact fun _ _ _ h => h
  simp only [Act.put, List.setIfInBounds_toArray, List.set_cons_zero, List.set_cons_succ]
  apply till_take0 (i := 11) (d := some 35)
  case hi => exact rfl
  case hd => exact rfl
  case hchk => kernel_rfl
  case hS => exact (fun _ => hS)
  case hy => apply yields_plain; exact rfl; intro w _; go_simp <;> with_reducible rfl
  case hQ => exact fun _ _ _ h => h
  simp only [Act.put, List.setIfInBounds_toArray, List.set_cons_zero, List.set_cons_succ]
  apply till_take0 (i := 12) (d := some 36)
  case hi => exact rfl
  case hd => exact rfl
  case hchk => kernel_rfl
  case hS => exact (fun _ => hS)
  case hy => apply yields_plain; exact rfl; intro w _; go_simp <;> with_reducible rfl
  case hQ => exact fun _ _ _ h => h
  simp only [Act.put, List.setIfInBounds_toArray, List.set_cons_zero, List.set_cons_succ]
  apply till_take0 (i := 14) (d := some 38)
  case hi => exact rfl
  case hd => exact rfl
  case hchk => kernel_rfl
  case hS => exact (fun _ => hS)
  case hy => apply yields_plain; exact rfl; intro w _; go_simp <;> with_reducible rfl
  case hQ => exact fun _ _ _ h => h
  simp only [Act.put, List.setIfInBounds_toArray, List.set_cons_zero, List.set_cons_succ]
  apply till_take0 (i := 15) (d := some 39)
  case hi => exact rfl
  case hd => exact rfl
  case hchk => kernel_rfl
  case hS => exact (fun _ => hS)
  case hy => apply yields_plain; exact rfl; intro w _; go_simp <;> with_reducible rfl
  case hQ => exact fun _ _ _ h => h
  simp only [Act.put, List.setIfInBounds_toArray, List.set_cons_zero, List.set_cons_succ]
  apply till_take0 (i := 16) (d := some 40)
  case hi => exact rfl
  case hd => exact rfl
  case hchk => kernel_rfl
  case hS => exact (fun _ => hS)
  case hy => apply yields_plain; exact rfl; intro w _; go_simp <;> with_reducible rfl
  case hQ => exact fun _ _ _ h => h
  simp only [Act.put, List.setIfInBounds_toArray, List.set_cons_zero, List.set_cons_succ]
  apply till_take (i := 5) (d := some 29) [17, 9, 5]
  case hi => exact rfl
  case hd => exact rfl
  case hchk => kernel_rfl
  case hS => exact hS
  case hy => apply yields_plain; exact rfl; intro w hSw; (try dsimp only at hSw); go_split_ands; go_simp <;> with_reducible rfl
  case hQ => exact fun _ _ _ h => h
  simp only [Act.put, List.setIfInBounds_toArray, List.set_cons_zero, List.set_cons_succ]
  apply till_take (i := 13) (d := some 37) [17, 13]
  case hi => exact rfl
  case hd => exact rfl
  case hchk => kernel_rfl
  case hS => exact hS
  case hy => apply yields_plain; exact rfl; intro w hSw; (try dsimp only at hSw); go_split_ands; go_simp <;> with_reducible rfl
  case hQ => exact fun _ _ _ h => h
  simp only [Act.put, List.setIfInBounds_toArray, List.set_cons_zero, List.set_cons_succ]
  refine till_all (rs := [9]) (by kernel_rfl) (by simp) (mem_more (till_op (i := 9) (o := ⟨some 33, _, _, _, _, _⟩) rfl rfl (fun K hK => ?_)) (mem_none))
  go_simp
  go_at_call 40
  refine (del_strs _ _ _ i n (n - 1) rfl (by omega) ks w2 HK2.out HN.out rfl hin (by omega)).mono ?_
  rintro e w3 ⟨gk, ck', rfl, hO9, hg9, hCk⟩
  have hg9 : (Value.slice Ak n ck).ownBlock = some gk ∨ w.heap.size ≤ gk := hg9.imp id (fun h => by have h2 := hC2.size; omega)
  clear hC0
  refine hK.out _ _ (fun _ => ?_) (fun hS2 => ?_)
  · first | exact SP.out _ hCk | exact SP.out _ hC0.up
  have hS3 := hS2 (by kernel_rfl)
  clear hK K hS hS2
  have hS := hS3
  clear hS3
  try simp only [Act.put, List.setIfInBounds_toArray, List.set_cons_zero, List.set_cons_succ]
  refine till_all (rs := [17]) (by kernel_rfl) (by simp) (mem_more (till_op (i := 17) (o := ⟨some 41, _, _, _, _, _⟩) rfl rfl (fun K hK => ?_)) (mem_none))
  go_simp
  go_at_call 41
  have hO := HR2.out.chg hCk (fun g hg e => HK2.out.ne_own HR2.out (by decide) e hg)
  refine (del_nums _ _ _ i n (n - 1) rfl (by omega) rs w3 hO HRN.out rfl hin (by omega)).mono ?_
  rintro e w4 ⟨gr, cr', rfl, hO17, hg17, hCr⟩
  have hg17 : (Value.slice Ar n cr).ownBlock = some gr ∨ w.heap.size ≤ gr := hg17.imp id (fun h => by have h1 := hCk.size; have h2 := hC2.size; omega)
  have hO9 := hO9.chg hCr (fun g hg e => hO9.ne_own hO (by decide) hg e)
  have hB := (HB2.out.chg hCk (HK2.out.ne_blk HB2.out (by decide))).chg hCr (hO.ne_blk (HB2.out.chg hCk (HK2.out.ne_blk HB2.out (by decide))) (by decide))
  have hBF := (HBF2.out.chg hCk (HK2.out.ne_blk HBF2.out (by decide))).chg hCr (hO.ne_blk (HBF2.out.chg hCk (HK2.out.ne_blk HBF2.out (by decide))) (by decide))
  have hCC : Chg (fun k => k = b ∨ k = bg ∨ (Value.slice Ak n ck).ownBlock = some k ∨ (Value.slice Ar n cr).ownBlock = some k) w w4 :=
    ((hC2.mono fun k _ h => .inr (.inl h)).trans (hCk.mono fun k _ h => .inr (.inr (.inl h)))).trans (hCr.mono fun k _ h => .inr (.inr (.inr h)))
  clear hCr hCk hO
  refine hK.out _ _ (fun h => by cases (show true = false from h)) (fun _ => ?_)
  clear hK K hS
  try simp only [Act.put, List.setIfInBounds_toArray, List.set_cons_zero, List.set_cons_succ]
  apply till_take0 (i := 18) (d := some 42)
  case hi => exact rfl
  case hd => exact rfl
  case hchk => kernel_rfl
  case hS => exact (fun h => by cases (show true = false from h))
  case hy => apply yields_plain; exact rfl; intro w _; go_simp <;> with_reducible rfl
  case hQ => exact fun _ _ _ h => h
  simp only [Act.put, List.setIfInBounds_toArray, List.set_cons_zero, List.set_cons_succ]
  apply till_take0 (i := 19) (d := some 43)
  case hi => exact rfl
  case hd => exact rfl
  case hchk => kernel_rfl
  case hS => exact (fun h => by cases (show true = false from h))
  case hy => apply yields_plain; exact rfl; intro w _; go_simp <;> with_reducible rfl
  case hQ => exact fun _ _ _ h => h
  simp only [Act.put, List.setIfInBounds_toArray, List.set_cons_zero, List.set_cons_succ]
  refine till_all (rs := [20]) (by kernel_rfl) (by simp) (mem_more (till_op (i := 20) (o := ⟨none, _, _, _, _, _⟩) rfl rfl (fun K hK => ?_)) (mem_none))
  have hbc : (w4).cell? ⟨b, 0, none⟩ = some _ := hB.cell_ rfl
  have hbf := hB.frozen 0
  go_simp
  clear hbc hbf
  obtain ⟨w5, hw5, hB1, hC5⟩ := set_named hB 0 (.slice (some ⟨gk, 0, none⟩) (n - 1) ck')
  rw [hw5]
  have hO9 := hO9.past hB (by decide) hC5
  have hO17 := hO17.past hB (by decide) hC5
  have hBF := hBF.past hB (by decide) hC5
  have hCC := hCC.trans (hC5.mono fun k _ h => .inl h)
  have hB := hB1
  clear hB1 hw5 hC5
  refine hK.out _ _ (fun h => by cases (show true = false from h)) (fun _ => ?_)
  clear hK K
  try simp only [Act.put, List.setIfInBounds_toArray, List.set_cons_zero, List.set_cons_succ]
  apply till_take0 (i := 21) (d := some 44)
  case hi => exact rfl
  case hd => exact rfl
  case hchk => kernel_rfl
  case hS => exact (fun h => by cases (show true = false from h))
  case hy => apply yields_plain; exact rfl; intro w _; go_simp <;> with_reducible rfl
  case hQ => exact fun _ _ _ h => h
  simp only [Act.put, List.setIfInBounds_toArray, List.set_cons_zero, List.set_cons_succ]
  apply till_take0 (i := 22) (d := some 45)
  case hi => exact rfl
  case hd => exact rfl
  case hchk => kernel_rfl
  case hS => exact (fun h => by cases (show true = false from h))
  case hy => apply yields_plain; exact rfl; intro w _; go_simp <;> with_reducible rfl
  case hQ => exact fun _ _ _ h => h
  simp only [Act.put, List.setIfInBounds_toArray, List.set_cons_zero, List.set_cons_succ]
  refine till_all (rs := [23]) (by kernel_rfl) (by simp) (mem_more (till_op (i := 23) (o := ⟨none, _, _, _, _, _⟩) rfl rfl (fun K hK => ?_)) (mem_none))
  have hbc : (w5).cell? ⟨b, 1, none⟩ = some _ := hB.cell_ rfl
  have hbf := hB.frozen 1
  go_simp
  clear hbc hbf
  obtain ⟨w6, hw6, hB1, hC6⟩ := set_named hB 1 (.slice (some ⟨gr, 0, none⟩) (n - 1) cr')
  rw [hw6]
  have hO9 := hO9.past hB (by decide) hC6
  have hO17 := hO17.past hB (by decide) hC6
  have hBF := hBF.past hB (by decide) hC6
  have hCC := hCC.trans (hC6.mono fun k _ h => .inl h)
  have hB := hB1
  clear hB1 hw6 hC6
  refine hK.out _ _ (fun h => by cases (show true = false from h)) (fun _ => ?_)
  clear hK K
  try simp only [Act.put, List.setIfInBounds_toArray, List.set_cons_zero, List.set_cons_succ]
  refine till_done (by kernel_rfl) ?_
  go_wp2_with fail
  refine bodyPost_ret (results_none rfl _ _ _) rfl ?_
  exact HP.out _ _ ⟨gk, ck', gr, cr', rfl, hB, hO9, hO17, hBF, hg9, hg17, hCC⟩

theorem keysT_del (l : List (ByteArray × Int)) (i : Nat) : keysT (l.take i ++ l.drop (i + 1)) = (keysT l).take i ++ (keysT l).drop (i + 1) := by simp [keysT, List.map_take, List.map_drop]
theorem rowsT_del (l : List (ByteArray × Int)) (i : Nat) : rowsT (l.take i ++ l.drop (i + 1)) = (rowsT l).take i ++ (rowsT l).drop (i + 1) := by simp [rowsT, List.map_take, List.map_drop]

theorem del_at_leaf {w : World} {b bk bg bd bt tr : Nat} {key : ByteArray} {fan : Nat} {l : Tr 0} {fp : List Nat} {g0 : Bool} (h : At w 0 b l fp) (hnd : fp.Nodup) (he : DEnv w fp bk bg bd bt tr key fan)
    (hf : Blk w bg 4 #[.bool g0]) (hrise : Rising (keysT l)) (hbig : sizeT 0 l ≤ 1000) :
    Calls Try.prog 39 #[ptr b, ptr bk, ptr bg, ptr bd, ptr bt] w (DelPost w 0 b bg l fp key fan g0) := by
  have hAt := h
  obtain ⟨vk, vr, hb, hk, hr, hfp⟩ := h
  have hbig' : l.length ≤ 1000 := hbig
  obtain ⟨Ak, ck, rfl, _⟩ := hk.shape
  obtain ⟨Ar, cr, rfl, _⟩ := hr.shape
  have l1 : (strs (keysT l)).length = l.length := by simp [strs, keysT]
  have l2 : (nums (rowsT l)).length = l.length := by simp [nums, rowsT]
  rw [l1] at hb hk hfp
  rw [l2] at hb hr hfp
  by_cases hin : (keysT l)[pos (keysT l) key]? = some key
  · have hdel : delT fan key 0 l = l.take (pos (keysT l) key) ++ l.drop (pos (keysT l) key + 1) := by
      show (if _ then _ else _) = _
      rw [if_pos hin]
    have hfr : freshT key 0 l = false := by show (!decide _) = false; rw [decide_eq_true hin]; rfl
    refine (del_leaf_gone w b bk bg (ptr bd) (ptr bt) Ak Ar l.length ck cr (pos (keysT l) key) (keysT l) (rowsT l) key g0 hb hk hr he.hk hf (by simp [keysT]) (by simp [rowsT]) hrise rfl hin hbig').mono ?_
    rintro e w' ⟨gk, ck', gr, cr', rfl, hB, hO1, hO2, hBF, hg1, hg2, hC⟩
    refine ⟨rfl, b :: ((Value.slice (some ⟨gk, 0, none⟩) (l.length - 1) ck').ownBlock.toList ++ (Value.slice (some ⟨gr, 0, none⟩) (l.length - 1) cr').ownBlock.toList), ⟨_, _, hB, ?_, ?_, rfl⟩, ?_, ?_, ?_, ?_⟩
    · rw [hdel, keysT_del]; exact hO1
    · rw [hdel, rowsT_del]; exact hO2
    · have e0 := hO1.ne_blk hB (by decide)
      have e1 := hO2.ne_blk hB (by decide)
      simp only [List.nodup_cons, List.nodup_append, List.mem_append, not_or, Option.mem_toList]
      exact ⟨⟨e0, e1⟩, own_list_nodup _, own_list_nodup _, fun x hx y hy e => hO1.ne_own hO2 (by decide) hx (e ▸ hy)⟩
    · intro k hk'
      rw [hfp]
      simp only [List.mem_cons, List.mem_append, Option.mem_toList] at hk' ⊢
      rcases hk' with rfl | h | h
      · exact .inl (.inl rfl)
      · have e : k = gk := by simp [Value.ownBlock] at h; exact h.symm
        subst e
        exact hg1.imp (fun h => .inr (.inl h)) id
      · have e : k = gr := by simp [Value.ownBlock] at h; exact h.symm
        subst e
        exact hg2.imp (fun h => .inr (.inr h)) id
    · rw [hfr]; simpa using hBF
    · refine hC.mono fun k _ h => ?_
      rw [hfp]
      simp only [List.mem_cons, List.mem_append, Option.mem_toList]
      rcases h with h | h | h | h
      · exact .inl (.inl h)
      · exact .inr h
      · exact .inl (.inr (.inl h))
      · exact .inl (.inr (.inr h))
  · have hdel : delT fan key 0 l = l := by
      show (if _ then _ else _) = _
      rw [if_neg hin]
    have hfr : freshT key 0 l = true := by show (!decide _) = true; rw [decide_eq_false hin]; rfl
    refine (del_leaf_none w b bk bg (ptr bd) (ptr bt) Ak Ar l.length ck cr (pos (keysT l) key) (keysT l) key hb hk he.hk (by simp [keysT]) hrise rfl hin hbig').mono ?_
    rintro e w' ⟨rfl, q, rfl⟩
    refine ⟨rfl, fp, by rw [hdel]; exact hAt.drewN q, hnd, fun k hk => .inl hk, by rw [hfr]; simpa using hf.drewN q, (Chg.refl _ w).drewN q⟩
end Go.Proofs.Ythndplpbnfihdaa
