/-
  awake: what the document fixes. Conditions: none.
-/
import Derived.Test.YthndplpbnfihdaaKf
set_option linter.unusedVariables false
set_option linter.unusedSimpArgs false
namespace Go.Proofs.Ythndplpbnfihdaa
open Go.RowKit

theorem two_pow_len {fan : Nat} (hf : 4 ≤ fan) : ∀ (d : Nat) (t : Tr d), Kids fan d t → 2 ≤ sizeT d t → 2 ^ (d + 1) ≤ (toL d t).length
  | 0, l, _, h => h
  | d + 1, (ks, ts), ⟨hl, hk⟩, h => by
    have h2 : 2 ≤ ts.length := h
    have key : ∀ l : List (Tr d), (∀ t ∈ l, t ∈ ts) → l.length * 2 ^ (d + 1) ≤ (l.flatMap (toL d)).length := by
      intro l
      induction l with
      | nil => intro _; simp
      | cons x l ih =>
        intro hx
        obtain ⟨k1, k2, k3⟩ := hk x (hx x (List.mem_cons_self ..))
        have h1 := two_pow_len hf d x k1 (by omega)
        have h3 := ih fun t ht => hx t (List.mem_cons_of_mem _ ht)
        simp only [List.flatMap_cons, List.length_append, List.length_cons]
        have : (l.length + 1) * 2 ^ (d + 1) = l.length * 2 ^ (d + 1) + 2 ^ (d + 1) := by rw [Nat.add_mul, Nat.one_mul]
        omega
    have h3 := key ts fun t ht => ht
    show 2 ^ (d + 1 + 1) ≤ (ts.flatMap (toL d)).length
    have h4 : 2 * 2 ^ (d + 1) ≤ ts.length * 2 ^ (d + 1) := Nat.mul_le_mul_right _ h2
    have h5 : 2 ^ (d + 1 + 1) = 2 * 2 ^ (d + 1) := by rw [Nat.pow_succ]; omega
    omega

/-- A tree as it is read. -/
structure Seen (w : World) (tr fan d : Nat) (u : Nb d) (L : List (ByteArray × Int)) (fp : List Nat) : Prop where
  view : View w (· ∈ fp) d u
  list : listU d u = L
  blk : Blk w tr 64 #[.int .i64 fan, .int .i64 (listU d u).length, ptr (blk d u)]
  size : sizeU d u ≤ fan
  two : 0 < d → 2 ≤ sizeU d u
  root : Go.Proofs.Ythndplpbnfihdaa.blk d u ∈ fp
  deep : d ≤ 999
  sound : Sound fan d (dat d u)

theorem Tree.seen {w : World} {tr fan d : Nat} {t : Tr d} {fp : List Nat} (h : Tree w tr fan d t fp) (hl : (toL d t).length ≤ 1000) : ∃ u, Seen w tr fan d u (toL d t) fp := by
  obtain ⟨root, hb, hA⟩ := h.mem
  obtain ⟨u, hr, hbl, rfl⟩ := rd_of_at hA
  have hdeep : d ≤ 999 := by
    cases d with
    | zero => omega
    | succ d =>
      have h1 := two_pow_len h.lo (d + 1) _ h.sound.kids (h.two (by omega))
      have h2 := Nat.lt_two_pow_self (n := d + 1 + 1)
      omega
  have hsz : sizeT d (dat d u) = sizeU d u := sizeU_dat d u
  refine ⟨u, ⟨hr, fun hd => full_of h.lo h.sound.kids (by have := h.two hd; omega), by omega, by rw [← listU_dat]; exact hl, hA.lt⟩, (listU_dat d u).symm, ?_, by rw [← hsz]; exact h.size, fun hd => by rw [← hsz]; exact h.two hd, hbl ▸ hA.head, hdeep, h.sound⟩
  rw [← listU_dat, hbl]; exact hb

set_option maxHeartbeats 2000000 in
set_option maxRecDepth 100000 in
theorem awake_calls (w : World) : Calls Try.prog 20 #[] w (fun e w' => e = .returned (.bool true) ∧ Chg (fun _ => False) w w') := by
  obtain ⟨R, hR⟩ : ∃ R : Ending → World → Prop, R = fun e w' => e = .returned (.bool true) ∧ Chg (fun _ => False) w w' := ⟨_, rfl⟩
  rw [← hR]
  have HP : Hid (∀ e w', e = .returned (.bool true) → Chg (fun _ => False) w w' → R e w') := fun e w' h1 h2 => by rw [hR]; exact ⟨h1, h2⟩
  clear hR
  go_enter Try.func20, Try.ntmps20
  go_wp2_with fail
  refine (new_calls w 4 (by omega) (by omega)).mono ?_
  rintro e w1 ⟨tr, fp, rfl, hT, hfp, htr, hC1⟩
  rw [show ptr tr = .pointer (some ⟨tr, 0, none⟩) from rfl]
  have HT := Lib.hid hT
  have HC1 := Lib.hid hC1
  have HFP : Hid (∀ k ∈ fp, w.heap.size ≤ k) := hfp
  have HTR := Lib.hid htr
  clear hT hfp htr hC1
  go_wp2_with fail
  refine (put_calls ⟨#[98]⟩ 1 HT.out (by simp [toL])).mono ?_
  rintro e w2 ⟨rfl, d2, t2, fp2, hT2, hL2, hs2, hC2⟩
  rw [show (!hasL ⟨#[98]⟩ (toL 0 ([] : List (ByteArray × Int)))) = true from rfl]
  have hL2' : toL d2 t2 = [(⟨#[98]⟩, 1)] := hL2
  have HT2 := Lib.hid hT2
  have HL2 := Lib.hid hL2'
  have hCw2 : Chg (fun _ => False) w w2 := HC1.out.comp hC2 fun k hk e => by
    rcases e with e | e
    · have := HFP.out k e; omega
    · have := HTR.out; omega
  have HC2 := Lib.hid hCw2
  have HFP2 : Hid (∀ k ∈ fp2, w.heap.size ≤ k) := fun k hk => (hs2 k hk).elim (HFP.out k) (fun h => by have := HC1.out.size; omega)
  clear hT2 hL2 hL2' hs2 hC2 hCw2
  go_wp2_with fail
  refine (put_calls ⟨#[97]⟩ 2 HT2.out (by rw [HL2.out]; simp)).mono ?_
  rintro e w3 ⟨rfl, d3, t3, fp3, hT3, hL3, hs3, hC3⟩
  rw [HL2.out] at hL3 ⊢
  rw [show (!hasL ⟨#[97]⟩ [((⟨#[98]⟩ : ByteArray), (1 : Int))]) = true from by decide]
  have hL3' : toL d3 t3 = [(⟨#[97]⟩, 2), (⟨#[98]⟩, 1)] := hL3.trans (by kernel_rfl)
  have hCw3 : Chg (fun _ => False) w w3 := HC2.out.comp hC3 fun k hk e => by
    rcases e with e | e
    · have := HFP2.out k e; omega
    · have := HTR.out; omega
  have HC3 := Lib.hid hCw3
  obtain ⟨u, hS⟩ := hT3.seen (by rw [hL3']; simp)
  rw [hL3'] at hS
  have HS := Lib.hid hS
  clear hT3 hL3 hL3' hs3 hC3 hCw3 hS
  go_wp2_with fail
  refine (seek_calls ⟨#[97, 97]⟩ false HS.out.view HS.out.sound HS.out.blk).mono ?_
  rintro e w4 ⟨c, ps, fpc, rfl, hcur, hgo, hge, hch⟩
  rw [show ptr c = .pointer (some ⟨c, 0, none⟩) from rfl]
  rw [HS.out.list, show cntL ⟨#[97, 97]⟩ false [((⟨#[97]⟩ : ByteArray), (2 : Int)), (⟨#[98]⟩, 1)] = 1 from by kernel_rfl, if_pos (by simp)] at hgo
  have HG := Lib.hid hgo
  have HCU := Lib.hid hcur
  have HC4 := Lib.hid hch
  have HOK : Hid (∀ W, Chg (fun _ => False) w4 W → Calls Try.prog 12 #[.pointer (some ⟨c, 0, none⟩)] W fun e w' => e = .returned (.bool true) ∧ W = w') := fun W hW => by
    have h1 := ok_calls (HCU.out.chg hW fun _ _ h => h)
    rw [show decide (0 < ps.length) = true from decide_eq_true (by rw [goes_len HG.out]; omega)] at h1
    exact h1
  have hp : (listU d3 u)[((1 : Nat) : Int).toNat]? = some (⟨#[98]⟩, 1) := by rw [HS.out.list]; rfl
  have HV4 := Lib.hid (HS.out.view.chg HC4.out fun _ _ h => h)
  have HKY : Hid (∀ W, Chg (fun _ => False) w4 W → Calls Try.prog 13 #[.pointer (some ⟨c, 0, none⟩)] W fun e w' => e = .returned (.string ⟨#[98]⟩) ∧ Chg (fun _ => False) W w') := fun W hW =>
    key_calls (HV4.out.chg hW fun _ _ h => h) (HCU.out.chg hW fun _ _ h => h) HG.out hp
  have HRW : Hid (∀ W, Chg (fun _ => False) w4 W → Calls Try.prog 18 #[.pointer (some ⟨c, 0, none⟩)] W fun e w' => e = .returned (.int .i64 1) ∧ Chg (fun _ => False) W w') := fun W hW =>
    row_calls (HV4.out.chg hW fun _ _ h => h) (HCU.out.chg hW fun _ _ h => h) HG.out hp
  have HLN : Hid (∀ W, Chg (fun _ => False) w4 W → Calls Try.prog 15 #[.pointer (some ⟨tr, 0, none⟩)] W fun e w' => e = .returned (.int .i64 2) ∧ W = w') := fun W hW => by
    have h1 := len_calls ((HS.out.blk.chg HC4.out id).chg hW id)
    rw [HS.out.list] at h1
    exact h1
  have HCK : Hid (∀ W, Chg (fun _ => False) w4 W → Calls Try.prog 22 #[.pointer (some ⟨tr, 0, none⟩)] W fun e w' => e = .returned (.int .i64 0) ∧ Chg (fun _ => False) W w') := fun W hW =>
    check_calls (by omega) (by omega) (HV4.out.chg hW fun _ _ h => h) HS.out.sound HS.out.size HS.out.two HS.out.root HS.out.deep ((HS.out.blk.chg HC4.out id).chg hW id)
  clear hgo hcur hch hge hp
  go_wp2_with (first
    | (go_at_call 12; refine (HOK.out _ (Chg.refl _ _)).mono ?_; rintro e w' ⟨rfl, rfl⟩)
    | (go_at_call 13; refine (HKY.out _ (Chg.refl _ _)).mono ?_; rintro e w5 ⟨rfl, hc5⟩; have HC5 := Lib.hid hc5; clear hc5)
    | (go_at_call 18; refine (HRW.out _ HC5.out).mono ?_; rintro e w6 ⟨rfl, hc6⟩; have HC6 := Lib.hid (HC5.out.trans hc6); clear hc6)
    | (go_at_call 15; refine (HLN.out _ HC6.out).mono ?_; rintro e w' ⟨rfl, rfl⟩)
    | (go_at_call 22; refine (HCK.out _ HC6.out).mono ?_; rintro e w7 ⟨rfl, hc7⟩; have HC7 := Lib.hid (HC6.out.trans hc7); clear hc7))
  exact HP.out _ _ rfl ((HC3.out.trans HC4.out).trans HC7.out)
end Go.Proofs.Ythndplpbnfihdaa
