/-
  built: a tree and its list out of a script. Conditions: a fan from 4 to 64, at most 1000 steps.
-/
import Derived.Test.YthndplpbnfihdaaFi
import Derived.Test.YthndplpbnfihdaaDt
import Derived.Test.YthndplpbnfihdaaAw
import Derived.Test.YthndplpbnfihdaaRg
set_option linter.unusedVariables false
set_option linter.unusedSimpArgs false
namespace Go.Proofs.Ythndplpbnfihdaa
open Go.RowKit

/-- One call of a script. -/
def playL (kd r : Int) (key : ByteArray) (L : List (ByteArray × Int)) : List (ByteArray × Int) := if kd = 1 then delL key L else if kd = 2 then L else insL key r L

def playsL (Kd Rw : Nat → Int) (Ky : Nat → ByteArray) : Nat → List (ByteArray × Int)
  | 0 => []
  | i + 1 => playL (Kd i) (Rw i) (Ky i) (playsL Kd Rw Ky i)

theorem delL_len_le (key : ByteArray) (L : List (ByteArray × Int)) : (delL key L).length ≤ L.length := List.length_filter_le ..

theorem playsL_ok (Kd Rw : Nat → Int) (Ky : Nat → ByteArray) (i : Nat) : (playsL Kd Rw Ky i).length ≤ i ∧ Rising (keysT (playsL Kd Rw Ky i)) := by
  induction i with
  | zero => exact ⟨Nat.le_refl _, by simp [playsL, keysT, Rising]⟩
  | succ i ih =>
    show (playL _ _ _ _).length ≤ _ ∧ Rising (keysT (playL _ _ _ _))
    unfold playL
    split
    · exact ⟨Nat.le_trans (delL_len_le _ _) (by omega), rising_delL ih.2⟩
    · split
      · exact ⟨by omega, ih.2⟩
      · refine ⟨?_, rising_insL ih.2⟩
        rw [insL_len _ _ _ ih.2]
        split <;> omega

theorem del_at_pos {L : List (ByteArray × Int)} (h : Rising (keysT L)) (key : ByteArray) : delL key L = if hasL key L = true then L.take (pos (keysT L) key) ++ L.drop (pos (keysT L) key + 1) else L := by
  rw [has_at h]
  have h1 := del_leaf h 0 key
  have h2 : delT 0 key 0 L = (if (keysT L)[pos (keysT L) key]? = some key then L.take (pos (keysT L) key) ++ L.drop (pos (keysT L) key + 1) else L) := rfl
  rw [← h1, h2]
  by_cases hh : (keysT L)[pos (keysT L) key]? = some key
  · rw [if_pos hh, if_pos (decide_eq_true hh)]
  · rw [if_neg hh, if_neg (by rw [decide_eq_false hh]; simp)]

theorem ins_at_pos {L : List (ByteArray × Int)} (h : Rising (keysT L)) (key : ByteArray) (r : Int) : insL key r L = if hasL key L = true then L.take (pos (keysT L) key) ++ [(key, r)] ++ L.drop (pos (keysT L) key + 1) else L.take (pos (keysT L) key) ++ [(key, r)] ++ L.drop (pos (keysT L) key) := by
  rw [has_at h]
  have h1 := put_leaf h 0 key r
  have h2 : putT 0 key r 0 L = (if (keysT L)[pos (keysT L) key]? = some key then L.set (pos (keysT L) key) (key, r) else L.take (pos (keysT L) key) ++ (key, r) :: L.drop (pos (keysT L) key)) := rfl
  rw [← h1, h2]
  by_cases hh : (keysT L)[pos (keysT L) key]? = some key
  · rw [if_pos hh, if_pos (decide_eq_true hh)]
    obtain ⟨x, hx⟩ := leaf_get hh
    rw [set_split hx]; simp
  · rw [if_neg hh, if_neg (by rw [decide_eq_false hh]; simp)]; simp

theorem own_one {y n c k : Nat} (h : (Value.slice (some ⟨y, 0, none⟩) n c).ownBlock = some k) : k = y := by
  simp [Value.ownBlock] at h; exact h.symm

theorem row_len {w : World} {e : TypeId} {A : Option Addr} {n c : Nat} {ps : List (Value × Value)} (h : Row2 w e (.slice A n c) ps) : n = ps.length := by
  obtain ⟨A', c', hv, _⟩ := h.shape
  injection hv

theorem tree_get {w : World} {tr fan d : Nat} {t : Tr d} {fp : List Nat} (hT : Tree w tr fan d t fp) (hl : (toL d t).length ≤ 1000) (key : ByteArray) : Calls Try.prog 17 #[.pointer (some ⟨tr, 0, none⟩), .string key] w (GetPost w (toL d t) key) := by
  obtain ⟨u, hS⟩ := hT.seen hl
  have := get_calls key hS.view hS.sound hS.blk
  rw [hS.list] at this
  exact this

theorem one_row {L : List (ByteArray × Int)} (h : Rising (keysT L)) {k : ByteArray} {r r' : Int} (h1 : (k, r) ∈ L) (h2 : (k, r') ∈ L) : r = r' := by
  obtain ⟨a, ha⟩ := List.mem_iff_getElem?.1 h1
  obtain ⟨b, hb⟩ := List.mem_iff_getElem?.1 h2
  have ka : (keysT L)[a]? = some k := by rw [keysT, List.getElem?_map, ha]; rfl
  have kb : (keysT L)[b]? = some k := by rw [keysT, List.getElem?_map, hb]; rfl
  obtain ⟨la, ea⟩ := List.getElem?_eq_some_iff.1 ka
  obtain ⟨lb, eb⟩ := List.getElem?_eq_some_iff.1 kb
  have hp := List.pairwise_iff_getElem.1 h
  rcases Nat.lt_trichotomy a b with hlt | heq | hgt
  · have := hp a b la lb hlt
    rw [ea, eb, lt_irrefl] at this; cases this
  · subst heq
    rw [ha] at hb; injection hb with hb; injection hb
  · have := hp b a lb la hgt
    rw [ea, eb, lt_irrefl] at this; cases this

/-- What built leaves. -/
def BuiltPost (w : World) (fan : Nat) (L : List (ByteArray × Int)) (e : Ending) (w' : World) : Prop :=
  ∃ tr A c d t fp, e = .returned (.tuple #[.pointer (some ⟨tr, 0, none⟩), .slice A L.length c, .bool true]) ∧ Tree w' tr fan d t fp ∧ toL d t = L ∧ Row2 w' 52 (.slice A L.length c) (prs L) ∧
    (∀ k ∈ fp, w.heap.size ≤ k) ∧ w.heap.size ≤ tr ∧ (∀ k, (Value.slice A L.length c).ownBlock = some k → w.heap.size ≤ k) ∧ Chg (fun _ => False) w w'

set_option maxHeartbeats 4000000 in
set_option maxRecDepth 100000 in
theorem built_walk (w : World) (fan : Nat) (h4 : 4 ≤ fan) (h64 : fan ≤ 64) (b off n c M : Nat) (A : Option Addr) (Kd Rw : Nat → Int) (Ky : Nat → ByteArray) (hn : n ≤ maxLen) (hM : M ≤ 900)
    (hA : 0 < n → A = some ⟨b, off, none⟩) (hcells : ∀ i, i < n → w.cell? ⟨b, off + i * 3, none⟩ = some (.int .i64 (Kd i)) ∧ w.cell? ⟨b, off + i * 3 + 1, none⟩ = some (.int .i64 (Rw i)) ∧ w.cell? ⟨b, off + i * 3 + 2, none⟩ = some (.string (Ky i))) :
    Calls Try.prog 25 #[.int .i64 fan, .slice A n c, .int .i64 M] w (BuiltPost w fan (playsL Kd Rw Ky (min n M))) := by
  obtain ⟨m, hm⟩ : ∃ m, min n M = m := ⟨_, rfl⟩
  rw [hm]
  have hmn : m ≤ n := by omega
  have hmM : m ≤ M := by omega
  have hmm : m = n ∨ m = M := by omega
  unfold maxLen at hn
  obtain ⟨R, hR⟩ : ∃ R, R = BuiltPost w fan (playsL Kd Rw Ky m) := ⟨_, rfl⟩
  rw [← hR]
  have HP : Hid (∀ e w', BuiltPost w fan (playsL Kd Rw Ky m) e w' → R e w') := fun e w' h => by rw [hR]; exact h
  have HA : Hid (0 < n → A = some ⟨b, off, none⟩) := hA
  have HCL : Hid (∀ i, i < n → w.cell? ⟨b, off + i * 3, none⟩ = some (.int .i64 (Kd i)) ∧ w.cell? ⟨b, off + i * 3 + 1, none⟩ = some (.int .i64 (Rw i)) ∧ w.cell? ⟨b, off + i * 3 + 2, none⟩ = some (.string (Ky i))) := hcells
  clear hR hA hcells hm
  go_enter Try.func25, Try.ntmps25
  go_wp2_with fail
  refine (new_calls w fan h4 h64).mono ?_
  rintro e w1 ⟨tr, fp, rfl, hT, hfp, htr, hC1⟩
  rw [show ptr tr = .pointer (some ⟨tr, 0, none⟩) from rfl]
  have HT := Lib.hid hT
  have HC1 := Lib.hid hC1
  have HFP : Hid (∀ k ∈ fp, w.heap.size ≤ k) := hfp
  have HTR := Lib.hid htr
  clear hT hfp htr hC1
  go_wp2_with fail
  go_loopg [11, 12] m (fun g l s wr => ∃ (i d : Nat) (t : Tr d) (fp : List Nat) (B : Option Addr) (k e : Nat), l = .slice B k e ∧ s = .int .i64 i ∧ i ≤ m ∧ m - i ≤ g ∧ Tree wr tr fan d t fp ∧ toL d t = playsL Kd Rw Ky i ∧ k = (playsL Kd Rw Ky i).length ∧
    Row2 wr 52 (.slice B k e) (prs (playsL Kd Rw Ky i)) ∧ (∀ k ∈ fp, w.heap.size ≤ k) ∧ (∀ x, (Value.slice B k e).ownBlock = some x → w.heap.size ≤ x) ∧ Chg (fun _ => False) w wr)
  case atStart => exact ⟨0, 0, [], fp, none, 0, 0, rfl, rfl, Nat.zero_le _, by omega, HT.out, rfl, rfl, Row2.nil _ _, HFP.out, fun x hx => by simp [Value.ownBlock] at hx, HC1.out⟩
  case round =>
    obtain ⟨i, d, t, fp', B, ln, lc, rfl, rfl, him, hig, hT, hL, hln, hrow, hfp, hlo, hch⟩ := hrel
    have HT := Lib.hid hT
    have HL := Lib.hid hL
    have HLN := Lib.hid hln
    have HROW := Lib.hid hrow
    have HFP' : Hid (∀ k ∈ fp', w.heap.size ≤ k) := hfp
    have HLO : Hid (∀ x, (Value.slice B ln lc).ownBlock = some x → w.heap.size ≤ x) := hlo
    have HCH := Lib.hid hch
    clear hT hL hln hrow hfp hlo hch
    rcases Nat.lt_or_ge i m with hlt | hge
    · have hin : (i : Int) < (n : Int) := by omega
      have hiM : (i : Int) < (M : Int) := by omega
      have hA' := HA.out (by omega)
      subst hA'
      obtain ⟨hc0, hc1, hc2⟩ := HCL.out i (by omega)
      have hcc : ∀ W, Chg (fun _ => False) w W → W.cell? ⟨b, off + i * 3, none⟩ = some (.int .i64 (Kd i)) ∧ W.cell? ⟨b, off + i * 3 + 1, none⟩ = some (.int .i64 (Rw i)) ∧ W.cell? ⟨b, off + i * 3 + 2, none⟩ = some (.string (Ky i)) := fun W hW =>
        ⟨by rw [hW.cell (World.block_lt_of_cell? _ _ hc0) id]; exact hc0, by rw [hW.cell (World.block_lt_of_cell? _ _ hc1) id]; exact hc1, by rw [hW.cell (World.block_lt_of_cell? _ _ hc2) id]; exact hc2⟩
      obtain ⟨hd0, hd1, hd2⟩ := hcc wr HCH.out
      clear hc0 hc1 hc2 hcc
      obtain ⟨L, hLL⟩ : ∃ L, playsL Kd Rw Ky i = L := ⟨_, rfl⟩
      obtain ⟨key, hkey⟩ : ∃ key, Ky i = key := ⟨_, rfl⟩
      obtain ⟨row, hrw⟩ : ∃ row, Rw i = row := ⟨_, rfl⟩
      obtain ⟨kd, hkd⟩ : ∃ kd, Kd i = kd := ⟨_, rfl⟩
      have hok := playsL_ok Kd Rw Ky i
      have hnext : playsL Kd Rw Ky (i + 1) = playL kd row key L := by rw [← hLL, ← hkey, ← hrw, ← hkd]; rfl
      rw [hLL] at hok HL HLN HROW
      rw [hkd] at hd0
      rw [hrw] at hd1
      rw [hkey] at hd2
      have HOK := Lib.hid hok
      have HNX := Lib.hid hnext
      obtain ⟨kx, hkx⟩ : ∃ kx, pos (keysT L) key = kx := ⟨_, rfl⟩
      obtain ⟨is, his⟩ : ∃ is, hasL key L = is := ⟨_, rfl⟩
      have HKX := Lib.hid hkx
      have HIS := Lib.hid his
      have hkxl : kx ≤ ln := by rw [← hkx, HLN.out]; have := pos_le (keysT L) key; simpa [keysT] using this
      have hisl : is = true → kx < ln := fun h => by
        rw [← his, has_at hok.2, decide_eq_true_eq, hkx] at h
        have := (List.getElem?_eq_some_iff.1 h).1
        rw [HLN.out]; simpa [keysT] using this
      have HISL := Lib.hid hisl
      have hlnb : ln ≤ i := by rw [HLN.out]; exact hok.1
      clear hLL hkey hrw hkd hok hnext hkx his hisl
      go_wp2_with fail
      obtain ⟨w2, bo, hw2, hbo, hBo, hC2, hz2⟩ := alloc_named wr #[.int .i64 kd, .int .i64 row, .string key] 83
      rw [hw2, hbo]
      have hF := find_calls key (HROW.out.chg hC2 fun _ _ h => h) HOK.out.2 (by have := HOK.out.1; omega)
      rw [HKX.out, HIS.out] at hF
      refine hF.mono ?_
      rintro e w3 ⟨rfl, q, hw3⟩
      have hC3 : Chg (fun _ => False) w2 w3 := hw3 ▸ (Chg.refl _ w2).drewN q
      have HBo := Lib.hid (hBo.chg hC3 id)
      have HC3 := Lib.hid (hC2.trans hC3)
      have HT3 := Lib.hid (HT.out.chg HC3.out fun _ h => h.elim)
      have HROW3 := Lib.hid (HROW.out.chg HC3.out fun _ _ h => h)
      have HCW := Lib.hid (HCH.out.trans HC3.out)
      have co0 : w3.cell? ⟨bo, 0, none⟩ = some (.int .i64 kd) := HBo.out.cell_ rfl
      have co1 : w3.cell? ⟨bo, 1, none⟩ = some (.int .i64 row) := HBo.out.cell_ rfl
      have co2 : w3.cell? ⟨bo, 2, none⟩ = some (.string key) := HBo.out.cell_ rfl
      have hwi : IntKind.i64.wrap ((i : Int) + 1) = (i : Int) + 1 := by rw [IntKind.wrap_i64]; omega
      have HWI := Lib.hid hwi
      have hbig : (toL d t).length < 4611686018427387904 := by rw [HL.out]; have := HOK.out.1; omega
      have HBIG := Lib.hid hbig
      clear hw2 hbo hBo hC2 hz2 hF hw3 hC3 hd0 hd1 hd2 hwi hbig
      -- what a tree's turn leaves of the rest
      have CARRY : Hid (∀ (w4 : World) (d4 : Nat) (t4 : Tr d4) (fp4 : List Nat), Tree w4 tr fan d4 t4 fp4 → (∀ k ∈ fp4, k ∈ fp' ∨ w3.heap.size ≤ k) → Chg (fun k => k ∈ fp' ∨ k = tr) w3 w4 →
          Row2 w4 52 (.slice B ln lc) (prs L) ∧ Blk w4 bo 83 #[.int .i64 kd, .int .i64 row, .string key] ∧ (∀ k ∈ fp4, w.heap.size ≤ k) ∧ Chg (fun _ => False) w w4) := by
        intro w4 d4 t4 fp4 hT4 hs4 hC4
        have hoff := HT3.out.off HROW3.out
        have hob : ¬ (bo ∈ fp' ∨ bo = tr) := by
          obtain ⟨root, hb, hA⟩ := HT3.out.mem
          rintro (h | h)
          · obtain ⟨T, cs, hB, hTT⟩ := hA.kind bo h
            have := (HBo.out.inj hB).1
            rcases hTT with rfl | rfl | rfl | rfl <;> exact absurd this (by decide)
          · exact absurd (HBo.out.inj (h ▸ hb)).1 (by decide)
        refine ⟨HROW3.out.chg hC4 fun k hk h => h.elim (hoff k hk).1 (hoff k hk).2, HBo.out.chg hC4 hob, fun k hk => (hs4 k hk).elim (HFP'.out k) (fun h => by have := HCW.out.size; omega), HCW.out.comp hC4 fun k hk h => ?_⟩
        rcases h with h | h
        · have := HFP'.out k h; omega
        · have := HTR.out; omega
      by_cases hk1 : kd = 1
      · subst hk1
        cases is with
        | true =>
          have hdel := del_calls key HT3.out HBIG.out
          go_wp2_with fail
          refine hdel.mono ?_
          rintro e w4 ⟨rfl, d4, t4, fp4, hT4, hL4, hs4, hC4⟩
          rw [HL.out] at hL4 ⊢
          rw [HIS.out]
          obtain ⟨hR4, hB4, hf4, hc4⟩ := CARRY.out w4 d4 t4 fp4 hT4 hs4 hC4
          have HT4 := Lib.hid hT4
          have HL4 := Lib.hid hL4
          have HR4 := Lib.hid hR4
          have HF4 : Hid (∀ k ∈ fp4, w.heap.size ≤ k) := hf4
          have HC4 := Lib.hid hc4
          clear hdel hT4 hL4 hs4 hC4 hR4 hB4 hf4 hc4 co0 co1 co2
          have hkx : kx < ln := HISL.out (by trivial)
          have hkw : IntKind.i64.wrap ((kx : Int) + 1) = (kx : Int) + 1 := by rw [IntKind.wrap_i64]; omega
          obtain ⟨hsl1, hrd1⟩ := run_take2 HR4.out kx hkxl
          obtain ⟨A2, c2, hsl2, hrd2, hof2⟩ := run_drop2 HR4.out (kx + 1) (by omega)
          have hsl2 : ∀ W, (Instr.sliceAt 46 (.slice B ln lc) (some (.int .i64 ((kx : Int) + 1))) none none).run Try.prog W = .ok (.slice A2 (ln - (kx + 1)) c2) W := fun W => hsl2 W
          rw [prs_take] at hrd1
          rw [prs_drop] at hrd2
          have HRD1 := Lib.hid hrd1
          have HRD2 := Lib.hid hrd2
          have hrl : ∀ ad, B = some ad → ad.block < w4.heap.size := fun ad e => by subst e; exact HR4.out.lt rfl
          have hrl2 : ∀ ad, A2 = some ad → ad.block < w4.heap.size := fun ad e => HR4.out.lt (hof2 ad e)
          have HRL : Hid (∀ ad, B = some ad → ad.block < w4.heap.size) := hrl
          have HRL2 : Hid (∀ ad, A2 = some ad → ad.block < w4.heap.size) := hrl2
          clear hrd1 hrd2 hof2 hrl hrl2
          go_wp2_with fail
          obtain ⟨w5, hw5, hC5⟩ := drew_named w4
          have hC0 : Chg (fun _ => False) w4 w5 := hC5
          have hS := hC0.size
          refine wp_region_till (s := 9) (S := (fun W => w4.heap.size ≤ W.heap.size)) (by kernel_rfl) ?_
          rw [hw5]
          clear hw5 hC5
          apply till_take0 (i := 1) (d := some 105)
          case hi => exact rfl
          case hd => exact rfl
          case hchk => kernel_rfl
          case hS => exact (fun _ => hS)
          case hy => apply yields_plain; exact rfl; intro w _; go_simp <;> with_reducible rfl
          case hQ => exact fun _ _ _ h => h
          simp only [Act.put, List.setIfInBounds_toArray, List.set_cons_zero, List.set_cons_succ]
          apply till_take0 (i := 2) (d := some 106)
          case hi => exact rfl
          case hd => exact rfl
          case hchk => kernel_rfl
          case hS => exact (fun _ => hS)
          case hy => apply yields_plain; exact rfl; intro w _; go_simp <;> with_reducible rfl
          case hQ => exact fun _ _ _ h => h
          simp only [Act.put, List.setIfInBounds_toArray, List.set_cons_zero, List.set_cons_succ]
          apply till_take0 (i := 3) (d := some 107)
          case hi => exact rfl
          case hd => exact rfl
          case hchk => kernel_rfl
          case hS => exact (fun _ => hS)
          case hy => apply yields_plain; exact rfl; intro w _; go_simp <;> with_reducible rfl
          case hQ => exact fun _ _ _ h => h
          simp only [Act.put, List.setIfInBounds_toArray, List.set_cons_zero, List.set_cons_succ]
          apply till_take0 (i := 5) (d := some 109)
          case hi => exact rfl
          case hd => exact rfl
          case hchk => kernel_rfl
          case hS => exact (fun _ => hS)
          case hy => apply yields_plain; exact rfl; intro w _; go_simp <;> with_reducible rfl
          case hQ => exact fun _ _ _ h => h
          simp only [Act.put, List.setIfInBounds_toArray, List.set_cons_zero, List.set_cons_succ]
          apply till_take0 (i := 6) (d := some 110)
          case hi => exact rfl
          case hd => exact rfl
          case hchk => kernel_rfl
          case hS => exact (fun _ => hS)
          case hy => apply yields_plain; exact rfl; intro w _; go_simp <;> with_reducible rfl
          case hQ => exact fun _ _ _ h => h
          simp only [Act.put, List.setIfInBounds_toArray, List.set_cons_zero, List.set_cons_succ]
          apply till_take0 (i := 7) (d := some 111)
          case hi => exact rfl
          case hd => exact rfl
          case hchk => kernel_rfl
          case hS => exact (fun _ => hS)
          case hy => apply yields_plain; exact rfl; intro w _; go_simp <;> with_reducible rfl
          case hQ => exact fun _ _ _ h => h
          simp only [Act.put, List.setIfInBounds_toArray, List.set_cons_zero, List.set_cons_succ]
          apply till_take0 (i := 8) (d := some 112)
          case hi => exact rfl
          case hd => exact rfl
          case hchk => kernel_rfl
          case hS => exact (fun _ => hS)
          case hy => apply yields_plain; exact rfl; intro w _; go_simp <;> with_reducible rfl
          case hQ => exact fun _ _ _ h => h
          simp only [Act.put, List.setIfInBounds_toArray, List.set_cons_zero, List.set_cons_succ]
          refine till_all (rs := [0]) (by kernel_rfl) (by simp) (mem_more (till_op (i := 0) (o := ⟨some 104, _, _, _, _, _⟩) rfl rfl (fun K hK => ?_)) (mem_none))
          go_simp
          obtain ⟨wa, ya, hwa, hya, hBa, hCa, -⟩ := alloc_named w5 #[] 52
          rw [hwa, hya]
          have hyn : w4.heap.size ≤ ya := by have := hC0.size; omega
          have hC0 := hC0.trans hCa
          have hRa := row_empty hBa
          clear hwa hya hCa
          refine hK.out _ _ (fun _ => ?_) (fun hS2 => ?_)
          · exact hC0.size
          have hS3 := hS2 (by kernel_rfl)
          clear hK K hS hS2
          have hS := hS3
          clear hS3
          try simp only [Act.put, List.setIfInBounds_toArray, List.set_cons_zero, List.set_cons_succ]
          refine till_all (rs := [4]) (by kernel_rfl) (by simp) (mem_more (till_op (i := 4) (o := ⟨some 108, _, _, _, _, _⟩) rfl rfl (fun K hK => ?_)) (mem_none))
          refine wp_pairs (.tmp 104) (.tmp 107) rfl (some ⟨ya, 0, none⟩) 0 0 [] rfl hRa B kx lc rfl (prs (L.take kx)) (HRD1.out.chg hC0 fun _ _ h => h) (prs_one _) (by omega) ?_
          rintro A4 c4 wb hR5 hC6 hob5
          rw [Nat.zero_add, List.nil_append] at hR5
          rw [Nat.zero_add] at hob5 ⊢
          simp only [Act.put, List.setIfInBounds_toArray, List.set_cons_zero, List.set_cons_succ]
          have hob5 : ∀ k, (Value.slice A4 kx c4).ownBlock = some k → w4.heap.size ≤ k := fun k hk => (hob5 k hk).elim (fun h => by rw [own_one h]; exact hyn) (fun h => by have := hC0.size; omega)
          have hC0 : Chg (fun _ => False) w4 wb := hC0.comp hC6 fun k hk h => by rw [own_one h] at hk; omega
          clear hC6 hBa hRa
          refine hK.out _ _ (fun _ => ?_) (fun hS2 => ?_)
          · exact hC0.size
          have hS3 := hS2 (by kernel_rfl)
          clear hK K hS hS2
          have hS := hS3
          clear hS3
          try simp only [Act.put, List.setIfInBounds_toArray, List.set_cons_zero, List.set_cons_succ]
          refine till_all (rs := [9]) (by kernel_rfl) (by simp) (mem_more (till_op (i := 9) (o := ⟨some 113, _, _, _, _, _⟩) rfl rfl (fun K hK => ?_)) (mem_none))
          refine wp_pairs (.tmp 108) (.tmp 112) rfl A4 kx c4 (prs (L.take kx)) rfl hR5 A2 (ln - (kx + 1)) c2 rfl (prs (L.drop (kx + 1))) (HRD2.out.chg hC0 fun _ _ h => h) (prs_one _) (by omega) ?_
          rintro A6 c6 wc hR6 hC6 hob6
          obtain ⟨l6, hl6e⟩ : ∃ l6, kx + (ln - (kx + 1)) = l6 := ⟨_, rfl⟩
          rw [hl6e] at hR6 hob6 ⊢
          clear hl6e
          simp only [Act.put, List.setIfInBounds_toArray, List.set_cons_zero, List.set_cons_succ]
          have hob6 : ∀ k, (Value.slice A6 l6 c6).ownBlock = some k → w4.heap.size ≤ k := fun k hk => (hob6 k hk).elim (hob5 k) (fun h => by have := hC0.size; omega)
          have hC0 : Chg (fun _ => False) w4 wc := hC0.comp hC6 fun k hk h => by have := hob5 k h; omega
          clear hC6 hR5 hob5
          refine hK.out _ _ (fun h => by cases (show true = false from h)) (fun _ => ?_)
          clear hK K hS
          try simp only [Act.put, List.setIfInBounds_toArray, List.set_cons_zero, List.set_cons_succ]
          refine till_all (rs := [10]) (by kernel_rfl) (by simp) (mem_more (till_op (i := 10) (o := ⟨some 11, _, _, _, _, _⟩) rfl rfl (fun K hK => ?_)) (mem_none))
          go_simp
          refine hK.out _ _ (fun h => by cases (show true = false from h)) (fun _ => ?_)
          clear hK K
          try simp only [Act.put, List.setIfInBounds_toArray, List.set_cons_zero, List.set_cons_succ]
          refine till_done (by kernel_rfl) ?_
          have hpl : playsL Kd Rw Ky (i + 1) = L.take kx ++ L.drop (kx + 1) := by
            rw [HNX.out]; unfold playL
            rw [if_pos rfl, del_at_pos HOK.out.2, if_pos HIS.out, HKX.out]
          rw [prs_app, ← hpl] at hR6
          have hl6 := row_len hR6
          rw [prs_len] at hl6
          have hL6 : toL d4 t4 = playsL Kd Rw Ky (i + 1) := by rw [HL4.out, HNX.out]; unfold playL; rw [if_pos rfl]
          have HT6 := Lib.hid (HT4.out.chg hC0 fun _ h => h.elim)
          have HR6 := Lib.hid hR6
          have HL6 := Lib.hid hL6
          have HLE6 := Lib.hid hl6
          have hw4s := HC4.out.size
          have HLO6 : Hid (∀ k, (Value.slice A6 l6 c6).ownBlock = some k → w.heap.size ≤ k) := fun k hk => by have := hob6 k hk; omega
          have HC6 := Lib.hid (HC4.out.trans hC0)
          have hwi := HWI.out
          clear hpl hR6 hl6 hL6 hC0 hob6 hsl1 hsl2 hkw
          go_wp2_with fail
          clear hwi
          go_roundg (m - (i + 1))
          case measure => omega
          case rel => exact ⟨i + 1, d4, t4, fp4, A6, _, c6, rfl, by first | rfl | go_num, by omega, Nat.le_refl _, HT6.out, HL6.out, HLE6.out, HR6.out, HF4.out, HLO6.out, HC6.out⟩
        | false =>
          have hdel := del_calls key HT3.out HBIG.out
          go_wp2_with fail
          refine hdel.mono ?_
          rintro e w4 ⟨rfl, d4, t4, fp4, hT4, hL4, hs4, hC4⟩
          rw [HL.out] at hL4 ⊢
          rw [HIS.out]
          obtain ⟨hR4, hB4, hf4, hc4⟩ := CARRY.out w4 d4 t4 fp4 hT4 hs4 hC4
          have hpl : playsL Kd Rw Ky (i + 1) = L := by
            rw [HNX.out]; unfold playL
            rw [if_pos rfl, del_at_pos HOK.out.2, if_neg (by rw [HIS.out]; simp)]
          have HT4 := Lib.hid hT4
          have HL4 : Hid (toL d4 t4 = playsL Kd Rw Ky (i + 1)) := by rw [hL4, HNX.out]; unfold playL; rw [if_pos rfl]; exact rfl
          have HLE4 : Hid (ln = (playsL Kd Rw Ky (i + 1)).length) := by rw [hpl]; exact HLN.out
          have HR4 : Hid (Row2 w4 52 (.slice B ln lc) (prs (playsL Kd Rw Ky (i + 1)))) := by rw [hpl]; exact hR4
          have HF4 : Hid (∀ k ∈ fp4, w.heap.size ≤ k) := hf4
          have HC4 := Lib.hid hc4
          have hwi := HWI.out
          clear hdel hT4 hL4 hs4 hC4 hR4 hB4 hf4 hc4 co0 co1 co2 hpl
          go_wp2_with fail
          clear hwi
          go_roundg (m - (i + 1))
          case measure => omega
          case rel => exact ⟨i + 1, d4, t4, fp4, B, ln, lc, rfl, by first | rfl | go_num, by omega, Nat.le_refl _, HT4.out, HL4.out, HLE4.out, HR4.out, HF4.out, HLO.out, HC4.out⟩
      · have hk1' : (kd == 1) = false := by simpa using hk1
        by_cases hk2 : kd = 2
        · subst hk2
          cases is with
          | true =>
            have hget := tree_get HT3.out (by rw [HL.out]; have := HOK.out.1; omega) key
            go_wp2_with fail
            refine hget.mono ?_
            rintro e w4 ⟨r, rfl, hr1, hr2, hC4⟩
            rw [HL.out] at hr1 hr2 ⊢
            rw [HIS.out] at hr1 hr2 ⊢
            have hkx : kx < ln := HISL.out (by trivial)
            have hkn : (kx : Int) < (ln : Int) := by omega
            obtain ⟨r', hr'⟩ : ∃ r', L[kx]? = some (key, r') := leaf_get (by
              have h1 := HIS.out
              rw [has_at HOK.out.2, decide_eq_true_eq, HKX.out] at h1; exact h1)
            have hrr : r = r' := one_row HOK.out.2 (hr1 rfl) (List.mem_of_getElem? hr')
            subst hrr
            have hrow4 := HROW3.out.chg hC4 fun _ _ h => h
            obtain ⟨B', lc', hvB, _, _, hsB, _⟩ := hrow4.shape
            have hvB1 : B = B' := by injection hvB
            clear hvB
            subst hvB1
            obtain ⟨gB, rfl⟩ := hsB (by rw [prs_len, ← HLN.out]; omega)
            have hcB : w4.cell? ⟨gB, kx * 2 + 1, none⟩ = some (.int .i64 r) := by rw [Nat.mul_comm]; exact hrow4.snd (prs_get hr')
            clear hsB hrow4 hr' hr1 hr2
            have hpl : playsL Kd Rw Ky (i + 1) = L := by rw [HNX.out]; unfold playL; rw [if_neg hk1, if_pos rfl]
            have HT4 := Lib.hid (HT3.out.chg hC4 fun _ h => h.elim)
            have HL4 : Hid (toL d t = playsL Kd Rw Ky (i + 1)) := by rw [hpl]; exact HL.out
            have HLE4 : Hid (ln = (playsL Kd Rw Ky (i + 1)).length) := by rw [hpl]; exact HLN.out
            have HR4 : Hid (Row2 w4 52 (.slice (some ⟨gB, 0, none⟩) ln lc) (prs (playsL Kd Rw Ky (i + 1)))) := by rw [hpl]; exact HROW3.out.chg hC4 fun _ _ h => h
            have HC4 := Lib.hid (HCW.out.trans hC4)
            have hwi := HWI.out
            clear hget hC4 co0 co1 co2 hpl
            go_wp2_with fail
            clear hwi
            go_roundg (m - (i + 1))
            case measure => omega
            case rel => exact ⟨i + 1, d, t, fp', _, ln, lc, rfl, by first | rfl | go_num, by omega, Nat.le_refl _, HT4.out, HL4.out, HLE4.out, HR4.out, HFP'.out, HLO.out, HC4.out⟩
          | false =>
            have hget := tree_get HT3.out (by rw [HL.out]; have := HOK.out.1; omega) key
            go_wp2_with fail
            refine hget.mono ?_
            rintro e w4 ⟨r, rfl, hr1, hr2, hC4⟩
            rw [HL.out] at hr1 hr2 ⊢
            rw [HIS.out] at hr1 hr2 ⊢
            have hr0 := hr2 rfl
            subst hr0
            clear hr1 hr2
            have hpl : playsL Kd Rw Ky (i + 1) = L := by rw [HNX.out]; unfold playL; rw [if_neg hk1, if_pos rfl]
            have HT4 := Lib.hid (HT3.out.chg hC4 fun _ h => h.elim)
            have HL4 : Hid (toL d t = playsL Kd Rw Ky (i + 1)) := by rw [hpl]; exact HL.out
            have HLE4 : Hid (ln = (playsL Kd Rw Ky (i + 1)).length) := by rw [hpl]; exact HLN.out
            have HR4 : Hid (Row2 w4 52 (.slice B ln lc) (prs (playsL Kd Rw Ky (i + 1)))) := by rw [hpl]; exact HROW3.out.chg hC4 fun _ _ h => h
            have HC4 := Lib.hid (HCW.out.trans hC4)
            have hwi := HWI.out
            clear hget hC4 co0 co1 co2 hpl
            go_wp2_with fail
            clear hwi
            go_roundg (m - (i + 1))
            case measure => omega
            case rel => exact ⟨i + 1, d, t, fp', _, ln, lc, rfl, by first | rfl | go_num, by omega, Nat.le_refl _, HT4.out, HL4.out, HLE4.out, HR4.out, HFP'.out, HLO.out, HC4.out⟩
        · have hk2' : (kd == 2) = false := by simpa using hk2
          cases is with
          | true =>
            have hput := put_calls key row HT3.out HBIG.out
            go_wp2_with fail
            refine hput.mono ?_
            rintro e w4 ⟨rfl, d4, t4, fp4, hT4, hL4, hs4, hC4⟩
            rw [HL.out] at hL4 ⊢
            rw [HIS.out]
            obtain ⟨hR4, hB4, hf4, hc4⟩ := CARRY.out w4 d4 t4 fp4 hT4 hs4 hC4
            have HT4 := Lib.hid hT4
            have HL4 := Lib.hid hL4
            have HR4 := Lib.hid hR4
            have HB4 := Lib.hid hB4
            have HF4 : Hid (∀ k ∈ fp4, w.heap.size ≤ k) := hf4
            have HC4 := Lib.hid hc4
            clear hput hT4 hL4 hs4 hC4 hR4 hB4 hf4 hc4 co0 co1 co2
            have hkx : kx < ln := HISL.out (by trivial)
            have hkw : IntKind.i64.wrap ((kx : Int) + 1) = (kx : Int) + 1 := by rw [IntKind.wrap_i64]; omega
            obtain ⟨hsl1, hrd1⟩ := run_take2 HR4.out kx hkxl
            obtain ⟨A2, c2, hsl2, hrd2, hof2⟩ := run_drop2 HR4.out (kx + 1) (by omega)
            have hsl2 : ∀ W, (Instr.sliceAt 46 (.slice B ln lc) (some (.int .i64 ((kx : Int) + 1))) none none).run Try.prog W = .ok (.slice A2 (ln - (kx + 1)) c2) W := fun W => hsl2 W
            rw [prs_take] at hrd1
            rw [prs_drop] at hrd2
            have HRD1 := Lib.hid hrd1
            have HRD2 := Lib.hid hrd2
            have SP : Hid (∀ W, Chg (fun _ => False) w4 W → W.cell? ⟨bo, 2, none⟩ = some (.string key) ∧ W.cell? ⟨bo, 1, none⟩ = some (.int .i64 row)) := fun W hW => ⟨(HB4.out.chg hW id).cell_ rfl, (HB4.out.chg hW id).cell_ rfl⟩
            clear hrd1 hrd2 hof2
            go_wp2_with fail
            obtain ⟨w5, hw5, hC5⟩ := drew_named w4
            have hC0 : Chg (fun _ => False) w4 w5 := hC5
            have hS := SP.out _ hC0
            refine wp_region_till (s := 11) (S := (fun W => W.cell? ⟨bo, 2, none⟩ = some (.string key) ∧ W.cell? ⟨bo, 1, none⟩ = some (.int .i64 row))) (by kernel_rfl) ?_
            rw [hw5]
            clear hw5 hC5
            apply till_take0 (i := 1) (d := some 63)
            case hi => exact rfl
            case hd => exact rfl
            case hchk => kernel_rfl
            case hS => exact (fun _ => hS)
            case hy => apply yields_plain; exact rfl; intro w _; go_simp <;> with_reducible rfl
            case hQ => exact fun _ _ _ h => h
            simp only [Act.put, List.setIfInBounds_toArray, List.set_cons_zero, List.set_cons_succ]
            apply till_take0 (i := 2) (d := some 64)
            case hi => exact rfl
            case hd => exact rfl
            case hchk => kernel_rfl
            case hS => exact (fun _ => hS)
            case hy => apply yields_plain; exact rfl; intro w _; go_simp <;> with_reducible rfl
            case hQ => exact fun _ _ _ h => h
            simp only [Act.put, List.setIfInBounds_toArray, List.set_cons_zero, List.set_cons_succ]
            apply till_take0 (i := 3) (d := some 65)
            case hi => exact rfl
            case hd => exact rfl
            case hchk => kernel_rfl
            case hS => exact (fun _ => hS)
            case hy => apply yields_plain; exact rfl; intro w _; go_simp <;> with_reducible rfl
            case hQ => exact fun _ _ _ h => h
            simp only [Act.put, List.setIfInBounds_toArray, List.set_cons_zero, List.set_cons_succ]
            apply till_take0 (i := 5) (d := some 67)
            case hi => exact rfl
            case hd => exact rfl
            case hchk => kernel_rfl
            case hS => exact (fun _ => hS)
            case hy => apply yields_plain; exact rfl; intro w _; go_simp <;> with_reducible rfl
            case hQ => exact fun _ _ _ h => h
            simp only [Act.put, List.setIfInBounds_toArray, List.set_cons_zero, List.set_cons_succ]
            apply till_take0 (i := 7) (d := some 69)
            case hi => exact rfl
            case hd => exact rfl
            case hchk => kernel_rfl
            case hS => exact (fun _ => hS)
            case hy => apply yields_plain; exact rfl; intro w _; go_simp <;> with_reducible rfl
            case hQ => exact fun _ _ _ h => h
            simp only [Act.put, List.setIfInBounds_toArray, List.set_cons_zero, List.set_cons_succ]
            apply till_take0 (i := 12) (d := some 74)
            case hi => exact rfl
            case hd => exact rfl
            case hchk => kernel_rfl
            case hS => exact (fun _ => hS)
            case hy => apply yields_plain; exact rfl; intro w _; go_simp <;> with_reducible rfl
            case hQ => exact fun _ _ _ h => h
            simp only [Act.put, List.setIfInBounds_toArray, List.set_cons_zero, List.set_cons_succ]
            apply till_take0 (i := 13) (d := some 75)
            case hi => exact rfl
            case hd => exact rfl
            case hchk => kernel_rfl
            case hS => exact (fun _ => hS)
            case hy => apply yields_plain; exact rfl; intro w _; go_simp <;> with_reducible rfl
            case hQ => exact fun _ _ _ h => h
            simp only [Act.put, List.setIfInBounds_toArray, List.set_cons_zero, List.set_cons_succ]
            apply till_take0 (i := 14) (d := some 76)
            case hi => exact rfl
            case hd => exact rfl
            case hchk => kernel_rfl
            case hS => exact (fun _ => hS)
            case hy => apply yields_plain; exact rfl; intro w _; go_simp <;> with_reducible rfl
            case hQ => exact fun _ _ _ h => h
            simp only [Act.put, List.setIfInBounds_toArray, List.set_cons_zero, List.set_cons_succ]
            apply till_take0 (i := 15) (d := some 77)
            case hi => exact rfl
            case hd => exact rfl
            case hchk => kernel_rfl
            case hS => exact (fun _ => hS)
            case hy => apply yields_plain; exact rfl; intro w _; go_simp <;> with_reducible rfl
            case hQ => exact fun _ _ _ h => h
            simp only [Act.put, List.setIfInBounds_toArray, List.set_cons_zero, List.set_cons_succ]
            apply till_take (i := 6) (d := some 68) [11, 10, 9, 6]
            case hi => exact rfl
            case hd => exact rfl
            case hchk => kernel_rfl
            case hS => exact hS
            case hy => apply yields_plain; exact rfl; intro w hSw; (try dsimp only at hSw); go_split_ands; go_simp <;> with_reducible rfl
            case hQ => exact fun _ _ _ h => h
            simp only [Act.put, List.setIfInBounds_toArray, List.set_cons_zero, List.set_cons_succ]
            apply till_take (i := 8) (d := some 70) [11, 10, 9, 8]
            case hi => exact rfl
            case hd => exact rfl
            case hchk => kernel_rfl
            case hS => exact hS
            case hy => apply yields_plain; exact rfl; intro w hSw; (try dsimp only at hSw); go_split_ands; go_simp <;> with_reducible rfl
            case hQ => exact fun _ _ _ h => h
            simp only [Act.put, List.setIfInBounds_toArray, List.set_cons_zero, List.set_cons_succ]
            apply till_take0 (i := 9) (d := some 71)
            case hi => exact rfl
            case hd => exact rfl
            case hchk => kernel_rfl
            case hS => exact (fun _ => hS)
            case hy => apply yields_plain; exact rfl; intro w _; go_simp <;> with_reducible rfl
            case hQ => exact fun _ _ _ h => h
            simp only [Act.put, List.setIfInBounds_toArray, List.set_cons_zero, List.set_cons_succ]
            refine till_all (rs := [0, 10]) (by kernel_rfl) (by simp) (mem_more (till_op (i := 0) (o := ⟨some 62, _, _, _, _, _⟩) rfl rfl (fun K hK => ?_)) (mem_more (till_op (i := 10) (o := ⟨some 72, _, _, _, _, _⟩) rfl rfl (fun K hK => ?_)) (mem_none)))
            · skip
              go_simp
              obtain ⟨wa, ya, hwa, hya, hBa, hCa, -⟩ := alloc_named w5 #[] 52
              rw [hwa, hya]
              have hyn : w4.heap.size ≤ ya := by have := hC0.size; omega
              have hC0 := hC0.trans hCa
              try have hBp := hBp.chg hCa id
              have hRa := row_empty hBa
              clear hwa hya hCa
              refine hK.out _ _ (fun _ => ?_) (fun hS2 => ?_)
              · exact SP.out _ hC0
              have hS3 := hS2 (by kernel_rfl)
              clear hK K hS hS2
              have hS := hS3
              clear hS3
              try simp only [Act.put, List.setIfInBounds_toArray, List.set_cons_zero, List.set_cons_succ]
              refine till_all (rs := [4, 10]) (by kernel_rfl) (by simp) (mem_more (till_op (i := 4) (o := ⟨some 66, _, _, _, _, _⟩) rfl rfl (fun K hK => ?_)) (mem_more (till_op (i := 10) (o := ⟨some 72, _, _, _, _, _⟩) rfl rfl (fun K hK => ?_)) (mem_none)))
              · skip
                refine wp_pairs (.tmp 62) (.tmp 65) rfl (some ⟨ya, 0, none⟩) 0 0 [] rfl hRa B kx lc rfl (prs (L.take kx)) (HRD1.out.chg hC0 fun _ _ h => h) (prs_one _) (by omega) ?_
                rintro A4 c4 wb hR5 hC6 hob5
                rw [Nat.zero_add, List.nil_append] at hR5
                rw [Nat.zero_add] at hob5 ⊢
                simp only [Act.put, List.setIfInBounds_toArray, List.set_cons_zero, List.set_cons_succ]
                have hob5 : ∀ k, (Value.slice A4 kx c4).ownBlock = some k → w4.heap.size ≤ k := fun k hk => (hob5 k hk).elim (fun h => by rw [own_one h]; exact hyn) (fun h => by have := hC0.size; omega)
                have hC0 : Chg (fun _ => False) w4 wb := hC0.comp hC6 fun k hk h => by rw [own_one h] at hk; omega
                try have hBp := hBp.chg hC6 (fun h => by have e := own_one h; have := (hBp.inj (e ▸ hBa)).2; simp at this)
                clear hC6 hBa hRa
                refine hK.out _ _ (fun _ => ?_) (fun hS2 => ?_)
                · exact SP.out _ hC0
                have hS3 := hS2 (by kernel_rfl)
                clear hK K hS hS2
                have hS := hS3
                clear hS3
                try simp only [Act.put, List.setIfInBounds_toArray, List.set_cons_zero, List.set_cons_succ]
                refine till_all (rs := [10]) (by kernel_rfl) (by simp) (mem_more (till_op (i := 10) (o := ⟨some 72, _, _, _, _, _⟩) rfl rfl (fun K hK => ?_)) (mem_none))
                go_simp
                obtain ⟨wp, yp, hwp, hyp, hBp, hCp, -⟩ := alloc_named wb #[.string key, .int .i64 row] 52
                rw [hwp, hyp]
                have hC0 := hC0.trans hCp
                try have hRa := hRa.chg hCp (fun _ _ h => h)
                try have hBa := hBa.chg hCp id
                try have hR5 := hR5.chg hCp (fun _ _ h => h)
                clear hwp hyp hCp
                refine hK.out _ _ (fun _ => ?_) (fun hS2 => ?_)
                · exact SP.out _ hC0
                have hS3 := hS2 (by kernel_rfl)
                clear hK K hS hS2
                have hS := hS3
                clear hS3
                try simp only [Act.put, List.setIfInBounds_toArray, List.set_cons_zero, List.set_cons_succ]
                refine till_all (rs := [11]) (by kernel_rfl) (by simp) (mem_more (till_op (i := 11) (o := ⟨some 73, _, _, _, _, _⟩) rfl rfl (fun K hK => ?_)) (mem_none))
                refine wp_pairs (.tmp 66) (.tmp 72) rfl A4 kx c4 (prs (L.take kx)) rfl hR5 (some ⟨yp, 0, none⟩) 1 1 rfl [(.string key, .int .i64 row)] (Reads2.one hBp) (prs_one [(key, row)]) (by omega) ?_
                rintro A5 c5 wc hR6 hC6 hob6
                simp only [Act.put, List.setIfInBounds_toArray, List.set_cons_zero, List.set_cons_succ]
                have hob6 : ∀ k, (Value.slice A5 (kx + 1) c5).ownBlock = some k → w4.heap.size ≤ k := fun k hk => (hob6 k hk).elim (hob5 k) (fun h => by have := hC0.size; omega)
                have hC0 : Chg (fun _ => False) w4 wc := hC0.comp hC6 fun k hk h => by have := hob5 k h; omega
                clear hC6 hR5 hob5 hBp
                refine hK.out _ _ (fun h => by cases (show true = false from h)) (fun _ => ?_)
                clear hK K hS
                try simp only [Act.put, List.setIfInBounds_toArray, List.set_cons_zero, List.set_cons_succ]
                refine till_all (rs := [16]) (by kernel_rfl) (by simp) (mem_more (till_op (i := 16) (o := ⟨some 78, _, _, _, _, _⟩) rfl rfl (fun K hK => ?_)) (mem_none))
                refine wp_pairs (.tmp 73) (.tmp 77) rfl A5 (kx + 1) c5 (prs (L.take kx) ++ [(.string key, .int .i64 row)]) rfl hR6 A2 (ln - (kx + 1)) c2 rfl (prs (L.drop (kx + 1))) (HRD2.out.chg hC0 fun _ _ h => h) (prs_one _) (by omega) ?_
                rintro A6 c6 wd hR7 hC6 hob7
                obtain ⟨l6, hl6e⟩ : ∃ l6, kx + 1 + (ln - (kx + 1)) = l6 := ⟨_, rfl⟩
                rw [hl6e] at hR7 hob7 ⊢
                clear hl6e
                simp only [Act.put, List.setIfInBounds_toArray, List.set_cons_zero, List.set_cons_succ]
                have hob7 : ∀ k, (Value.slice A6 l6 c6).ownBlock = some k → w4.heap.size ≤ k := fun k hk => (hob7 k hk).elim (hob6 k) (fun h => by have := hC0.size; omega)
                have hC0 : Chg (fun _ => False) w4 wd := hC0.comp hC6 fun k hk h => by have := hob6 k h; omega
                clear hC6 hR6 hob6
                refine hK.out _ _ (fun h => by cases (show true = false from h)) (fun _ => ?_)
                clear hK K
                try simp only [Act.put, List.setIfInBounds_toArray, List.set_cons_zero, List.set_cons_succ]
                refine till_all (rs := [17]) (by kernel_rfl) (by simp) (mem_more (till_op (i := 17) (o := ⟨some 11, _, _, _, _, _⟩) rfl rfl (fun K hK => ?_)) (mem_none))
                go_simp
                refine hK.out _ _ (fun h => by cases (show true = false from h)) (fun _ => ?_)
                clear hK K
                try simp only [Act.put, List.setIfInBounds_toArray, List.set_cons_zero, List.set_cons_succ]
                refine till_done (by kernel_rfl) ?_
                have hpl : playsL Kd Rw Ky (i + 1) = L.take kx ++ [(key, row)] ++ L.drop (kx + 1) := by
                  rw [HNX.out]; unfold playL
                  rw [if_neg hk1, if_neg hk2, ins_at_pos HOK.out.2, if_pos HIS.out, HKX.out]
                rw [show [(Value.string key, Value.int .i64 row)] = prs [(key, row)] from rfl, prs_app, prs_app, ← hpl] at hR7
                have hl7 := row_len hR7
                rw [prs_len] at hl7
                have hL7 : toL d4 t4 = playsL Kd Rw Ky (i + 1) := by rw [HL4.out, HNX.out]; unfold playL; rw [if_neg hk1, if_neg hk2]
                have HT7 := Lib.hid (HT4.out.chg hC0 fun _ h => h.elim)
                have HR7 := Lib.hid hR7
                have HL7 := Lib.hid hL7
                have HLE7 := Lib.hid hl7
                have hw4s := HC4.out.size
                have HLO7 : Hid (∀ k, (Value.slice A6 l6 c6).ownBlock = some k → w.heap.size ≤ k) := fun k hk => by have := hob7 k hk; omega
                have HC7 := Lib.hid (HC4.out.trans hC0)
                have hwi := HWI.out
                clear hpl hR7 hl7 hL7 hC0 hob7 hsl1 hsl2 hkw
                go_wp2_with fail
                clear hwi
                go_roundg (m - (i + 1))
                case measure => omega
                case rel => exact ⟨i + 1, d4, t4, fp4, A6, _, c6, rfl, by first | rfl | go_num, by omega, Nat.le_refl _, HT7.out, HL7.out, HLE7.out, HR7.out, HF4.out, HLO7.out, HC7.out⟩
              · skip
                go_simp
                obtain ⟨wp, yp, hwp, hyp, hBp, hCp, -⟩ := alloc_named wa #[.string key, .int .i64 row] 52
                rw [hwp, hyp]
                have hC0 := hC0.trans hCp
                try have hRa := hRa.chg hCp (fun _ _ h => h)
                try have hBa := hBa.chg hCp id
                try have hR5 := hR5.chg hCp (fun _ _ h => h)
                clear hwp hyp hCp
                refine hK.out _ _ (fun _ => ?_) (fun hS2 => ?_)
                · exact SP.out _ hC0
                have hS3 := hS2 (by kernel_rfl)
                clear hK K hS hS2
                have hS := hS3
                clear hS3
                try simp only [Act.put, List.setIfInBounds_toArray, List.set_cons_zero, List.set_cons_succ]
                refine till_all (rs := [4]) (by kernel_rfl) (by simp) (mem_more (till_op (i := 4) (o := ⟨some 66, _, _, _, _, _⟩) rfl rfl (fun K hK => ?_)) (mem_none))
                refine wp_pairs (.tmp 62) (.tmp 65) rfl (some ⟨ya, 0, none⟩) 0 0 [] rfl hRa B kx lc rfl (prs (L.take kx)) (HRD1.out.chg hC0 fun _ _ h => h) (prs_one _) (by omega) ?_
                rintro A4 c4 wb hR5 hC6 hob5
                rw [Nat.zero_add, List.nil_append] at hR5
                rw [Nat.zero_add] at hob5 ⊢
                simp only [Act.put, List.setIfInBounds_toArray, List.set_cons_zero, List.set_cons_succ]
                have hob5 : ∀ k, (Value.slice A4 kx c4).ownBlock = some k → w4.heap.size ≤ k := fun k hk => (hob5 k hk).elim (fun h => by rw [own_one h]; exact hyn) (fun h => by have := hC0.size; omega)
                have hC0 : Chg (fun _ => False) w4 wb := hC0.comp hC6 fun k hk h => by rw [own_one h] at hk; omega
                try have hBp := hBp.chg hC6 (fun h => by have e := own_one h; have := (hBp.inj (e ▸ hBa)).2; simp at this)
                clear hC6 hBa hRa
                refine hK.out _ _ (fun _ => ?_) (fun hS2 => ?_)
                · exact SP.out _ hC0
                have hS3 := hS2 (by kernel_rfl)
                clear hK K hS hS2
                have hS := hS3
                clear hS3
                try simp only [Act.put, List.setIfInBounds_toArray, List.set_cons_zero, List.set_cons_succ]
                refine till_all (rs := [11]) (by kernel_rfl) (by simp) (mem_more (till_op (i := 11) (o := ⟨some 73, _, _, _, _, _⟩) rfl rfl (fun K hK => ?_)) (mem_none))
                refine wp_pairs (.tmp 66) (.tmp 72) rfl A4 kx c4 (prs (L.take kx)) rfl hR5 (some ⟨yp, 0, none⟩) 1 1 rfl [(.string key, .int .i64 row)] (Reads2.one hBp) (prs_one [(key, row)]) (by omega) ?_
                rintro A5 c5 wc hR6 hC6 hob6
                simp only [Act.put, List.setIfInBounds_toArray, List.set_cons_zero, List.set_cons_succ]
                have hob6 : ∀ k, (Value.slice A5 (kx + 1) c5).ownBlock = some k → w4.heap.size ≤ k := fun k hk => (hob6 k hk).elim (hob5 k) (fun h => by have := hC0.size; omega)
                have hC0 : Chg (fun _ => False) w4 wc := hC0.comp hC6 fun k hk h => by have := hob5 k h; omega
                clear hC6 hR5 hob5 hBp
                refine hK.out _ _ (fun h => by cases (show true = false from h)) (fun _ => ?_)
                clear hK K hS
                try simp only [Act.put, List.setIfInBounds_toArray, List.set_cons_zero, List.set_cons_succ]
                refine till_all (rs := [16]) (by kernel_rfl) (by simp) (mem_more (till_op (i := 16) (o := ⟨some 78, _, _, _, _, _⟩) rfl rfl (fun K hK => ?_)) (mem_none))
                refine wp_pairs (.tmp 73) (.tmp 77) rfl A5 (kx + 1) c5 (prs (L.take kx) ++ [(.string key, .int .i64 row)]) rfl hR6 A2 (ln - (kx + 1)) c2 rfl (prs (L.drop (kx + 1))) (HRD2.out.chg hC0 fun _ _ h => h) (prs_one _) (by omega) ?_
                rintro A6 c6 wd hR7 hC6 hob7
                obtain ⟨l6, hl6e⟩ : ∃ l6, kx + 1 + (ln - (kx + 1)) = l6 := ⟨_, rfl⟩
                rw [hl6e] at hR7 hob7 ⊢
                clear hl6e
                simp only [Act.put, List.setIfInBounds_toArray, List.set_cons_zero, List.set_cons_succ]
                have hob7 : ∀ k, (Value.slice A6 l6 c6).ownBlock = some k → w4.heap.size ≤ k := fun k hk => (hob7 k hk).elim (hob6 k) (fun h => by have := hC0.size; omega)
                have hC0 : Chg (fun _ => False) w4 wd := hC0.comp hC6 fun k hk h => by have := hob6 k h; omega
                clear hC6 hR6 hob6
                refine hK.out _ _ (fun h => by cases (show true = false from h)) (fun _ => ?_)
                clear hK K
                try simp only [Act.put, List.setIfInBounds_toArray, List.set_cons_zero, List.set_cons_succ]
                refine till_all (rs := [17]) (by kernel_rfl) (by simp) (mem_more (till_op (i := 17) (o := ⟨some 11, _, _, _, _, _⟩) rfl rfl (fun K hK => ?_)) (mem_none))
                go_simp
                refine hK.out _ _ (fun h => by cases (show true = false from h)) (fun _ => ?_)
                clear hK K
                try simp only [Act.put, List.setIfInBounds_toArray, List.set_cons_zero, List.set_cons_succ]
                refine till_done (by kernel_rfl) ?_
                have hpl : playsL Kd Rw Ky (i + 1) = L.take kx ++ [(key, row)] ++ L.drop (kx + 1) := by
                  rw [HNX.out]; unfold playL
                  rw [if_neg hk1, if_neg hk2, ins_at_pos HOK.out.2, if_pos HIS.out, HKX.out]
                rw [show [(Value.string key, Value.int .i64 row)] = prs [(key, row)] from rfl, prs_app, prs_app, ← hpl] at hR7
                have hl7 := row_len hR7
                rw [prs_len] at hl7
                have hL7 : toL d4 t4 = playsL Kd Rw Ky (i + 1) := by rw [HL4.out, HNX.out]; unfold playL; rw [if_neg hk1, if_neg hk2]
                have HT7 := Lib.hid (HT4.out.chg hC0 fun _ h => h.elim)
                have HR7 := Lib.hid hR7
                have HL7 := Lib.hid hL7
                have HLE7 := Lib.hid hl7
                have hw4s := HC4.out.size
                have HLO7 : Hid (∀ k, (Value.slice A6 l6 c6).ownBlock = some k → w.heap.size ≤ k) := fun k hk => by have := hob7 k hk; omega
                have HC7 := Lib.hid (HC4.out.trans hC0)
                have hwi := HWI.out
                clear hpl hR7 hl7 hL7 hC0 hob7 hsl1 hsl2 hkw
                go_wp2_with fail
                clear hwi
                go_roundg (m - (i + 1))
                case measure => omega
                case rel => exact ⟨i + 1, d4, t4, fp4, A6, _, c6, rfl, by first | rfl | go_num, by omega, Nat.le_refl _, HT7.out, HL7.out, HLE7.out, HR7.out, HF4.out, HLO7.out, HC7.out⟩
            · skip
              go_simp
              obtain ⟨wp, yp, hwp, hyp, hBp, hCp, -⟩ := alloc_named w5 #[.string key, .int .i64 row] 52
              rw [hwp, hyp]
              have hC0 := hC0.trans hCp
              try have hRa := hRa.chg hCp (fun _ _ h => h)
              try have hBa := hBa.chg hCp id
              try have hR5 := hR5.chg hCp (fun _ _ h => h)
              clear hwp hyp hCp
              refine hK.out _ _ (fun _ => ?_) (fun hS2 => ?_)
              · exact SP.out _ hC0
              have hS3 := hS2 (by kernel_rfl)
              clear hK K hS hS2
              have hS := hS3
              clear hS3
              try simp only [Act.put, List.setIfInBounds_toArray, List.set_cons_zero, List.set_cons_succ]
              refine till_all (rs := [0]) (by kernel_rfl) (by simp) (mem_more (till_op (i := 0) (o := ⟨some 62, _, _, _, _, _⟩) rfl rfl (fun K hK => ?_)) (mem_none))
              go_simp
              obtain ⟨wa, ya, hwa, hya, hBa, hCa, -⟩ := alloc_named wp #[] 52
              rw [hwa, hya]
              have hyn : w4.heap.size ≤ ya := by have := hC0.size; omega
              have hC0 := hC0.trans hCa
              try have hBp := hBp.chg hCa id
              have hRa := row_empty hBa
              clear hwa hya hCa
              refine hK.out _ _ (fun _ => ?_) (fun hS2 => ?_)
              · exact SP.out _ hC0
              have hS3 := hS2 (by kernel_rfl)
              clear hK K hS hS2
              have hS := hS3
              clear hS3
              try simp only [Act.put, List.setIfInBounds_toArray, List.set_cons_zero, List.set_cons_succ]
              refine till_all (rs := [4]) (by kernel_rfl) (by simp) (mem_more (till_op (i := 4) (o := ⟨some 66, _, _, _, _, _⟩) rfl rfl (fun K hK => ?_)) (mem_none))
              refine wp_pairs (.tmp 62) (.tmp 65) rfl (some ⟨ya, 0, none⟩) 0 0 [] rfl hRa B kx lc rfl (prs (L.take kx)) (HRD1.out.chg hC0 fun _ _ h => h) (prs_one _) (by omega) ?_
              rintro A4 c4 wb hR5 hC6 hob5
              rw [Nat.zero_add, List.nil_append] at hR5
              rw [Nat.zero_add] at hob5 ⊢
              simp only [Act.put, List.setIfInBounds_toArray, List.set_cons_zero, List.set_cons_succ]
              have hob5 : ∀ k, (Value.slice A4 kx c4).ownBlock = some k → w4.heap.size ≤ k := fun k hk => (hob5 k hk).elim (fun h => by rw [own_one h]; exact hyn) (fun h => by have := hC0.size; omega)
              have hC0 : Chg (fun _ => False) w4 wb := hC0.comp hC6 fun k hk h => by rw [own_one h] at hk; omega
              try have hBp := hBp.chg hC6 (fun h => by have e := own_one h; have := (hBp.inj (e ▸ hBa)).2; simp at this)
              clear hC6 hBa hRa
              refine hK.out _ _ (fun _ => ?_) (fun hS2 => ?_)
              · exact SP.out _ hC0
              have hS3 := hS2 (by kernel_rfl)
              clear hK K hS hS2
              have hS := hS3
              clear hS3
              try simp only [Act.put, List.setIfInBounds_toArray, List.set_cons_zero, List.set_cons_succ]
              refine till_all (rs := [11]) (by kernel_rfl) (by simp) (mem_more (till_op (i := 11) (o := ⟨some 73, _, _, _, _, _⟩) rfl rfl (fun K hK => ?_)) (mem_none))
              refine wp_pairs (.tmp 66) (.tmp 72) rfl A4 kx c4 (prs (L.take kx)) rfl hR5 (some ⟨yp, 0, none⟩) 1 1 rfl [(.string key, .int .i64 row)] (Reads2.one hBp) (prs_one [(key, row)]) (by omega) ?_
              rintro A5 c5 wc hR6 hC6 hob6
              simp only [Act.put, List.setIfInBounds_toArray, List.set_cons_zero, List.set_cons_succ]
              have hob6 : ∀ k, (Value.slice A5 (kx + 1) c5).ownBlock = some k → w4.heap.size ≤ k := fun k hk => (hob6 k hk).elim (hob5 k) (fun h => by have := hC0.size; omega)
              have hC0 : Chg (fun _ => False) w4 wc := hC0.comp hC6 fun k hk h => by have := hob5 k h; omega
              clear hC6 hR5 hob5 hBp
              refine hK.out _ _ (fun h => by cases (show true = false from h)) (fun _ => ?_)
              clear hK K hS
              try simp only [Act.put, List.setIfInBounds_toArray, List.set_cons_zero, List.set_cons_succ]
              refine till_all (rs := [16]) (by kernel_rfl) (by simp) (mem_more (till_op (i := 16) (o := ⟨some 78, _, _, _, _, _⟩) rfl rfl (fun K hK => ?_)) (mem_none))
              refine wp_pairs (.tmp 73) (.tmp 77) rfl A5 (kx + 1) c5 (prs (L.take kx) ++ [(.string key, .int .i64 row)]) rfl hR6 A2 (ln - (kx + 1)) c2 rfl (prs (L.drop (kx + 1))) (HRD2.out.chg hC0 fun _ _ h => h) (prs_one _) (by omega) ?_
              rintro A6 c6 wd hR7 hC6 hob7
              obtain ⟨l6, hl6e⟩ : ∃ l6, kx + 1 + (ln - (kx + 1)) = l6 := ⟨_, rfl⟩
              rw [hl6e] at hR7 hob7 ⊢
              clear hl6e
              simp only [Act.put, List.setIfInBounds_toArray, List.set_cons_zero, List.set_cons_succ]
              have hob7 : ∀ k, (Value.slice A6 l6 c6).ownBlock = some k → w4.heap.size ≤ k := fun k hk => (hob7 k hk).elim (hob6 k) (fun h => by have := hC0.size; omega)
              have hC0 : Chg (fun _ => False) w4 wd := hC0.comp hC6 fun k hk h => by have := hob6 k h; omega
              clear hC6 hR6 hob6
              refine hK.out _ _ (fun h => by cases (show true = false from h)) (fun _ => ?_)
              clear hK K
              try simp only [Act.put, List.setIfInBounds_toArray, List.set_cons_zero, List.set_cons_succ]
              refine till_all (rs := [17]) (by kernel_rfl) (by simp) (mem_more (till_op (i := 17) (o := ⟨some 11, _, _, _, _, _⟩) rfl rfl (fun K hK => ?_)) (mem_none))
              go_simp
              refine hK.out _ _ (fun h => by cases (show true = false from h)) (fun _ => ?_)
              clear hK K
              try simp only [Act.put, List.setIfInBounds_toArray, List.set_cons_zero, List.set_cons_succ]
              refine till_done (by kernel_rfl) ?_
              have hpl : playsL Kd Rw Ky (i + 1) = L.take kx ++ [(key, row)] ++ L.drop (kx + 1) := by
                rw [HNX.out]; unfold playL
                rw [if_neg hk1, if_neg hk2, ins_at_pos HOK.out.2, if_pos HIS.out, HKX.out]
              rw [show [(Value.string key, Value.int .i64 row)] = prs [(key, row)] from rfl, prs_app, prs_app, ← hpl] at hR7
              have hl7 := row_len hR7
              rw [prs_len] at hl7
              have hL7 : toL d4 t4 = playsL Kd Rw Ky (i + 1) := by rw [HL4.out, HNX.out]; unfold playL; rw [if_neg hk1, if_neg hk2]
              have HT7 := Lib.hid (HT4.out.chg hC0 fun _ h => h.elim)
              have HR7 := Lib.hid hR7
              have HL7 := Lib.hid hL7
              have HLE7 := Lib.hid hl7
              have hw4s := HC4.out.size
              have HLO7 : Hid (∀ k, (Value.slice A6 l6 c6).ownBlock = some k → w.heap.size ≤ k) := fun k hk => by have := hob7 k hk; omega
              have HC7 := Lib.hid (HC4.out.trans hC0)
              have hwi := HWI.out
              clear hpl hR7 hl7 hL7 hC0 hob7 hsl1 hsl2 hkw
              go_wp2_with fail
              clear hwi
              go_roundg (m - (i + 1))
              case measure => omega
              case rel => exact ⟨i + 1, d4, t4, fp4, A6, _, c6, rfl, by first | rfl | go_num, by omega, Nat.le_refl _, HT7.out, HL7.out, HLE7.out, HR7.out, HF4.out, HLO7.out, HC7.out⟩
          | false =>
            have hput := put_calls key row HT3.out HBIG.out
            go_wp2_with fail
            refine hput.mono ?_
            rintro e w4 ⟨rfl, d4, t4, fp4, hT4, hL4, hs4, hC4⟩
            rw [HL.out] at hL4 ⊢
            rw [HIS.out]
            obtain ⟨hR4, hB4, hf4, hc4⟩ := CARRY.out w4 d4 t4 fp4 hT4 hs4 hC4
            have HT4 := Lib.hid hT4
            have HL4 := Lib.hid hL4
            have HR4 := Lib.hid hR4
            have HB4 := Lib.hid hB4
            have HF4 : Hid (∀ k ∈ fp4, w.heap.size ≤ k) := hf4
            have HC4 := Lib.hid hc4
            clear hput hT4 hL4 hs4 hC4 hR4 hB4 hf4 hc4 co0 co1 co2
            have hkx : kx ≤ ln := hkxl
            have hkw : IntKind.i64.wrap ((kx : Int) + 1) = (kx : Int) + 1 := by rw [IntKind.wrap_i64]; omega
            obtain ⟨hsl1, hrd1⟩ := run_take2 HR4.out kx hkxl
            obtain ⟨A2, c2, hsl2, hrd2, hof2⟩ := run_drop2 HR4.out (kx) (by omega)
            have hsl2 : ∀ W, (Instr.sliceAt 46 (.slice B ln lc) (some (.int .i64 (kx : Int))) none none).run Try.prog W = .ok (.slice A2 (ln - (kx)) c2) W := fun W => hsl2 W
            rw [prs_take] at hrd1
            rw [prs_drop] at hrd2
            have HRD1 := Lib.hid hrd1
            have HRD2 := Lib.hid hrd2
            have SP : Hid (∀ W, Chg (fun _ => False) w4 W → W.cell? ⟨bo, 2, none⟩ = some (.string key) ∧ W.cell? ⟨bo, 1, none⟩ = some (.int .i64 row)) := fun W hW => ⟨(HB4.out.chg hW id).cell_ rfl, (HB4.out.chg hW id).cell_ rfl⟩
            clear hrd1 hrd2 hof2
            go_wp2_with fail
            obtain ⟨w5, hw5, hC5⟩ := drew_named w4
            have hC0 : Chg (fun _ => False) w4 w5 := hC5
            have hS := SP.out _ hC0
            refine wp_region_till (s := 11) (S := (fun W => W.cell? ⟨bo, 2, none⟩ = some (.string key) ∧ W.cell? ⟨bo, 1, none⟩ = some (.int .i64 row))) (by kernel_rfl) ?_
            rw [hw5]
            clear hw5 hC5
            apply till_take0 (i := 1) (d := some 80)
            case hi => exact rfl
            case hd => exact rfl
            case hchk => kernel_rfl
            case hS => exact (fun _ => hS)
            case hy => apply yields_plain; exact rfl; intro w _; go_simp <;> with_reducible rfl
            case hQ => exact fun _ _ _ h => h
            simp only [Act.put, List.setIfInBounds_toArray, List.set_cons_zero, List.set_cons_succ]
            apply till_take0 (i := 2) (d := some 81)
            case hi => exact rfl
            case hd => exact rfl
            case hchk => kernel_rfl
            case hS => exact (fun _ => hS)
            case hy => apply yields_plain; exact rfl; intro w _; go_simp <;> with_reducible rfl
            case hQ => exact fun _ _ _ h => h
            simp only [Act.put, List.setIfInBounds_toArray, List.set_cons_zero, List.set_cons_succ]
            apply till_take0 (i := 3) (d := some 82)
            case hi => exact rfl
            case hd => exact rfl
            case hchk => kernel_rfl
            case hS => exact (fun _ => hS)
            case hy => apply yields_plain; exact rfl; intro w _; go_simp <;> with_reducible rfl
            case hQ => exact fun _ _ _ h => h
            simp only [Act.put, List.setIfInBounds_toArray, List.set_cons_zero, List.set_cons_succ]
            apply till_take0 (i := 5) (d := some 84)
            case hi => exact rfl
            case hd => exact rfl
            case hchk => kernel_rfl
            case hS => exact (fun _ => hS)
            case hy => apply yields_plain; exact rfl; intro w _; go_simp <;> with_reducible rfl
            case hQ => exact fun _ _ _ h => h
            simp only [Act.put, List.setIfInBounds_toArray, List.set_cons_zero, List.set_cons_succ]
            apply till_take0 (i := 7) (d := some 86)
            case hi => exact rfl
            case hd => exact rfl
            case hchk => kernel_rfl
            case hS => exact (fun _ => hS)
            case hy => apply yields_plain; exact rfl; intro w _; go_simp <;> with_reducible rfl
            case hQ => exact fun _ _ _ h => h
            simp only [Act.put, List.setIfInBounds_toArray, List.set_cons_zero, List.set_cons_succ]
            apply till_take0 (i := 12) (d := some 91)
            case hi => exact rfl
            case hd => exact rfl
            case hchk => kernel_rfl
            case hS => exact (fun _ => hS)
            case hy => apply yields_plain; exact rfl; intro w _; go_simp <;> with_reducible rfl
            case hQ => exact fun _ _ _ h => h
            simp only [Act.put, List.setIfInBounds_toArray, List.set_cons_zero, List.set_cons_succ]
            apply till_take0 (i := 13) (d := some 92)
            case hi => exact rfl
            case hd => exact rfl
            case hchk => kernel_rfl
            case hS => exact (fun _ => hS)
            case hy => apply yields_plain; exact rfl; intro w _; go_simp <;> with_reducible rfl
            case hQ => exact fun _ _ _ h => h
            simp only [Act.put, List.setIfInBounds_toArray, List.set_cons_zero, List.set_cons_succ]
            apply till_take0 (i := 14) (d := some 93)
            case hi => exact rfl
            case hd => exact rfl
            case hchk => kernel_rfl
            case hS => exact (fun _ => hS)
            case hy => apply yields_plain; exact rfl; intro w _; go_simp <;> with_reducible rfl
            case hQ => exact fun _ _ _ h => h
            simp only [Act.put, List.setIfInBounds_toArray, List.set_cons_zero, List.set_cons_succ]
            apply till_take (i := 6) (d := some 85) [11, 10, 9, 6]
            case hi => exact rfl
            case hd => exact rfl
            case hchk => kernel_rfl
            case hS => exact hS
            case hy => apply yields_plain; exact rfl; intro w hSw; (try dsimp only at hSw); go_split_ands; go_simp <;> with_reducible rfl
            case hQ => exact fun _ _ _ h => h
            simp only [Act.put, List.setIfInBounds_toArray, List.set_cons_zero, List.set_cons_succ]
            apply till_take (i := 8) (d := some 87) [11, 10, 9, 8]
            case hi => exact rfl
            case hd => exact rfl
            case hchk => kernel_rfl
            case hS => exact hS
            case hy => apply yields_plain; exact rfl; intro w hSw; (try dsimp only at hSw); go_split_ands; go_simp <;> with_reducible rfl
            case hQ => exact fun _ _ _ h => h
            simp only [Act.put, List.setIfInBounds_toArray, List.set_cons_zero, List.set_cons_succ]
            apply till_take0 (i := 9) (d := some 88)
            case hi => exact rfl
            case hd => exact rfl
            case hchk => kernel_rfl
            case hS => exact (fun _ => hS)
            case hy => apply yields_plain; exact rfl; intro w _; go_simp <;> with_reducible rfl
            case hQ => exact fun _ _ _ h => h
            simp only [Act.put, List.setIfInBounds_toArray, List.set_cons_zero, List.set_cons_succ]
            refine till_all (rs := [0, 10]) (by kernel_rfl) (by simp) (mem_more (till_op (i := 0) (o := ⟨some 79, _, _, _, _, _⟩) rfl rfl (fun K hK => ?_)) (mem_more (till_op (i := 10) (o := ⟨some 89, _, _, _, _, _⟩) rfl rfl (fun K hK => ?_)) (mem_none)))
            · skip
              go_simp
              obtain ⟨wa, ya, hwa, hya, hBa, hCa, -⟩ := alloc_named w5 #[] 52
              rw [hwa, hya]
              have hyn : w4.heap.size ≤ ya := by have := hC0.size; omega
              have hC0 := hC0.trans hCa
              try have hBp := hBp.chg hCa id
              have hRa := row_empty hBa
              clear hwa hya hCa
              refine hK.out _ _ (fun _ => ?_) (fun hS2 => ?_)
              · exact SP.out _ hC0
              have hS3 := hS2 (by kernel_rfl)
              clear hK K hS hS2
              have hS := hS3
              clear hS3
              try simp only [Act.put, List.setIfInBounds_toArray, List.set_cons_zero, List.set_cons_succ]
              refine till_all (rs := [4, 10]) (by kernel_rfl) (by simp) (mem_more (till_op (i := 4) (o := ⟨some 83, _, _, _, _, _⟩) rfl rfl (fun K hK => ?_)) (mem_more (till_op (i := 10) (o := ⟨some 89, _, _, _, _, _⟩) rfl rfl (fun K hK => ?_)) (mem_none)))
              · skip
                refine wp_pairs (.tmp 79) (.tmp 82) rfl (some ⟨ya, 0, none⟩) 0 0 [] rfl hRa B kx lc rfl (prs (L.take kx)) (HRD1.out.chg hC0 fun _ _ h => h) (prs_one _) (by omega) ?_
                rintro A4 c4 wb hR5 hC6 hob5
                rw [Nat.zero_add, List.nil_append] at hR5
                rw [Nat.zero_add] at hob5 ⊢
                simp only [Act.put, List.setIfInBounds_toArray, List.set_cons_zero, List.set_cons_succ]
                have hob5 : ∀ k, (Value.slice A4 kx c4).ownBlock = some k → w4.heap.size ≤ k := fun k hk => (hob5 k hk).elim (fun h => by rw [own_one h]; exact hyn) (fun h => by have := hC0.size; omega)
                have hC0 : Chg (fun _ => False) w4 wb := hC0.comp hC6 fun k hk h => by rw [own_one h] at hk; omega
                try have hBp := hBp.chg hC6 (fun h => by have e := own_one h; have := (hBp.inj (e ▸ hBa)).2; simp at this)
                clear hC6 hBa hRa
                refine hK.out _ _ (fun _ => ?_) (fun hS2 => ?_)
                · exact SP.out _ hC0
                have hS3 := hS2 (by kernel_rfl)
                clear hK K hS hS2
                have hS := hS3
                clear hS3
                try simp only [Act.put, List.setIfInBounds_toArray, List.set_cons_zero, List.set_cons_succ]
                refine till_all (rs := [10]) (by kernel_rfl) (by simp) (mem_more (till_op (i := 10) (o := ⟨some 89, _, _, _, _, _⟩) rfl rfl (fun K hK => ?_)) (mem_none))
                go_simp
                obtain ⟨wp, yp, hwp, hyp, hBp, hCp, -⟩ := alloc_named wb #[.string key, .int .i64 row] 52
                rw [hwp, hyp]
                have hC0 := hC0.trans hCp
                try have hRa := hRa.chg hCp (fun _ _ h => h)
                try have hBa := hBa.chg hCp id
                try have hR5 := hR5.chg hCp (fun _ _ h => h)
                clear hwp hyp hCp
                refine hK.out _ _ (fun _ => ?_) (fun hS2 => ?_)
                · exact SP.out _ hC0
                have hS3 := hS2 (by kernel_rfl)
                clear hK K hS hS2
                have hS := hS3
                clear hS3
                try simp only [Act.put, List.setIfInBounds_toArray, List.set_cons_zero, List.set_cons_succ]
                refine till_all (rs := [11]) (by kernel_rfl) (by simp) (mem_more (till_op (i := 11) (o := ⟨some 90, _, _, _, _, _⟩) rfl rfl (fun K hK => ?_)) (mem_none))
                refine wp_pairs (.tmp 83) (.tmp 89) rfl A4 kx c4 (prs (L.take kx)) rfl hR5 (some ⟨yp, 0, none⟩) 1 1 rfl [(.string key, .int .i64 row)] (Reads2.one hBp) (prs_one [(key, row)]) (by omega) ?_
                rintro A5 c5 wc hR6 hC6 hob6
                simp only [Act.put, List.setIfInBounds_toArray, List.set_cons_zero, List.set_cons_succ]
                have hob6 : ∀ k, (Value.slice A5 (kx + 1) c5).ownBlock = some k → w4.heap.size ≤ k := fun k hk => (hob6 k hk).elim (hob5 k) (fun h => by have := hC0.size; omega)
                have hC0 : Chg (fun _ => False) w4 wc := hC0.comp hC6 fun k hk h => by have := hob5 k h; omega
                clear hC6 hR5 hob5 hBp
                refine hK.out _ _ (fun h => by cases (show true = false from h)) (fun _ => ?_)
                clear hK K hS
                try simp only [Act.put, List.setIfInBounds_toArray, List.set_cons_zero, List.set_cons_succ]
                refine till_all (rs := [15]) (by kernel_rfl) (by simp) (mem_more (till_op (i := 15) (o := ⟨some 94, _, _, _, _, _⟩) rfl rfl (fun K hK => ?_)) (mem_none))
                refine wp_pairs (.tmp 90) (.tmp 93) rfl A5 (kx + 1) c5 (prs (L.take kx) ++ [(.string key, .int .i64 row)]) rfl hR6 A2 (ln - (kx)) c2 rfl (prs (L.drop (kx))) (HRD2.out.chg hC0 fun _ _ h => h) (prs_one _) (by omega) ?_
                rintro A6 c6 wd hR7 hC6 hob7
                obtain ⟨l6, hl6e⟩ : ∃ l6, kx + 1 + (ln - (kx)) = l6 := ⟨_, rfl⟩
                rw [hl6e] at hR7 hob7 ⊢
                clear hl6e
                simp only [Act.put, List.setIfInBounds_toArray, List.set_cons_zero, List.set_cons_succ]
                have hob7 : ∀ k, (Value.slice A6 l6 c6).ownBlock = some k → w4.heap.size ≤ k := fun k hk => (hob7 k hk).elim (hob6 k) (fun h => by have := hC0.size; omega)
                have hC0 : Chg (fun _ => False) w4 wd := hC0.comp hC6 fun k hk h => by have := hob6 k h; omega
                clear hC6 hR6 hob6
                refine hK.out _ _ (fun h => by cases (show true = false from h)) (fun _ => ?_)
                clear hK K
                try simp only [Act.put, List.setIfInBounds_toArray, List.set_cons_zero, List.set_cons_succ]
                refine till_all (rs := [16]) (by kernel_rfl) (by simp) (mem_more (till_op (i := 16) (o := ⟨some 11, _, _, _, _, _⟩) rfl rfl (fun K hK => ?_)) (mem_none))
                go_simp
                refine hK.out _ _ (fun h => by cases (show true = false from h)) (fun _ => ?_)
                clear hK K
                try simp only [Act.put, List.setIfInBounds_toArray, List.set_cons_zero, List.set_cons_succ]
                refine till_done (by kernel_rfl) ?_
                have hpl : playsL Kd Rw Ky (i + 1) = L.take kx ++ [(key, row)] ++ L.drop (kx) := by
                  rw [HNX.out]; unfold playL
                  rw [if_neg hk1, if_neg hk2, ins_at_pos HOK.out.2, if_neg (by rw [HIS.out]; simp), HKX.out]
                rw [show [(Value.string key, Value.int .i64 row)] = prs [(key, row)] from rfl, prs_app, prs_app, ← hpl] at hR7
                have hl7 := row_len hR7
                rw [prs_len] at hl7
                have hL7 : toL d4 t4 = playsL Kd Rw Ky (i + 1) := by rw [HL4.out, HNX.out]; unfold playL; rw [if_neg hk1, if_neg hk2]
                have HT7 := Lib.hid (HT4.out.chg hC0 fun _ h => h.elim)
                have HR7 := Lib.hid hR7
                have HL7 := Lib.hid hL7
                have HLE7 := Lib.hid hl7
                have hw4s := HC4.out.size
                have HLO7 : Hid (∀ k, (Value.slice A6 l6 c6).ownBlock = some k → w.heap.size ≤ k) := fun k hk => by have := hob7 k hk; omega
                have HC7 := Lib.hid (HC4.out.trans hC0)
                have hwi := HWI.out
                clear hpl hR7 hl7 hL7 hC0 hob7 hsl1 hsl2 hkw
                go_wp2_with fail
                clear hwi
                go_roundg (m - (i + 1))
                case measure => omega
                case rel => exact ⟨i + 1, d4, t4, fp4, A6, _, c6, rfl, by first | rfl | go_num, by omega, Nat.le_refl _, HT7.out, HL7.out, HLE7.out, HR7.out, HF4.out, HLO7.out, HC7.out⟩
              · skip
                go_simp
                obtain ⟨wp, yp, hwp, hyp, hBp, hCp, -⟩ := alloc_named wa #[.string key, .int .i64 row] 52
                rw [hwp, hyp]
                have hC0 := hC0.trans hCp
                try have hRa := hRa.chg hCp (fun _ _ h => h)
                try have hBa := hBa.chg hCp id
                try have hR5 := hR5.chg hCp (fun _ _ h => h)
                clear hwp hyp hCp
                refine hK.out _ _ (fun _ => ?_) (fun hS2 => ?_)
                · exact SP.out _ hC0
                have hS3 := hS2 (by kernel_rfl)
                clear hK K hS hS2
                have hS := hS3
                clear hS3
                try simp only [Act.put, List.setIfInBounds_toArray, List.set_cons_zero, List.set_cons_succ]
                refine till_all (rs := [4]) (by kernel_rfl) (by simp) (mem_more (till_op (i := 4) (o := ⟨some 83, _, _, _, _, _⟩) rfl rfl (fun K hK => ?_)) (mem_none))
                refine wp_pairs (.tmp 79) (.tmp 82) rfl (some ⟨ya, 0, none⟩) 0 0 [] rfl hRa B kx lc rfl (prs (L.take kx)) (HRD1.out.chg hC0 fun _ _ h => h) (prs_one _) (by omega) ?_
                rintro A4 c4 wb hR5 hC6 hob5
                rw [Nat.zero_add, List.nil_append] at hR5
                rw [Nat.zero_add] at hob5 ⊢
                simp only [Act.put, List.setIfInBounds_toArray, List.set_cons_zero, List.set_cons_succ]
                have hob5 : ∀ k, (Value.slice A4 kx c4).ownBlock = some k → w4.heap.size ≤ k := fun k hk => (hob5 k hk).elim (fun h => by rw [own_one h]; exact hyn) (fun h => by have := hC0.size; omega)
                have hC0 : Chg (fun _ => False) w4 wb := hC0.comp hC6 fun k hk h => by rw [own_one h] at hk; omega
                try have hBp := hBp.chg hC6 (fun h => by have e := own_one h; have := (hBp.inj (e ▸ hBa)).2; simp at this)
                clear hC6 hBa hRa
                refine hK.out _ _ (fun _ => ?_) (fun hS2 => ?_)
                · exact SP.out _ hC0
                have hS3 := hS2 (by kernel_rfl)
                clear hK K hS hS2
                have hS := hS3
                clear hS3
                try simp only [Act.put, List.setIfInBounds_toArray, List.set_cons_zero, List.set_cons_succ]
                refine till_all (rs := [11]) (by kernel_rfl) (by simp) (mem_more (till_op (i := 11) (o := ⟨some 90, _, _, _, _, _⟩) rfl rfl (fun K hK => ?_)) (mem_none))
                refine wp_pairs (.tmp 83) (.tmp 89) rfl A4 kx c4 (prs (L.take kx)) rfl hR5 (some ⟨yp, 0, none⟩) 1 1 rfl [(.string key, .int .i64 row)] (Reads2.one hBp) (prs_one [(key, row)]) (by omega) ?_
                rintro A5 c5 wc hR6 hC6 hob6
                simp only [Act.put, List.setIfInBounds_toArray, List.set_cons_zero, List.set_cons_succ]
                have hob6 : ∀ k, (Value.slice A5 (kx + 1) c5).ownBlock = some k → w4.heap.size ≤ k := fun k hk => (hob6 k hk).elim (hob5 k) (fun h => by have := hC0.size; omega)
                have hC0 : Chg (fun _ => False) w4 wc := hC0.comp hC6 fun k hk h => by have := hob5 k h; omega
                clear hC6 hR5 hob5 hBp
                refine hK.out _ _ (fun h => by cases (show true = false from h)) (fun _ => ?_)
                clear hK K hS
                try simp only [Act.put, List.setIfInBounds_toArray, List.set_cons_zero, List.set_cons_succ]
                refine till_all (rs := [15]) (by kernel_rfl) (by simp) (mem_more (till_op (i := 15) (o := ⟨some 94, _, _, _, _, _⟩) rfl rfl (fun K hK => ?_)) (mem_none))
                refine wp_pairs (.tmp 90) (.tmp 93) rfl A5 (kx + 1) c5 (prs (L.take kx) ++ [(.string key, .int .i64 row)]) rfl hR6 A2 (ln - (kx)) c2 rfl (prs (L.drop (kx))) (HRD2.out.chg hC0 fun _ _ h => h) (prs_one _) (by omega) ?_
                rintro A6 c6 wd hR7 hC6 hob7
                obtain ⟨l6, hl6e⟩ : ∃ l6, kx + 1 + (ln - (kx)) = l6 := ⟨_, rfl⟩
                rw [hl6e] at hR7 hob7 ⊢
                clear hl6e
                simp only [Act.put, List.setIfInBounds_toArray, List.set_cons_zero, List.set_cons_succ]
                have hob7 : ∀ k, (Value.slice A6 l6 c6).ownBlock = some k → w4.heap.size ≤ k := fun k hk => (hob7 k hk).elim (hob6 k) (fun h => by have := hC0.size; omega)
                have hC0 : Chg (fun _ => False) w4 wd := hC0.comp hC6 fun k hk h => by have := hob6 k h; omega
                clear hC6 hR6 hob6
                refine hK.out _ _ (fun h => by cases (show true = false from h)) (fun _ => ?_)
                clear hK K
                try simp only [Act.put, List.setIfInBounds_toArray, List.set_cons_zero, List.set_cons_succ]
                refine till_all (rs := [16]) (by kernel_rfl) (by simp) (mem_more (till_op (i := 16) (o := ⟨some 11, _, _, _, _, _⟩) rfl rfl (fun K hK => ?_)) (mem_none))
                go_simp
                refine hK.out _ _ (fun h => by cases (show true = false from h)) (fun _ => ?_)
                clear hK K
                try simp only [Act.put, List.setIfInBounds_toArray, List.set_cons_zero, List.set_cons_succ]
                refine till_done (by kernel_rfl) ?_
                have hpl : playsL Kd Rw Ky (i + 1) = L.take kx ++ [(key, row)] ++ L.drop (kx) := by
                  rw [HNX.out]; unfold playL
                  rw [if_neg hk1, if_neg hk2, ins_at_pos HOK.out.2, if_neg (by rw [HIS.out]; simp), HKX.out]
                rw [show [(Value.string key, Value.int .i64 row)] = prs [(key, row)] from rfl, prs_app, prs_app, ← hpl] at hR7
                have hl7 := row_len hR7
                rw [prs_len] at hl7
                have hL7 : toL d4 t4 = playsL Kd Rw Ky (i + 1) := by rw [HL4.out, HNX.out]; unfold playL; rw [if_neg hk1, if_neg hk2]
                have HT7 := Lib.hid (HT4.out.chg hC0 fun _ h => h.elim)
                have HR7 := Lib.hid hR7
                have HL7 := Lib.hid hL7
                have HLE7 := Lib.hid hl7
                have hw4s := HC4.out.size
                have HLO7 : Hid (∀ k, (Value.slice A6 l6 c6).ownBlock = some k → w.heap.size ≤ k) := fun k hk => by have := hob7 k hk; omega
                have HC7 := Lib.hid (HC4.out.trans hC0)
                have hwi := HWI.out
                clear hpl hR7 hl7 hL7 hC0 hob7 hsl1 hsl2 hkw
                go_wp2_with fail
                clear hwi
                go_roundg (m - (i + 1))
                case measure => omega
                case rel => exact ⟨i + 1, d4, t4, fp4, A6, _, c6, rfl, by first | rfl | go_num, by omega, Nat.le_refl _, HT7.out, HL7.out, HLE7.out, HR7.out, HF4.out, HLO7.out, HC7.out⟩
            · skip
              go_simp
              obtain ⟨wp, yp, hwp, hyp, hBp, hCp, -⟩ := alloc_named w5 #[.string key, .int .i64 row] 52
              rw [hwp, hyp]
              have hC0 := hC0.trans hCp
              try have hRa := hRa.chg hCp (fun _ _ h => h)
              try have hBa := hBa.chg hCp id
              try have hR5 := hR5.chg hCp (fun _ _ h => h)
              clear hwp hyp hCp
              refine hK.out _ _ (fun _ => ?_) (fun hS2 => ?_)
              · exact SP.out _ hC0
              have hS3 := hS2 (by kernel_rfl)
              clear hK K hS hS2
              have hS := hS3
              clear hS3
              try simp only [Act.put, List.setIfInBounds_toArray, List.set_cons_zero, List.set_cons_succ]
              refine till_all (rs := [0]) (by kernel_rfl) (by simp) (mem_more (till_op (i := 0) (o := ⟨some 79, _, _, _, _, _⟩) rfl rfl (fun K hK => ?_)) (mem_none))
              go_simp
              obtain ⟨wa, ya, hwa, hya, hBa, hCa, -⟩ := alloc_named wp #[] 52
              rw [hwa, hya]
              have hyn : w4.heap.size ≤ ya := by have := hC0.size; omega
              have hC0 := hC0.trans hCa
              try have hBp := hBp.chg hCa id
              have hRa := row_empty hBa
              clear hwa hya hCa
              refine hK.out _ _ (fun _ => ?_) (fun hS2 => ?_)
              · exact SP.out _ hC0
              have hS3 := hS2 (by kernel_rfl)
              clear hK K hS hS2
              have hS := hS3
              clear hS3
              try simp only [Act.put, List.setIfInBounds_toArray, List.set_cons_zero, List.set_cons_succ]
              refine till_all (rs := [4]) (by kernel_rfl) (by simp) (mem_more (till_op (i := 4) (o := ⟨some 83, _, _, _, _, _⟩) rfl rfl (fun K hK => ?_)) (mem_none))
              refine wp_pairs (.tmp 79) (.tmp 82) rfl (some ⟨ya, 0, none⟩) 0 0 [] rfl hRa B kx lc rfl (prs (L.take kx)) (HRD1.out.chg hC0 fun _ _ h => h) (prs_one _) (by omega) ?_
              rintro A4 c4 wb hR5 hC6 hob5
              rw [Nat.zero_add, List.nil_append] at hR5
              rw [Nat.zero_add] at hob5 ⊢
              simp only [Act.put, List.setIfInBounds_toArray, List.set_cons_zero, List.set_cons_succ]
              have hob5 : ∀ k, (Value.slice A4 kx c4).ownBlock = some k → w4.heap.size ≤ k := fun k hk => (hob5 k hk).elim (fun h => by rw [own_one h]; exact hyn) (fun h => by have := hC0.size; omega)
              have hC0 : Chg (fun _ => False) w4 wb := hC0.comp hC6 fun k hk h => by rw [own_one h] at hk; omega
              try have hBp := hBp.chg hC6 (fun h => by have e := own_one h; have := (hBp.inj (e ▸ hBa)).2; simp at this)
              clear hC6 hBa hRa
              refine hK.out _ _ (fun _ => ?_) (fun hS2 => ?_)
              · exact SP.out _ hC0
              have hS3 := hS2 (by kernel_rfl)
              clear hK K hS hS2
              have hS := hS3
              clear hS3
              try simp only [Act.put, List.setIfInBounds_toArray, List.set_cons_zero, List.set_cons_succ]
              refine till_all (rs := [11]) (by kernel_rfl) (by simp) (mem_more (till_op (i := 11) (o := ⟨some 90, _, _, _, _, _⟩) rfl rfl (fun K hK => ?_)) (mem_none))
              refine wp_pairs (.tmp 83) (.tmp 89) rfl A4 kx c4 (prs (L.take kx)) rfl hR5 (some ⟨yp, 0, none⟩) 1 1 rfl [(.string key, .int .i64 row)] (Reads2.one hBp) (prs_one [(key, row)]) (by omega) ?_
              rintro A5 c5 wc hR6 hC6 hob6
              simp only [Act.put, List.setIfInBounds_toArray, List.set_cons_zero, List.set_cons_succ]
              have hob6 : ∀ k, (Value.slice A5 (kx + 1) c5).ownBlock = some k → w4.heap.size ≤ k := fun k hk => (hob6 k hk).elim (hob5 k) (fun h => by have := hC0.size; omega)
              have hC0 : Chg (fun _ => False) w4 wc := hC0.comp hC6 fun k hk h => by have := hob5 k h; omega
              clear hC6 hR5 hob5 hBp
              refine hK.out _ _ (fun h => by cases (show true = false from h)) (fun _ => ?_)
              clear hK K hS
              try simp only [Act.put, List.setIfInBounds_toArray, List.set_cons_zero, List.set_cons_succ]
              refine till_all (rs := [15]) (by kernel_rfl) (by simp) (mem_more (till_op (i := 15) (o := ⟨some 94, _, _, _, _, _⟩) rfl rfl (fun K hK => ?_)) (mem_none))
              refine wp_pairs (.tmp 90) (.tmp 93) rfl A5 (kx + 1) c5 (prs (L.take kx) ++ [(.string key, .int .i64 row)]) rfl hR6 A2 (ln - (kx)) c2 rfl (prs (L.drop (kx))) (HRD2.out.chg hC0 fun _ _ h => h) (prs_one _) (by omega) ?_
              rintro A6 c6 wd hR7 hC6 hob7
              obtain ⟨l6, hl6e⟩ : ∃ l6, kx + 1 + (ln - (kx)) = l6 := ⟨_, rfl⟩
              rw [hl6e] at hR7 hob7 ⊢
              clear hl6e
              simp only [Act.put, List.setIfInBounds_toArray, List.set_cons_zero, List.set_cons_succ]
              have hob7 : ∀ k, (Value.slice A6 l6 c6).ownBlock = some k → w4.heap.size ≤ k := fun k hk => (hob7 k hk).elim (hob6 k) (fun h => by have := hC0.size; omega)
              have hC0 : Chg (fun _ => False) w4 wd := hC0.comp hC6 fun k hk h => by have := hob6 k h; omega
              clear hC6 hR6 hob6
              refine hK.out _ _ (fun h => by cases (show true = false from h)) (fun _ => ?_)
              clear hK K
              try simp only [Act.put, List.setIfInBounds_toArray, List.set_cons_zero, List.set_cons_succ]
              refine till_all (rs := [16]) (by kernel_rfl) (by simp) (mem_more (till_op (i := 16) (o := ⟨some 11, _, _, _, _, _⟩) rfl rfl (fun K hK => ?_)) (mem_none))
              go_simp
              refine hK.out _ _ (fun h => by cases (show true = false from h)) (fun _ => ?_)
              clear hK K
              try simp only [Act.put, List.setIfInBounds_toArray, List.set_cons_zero, List.set_cons_succ]
              refine till_done (by kernel_rfl) ?_
              have hpl : playsL Kd Rw Ky (i + 1) = L.take kx ++ [(key, row)] ++ L.drop (kx) := by
                rw [HNX.out]; unfold playL
                rw [if_neg hk1, if_neg hk2, ins_at_pos HOK.out.2, if_neg (by rw [HIS.out]; simp), HKX.out]
              rw [show [(Value.string key, Value.int .i64 row)] = prs [(key, row)] from rfl, prs_app, prs_app, ← hpl] at hR7
              have hl7 := row_len hR7
              rw [prs_len] at hl7
              have hL7 : toL d4 t4 = playsL Kd Rw Ky (i + 1) := by rw [HL4.out, HNX.out]; unfold playL; rw [if_neg hk1, if_neg hk2]
              have HT7 := Lib.hid (HT4.out.chg hC0 fun _ h => h.elim)
              have HR7 := Lib.hid hR7
              have HL7 := Lib.hid hL7
              have HLE7 := Lib.hid hl7
              have hw4s := HC4.out.size
              have HLO7 : Hid (∀ k, (Value.slice A6 l6 c6).ownBlock = some k → w.heap.size ≤ k) := fun k hk => by have := hob7 k hk; omega
              have HC7 := Lib.hid (HC4.out.trans hC0)
              have hwi := HWI.out
              clear hpl hR7 hl7 hL7 hC0 hob7 hsl1 hsl2 hkw
              go_wp2_with fail
              clear hwi
              go_roundg (m - (i + 1))
              case measure => omega
              case rel => exact ⟨i + 1, d4, t4, fp4, A6, _, c6, rfl, by first | rfl | go_num, by omega, Nat.le_refl _, HT7.out, HL7.out, HLE7.out, HR7.out, HF4.out, HLO7.out, HC7.out⟩
    · have him' : i = m := by omega
      subst him'
      have hR8 : Hid (∀ e w', e = .returned (.tuple #[.pointer (some ⟨tr, 0, none⟩), .slice B ln lc, .bool true]) → w' = wr → R e w') := by
        rintro e w' rfl rfl
        have hln' := HLN.out
        subst hln'
        exact HP.out _ _ ⟨tr, B, lc, d, t, fp', rfl, HT.out, HL.out, HROW.out, HFP'.out, HTR.out, HLO.out, HCH.out⟩
      have hxx : ¬ ((i : Int) < (n : Int)) ∨ ((i : Int) < (n : Int) ∧ (M : Int) ≤ (i : Int)) := by omega
      clear hmm hge HP
      rcases hxx with hxx | ⟨hx1, hx2⟩
      all_goals
        go_wp2_with fail
        go_ret3
        exact hR8.out _ _ rfl rfl
end Go.Proofs.Ythndplpbnfihdaa
