/-
  TreeThrough. Conditions: none.
-/
import Derived.Test.YthndplpbnfihdaaAw
set_option linter.unusedVariables false
set_option linter.unusedSimpArgs false
namespace Go.Proofs.Ythndplpbnfihdaa
open Go.RowKit

theorem not_lt_empty (a : ByteArray) : ltB a ⟨#[]⟩ = false := by
  cases h : ltB a ⟨#[]⟩
  · rfl
  · exfalso
    unfold ltB at h
    have : (⟨#[]⟩ : ByteArray).toList = [] := by kernel_rfl
    rw [this] at h
    cases hh : a.toList <;> rw [hh] at h <;> simp [Op.bytesLess] at h

theorem cnt_empty (L : List (ByteArray × Int)) : cntL ⟨#[]⟩ false L = 0 := by
  unfold cntL
  rw [List.filter_eq_nil_iff.2 fun p _ => by simp [not_lt_empty]]; rfl

theorem Cur.apart {w : World} {c : Nat} {ps : List (Nat × Int)} {fpc : List Nat} {v : Value} {xs : List Value} (h : Cur w c ps fpc) (ho : Own w 9 v xs) : ∀ x ∈ fpc, v.ownBlock ≠ some x := by
  obtain ⟨r, h1, h2, h3⟩ := h
  intro x hx
  rw [h3] at hx
  simp only [List.mem_cons, Option.mem_toList] at hx
  rcases hx with rfl | hx
  · exact ho.ne_blk h1 (by decide)
  · rcases h2.2 with ⟨rfl, _⟩ | ⟨g, cap, cur, rfl, _, hg, _⟩
    · cases hx
    · have : g = x := by simpa [Value.ownBlock] using hx
      subst this
      exact ho.ne_blk (t := 77) (cs := cur) hg (by decide)

theorem row_one {L : List (ByteArray × Int)} (h : Rising (keysT L)) {k : ByteArray} {r r' : Int} (h1 : (k, r) ∈ L) (h2 : (k, r') ∈ L) : r = r' := by
  obtain ⟨a, ha⟩ := List.mem_iff_getElem?.1 h1
  obtain ⟨b, hb⟩ := List.mem_iff_getElem?.1 h2
  have ka : (keysT L)[a]? = some k := by rw [keysT, List.getElem?_map, ha]; rfl
  have kb : (keysT L)[b]? = some k := by rw [keysT, List.getElem?_map, hb]; rfl
  obtain ⟨la, ea⟩ := List.getElem?_eq_some_iff.1 ka
  obtain ⟨lb, eb⟩ := List.getElem?_eq_some_iff.1 kb
  have hp := List.pairwise_iff_getElem.1 h
  rcases Nat.lt_trichotomy a b with hlt | heq | hgt
  · have := hp a b la lb hlt
    rw [ea, eb, lt_irrefl] at this; cases this
  · subst heq
    rw [ha] at hb; injection hb with hb; injection hb
  · have := hp b a lb la hgt
    rw [ea, eb, lt_irrefl] at this; cases this

theorem fan_of (f : Int) : ∃ k : Nat, 4 ≤ k ∧ k ≤ 64 ∧ wrap64 ((bits .and .i64 f 65535).tmod 61 + 4) = (k : Int) := by
  obtain ⟨m, hm, hb⟩ : ∃ m : Nat, m ≤ 65535 ∧ bits .and .i64 f 65535 = (m : Int) := by
    refine ⟨(BitVec.ofInt 64 f &&& BitVec.ofInt 64 65535).toNat, ?_, ?_⟩
    · rw [BitVec.toNat_and]
      exact Nat.and_le_right
    · have h : (BitVec.ofInt 64 f &&& BitVec.ofInt 64 65535).toNat ≤ 65535 := by rw [BitVec.toNat_and]; exact Nat.and_le_right
      show IntKind.i64.wrap ((BitVec.ofInt 64 f &&& BitVec.ofInt 64 65535).toNat : Int) = _
      rw [IntKind.wrap_i64]
      omega
  refine ⟨m % 61 + 4, by omega, by omega, ?_⟩
  rw [hb, show ((m : Int)).tmod 61 = ((m % 61 : Nat) : Int) from rfl]
  rw [IntWalk.wrap64_in] <;> omega

/-- The list after so many puts. -/
def putsL (Sx : Nat → ByteArray) : Nat → List (ByteArray × Int)
  | 0 => []
  | i + 1 => insL (Sx i) i (putsL Sx i)

theorem putsL_len (Sx : Nat → ByteArray) (i : Nat) : (putsL Sx i).length ≤ i ∧ Rising (keysT (putsL Sx i)) := by
  induction i with
  | zero => exact ⟨Nat.le_refl _, by simp [putsL, keysT, Rising]⟩
  | succ i ih =>
    refine ⟨?_, rising_insL ih.2⟩
    show (insL _ _ _).length ≤ _
    rw [insL_len _ _ _ ih.2]
    split <;> omega

theorem putsL_row (Sx : Nat → ByteArray) : ∀ (i : Nat) (p : ByteArray × Int), p ∈ putsL Sx i → ∃ j : Nat, j < i ∧ p = (Sx j, (j : Int))
  | 0, p, h => by cases h
  | i + 1, p, h => by
    rcases mem_insL h with h | h
    · exact ⟨i, by omega, h⟩
    · obtain ⟨j, h1, h2⟩ := putsL_row Sx i p h
      exact ⟨j, by omega, h2⟩

set_option maxHeartbeats 2000000 in
set_option maxRecDepth 100000 in
theorem through_walk (w : World) (f : Int) (hf : -9223372036854775808 ≤ f ∧ f ≤ 9223372036854775807) (A : Option Addr) (n c : Nat) (Sx : Nat → ByteArray) (hn : n ≤ maxLen) (hA : 0 < n → ∃ a, A = some a ∧ ∀ i, i < n → w.cell? (a.add i) = some (.string (Sx i))) :
    Calls Try.prog 3 #[.int .i64 f, .slice A n c] w (fun e w' => e = .returned (.bool true) ∧ Chg (fun _ => False) w w') := by
  obtain ⟨R, hR⟩ : ∃ R : Ending → World → Prop, R = fun e w' => e = .returned (.bool true) ∧ Chg (fun _ => False) w w' := ⟨_, rfl⟩
  rw [← hR]
  have HP : Hid (∀ e w', e = .returned (.bool true) → Chg (fun _ => False) w w' → R e w') := fun e w' h1 h2 => by rw [hR]; exact ⟨h1, h2⟩
  clear hR
  obtain ⟨fan, h4, h64, hfan⟩ := fan_of f
  have HFAN := Lib.hid hfan
  obtain ⟨m, hm⟩ : ∃ m, min n 80 = m := ⟨_, rfl⟩
  have hmn : m ≤ n := by omega
  have hm80 : m ≤ 80 := by omega
  have hmm : m = n ∨ m = 80 := by omega
  unfold maxLen at hn
  clear hfan hm
  go_enter Try.func3, Try.ntmps3
  go_wp2_with fail
  rw [HFAN.out]
  refine (new_calls w fan h4 h64).mono ?_
  rintro e w1 ⟨tr, fp, rfl, hT, hfp, htr, hC1⟩
  rw [show ptr tr = .pointer (some ⟨tr, 0, none⟩) from rfl]
  have HT := Lib.hid hT
  have HC1 := Lib.hid hC1
  have HFP : Hid (∀ k ∈ fp, w.heap.size ≤ k) := hfp
  have HTR := Lib.hid htr
  have HA : Hid (0 < n → ∃ a, A = some a ∧ ∀ i, i < n → w.cell? (a.add i) = some (.string (Sx i))) := hA
  clear hT hfp htr hC1 hA
  go_wp2_with fail
  go_loopg [7] m (fun g s wr => ∃ (i d : Nat) (t : Tr d) (fp : List Nat), s = .int .i64 i ∧ i ≤ m ∧ m - i ≤ g ∧ Tree wr tr fan d t fp ∧ toL d t = putsL Sx i ∧ (∀ k ∈ fp, w.heap.size ≤ k) ∧ Chg (fun _ => False) w wr)
  case atStart => exact ⟨0, 0, [], fp, rfl, Nat.zero_le _, by omega, HT.out, rfl, HFP.out, HC1.out⟩
  case round =>
    obtain ⟨i, d, t, fp', rfl, him, hig, hT, hL, hfp, hch⟩ := hrel
    have HT' := Lib.hid hT
    have HL := Lib.hid hL
    have HFP' : Hid (∀ k ∈ fp', w.heap.size ≤ k) := hfp
    have HCH := Lib.hid hch
    clear hT hL hfp
    rcases Nat.lt_or_ge i m with hlt | hge
    · have hin : (i : Int) < (n : Int) := by omega
      have hi80 : (i : Int) < 80 := by omega
      have hwi : IntKind.i64.wrap ((i : Int) + 1) = (i : Int) + 1 := by rw [IntKind.wrap_i64]; omega
      obtain ⟨a, hA', hcell⟩ := HA.out (by omega)
      subst hA'
      have hki : wr.cell? (a.add i) = some (.string (Sx i)) := by
        have h := hcell i (by omega)
        rw [hch.cell (World.block_lt_of_cell? _ _ h) id]; exact h
      have hpl := putsL_len Sx i
      have HPU := Lib.hid (put_calls (Sx i) i HT'.out (by rw [HL.out]; omega))
      unfold ptr at HPU
      clear hcell hch hpl
      go_wp2_with fail
      refine HPU.out.mono ?_
      rintro e w2 ⟨rfl, d2, t2, fp2, hT2, hL2, hs2, hC2⟩
      have hfp2 : ∀ k ∈ fp2, w.heap.size ≤ k := fun k hk => (hs2 k hk).elim (HFP'.out k) (fun h => by have := HCH.out.size; omega)
      have hCw2 : Chg (fun _ => False) w w2 := HCH.out.comp hC2 fun k hk e => by
        rcases e with e | e
        · have := HFP'.out k e; omega
        · have := HTR.out; omega
      rw [HL.out] at hL2
      have HT2 := Lib.hid hT2
      have HL2 := Lib.hid hL2
      have HFP2 : Hid (∀ k ∈ fp2, w.heap.size ≤ k) := hfp2
      have HC2 := Lib.hid hCw2
      clear hT2 hL2 hs2 hC2 hfp2 hCw2
      go_wp2_with fail
      go_roundg (m - (i + 1))
      case measure => omega
      case rel => exact ⟨i + 1, d2, t2, fp2, by first | rfl | go_num, by omega, Nat.le_refl _, HT2.out, HL2.out, HFP2.out, HC2.out⟩
    · have him' : i = m := by omega
      subst him'
      obtain ⟨L, hL'⟩ : ∃ L, putsL Sx i = L := ⟨_, rfl⟩
      have hpl := putsL_len Sx i
      have hrow := putsL_row Sx i
      rw [hL'] at hpl hrow
      obtain ⟨u, hS⟩ := HT'.out.seen (by rw [HL.out, hL']; omega)
      rw [HL.out, hL'] at hS
      have HS := Lib.hid hS
      have HPL := Lib.hid hpl
      have HROW : Hid (∀ p ∈ L, ∃ j : Nat, j < i ∧ p = (Sx j, (j : Int))) := hrow
      obtain ⟨N, hN⟩ : ∃ N, L.length = N := ⟨_, rfl⟩
      have hN80 : N ≤ 80 := by omega
      have HN := Lib.hid hN
      have HSK := Lib.hid (seek_calls ⟨#[]⟩ false hS.view hS.sound hS.blk)
      rw [hS.list, cnt_empty] at HSK
      unfold ptr at HSK
      clear hS hpl hrow hL' hN hch HL HFP' HTR
      have hxx : ¬ ((i : Int) < (n : Int)) ∨ ((i : Int) < (n : Int) ∧ (80 : Int) ≤ (i : Int)) := by omega
      clear hmm hge
      rcases hxx with hxx | ⟨hx1, hx2⟩
      all_goals
        go_wp2_with fail
        refine HSK.out.mono ?_
        rintro e wB ⟨c0, ps, fpc, rfl, hcur, hgo, hge, hch⟩
        rw [show ptr c0 = .pointer (some ⟨c0, 0, none⟩) from rfl]
        rw [HS.out.list, HN.out] at hgo
        have HGO : Hid (if 0 < N then Goes 0 d u ps ((0 : Nat) : Int) else ps = []) := by
          by_cases h0 : 0 < N
          · rw [if_pos ⟨by omega, by omega⟩] at hgo; rw [if_pos h0]; exact hgo
          · rw [if_neg (fun h => h0 (by omega))] at hgo; rw [if_neg h0]; exact hgo
        have HCU := Lib.hid hcur
        have HCB := Lib.hid hch
        obtain ⟨wo, rfl⟩ : ∃ wo : World, wo = wr := ⟨_, rfl⟩
        have HGE : Hid (∀ k ∈ fpc, wo.heap.size ≤ k) := hge
        clear hcur hgo hge hch HSK
        go_wp2_with fail
        go_loopg [8, 10] N (fun g l s wr => ∃ (k : Nat) (ps : List (Nat × Int)) (fpc : List Nat), s = .int .i64 k ∧ k ≤ N ∧ N - k ≤ g ∧ Own wr 9 l (strs ((keysT L).take k)) ∧ Cur wr c0 ps fpc ∧ (if k < N then Goes 0 d u ps k else ps = []) ∧
          (∀ x ∈ fpc, wo.heap.size ≤ x) ∧ (∀ x, l.ownBlock = some x → wo.heap.size ≤ x) ∧ Chg (fun _ => False) wo wr)
        case atStart => exact ⟨0, ps, fpc, rfl, Nat.zero_le _, by omega, Own.nil _ _, HCU.out, HGO.out, HGE.out, fun x hx => by simp [Value.ownBlock] at hx, HCB.out⟩
        case round =>
          obtain ⟨k, ps', fpc', rfl, hkN, hkg, hown, hcur, hgo, hge, hlo, hch⟩ := hrel
          have HOWN := Lib.hid hown
          have HCUR := Lib.hid hcur
          have HGE2 : Hid (∀ x ∈ fpc', wo.heap.size ≤ x) := hge
          have HLO : Hid (∀ x, u8.ownBlock = some x → wo.heap.size ≤ x) := hlo
          have HCH2 := Lib.hid hch
          have hks : (strs ((keysT L).take k)).length = k := by
            have h1 := HN.out
            simp [strs, keysT]; omega
          obtain ⟨lA, lc, hu8, _⟩ := hown.shape
          rw [hks] at hu8
          subst hu8
          rcases Nat.lt_or_ge k N with hkl | hkl
          · rw [if_pos hkl] at hgo
            have HG := Lib.hid hgo
            have HV := Lib.hid (HS.out.view.chg hch fun _ _ h => h)
            obtain ⟨p, hp⟩ : ∃ p, L[k]? = some p := ⟨_, List.getElem?_eq_getElem (by rw [HN.out]; exact hkl)⟩
            have hp' : (listU d u)[((k : Nat) : Int).toNat]? = some p := by rw [HS.out.list, Int.toNat_natCast]; exact hp
            have HOK : Hid (Calls Try.prog 12 #[.pointer (some ⟨c0, 0, none⟩)] wr fun e w' => e = .returned (.bool true) ∧ wr = w') := by
              have h1 := ok_calls hcur
              rw [show decide (0 < ps'.length) = true from decide_eq_true (by rw [goes_len hgo]; omega)] at h1
              exact h1
            have HKY : Hid (Calls Try.prog 13 #[.pointer (some ⟨c0, 0, none⟩)] wr fun e w' => e = .returned (.string p.1) ∧ Chg (fun _ => False) wr w') := key_calls HV.out hcur hgo hp'
            have hk80 : (k : Int) ≤ 80 := by omega
            have hwk : IntKind.i64.wrap ((k : Int) + 1) = (k : Int) + 1 := by rw [IntKind.wrap_i64]; omega
            have HPK := Lib.hid hp
            clear hgo hp hp' hown hcur hge hlo hch
            go_wp2_with (first
              | (go_at_call 12; refine HOK.out.mono ?_; rintro e w' ⟨rfl, rfl⟩)
              | (go_at_call 13; refine HKY.out.mono ?_; rintro e w5 ⟨rfl, hc5⟩; have HC5 := Lib.hid hc5; clear hc5)
              | (at_builtin; refine wpList_app rfl (.tmp 59) (.tmp 62) rfl slt_string (.slice lA k lc) (strs ((keysT L).take k)) rfl (HOWN.out.chg ((HC5.out.alloc _)) fun _ _ h => h) (some ⟨w5.heap.size, 0, none⟩) 1 1 rfl [.string p.1] ⟨rfl, fun _ => ⟨_, rfl, fun j u hj => by rw [add_lit, Nat.zero_add]; cases j with | zero => exact (Blk.new _ _ _).cell_ hj | succ j => simp at hj⟩⟩ (by intro u hu; simp at hu; subst hu; rfl) (by rw [hks]; omega) ?_; intro lA2 lc2 w6 hown6 hgr6 hob6 hnil6; rw [hks] at hown6 hob6 ⊢))
            have hch6 : Chg (fun x => (Value.slice lA k lc).ownBlock = some x) wr w6 := (HC5.out.alloc _).up.trans ((Chg.of_grown hgr6).mono fun x _ e => e.symm)
            have hcur6 := HCUR.out.chg hch6 fun x hx => HCUR.out.apart HOWN.out x hx
            have hV6 := HV.out.chg hch6 fun x hx e => by have h1 := HLO.out x e; have h2 := HS.out.view.lt x hx; omega
            have hs5 := HC5.out.size
            have hs2 := HCH2.out.size
            have hlo6 : ∀ x, (Value.slice lA2 (k + 1) lc2).ownBlock = some x → wo.heap.size ≤ x := fun x hx => by
              rcases hob6 with h | h
              · exact HLO.out x (h ▸ hx)
              · rw [h] at hx; injection hx with hx; have h0 : w5.heap.size ≤ x := by rw [← hx]; simp
                omega
            have hxs : strs ((keysT L).take k) ++ [.string p.1] = strs ((keysT L).take (k + 1)) := by
              have h1 : (keysT L)[k]? = some p.1 := by rw [keysT, List.getElem?_map, HPK.out]; rfl
              rw [List.take_add_one, h1]; simp [strs]
            rw [hxs] at hown6
            have HNX := Lib.hid (next_calls hV6 hcur6 (HG.out.weak (by omega)) (fun x hx hS => by have h1 := HGE2.out x hx; have h2 := HS.out.view.lt x hS; omega))
            have HOWN6 := Lib.hid hown6
            have HCH6 := Lib.hid (HCH2.out.comp hch6 fun x hx e => by have h1 := HLO.out x e; omega)
            have HLO6 : Hid (∀ x, (Value.slice lA2 (k + 1) lc2).ownBlock = some x → wo.heap.size ≤ x) := hlo6
            have HAP6 : Hid (∀ x ∈ fpc', (Value.slice lA2 (k + 1) lc2).ownBlock ≠ some x) := fun x hx => hcur6.apart hown6 x hx
            have hs6 : wo.heap.size ≤ w6.heap.size := HCH6.out.size
            unfold ptr at HNX
            clear hch6 hcur6 hV6 hlo6 hxs hown6 hgr6 hob6 hnil6
            refine HNX.out.mono ?_
            rintro e w7 ⟨rfl, ps7, fpc7, hc7, hg7, hs7, hch7⟩
            rw [HS.out.list, HN.out] at hg7
            have HOWN7 := Lib.hid (HOWN6.out.chg hch7 fun x hx e => HAP6.out x e hx)
            have HCH7 := Lib.hid (HCH6.out.comp hch7 fun x hx e => by have h1 := HGE2.out x e; omega)
            have HC7 := Lib.hid hc7
            have HGE7 : Hid (∀ x ∈ fpc7, wo.heap.size ≤ x) := fun x hx => (hs7 x hx).elim (HGE2.out x) (fun h => by omega)
            have HG7 : Hid (if k + 1 < N then Goes 0 d u ps7 ((k + 1 : Nat) : Int) else ps7 = []) := by
              by_cases h : k + 1 < N
              · rw [if_pos ⟨by omega, by omega⟩] at hg7; rw [if_pos h]; exact hg7
              · rw [if_neg (fun hh => h (by omega))] at hg7; rw [if_neg h]; exact hg7
            clear hc7 hg7 hs7 hch7
            go_wp2_with fail
            go_roundg (N - (k + 1))
            case measure => omega
            case rel => exact ⟨k + 1, ps7, fpc7, by first | rfl | go_num, by omega, Nat.le_refl _, HOWN7.out, HC7.out, HG7.out, HGE7.out, HLO6.out, HCH7.out⟩
          · have hkn : k = N := by omega
            subst hkn
            rw [if_neg (by omega)] at hgo
            subst hgo
            have HOK : Hid (Calls Try.prog 12 #[.pointer (some ⟨c0, 0, none⟩)] wr fun e w' => e = .returned (.bool false) ∧ wr = w') := ok_calls hcur
            have HLN : Hid (Calls Try.prog 15 #[.pointer (some ⟨tr, 0, none⟩)] wr fun e w' => e = .returned (.int .i64 k) ∧ wr = w') := by
              have h1 := len_calls (HS.out.blk.chg hch id)
              rw [HS.out.list, HN.out] at h1
              exact h1
            clear hown hcur hge hlo hch
            go_wp2_with (first
              | (go_at_call 12; refine HOK.out.mono ?_; rintro e w' ⟨rfl, rfl⟩)
              | (go_at_call 15; refine HLN.out.mono ?_; rintro e w' ⟨rfl, rfl⟩))
            have HV3 := Lib.hid (HS.out.view.chg HCH2.out fun _ _ h => h)
            have HB3 : Hid (Blk wr tr 64 #[.int .i64 fan, .int .i64 (listU d u).length, ptr (blk d u)]) := HS.out.blk.chg HCH2.out id
            refine (last_calls HV3.out HB3.out).mono ?_
            rintro e w8 ⟨c1, ps8, fpc8, rfl, hc8, hg8, hge8, hch8⟩
            rw [show ptr c1 = .pointer (some ⟨c1, 0, none⟩) from rfl]
            rw [HS.out.list, HN.out] at hg8
            have HO8 := Lib.hid (HOWN.out.chg hch8 fun _ _ h => h)
            have HCU8 := Lib.hid (HCUR.out.chg hch8 fun _ _ h => h)
            have HC8 := Lib.hid hc8
            have HG8 : Hid (if 0 < k then Goes 0 d u ps8 ((k : Int) - 1) else ps8 = []) := by
              by_cases h : 0 < k
              · rw [if_pos ⟨by omega, by omega⟩] at hg8; rw [if_pos h]; exact hg8
              · rw [if_neg (fun hh => h (by omega))] at hg8; rw [if_neg h]; exact hg8
            have HGE8 : Hid (∀ x ∈ fpc8, wr.heap.size ≤ x) := hge8
            have HCH8 := Lib.hid (HCH2.out.trans hch8)
            have hwk : IntKind.i64.wrap ((k : Int) - 1) = (k : Int) - 1 := by rw [IntKind.wrap_i64]; omega
            obtain ⟨w3, rfl⟩ : ∃ w3 : World, w3 = wr := ⟨_, rfl⟩
            have HCH38 := Lib.hid hch8
            clear hc8 hg8 hge8 hch8 HOK HLN
            go_wp2_with fail
            go_loopg [12] k (fun g s wr => ∃ (j : Nat) (ps : List (Nat × Int)) (fpc : List Nat), s = .int .i64 ((j : Int) - 1) ∧ j ≤ k ∧ j ≤ g ∧ Cur wr c1 ps fpc ∧ (if 0 < j then Goes 0 d u ps ((j : Int) - 1) else ps = []) ∧
              (∀ x ∈ fpc, w3.heap.size ≤ x) ∧ Chg (fun _ => False) w3 wr)
            case atStart => exact ⟨k, ps8, fpc8, rfl, Nat.le_refl _, Nat.le_refl _, HC8.out, HG8.out, HGE8.out, HCH38.out⟩
            case round =>
              obtain ⟨j, ps9, fpc9, rfl, hjk, hjg, hc9, hg9, hge9, hch9⟩ := hrel
              have HC9 := Lib.hid hc9
              have HGE9 : Hid (∀ x ∈ fpc9, w3.heap.size ≤ x) := hge9
              have HCH9 := Lib.hid hch9
              rcases j with _ | q
              · rw [show ((0 : Nat) : Int) - 1 = -1 from rfl]
                have HNX := Lib.hid (next_none (HCUR.out.chg hch9 fun _ _ h => h))
                have HCW9 := Lib.hid ((HCH.out.trans HCH2.out).trans hch9)
                unfold ptr at HNX
                clear hc9 hg9 hge9 hch9 hjg hwk
                go_wp2_with fail
                refine HNX.out.mono ?_
                rintro e w10 ⟨rfl, fpc10, hc10, hs10, hch10⟩
                have HC10 := Lib.hid hc10
                have HPN := Lib.hid (prev_none hc10)
                have hs10' : ∀ x ∈ fpc10, w.heap.size ≤ x := fun x hx => (hs10 x hx).elim (fun h => by have h1 := HGE2.out x h; have h2 := HCH.out.size; omega) (fun h => by have := HCW9.out.size; omega)
                have HS10 : Hid (∀ x ∈ fpc10, w.heap.size ≤ x) := hs10'
                have HCW10 := Lib.hid (HCW9.out.comp hch10 fun x hx e => by have h1 := HGE2.out x e; have h2 := HCH.out.size; omega)
                unfold ptr at HPN
                clear hc10 hs10 hs10' hch10
                go_wp2_with fail
                refine HPN.out.mono ?_
                rintro e w11 ⟨rfl, fpc11, -, -, hch11⟩
                have HCW11 := Lib.hid (HCW10.out.comp hch11 fun x hx e => by have h1 := HS10.out x e; omega)
                clear hch11
                go_wp2_with fail
                refine (awake_calls w11).mono ?_
                rintro e w12 ⟨rfl, hch12⟩
                have HCW12 := Lib.hid (HCW11.out.trans hch12)
                clear hch12
                go_wp2_with fail
                exact HP.out _ _ rfl HCW12.out
              · rw [if_pos (by omega)] at hg9
                have hqq : ((q + 1 : Nat) : Int) - 1 = (q : Int) := by omega
                rw [hqq] at hg9 ⊢
                have HG9 := Lib.hid hg9
                have HO9 := Lib.hid (HOWN.out.chg hch9 fun _ _ h => h)
                have HV9 := Lib.hid (HV3.out.chg hch9 fun _ _ h => h)
                obtain ⟨gl, _, hlA, hrest⟩ := HOWN.out.open_ (HOWN.out.some_of_pos (by rw [hks]; omega))
                clear hrest
                subst hlA
                obtain ⟨p, hp⟩ : ∃ p, L[q]? = some p := ⟨_, List.getElem?_eq_getElem (by rw [HN.out]; omega)⟩
                have hp' : (listU d u)[((q : Nat) : Int).toNat]? = some p := by rw [HS.out.list, Int.toNat_natCast]; exact hp
                have hkt : (keysT L).take k = keysT L := List.take_of_length_le (by simp [keysT, HN.out])
                have hkq : (strs ((keysT L).take k))[q]? = some (.string p.1) := by rw [hkt]; simp [strs, keysT, hp]
                have HP9 := Lib.hid hp'
                have HPM : Hid (p ∈ L) := List.mem_of_getElem? hp
                have HOK9 : Hid (∀ W, Chg (fun _ => False) wr W → Calls Try.prog 12 #[.pointer (some ⟨c1, 0, none⟩)] W fun e w' => e = .returned (.bool true) ∧ W = w') := fun W hW => by
                  have h1 := ok_calls (HC9.out.chg hW fun _ _ h => h)
                  rw [show decide (0 < ps9.length) = true from decide_eq_true (by rw [goes_len HG9.out]; omega)] at h1
                  exact h1
                have HKY9 : Hid (∀ W, Chg (fun _ => False) wr W → Calls Try.prog 13 #[.pointer (some ⟨c1, 0, none⟩)] W fun e w' => e = .returned (.string p.1) ∧ Chg (fun _ => False) W w') := fun W hW =>
                  key_calls (HV9.out.chg hW fun _ _ h => h) (HC9.out.chg hW fun _ _ h => h) HG9.out hp'
                have HCE : Hid (∀ W, Chg (fun _ => False) wr W → W.cell? ⟨gl, q, none⟩ = some (.string p.1)) := fun W hW => (HO9.out.chg hW fun _ _ h => h).cell hkq
                have hqk : (q : Int) < (k : Int) := by omega
                clear hp hp' hkq hkt hc9 hg9 hge9 hch9 hwk
                rcases Nat.eq_zero_or_pos q with hq0 | hq0
                focus
                  have hz1 : ¬ (0 < q) := by omega
                  have hz2 : ¬ ((0 : Int) < (q : Int)) := by omega
                  have hqk2 : q < k := by omega
                  clear hq0
                  go_wp2_with fail
                  obtain ⟨w9, hw9, hC9⟩ := drew_named wr
                  have hC0 : Chg (fun _ => False) wr w9 := hC9
                  have hS : w9.cell? ⟨gl, q, none⟩ = some (.string p.1) := HCE.out _ hC0
                  refine wp_region_till (s := 31) (S := (fun W => W.cell? ⟨gl, q, none⟩ = some (.string p.1))) (by kernel_rfl) ?_
                  rw [hw9]
                  clear hw9 hC9
                  apply till_take0 (i := 0) (d := some 80)
                  case hi => exact rfl
                  case hd => exact rfl
                  case hchk => kernel_rfl
                  case hS => exact (fun _ => hS)
                  case hy => apply yields_plain; exact rfl; intro w _; go_simp <;> with_reducible rfl
                  case hQ => exact fun _ _ _ h => h
                  simp only [Act.put, List.setIfInBounds_toArray, List.set_cons_zero, List.set_cons_succ]
                  apply till_take0 (i := 1) (d := some 81)
                  case hi => exact rfl
                  case hd => exact rfl
                  case hchk => kernel_rfl
                  case hS => exact (fun _ => hS)
                  case hy => apply yields_plain; exact rfl; intro w _; go_simp <;> with_reducible rfl
                  case hQ => exact fun _ _ _ h => h
                  simp only [Act.put, List.setIfInBounds_toArray, List.set_cons_zero, List.set_cons_succ]
                  apply till_take0 (i := 2) (d := some 82)
                  case hi => exact rfl
                  case hd => exact rfl
                  case hchk => kernel_rfl
                  case hS => exact (fun _ => hS)
                  case hy => apply yields_plain; exact rfl; intro w _; go_simp <;> with_reducible rfl
                  case hQ => exact fun _ _ _ h => h
                  simp only [Act.put, List.setIfInBounds_toArray, List.set_cons_zero, List.set_cons_succ]
                  apply till_take0 (i := 3) (d := some 83)
                  case hi => exact rfl
                  case hd => exact rfl
                  case hchk => kernel_rfl
                  case hS => exact (fun _ => hS)
                  case hy => apply yields_want; kernel_rfl; intro w _; go_simp <;> with_reducible rfl
                  case hQ => exact fun _ _ _ h => h
                  simp only [Act.put, List.setIfInBounds_toArray, List.set_cons_zero, List.set_cons_succ]
                  refine till_all (rs := [4]) (by kernel_rfl) (by simp) (mem_more (till_opw (i := 4) (o := ⟨some 84, _, _, _, _, _⟩) rfl (by kernel_rfl) (fun K hK => ?_)) (mem_none))
                  go_simp
                  go_at_call 12
                  refine (HOK9.out _ hC0).mono ?_
                  rintro e w' ⟨rfl, rfl⟩
                  refine hK.out _ _ (fun _ => ?_) (fun hS2 => ?_)
                  · exact HCE.out _ hC0
                  have hS3 := hS2 (by kernel_rfl)
                  clear hK K hS hS2
                  have hS := hS3
                  clear hS3
                  try simp only [Act.put, List.setIfInBounds_toArray, List.set_cons_zero, List.set_cons_succ]
                  apply till_take0 (i := 5) (d := some 85)
                  case hi => exact rfl
                  case hd => exact rfl
                  case hchk => kernel_rfl
                  case hS => exact (fun _ => hS)
                  case hy => apply yields_want; kernel_rfl; intro w _; go_simp <;> with_reducible rfl
                  case hQ => exact fun _ _ _ h => h
                  simp only [Act.put, List.setIfInBounds_toArray, List.set_cons_zero, List.set_cons_succ]
                  apply till_take0 (i := 6) (d := some 86)
                  case hi => exact rfl
                  case hd => exact rfl
                  case hchk => kernel_rfl
                  case hS => exact (fun _ => hS)
                  case hy => apply yields_plain; exact rfl; intro w _; go_simp <;> with_reducible rfl
                  case hQ => exact fun _ _ _ h => h
                  simp only [Act.put, List.setIfInBounds_toArray, List.set_cons_zero, List.set_cons_succ]
                  apply till_take0 (i := 7) (d := some 87)
                  case hi => exact rfl
                  case hd => exact rfl
                  case hchk => kernel_rfl
                  case hS => exact (fun _ => hS)
                  case hy => apply yields_plain; exact rfl; intro w _; go_simp <;> with_reducible rfl
                  case hQ => exact fun _ _ _ h => h
                  simp only [Act.put, List.setIfInBounds_toArray, List.set_cons_zero, List.set_cons_succ]
                  apply till_take0 (i := 8) (d := some 88)
                  case hi => exact rfl
                  case hd => exact rfl
                  case hchk => kernel_rfl
                  case hS => exact (fun _ => hS)
                  case hy => apply yields_want; kernel_rfl; intro w _; go_simp <;> with_reducible rfl
                  case hQ => exact fun _ _ _ h => h
                  simp only [Act.put, List.setIfInBounds_toArray, List.set_cons_zero, List.set_cons_succ]
                  apply till_take0 (i := 10) (d := some 90)
                  case hi => exact rfl
                  case hd => exact rfl
                  case hchk => kernel_rfl
                  case hS => exact (fun _ => hS)
                  case hy => apply yields_want; kernel_rfl; intro w _; go_simp <;> with_reducible rfl
                  case hQ => exact fun _ _ _ h => h
                  simp only [Act.put, List.setIfInBounds_toArray, List.set_cons_zero, List.set_cons_succ]
                  apply till_take0 (i := 11) (d := some 91)
                  case hi => exact rfl
                  case hd => exact rfl
                  case hchk => kernel_rfl
                  case hS => exact (fun _ => hS)
                  case hy => apply yields_want; kernel_rfl; intro w _; go_simp <;> with_reducible rfl
                  case hQ => exact fun _ _ _ h => h
                  simp only [Act.put, List.setIfInBounds_toArray, List.set_cons_zero, List.set_cons_succ]
                  apply till_take0 (i := 12) (d := some 92)
                  case hi => exact rfl
                  case hd => exact rfl
                  case hchk => kernel_rfl
                  case hS => exact (fun _ => hS)
                  case hy => apply yields_want; kernel_rfl; intro w _; go_simp <;> with_reducible rfl
                  case hQ => exact fun _ _ _ h => h
                  simp only [Act.put, List.setIfInBounds_toArray, List.set_cons_zero, List.set_cons_succ]
                  apply till_take (i := 13) (d := some 93) [31, 16, 15, 14, 13]
                  case hi => exact rfl
                  case hd => exact rfl
                  case hchk => kernel_rfl
                  case hS => exact hS
                  case hy => apply yields_want; kernel_rfl; intro w hSw; (try dsimp only at hSw); go_split_ands; go_simp <;> with_reducible rfl
                  case hQ => exact fun _ _ _ h => h
                  simp only [Act.put, List.setIfInBounds_toArray, List.set_cons_zero, List.set_cons_succ]
                  refine till_all (rs := [9]) (by kernel_rfl) (by simp) (mem_more (till_opw (i := 9) (o := ⟨some 89, _, _, _, _, _⟩) rfl (by kernel_rfl) (fun K hK => ?_)) (mem_none))
                  go_simp
                  go_at_call 13
                  refine (HKY9.out _ hC0).mono ?_
                  rintro e w10 ⟨rfl, hc10⟩
                  have hC0 := hC0.trans hc10
                  refine hK.out _ _ (fun _ => ?_) (fun hS2 => ?_)
                  · exact HCE.out _ hC0
                  have hS3 := hS2 (by kernel_rfl)
                  clear hK K hS hS2
                  have hS := hS3
                  clear hS3
                  try simp only [Act.put, List.setIfInBounds_toArray, List.set_cons_zero, List.set_cons_succ]
                  apply till_take0 (i := 14) (d := some 94)
                  case hi => exact rfl
                  case hd => exact rfl
                  case hchk => kernel_rfl
                  case hS => exact (fun _ => hS)
                  case hy => apply yields_want; kernel_rfl; intro w _; go_simp <;> with_reducible rfl
                  case hQ => exact fun _ _ _ h => h
                  simp only [Act.put, List.setIfInBounds_toArray, List.set_cons_zero, List.set_cons_succ]
                  apply till_take0 (i := 15) (d := some 95)
                  case hi => exact rfl
                  case hd => exact rfl
                  case hchk => kernel_rfl
                  case hS => exact (fun _ => hS)
                  case hy => apply yields_plain; exact rfl; intro w _; go_simp <;> with_reducible rfl
                  case hQ => exact fun _ _ _ h => h
                  simp only [Act.put, List.setIfInBounds_toArray, List.set_cons_zero, List.set_cons_succ]
                  apply till_take0 (i := 16) (d := some 96)
                  case hi => exact rfl
                  case hd => exact rfl
                  case hchk => kernel_rfl
                  case hS => exact (fun _ => hS)
                  case hy => apply yields_plain; exact rfl; intro w _; go_simp <;> with_reducible rfl
                  case hQ => exact fun _ _ _ h => h
                  simp only [Act.put, List.setIfInBounds_toArray, List.set_cons_zero, List.set_cons_succ]
                  apply till_take0 (i := 17) (d := some 97)
                  case hi => exact rfl
                  case hd => exact rfl
                  case hchk => kernel_rfl
                  case hS => exact (fun _ => hS)
                  case hy => apply yields_want; kernel_rfl; intro w _; go_simp <;> with_reducible rfl
                  case hQ => exact fun _ _ _ h => h
                  simp only [Act.put, List.setIfInBounds_toArray, List.set_cons_zero, List.set_cons_succ]
                  apply till_take0 (i := 18) (d := some 98)
                  case hi => exact rfl
                  case hd => exact rfl
                  case hchk => kernel_rfl
                  case hS => exact (fun _ => hS)
                  case hy => apply yields_want; kernel_rfl; intro w _; go_simp <;> with_reducible rfl
                  case hQ => exact fun _ _ _ h => h
                  simp only [Act.put, List.setIfInBounds_toArray, List.set_cons_zero, List.set_cons_succ]
                  apply till_take0 (i := 19) (d := some 99)
                  case hi => exact rfl
                  case hd => exact rfl
                  case hchk => kernel_rfl
                  case hS => exact (fun _ => hS)
                  case hy => apply yields_want; kernel_rfl; intro w _; go_simp <;> with_reducible rfl
                  case hQ => exact fun _ _ _ h => h
                  simp only [Act.put, List.setIfInBounds_toArray, List.set_cons_zero, List.set_cons_succ]
                  apply till_take0 (i := 20) (d := some 100)
                  case hi => exact rfl
                  case hd => exact rfl
                  case hchk => kernel_rfl
                  case hS => exact (fun _ => hS)
                  case hy => exact yields_skip (by kernel_rfl)
                  case hQ => exact fun _ _ _ h => h
                  simp only [Act.put, List.setIfInBounds_toArray, List.set_cons_zero, List.set_cons_succ]
                  apply till_take0 (i := 21) (d := some 101)
                  case hi => exact rfl
                  case hd => exact rfl
                  case hchk => kernel_rfl
                  case hS => exact (fun _ => hS)
                  case hy => exact yields_skip (by kernel_rfl)
                  case hQ => exact fun _ _ _ h => h
                  simp only [Act.put, List.setIfInBounds_toArray, List.set_cons_zero, List.set_cons_succ]
                  apply till_take0 (i := 22) (d := some 102)
                  case hi => exact rfl
                  case hd => exact rfl
                  case hchk => kernel_rfl
                  case hS => exact (fun _ => hS)
                  case hy => exact yields_skip (by kernel_rfl)
                  case hQ => exact fun _ _ _ h => h
                  simp only [Act.put, List.setIfInBounds_toArray, List.set_cons_zero, List.set_cons_succ]
                  apply till_take0 (i := 23) (d := some 103)
                  case hi => exact rfl
                  case hd => exact rfl
                  case hchk => kernel_rfl
                  case hS => exact (fun _ => hS)
                  case hy => exact yields_skip (by kernel_rfl)
                  case hQ => exact fun _ _ _ h => h
                  simp only [Act.put, List.setIfInBounds_toArray, List.set_cons_zero, List.set_cons_succ]
                  apply till_take0 (i := 24) (d := some 104)
                  case hi => exact rfl
                  case hd => exact rfl
                  case hchk => kernel_rfl
                  case hS => exact (fun _ => hS)
                  case hy => exact yields_skip (by kernel_rfl)
                  case hQ => exact fun _ _ _ h => h
                  simp only [Act.put, List.setIfInBounds_toArray, List.set_cons_zero, List.set_cons_succ]
                  apply till_take0 (i := 25) (d := some 105)
                  case hi => exact rfl
                  case hd => exact rfl
                  case hchk => kernel_rfl
                  case hS => exact (fun _ => hS)
                  case hy => exact yields_skip (by kernel_rfl)
                  case hQ => exact fun _ _ _ h => h
                  simp only [Act.put, List.setIfInBounds_toArray, List.set_cons_zero, List.set_cons_succ]
                  apply till_take0 (i := 26) (d := some 106)
                  case hi => exact rfl
                  case hd => exact rfl
                  case hchk => kernel_rfl
                  case hS => exact (fun _ => hS)
                  case hy => exact yields_skip (by kernel_rfl)
                  case hQ => exact fun _ _ _ h => h
                  simp only [Act.put, List.setIfInBounds_toArray, List.set_cons_zero, List.set_cons_succ]
                  apply till_take0 (i := 27) (d := some 107)
                  case hi => exact rfl
                  case hd => exact rfl
                  case hchk => kernel_rfl
                  case hS => exact (fun _ => hS)
                  case hy => exact yields_skip (by kernel_rfl)
                  case hQ => exact fun _ _ _ h => h
                  simp only [Act.put, List.setIfInBounds_toArray, List.set_cons_zero, List.set_cons_succ]
                  apply till_take0 (i := 28) (d := some 108)
                  case hi => exact rfl
                  case hd => exact rfl
                  case hchk => kernel_rfl
                  case hS => exact (fun _ => hS)
                  case hy => exact yields_skip (by kernel_rfl)
                  case hQ => exact fun _ _ _ h => h
                  simp only [Act.put, List.setIfInBounds_toArray, List.set_cons_zero, List.set_cons_succ]
                  apply till_take0 (i := 29) (d := some 109)
                  case hi => exact rfl
                  case hd => exact rfl
                  case hchk => kernel_rfl
                  case hS => exact (fun _ => hS)
                  case hy => exact yields_skip (by kernel_rfl)
                  case hQ => exact fun _ _ _ h => h
                  simp only [Act.put, List.setIfInBounds_toArray, List.set_cons_zero, List.set_cons_succ]
                  apply till_take0 (i := 30) (d := some 110)
                  case hi => exact rfl
                  case hd => exact rfl
                  case hchk => kernel_rfl
                  case hS => exact (fun _ => hS)
                  case hy => apply yields_want; kernel_rfl; intro w _; go_simp <;> with_reducible rfl
                  case hQ => exact fun _ _ _ h => h
                  simp only [Act.put, List.setIfInBounds_toArray, List.set_cons_zero, List.set_cons_succ]
                  refine till_all (rs := [31]) (by kernel_rfl) (by simp) (mem_more (till_op (i := 31) (o := ⟨some 111, _, _, _, _, _⟩) rfl rfl (fun K hK => ?_)) (mem_none))
                  go_simp
                  refine hK.out _ _ (fun h => by cases (show true = false from h)) (fun _ => ?_)
                  clear hK K hS
                  try simp only [Act.put, List.setIfInBounds_toArray, List.set_cons_zero, List.set_cons_succ]
                  refine till_done (by kernel_rfl) ?_
                  skip
                rotate_left
                focus
                  have hz1 : 0 < q := hq0
                  have hz2 : (0 : Int) < (q : Int) := by omega
                  have hqk2 : q < k := by omega
                  obtain ⟨pq, hpq⟩ : ∃ pq, L[q - 1]? = some pq := ⟨_, List.getElem?_eq_getElem (by rw [HN.out]; omega)⟩
                  have hltq : Op.bytesLess pq.1.toList p.1.toList = true := by
                    have h1 := List.pairwise_iff_getElem.1 HPL.out.2 (q - 1) q (by simp [keysT, HN.out]; omega) (by simp [keysT, HN.out]; omega) (by omega)
                    have hpL : L[q]? = some p := by have := HP9.out; rw [HS.out.list, Int.toNat_natCast] at this; exact this
                    obtain ⟨g1, g2⟩ := List.getElem?_eq_some_iff.1 hpq
                    obtain ⟨g3, g4⟩ := List.getElem?_eq_some_iff.1 hpL
                    simp only [keysT, List.getElem_map, g2, g4] at h1
                    exact h1
                  have hkq1 : (strs ((keysT L).take k))[q - 1]? = some (.string pq.1) := by
                    rw [List.take_of_length_le (by simp [keysT, HN.out])]; simp [strs, keysT, hpq]
                  have HCE2 : Hid (∀ W, Chg (fun _ => False) wr W → W.cell? ⟨gl, q, none⟩ = some (.string p.1) ∧ W.cell? ⟨gl, q - 1, none⟩ = some (.string pq.1)) := fun W hW => ⟨HCE.out W hW, (HO9.out.chg hW fun _ _ h => h).cell hkq1⟩
                  have hq1 : IntKind.i64.wrap ((q : Int) - 1) = (q : Int) - 1 := by rw [IntKind.wrap_i64]; omega
                  have hq3 : (1 : Int) ≤ (q : Int) := by omega
                  have hq4 : (0 : Int) ≤ (q : Int) - 1 := by omega
                  have hq5 : (q : Int) - 1 < (k : Int) := by omega
                  have hq2 : ((q : Int) - 1).toNat = q - 1 := by omega
                  clear hq0 hpq hkq1
                  go_wp2_with fail
                  obtain ⟨w9, hw9, hC9⟩ := drew_named wr
                  have hC0 : Chg (fun _ => False) wr w9 := hC9
                  have hS := HCE2.out _ hC0
                  refine wp_region_till (s := 31) (S := (fun W => W.cell? ⟨gl, q, none⟩ = some (.string p.1) ∧ W.cell? ⟨gl, q - 1, none⟩ = some (.string pq.1))) (by kernel_rfl) ?_
                  rw [hw9]
                  clear hw9 hC9
                  apply till_take0 (i := 0) (d := some 80)
                  case hi => exact rfl
                  case hd => exact rfl
                  case hchk => kernel_rfl
                  case hS => exact (fun _ => hS)
                  case hy => apply yields_plain; exact rfl; intro w _; go_simp <;> with_reducible rfl
                  case hQ => exact fun _ _ _ h => h
                  simp only [Act.put, List.setIfInBounds_toArray, List.set_cons_zero, List.set_cons_succ]
                  apply till_take0 (i := 1) (d := some 81)
                  case hi => exact rfl
                  case hd => exact rfl
                  case hchk => kernel_rfl
                  case hS => exact (fun _ => hS)
                  case hy => apply yields_plain; exact rfl; intro w _; go_simp <;> with_reducible rfl
                  case hQ => exact fun _ _ _ h => h
                  simp only [Act.put, List.setIfInBounds_toArray, List.set_cons_zero, List.set_cons_succ]
                  apply till_take0 (i := 2) (d := some 82)
                  case hi => exact rfl
                  case hd => exact rfl
                  case hchk => kernel_rfl
                  case hS => exact (fun _ => hS)
                  case hy => apply yields_plain; exact rfl; intro w _; go_simp <;> with_reducible rfl
                  case hQ => exact fun _ _ _ h => h
                  simp only [Act.put, List.setIfInBounds_toArray, List.set_cons_zero, List.set_cons_succ]
                  apply till_take0 (i := 3) (d := some 83)
                  case hi => exact rfl
                  case hd => exact rfl
                  case hchk => kernel_rfl
                  case hS => exact (fun _ => hS)
                  case hy => apply yields_want; kernel_rfl; intro w _; go_simp <;> with_reducible rfl
                  case hQ => exact fun _ _ _ h => h
                  simp only [Act.put, List.setIfInBounds_toArray, List.set_cons_zero, List.set_cons_succ]
                  refine till_all (rs := [4]) (by kernel_rfl) (by simp) (mem_more (till_opw (i := 4) (o := ⟨some 84, _, _, _, _, _⟩) rfl (by kernel_rfl) (fun K hK => ?_)) (mem_none))
                  go_simp
                  go_at_call 12
                  refine (HOK9.out _ hC0).mono ?_
                  rintro e w' ⟨rfl, rfl⟩
                  refine hK.out _ _ (fun _ => ?_) (fun hS2 => ?_)
                  · exact HCE2.out _ hC0
                  have hS3 := hS2 (by kernel_rfl)
                  clear hK K hS hS2
                  have hS := hS3
                  clear hS3
                  try simp only [Act.put, List.setIfInBounds_toArray, List.set_cons_zero, List.set_cons_succ]
                  apply till_take0 (i := 5) (d := some 85)
                  case hi => exact rfl
                  case hd => exact rfl
                  case hchk => kernel_rfl
                  case hS => exact (fun _ => hS)
                  case hy => apply yields_want; kernel_rfl; intro w _; go_simp <;> with_reducible rfl
                  case hQ => exact fun _ _ _ h => h
                  simp only [Act.put, List.setIfInBounds_toArray, List.set_cons_zero, List.set_cons_succ]
                  apply till_take0 (i := 6) (d := some 86)
                  case hi => exact rfl
                  case hd => exact rfl
                  case hchk => kernel_rfl
                  case hS => exact (fun _ => hS)
                  case hy => apply yields_plain; exact rfl; intro w _; go_simp <;> with_reducible rfl
                  case hQ => exact fun _ _ _ h => h
                  simp only [Act.put, List.setIfInBounds_toArray, List.set_cons_zero, List.set_cons_succ]
                  apply till_take0 (i := 7) (d := some 87)
                  case hi => exact rfl
                  case hd => exact rfl
                  case hchk => kernel_rfl
                  case hS => exact (fun _ => hS)
                  case hy => apply yields_plain; exact rfl; intro w _; go_simp <;> with_reducible rfl
                  case hQ => exact fun _ _ _ h => h
                  simp only [Act.put, List.setIfInBounds_toArray, List.set_cons_zero, List.set_cons_succ]
                  apply till_take0 (i := 8) (d := some 88)
                  case hi => exact rfl
                  case hd => exact rfl
                  case hchk => kernel_rfl
                  case hS => exact (fun _ => hS)
                  case hy => apply yields_want; kernel_rfl; intro w _; go_simp <;> with_reducible rfl
                  case hQ => exact fun _ _ _ h => h
                  simp only [Act.put, List.setIfInBounds_toArray, List.set_cons_zero, List.set_cons_succ]
                  apply till_take0 (i := 10) (d := some 90)
                  case hi => exact rfl
                  case hd => exact rfl
                  case hchk => kernel_rfl
                  case hS => exact (fun _ => hS)
                  case hy => apply yields_want; kernel_rfl; intro w _; go_simp <;> with_reducible rfl
                  case hQ => exact fun _ _ _ h => h
                  simp only [Act.put, List.setIfInBounds_toArray, List.set_cons_zero, List.set_cons_succ]
                  apply till_take0 (i := 11) (d := some 91)
                  case hi => exact rfl
                  case hd => exact rfl
                  case hchk => kernel_rfl
                  case hS => exact (fun _ => hS)
                  case hy => apply yields_want; kernel_rfl; intro w _; go_simp <;> with_reducible rfl
                  case hQ => exact fun _ _ _ h => h
                  simp only [Act.put, List.setIfInBounds_toArray, List.set_cons_zero, List.set_cons_succ]
                  apply till_take0 (i := 12) (d := some 92)
                  case hi => exact rfl
                  case hd => exact rfl
                  case hchk => kernel_rfl
                  case hS => exact (fun _ => hS)
                  case hy => apply yields_want; kernel_rfl; intro w _; go_simp <;> with_reducible rfl
                  case hQ => exact fun _ _ _ h => h
                  simp only [Act.put, List.setIfInBounds_toArray, List.set_cons_zero, List.set_cons_succ]
                  apply till_take (i := 13) (d := some 93) [31, 16, 15, 14, 13]
                  case hi => exact rfl
                  case hd => exact rfl
                  case hchk => kernel_rfl
                  case hS => exact hS
                  case hy => apply yields_want; kernel_rfl; intro w hSw; (try dsimp only at hSw); go_split_ands; go_simp <;> with_reducible rfl
                  case hQ => exact fun _ _ _ h => h
                  simp only [Act.put, List.setIfInBounds_toArray, List.set_cons_zero, List.set_cons_succ]
                  refine till_all (rs := [9]) (by kernel_rfl) (by simp) (mem_more (till_opw (i := 9) (o := ⟨some 89, _, _, _, _, _⟩) rfl (by kernel_rfl) (fun K hK => ?_)) (mem_none))
                  go_simp
                  go_at_call 13
                  refine (HKY9.out _ hC0).mono ?_
                  rintro e w10 ⟨rfl, hc10⟩
                  have hC0 := hC0.trans hc10
                  refine hK.out _ _ (fun _ => ?_) (fun hS2 => ?_)
                  · exact HCE2.out _ hC0
                  have hS3 := hS2 (by kernel_rfl)
                  clear hK K hS hS2
                  have hS := hS3
                  clear hS3
                  try simp only [Act.put, List.setIfInBounds_toArray, List.set_cons_zero, List.set_cons_succ]
                  apply till_take0 (i := 14) (d := some 94)
                  case hi => exact rfl
                  case hd => exact rfl
                  case hchk => kernel_rfl
                  case hS => exact (fun _ => hS)
                  case hy => apply yields_want; kernel_rfl; intro w _; go_simp <;> with_reducible rfl
                  case hQ => exact fun _ _ _ h => h
                  simp only [Act.put, List.setIfInBounds_toArray, List.set_cons_zero, List.set_cons_succ]
                  apply till_take0 (i := 15) (d := some 95)
                  case hi => exact rfl
                  case hd => exact rfl
                  case hchk => kernel_rfl
                  case hS => exact (fun _ => hS)
                  case hy => apply yields_plain; exact rfl; intro w _; go_simp <;> with_reducible rfl
                  case hQ => exact fun _ _ _ h => h
                  simp only [Act.put, List.setIfInBounds_toArray, List.set_cons_zero, List.set_cons_succ]
                  apply till_take0 (i := 16) (d := some 96)
                  case hi => exact rfl
                  case hd => exact rfl
                  case hchk => kernel_rfl
                  case hS => exact (fun _ => hS)
                  case hy => apply yields_plain; exact rfl; intro w _; go_simp <;> with_reducible rfl
                  case hQ => exact fun _ _ _ h => h
                  simp only [Act.put, List.setIfInBounds_toArray, List.set_cons_zero, List.set_cons_succ]
                  apply till_take0 (i := 17) (d := some 97)
                  case hi => exact rfl
                  case hd => exact rfl
                  case hchk => kernel_rfl
                  case hS => exact (fun _ => hS)
                  case hy => apply yields_want; kernel_rfl; intro w _; go_simp <;> with_reducible rfl
                  case hQ => exact fun _ _ _ h => h
                  simp only [Act.put, List.setIfInBounds_toArray, List.set_cons_zero, List.set_cons_succ]
                  apply till_take0 (i := 18) (d := some 98)
                  case hi => exact rfl
                  case hd => exact rfl
                  case hchk => kernel_rfl
                  case hS => exact (fun _ => hS)
                  case hy => apply yields_want; kernel_rfl; intro w _; go_simp <;> with_reducible rfl
                  case hQ => exact fun _ _ _ h => h
                  simp only [Act.put, List.setIfInBounds_toArray, List.set_cons_zero, List.set_cons_succ]
                  apply till_take0 (i := 19) (d := some 99)
                  case hi => exact rfl
                  case hd => exact rfl
                  case hchk => kernel_rfl
                  case hS => exact (fun _ => hS)
                  case hy => apply yields_want; kernel_rfl; intro w _; go_simp <;> with_reducible rfl
                  case hQ => exact fun _ _ _ h => h
                  simp only [Act.put, List.setIfInBounds_toArray, List.set_cons_zero, List.set_cons_succ]
                  apply till_take0 (i := 20) (d := some 100)
                  case hi => exact rfl
                  case hd => exact rfl
                  case hchk => kernel_rfl
                  case hS => exact (fun _ => hS)
                  case hy => apply yields_want; kernel_rfl; intro w _; go_simp <;> with_reducible rfl
                  case hQ => exact fun _ _ _ h => h
                  simp only [Act.put, List.setIfInBounds_toArray, List.set_cons_zero, List.set_cons_succ]
                  apply till_take0 (i := 21) (d := some 101)
                  case hi => exact rfl
                  case hd => exact rfl
                  case hchk => kernel_rfl
                  case hS => exact (fun _ => hS)
                  case hy => apply yields_want; kernel_rfl; intro w _; go_simp <;> with_reducible rfl
                  case hQ => exact fun _ _ _ h => h
                  simp only [Act.put, List.setIfInBounds_toArray, List.set_cons_zero, List.set_cons_succ]
                  apply till_take0 (i := 22) (d := some 102)
                  case hi => exact rfl
                  case hd => exact rfl
                  case hchk => kernel_rfl
                  case hS => exact (fun _ => hS)
                  case hy => apply yields_want; kernel_rfl; intro w _; go_simp <;> with_reducible rfl
                  case hQ => exact fun _ _ _ h => h
                  simp only [Act.put, List.setIfInBounds_toArray, List.set_cons_zero, List.set_cons_succ]
                  apply till_take0 (i := 23) (d := some 103)
                  case hi => exact rfl
                  case hd => exact rfl
                  case hchk => kernel_rfl
                  case hS => exact (fun _ => hS)
                  case hy => apply yields_want; kernel_rfl; intro w _; go_simp <;> with_reducible rfl
                  case hQ => exact fun _ _ _ h => h
                  simp only [Act.put, List.setIfInBounds_toArray, List.set_cons_zero, List.set_cons_succ]
                  apply till_take0 (i := 25) (d := some 105)
                  case hi => exact rfl
                  case hd => exact rfl
                  case hchk => kernel_rfl
                  case hS => exact (fun _ => hS)
                  case hy => apply yields_want; kernel_rfl; intro w _; go_simp <;> with_reducible rfl
                  case hQ => exact fun _ _ _ h => h
                  simp only [Act.put, List.setIfInBounds_toArray, List.set_cons_zero, List.set_cons_succ]
                  apply till_take0 (i := 26) (d := some 106)
                  case hi => exact rfl
                  case hd => exact rfl
                  case hchk => kernel_rfl
                  case hS => exact (fun _ => hS)
                  case hy => apply yields_want; kernel_rfl; intro w _; go_simp <;> with_reducible rfl
                  case hQ => exact fun _ _ _ h => h
                  simp only [Act.put, List.setIfInBounds_toArray, List.set_cons_zero, List.set_cons_succ]
                  apply till_take0 (i := 27) (d := some 107)
                  case hi => exact rfl
                  case hd => exact rfl
                  case hchk => kernel_rfl
                  case hS => exact (fun _ => hS)
                  case hy => apply yields_want; kernel_rfl; intro w _; go_simp <;> with_reducible rfl
                  case hQ => exact fun _ _ _ h => h
                  simp only [Act.put, List.setIfInBounds_toArray, List.set_cons_zero, List.set_cons_succ]
                  apply till_take (i := 24) (d := some 104) [31, 30, 29, 24]
                  case hi => exact rfl
                  case hd => exact rfl
                  case hchk => kernel_rfl
                  case hS => exact hS
                  case hy => apply yields_want; kernel_rfl; intro w hSw; (try dsimp only at hSw); go_split_ands; go_simp <;> with_reducible rfl
                  case hQ => exact fun _ _ _ h => h
                  simp only [Act.put, List.setIfInBounds_toArray, List.set_cons_zero, List.set_cons_succ]
                  apply till_take (i := 28) (d := some 108) [31, 30, 29, 28]
                  case hi => exact rfl
                  case hd => exact rfl
                  case hchk => kernel_rfl
                  case hS => exact hS
                  case hy => apply yields_want; kernel_rfl; intro w hSw; (try dsimp only at hSw); go_split_ands; go_simp <;> with_reducible rfl
                  case hQ => exact fun _ _ _ h => h
                  simp only [Act.put, List.setIfInBounds_toArray, List.set_cons_zero, List.set_cons_succ]
                  apply till_take0 (i := 29) (d := some 109)
                  case hi => exact rfl
                  case hd => exact rfl
                  case hchk => kernel_rfl
                  case hS => exact (fun _ => hS)
                  case hy => apply yields_want; kernel_rfl; intro w _; go_simp <;> with_reducible rfl
                  case hQ => exact fun _ _ _ h => h
                  simp only [Act.put, List.setIfInBounds_toArray, List.set_cons_zero, List.set_cons_succ]
                  apply till_take0 (i := 30) (d := some 110)
                  case hi => exact rfl
                  case hd => exact rfl
                  case hchk => kernel_rfl
                  case hS => exact (fun _ => hS)
                  case hy => apply yields_want; kernel_rfl; intro w _; go_simp <;> with_reducible rfl
                  case hQ => exact fun _ _ _ h => h
                  simp only [Act.put, List.setIfInBounds_toArray, List.set_cons_zero, List.set_cons_succ]
                  refine till_all (rs := [31]) (by kernel_rfl) (by simp) (mem_more (till_op (i := 31) (o := ⟨some 111, _, _, _, _, _⟩) rfl rfl (fun K hK => ?_)) (mem_none))
                  go_simp
                  refine hK.out _ _ (fun h => by cases (show true = false from h)) (fun _ => ?_)
                  clear hK K hS
                  try simp only [Act.put, List.setIfInBounds_toArray, List.set_cons_zero, List.set_cons_succ]
                  refine till_done (by kernel_rfl) ?_
                  clear hq1 hq2 hq3 hq4 hq5 hltq HCE2
                all_goals
                  have hk10 : w10.cell? ⟨gl, q, none⟩ = some (.string p.1) := HCE.out _ hC0
                  have hV10 := HV9.out.chg hC0 fun _ _ h => h
                  have hB10 := HB3.out.chg (HCH9.out.trans hC0) id
                  have HGT := Lib.hid (get_calls p.1 hV10 HS.out.sound hB10)
                  rw [HS.out.list] at HGT
                  unfold ptr at HGT
                  have HC0 := Lib.hid hC0
                  clear hC0 hV10 hB10 hc10
                  go_wp2_with fail
                  refine HGT.out.mono ?_
                  rintro e w11 ⟨r, rfl, hr1, -, hc11⟩
                  have hhas : hasL p.1 L = true := by unfold hasL; rw [List.any_eq_true]; exact ⟨p, HPM.out, by simp⟩
                  rw [hhas] at hr1 ⊢
                  have hmem := hr1 rfl
                  have hrp : r = p.2 := row_one HPL.out.2 hmem HPM.out
                  obtain ⟨jr, hjr, hpe⟩ := HROW.out _ HPM.out
                  have hp2 : p.2 = (jr : Int) := by rw [hpe]
                  have hp1 : Sx jr = p.1 := by rw [hpe]
                  rw [hrp, hp2]
                  have hcA := HC0.out.trans hc11
                  have hCw11 : Chg (fun _ => False) w w11 := ((HCH.out.trans HCH2.out).trans HCH9.out).trans hcA
                  obtain ⟨aA, hA', hcell⟩ := HA.out (by omega)
                  have hka : w11.cell? (aA.add jr) = some (.string p.1) := by
                    have h := hcell jr (by omega)
                    rw [hCw11.cell (World.block_lt_of_cell? _ _ h) id, h, hp1]
                  have hkb : w11.cell? ⟨gl, q, none⟩ = some (.string p.1) := HCE.out _ hcA
                  have hjn : (jr : Int) < (n : Int) := by omega
                  subst hA'
                  have hwr : w11.cell? (aA.add jr) = some (.string p.1) := hka
                  have HRW : Hid (∀ W, Chg (fun _ => False) w11 W → Calls Try.prog 18 #[.pointer (some ⟨c1, 0, none⟩)] W fun e w' => e = .returned (.int .i64 jr) ∧ Chg (fun _ => False) W w') := fun W hW => by
                    have h1 := row_calls (HV9.out.chg (hcA.trans hW) fun _ _ h => h) (HC9.out.chg (hcA.trans hW) fun _ _ h => h) HG9.out HP9.out
                    rw [hp2] at h1; exact h1
                  have HKB : Hid (∀ W, Chg (fun _ => False) w11 W → W.cell? (aA.add jr) = some (.string p.1) ∧ W.cell? ⟨gl, q, none⟩ = some (.string p.1)) := fun W hW =>
                    ⟨by rw [hW.cell (World.block_lt_of_cell? _ _ hka) id]; exact hka, HCE.out _ (hcA.trans hW)⟩
                  have HCA := Lib.hid hcA
                  have hji : jr < i := hjr
                  clear hr1 hmem hrp hpe hp2 hp1 hcA hCw11 hcell hka hkb hhas hc11 hjr hwr
                  go_wp2_with fail
                  obtain ⟨w12, hw12, hC12⟩ := drew_named w11
                  have hC0 : Chg (fun _ => False) w11 w12 := hC12
                  have hS := HKB.out _ hC0
                  refine wp_region_till (s := 18) (S := (fun W => W.cell? (aA.add jr) = some (.string p.1) ∧ W.cell? ⟨gl, q, none⟩ = some (.string p.1))) (by kernel_rfl) ?_
                  rw [hw12]
                  clear hw12 hC12
                  apply till_take0 (i := 0) (d := some 121)
                  case hi => exact rfl
                  case hd => exact rfl
                  case hchk => kernel_rfl
                  case hS => exact (fun _ => hS)
                  case hy => apply yields_plain; exact rfl; intro w _; go_simp <;> with_reducible rfl
                  case hQ => exact fun _ _ _ h => h
                  simp only [Act.put, List.setIfInBounds_toArray, List.set_cons_zero, List.set_cons_succ]
                  apply till_take0 (i := 1) (d := some 122)
                  case hi => exact rfl
                  case hd => exact rfl
                  case hchk => kernel_rfl
                  case hS => exact (fun _ => hS)
                  case hy => apply yields_plain; exact rfl; intro w _; go_simp <;> with_reducible rfl
                  case hQ => exact fun _ _ _ h => h
                  simp only [Act.put, List.setIfInBounds_toArray, List.set_cons_zero, List.set_cons_succ]
                  apply till_take0 (i := 2) (d := some 123)
                  case hi => exact rfl
                  case hd => exact rfl
                  case hchk => kernel_rfl
                  case hS => exact (fun _ => hS)
                  case hy => apply yields_plain; exact rfl; intro w _; go_simp <;> with_reducible rfl
                  case hQ => exact fun _ _ _ h => h
                  simp only [Act.put, List.setIfInBounds_toArray, List.set_cons_zero, List.set_cons_succ]
                  apply till_take0 (i := 3) (d := some 124)
                  case hi => exact rfl
                  case hd => exact rfl
                  case hchk => kernel_rfl
                  case hS => exact (fun _ => hS)
                  case hy => apply yields_want; kernel_rfl; intro w _; go_simp <;> with_reducible rfl
                  case hQ => exact fun _ _ _ h => h
                  simp only [Act.put, List.setIfInBounds_toArray, List.set_cons_zero, List.set_cons_succ]
                  apply till_take0 (i := 4) (d := some 125)
                  case hi => exact rfl
                  case hd => exact rfl
                  case hchk => kernel_rfl
                  case hS => exact (fun _ => hS)
                  case hy => apply yields_want; kernel_rfl; intro w _; go_simp <;> with_reducible rfl
                  case hQ => exact fun _ _ _ h => h
                  simp only [Act.put, List.setIfInBounds_toArray, List.set_cons_zero, List.set_cons_succ]
                  apply till_take0 (i := 5) (d := some 126)
                  case hi => exact rfl
                  case hd => exact rfl
                  case hchk => kernel_rfl
                  case hS => exact (fun _ => hS)
                  case hy => apply yields_want; kernel_rfl; intro w _; go_simp <;> with_reducible rfl
                  case hQ => exact fun _ _ _ h => h
                  simp only [Act.put, List.setIfInBounds_toArray, List.set_cons_zero, List.set_cons_succ]
                  apply till_take0 (i := 7) (d := some 128)
                  case hi => exact rfl
                  case hd => exact rfl
                  case hchk => kernel_rfl
                  case hS => exact (fun _ => hS)
                  case hy => apply yields_want; kernel_rfl; intro w _; go_simp <;> with_reducible rfl
                  case hQ => exact fun _ _ _ h => h
                  simp only [Act.put, List.setIfInBounds_toArray, List.set_cons_zero, List.set_cons_succ]
                  apply till_take0 (i := 8) (d := some 129)
                  case hi => exact rfl
                  case hd => exact rfl
                  case hchk => kernel_rfl
                  case hS => exact (fun _ => hS)
                  case hy => apply yields_want; kernel_rfl; intro w _; go_simp <;> with_reducible rfl
                  case hQ => exact fun _ _ _ h => h
                  simp only [Act.put, List.setIfInBounds_toArray, List.set_cons_zero, List.set_cons_succ]
                  apply till_take0 (i := 9) (d := some 130)
                  case hi => exact rfl
                  case hd => exact rfl
                  case hchk => kernel_rfl
                  case hS => exact (fun _ => hS)
                  case hy => apply yields_want; kernel_rfl; intro w _; go_simp <;> with_reducible rfl
                  case hQ => exact fun _ _ _ h => h
                  simp only [Act.put, List.setIfInBounds_toArray, List.set_cons_zero, List.set_cons_succ]
                  apply till_take (i := 6) (d := some 127) [18, 13, 12, 11, 6]
                  case hi => exact rfl
                  case hd => exact rfl
                  case hchk => kernel_rfl
                  case hS => exact hS
                  case hy => apply yields_want; kernel_rfl; intro w hSw; (try dsimp only at hSw); go_split_ands; go_simp <;> with_reducible rfl
                  case hQ => exact fun _ _ _ h => h
                  simp only [Act.put, List.setIfInBounds_toArray, List.set_cons_zero, List.set_cons_succ]
                  apply till_take (i := 10) (d := some 131) [18, 13, 12, 11, 10]
                  case hi => exact rfl
                  case hd => exact rfl
                  case hchk => kernel_rfl
                  case hS => exact hS
                  case hy => apply yields_want; kernel_rfl; intro w hSw; (try dsimp only at hSw); go_split_ands; go_simp <;> with_reducible rfl
                  case hQ => exact fun _ _ _ h => h
                  simp only [Act.put, List.setIfInBounds_toArray, List.set_cons_zero, List.set_cons_succ]
                  apply till_take0 (i := 11) (d := some 132)
                  case hi => exact rfl
                  case hd => exact rfl
                  case hchk => kernel_rfl
                  case hS => exact (fun _ => hS)
                  case hy => apply yields_want; kernel_rfl; intro w _; go_simp <;> with_reducible rfl
                  case hQ => exact fun _ _ _ h => h
                  simp only [Act.put, List.setIfInBounds_toArray, List.set_cons_zero, List.set_cons_succ]
                  apply till_take0 (i := 12) (d := some 133)
                  case hi => exact rfl
                  case hd => exact rfl
                  case hchk => kernel_rfl
                  case hS => exact (fun _ => hS)
                  case hy => apply yields_plain; exact rfl; intro w _; go_simp <;> with_reducible rfl
                  case hQ => exact fun _ _ _ h => h
                  simp only [Act.put, List.setIfInBounds_toArray, List.set_cons_zero, List.set_cons_succ]
                  apply till_take0 (i := 13) (d := some 134)
                  case hi => exact rfl
                  case hd => exact rfl
                  case hchk => kernel_rfl
                  case hS => exact (fun _ => hS)
                  case hy => apply yields_plain; exact rfl; intro w _; go_simp <;> with_reducible rfl
                  case hQ => exact fun _ _ _ h => h
                  simp only [Act.put, List.setIfInBounds_toArray, List.set_cons_zero, List.set_cons_succ]
                  apply till_take0 (i := 14) (d := some 135)
                  case hi => exact rfl
                  case hd => exact rfl
                  case hchk => kernel_rfl
                  case hS => exact (fun _ => hS)
                  case hy => apply yields_want; kernel_rfl; intro w _; go_simp <;> with_reducible rfl
                  case hQ => exact fun _ _ _ h => h
                  simp only [Act.put, List.setIfInBounds_toArray, List.set_cons_zero, List.set_cons_succ]
                  apply till_take0 (i := 16) (d := some 137)
                  case hi => exact rfl
                  case hd => exact rfl
                  case hchk => kernel_rfl
                  case hS => exact (fun _ => hS)
                  case hy => apply yields_want; kernel_rfl; intro w _; go_simp <;> with_reducible rfl
                  case hQ => exact fun _ _ _ h => h
                  simp only [Act.put, List.setIfInBounds_toArray, List.set_cons_zero, List.set_cons_succ]
                  refine till_all (rs := [15]) (by kernel_rfl) (by simp) (mem_more (till_opw (i := 15) (o := ⟨some 136, _, _, _, _, _⟩) rfl (by kernel_rfl) (fun K hK => ?_)) (mem_none))
                  go_simp
                  go_at_call 18
                  refine (HRW.out _ hC0).mono ?_
                  rintro e w13 ⟨rfl, hc13⟩
                  have hC0 := hC0.trans hc13
                  refine hK.out _ _ (fun _ => ?_) (fun hS2 => ?_)
                  · exact HKB.out _ hC0
                  have hS3 := hS2 (by kernel_rfl)
                  clear hK K hS hS2
                  have hS := hS3
                  clear hS3
                  try simp only [Act.put, List.setIfInBounds_toArray, List.set_cons_zero, List.set_cons_succ]
                  apply till_take0 (i := 17) (d := some 138)
                  case hi => exact rfl
                  case hd => exact rfl
                  case hchk => kernel_rfl
                  case hS => exact (fun _ => hS)
                  case hy => apply yields_want; kernel_rfl; intro w _; go_simp <;> with_reducible rfl
                  case hQ => exact fun _ _ _ h => h
                  simp only [Act.put, List.setIfInBounds_toArray, List.set_cons_zero, List.set_cons_succ]
                  refine till_all (rs := [18]) (by kernel_rfl) (by simp) (mem_more (till_op (i := 18) (o := ⟨some 139, _, _, _, _, _⟩) rfl rfl (fun K hK => ?_)) (mem_none))
                  go_simp
                  refine hK.out _ _ (fun h => by cases (show true = false from h)) (fun _ => ?_)
                  clear hK K hS
                  try simp only [Act.put, List.setIfInBounds_toArray, List.set_cons_zero, List.set_cons_succ]
                  refine till_done (by kernel_rfl) ?_
                  skip
                  have hC13 := HCA.out.trans hC0
                  have HPV := Lib.hid (prev_calls (HV9.out.chg hC13 fun _ _ h => h) (HC9.out.chg hC13 fun _ _ h => h) HG9.out (fun x hx hS => by have h1 := HGE9.out x hx; have h2 := HS.out.view.lt x hS; have h3 := HCH2.out.size; omega))
                  first
                    | rw [show decide (0 ≤ (q : Int) - 1) = false from decide_eq_false (by omega)] at HPV
                    | rw [show decide (0 ≤ (q : Int) - 1) = true from decide_eq_true (by omega)] at HPV
                  unfold ptr at HPV
                  have HC13 := Lib.hid hC13
                  clear hC0 hc13 hC13 HKB
                  go_wp2_with fail
                  refine HPV.out.mono ?_
                  rintro e w14 ⟨rfl, ps14, fpc14, hc14, hg14, hs14, hch14⟩
                  have HCX := Lib.hid hc14
                  have HG14 : Hid (if 0 < q then Goes 0 d u ps14 ((q : Int) - 1) else ps14 = []) := by
                    by_cases h : 0 < q
                    · rw [if_pos ⟨by omega, by rw [HS.out.list, HN.out]; omega⟩] at hg14; rw [if_pos h]; exact hg14
                    · rw [if_neg (fun hh => h (by omega))] at hg14; rw [if_neg h]; exact hg14
                  have HGE14 : Hid (∀ x ∈ fpc14, w3.heap.size ≤ x) := fun x hx => (hs14 x hx).elim (HGE9.out x) (fun h => by have h1 := HCH9.out.size; have h2 := HC13.out.size; omega)
                  have HCH14 := Lib.hid ((HCH9.out.trans HC13.out).comp hch14 fun x hx e => by have h1 := HGE9.out x e; omega)
                  have hwq : IntKind.i64.wrap ((q : Int) - 1) = (q : Int) - 1 := by rw [IntKind.wrap_i64]; omega
                  clear hc14 hg14 hs14 hch14
                  go_wp2_with fail
                  clear hwq
                  go_roundg q
                  case measure => omega
                  case rel => exact ⟨q, ps14, fpc14, rfl, by omega, Nat.le_refl _, HCX.out, HG14.out, HGE14.out, HCH14.out⟩
end Go.Proofs.Ythndplpbnfihdaa
