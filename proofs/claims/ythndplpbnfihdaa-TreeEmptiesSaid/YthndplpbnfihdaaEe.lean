/-
  TreeEmpties, walked. Conditions: none.
-/
import Derived.Test.YthndplpbnfihdaaEd
import Derived.Test.YthndplpbnfihdaaFo
import Derived.Test.YthndplpbnfihdaaAw
import Derived.Laws.MakeOwn
set_option linter.unusedVariables false
set_option linter.unusedSimpArgs false
namespace Go.Proofs.Ythndplpbnfihdaa
open Go.RowKit

theorem and_seven (a : Int) : ∃ m : Nat, m ≤ 7 ∧ bits .and .i64 a 7 = (m : Int) := by
  refine ⟨(BitVec.ofInt 64 a &&& BitVec.ofInt 64 7).toNat, ?_, ?_⟩
  · rw [BitVec.toNat_and]
    exact Nat.and_le_right
  · have h : (BitVec.ofInt 64 a &&& BitVec.ofInt 64 7).toNat ≤ 7 := by rw [BitVec.toNat_and]; exact Nat.and_le_right
    show IntKind.i64.wrap ((BitVec.ofInt 64 a &&& BitVec.ofInt 64 7).toNat : Int) = _
    rw [IntKind.wrap_i64]
    omega

theorem count_of (f : Int) : ∃ k : Nat, 1 ≤ k ∧ k ≤ 200 ∧ wrap64 ((bits .and .i64 f 65535).tmod 200 + 1) = (k : Int) := by
  obtain ⟨m, hm, hb⟩ : ∃ m : Nat, m ≤ 65535 ∧ bits .and .i64 f 65535 = (m : Int) := by
    refine ⟨(BitVec.ofInt 64 f &&& BitVec.ofInt 64 65535).toNat, ?_, ?_⟩
    · rw [BitVec.toNat_and]
      exact Nat.and_le_right
    · have h : (BitVec.ofInt 64 f &&& BitVec.ofInt 64 65535).toNat ≤ 65535 := by rw [BitVec.toNat_and]; exact Nat.and_le_right
      show IntKind.i64.wrap ((BitVec.ofInt 64 f &&& BitVec.ofInt 64 65535).toNat : Int) = _
      rw [IntKind.wrap_i64]
      omega
  refine ⟨m % 200 + 1, by omega, by omega, ?_⟩
  rw [hb, show ((m : Int)).tmod 200 = ((m % 200 : Nat) : Int) from rfl]
  rw [IntWalk.wrap64_in] <;> omega

def stepsOf : List Int := [1, 3, 7, 11, 13, 17, 19, 23]
theorem step_of (m : Nat) (h : m ≤ 7) : ∃ p : Nat, p ≤ 23 ∧ (#[.int .i64 1, .int .i64 3, .int .i64 7, .int .i64 11, .int .i64 13, .int .i64 17, .int .i64 19, .int .i64 23] : Array Value)[m]? = some (.int .i64 p) := by
  rcases m with _ | _ | _ | _ | _ | _ | _ | _ | m
  · exact ⟨1, by omega, rfl⟩
  · exact ⟨3, by omega, rfl⟩
  · exact ⟨7, by omega, rfl⟩
  · exact ⟨11, by omega, rfl⟩
  · exact ⟨13, by omega, rfl⟩
  · exact ⟨17, by omega, rfl⟩
  · exact ⟨19, by omega, rfl⟩
  · exact ⟨23, by omega, rfl⟩
  · omega

theorem run_make_bools (n : Nat) (hn : n ≤ 1000000) (W : World) : (Instr.makeSlice 41 (.int .i64 (n : Int)) (.int .i64 (n : Int))).run Try.prog W =
    .ok (.slice (some ⟨W.heap.size, 0, none⟩) n n) (W.alloc (.cells (Array.replicate n (.bool false)) 4)) := by
  obtain ⟨i, hi, hz0, hz1, hz2⟩ := info_parts (show (Try.prog.info? 4).map (fun i => (i.zero, i.size, i.bytes)) = some (some (.bool false), 1, 1) by kernel_rfl)
  have hr := run_make (P := Try.prog) W 41 4 i (.bool false) Try.underlying41 hi hz0 .i64 .i64 n n (by omega) (by omega) (by rw [hz2]; omega) (by omega)
  simp only [Int.toNat_natCast] at hr
  rw [hr, hz1]
  congr 3
  apply Array.ext
  · simp [madeCells]
  · intro j h1 h2
    simp [madeCells, Value.cells, Nat.mod_one]

def bools (B : List Bool) : List Value := B.map Value.bool

theorem delL_none {key : ByteArray} {L : List (ByteArray × Int)} (h : hasL key L = false) : delL key L = L :=
  delL_other key L fun p hp e => by
    have : hasL key L = true := by unfold hasL; rw [List.any_eq_true]; exact ⟨p, hp, by simp [e]⟩
    rw [h] at this; cases this

theorem tree_len {w : World} {tr fan d : Nat} {t : Tr d} {fp : List Nat} (hT : Tree w tr fan d t fp) {m : Nat} (hm : (toL d t).length = m) : Calls Try.prog 15 #[.pointer (some ⟨tr, 0, none⟩)] w fun e w' => e = .returned (.int .i64 (m : Nat)) ∧ w = w' := by
  obtain ⟨root, hb, _⟩ := hT.mem
  subst hm
  exact len_calls hb

theorem tree_check {w : World} {tr fan d : Nat} {t : Tr d} {fp : List Nat} (hT : Tree w tr fan d t fp) (hl : (toL d t).length ≤ 1000) : Calls Try.prog 22 #[.pointer (some ⟨tr, 0, none⟩)] w fun e w' => e = .returned (.int .i64 0) ∧ Chg (fun _ => False) w w' := by
  obtain ⟨u, hS⟩ := hT.seen hl
  exact check_calls hT.lo hT.hi hS.view hS.sound hS.size hS.two hS.root hS.deep hS.blk

theorem tree_depth {w : World} {tr fan d : Nat} {t : Tr d} {fp : List Nat} (hT : Tree w tr fan d t fp) (hl : (toL d t).length ≤ 1000) : Calls Try.prog 24 #[.pointer (some ⟨tr, 0, none⟩)] w fun e w' => e = .returned (.int .i64 (depthN d (toL d t).length)) ∧ w = w' := by
  obtain ⟨u, hS⟩ := hT.seen hl
  have := depth_calls hS.view hS.blk
  rw [hS.list] at this
  exact this

theorem tree_last {w : World} {tr fan d : Nat} {t : Tr d} {fp : List Nat} (hT : Tree w tr fan d t fp) (h0 : toL d t = []) : Calls Try.prog 16 #[.pointer (some ⟨tr, 0, none⟩)] w fun e w' => ∃ c fpc, e = .returned (.pointer (some ⟨c, 0, none⟩)) ∧ Cur w' c [] fpc ∧ (∀ k ∈ fpc, w.heap.size ≤ k) ∧ Chg (fun _ => False) w w' := by
  obtain ⟨u, hS⟩ := hT.seen (by rw [h0]; simp)
  refine (last_calls hS.view hS.blk).mono ?_
  rintro e w' ⟨c, ps, fpc, rfl, h1, h2, h3, h4⟩
  rw [if_neg (by rw [hS.list, h0]; simp)] at h2
  subst h2
  exact ⟨c, fpc, rfl, h1, h3, h4⟩

set_option maxHeartbeats 4000000 in
set_option maxRecDepth 100000 in
theorem empties_walk (w : World) (f n0 a0 b0 : Int) :
    Calls Try.prog 4 #[.int .i64 f, .int .i64 n0, .int .i64 a0, .int .i64 b0] w (fun e w' => e = .returned (.bool true) ∧ Chg (fun _ => False) w w') := by
  obtain ⟨R, hR⟩ : ∃ R : Ending → World → Prop, R = fun e w' => e = .returned (.bool true) ∧ Chg (fun _ => False) w w' := ⟨_, rfl⟩
  rw [← hR]
  have HP : Hid (∀ e w', e = .returned (.bool true) → Chg (fun _ => False) w w' → R e w') := fun e w' h1 h2 => by rw [hR]; exact ⟨h1, h2⟩
  clear hR
  obtain ⟨fan, h4, h64, hfan⟩ := fan_at f
  obtain ⟨n, hn1, hn200, hn⟩ := count_of n0
  obtain ⟨ma, hma, ha⟩ := and_seven a0
  obtain ⟨mb, hmb, hb⟩ := and_seven b0
  obtain ⟨p, hp, hpc⟩ := step_of ma hma
  obtain ⟨q, hq, hqc⟩ := step_of mb hmb
  have HFAN := Lib.hid hfan
  have HN := Lib.hid hn
  have HAA := Lib.hid ha
  have HBB := Lib.hid hb
  have HPC := Lib.hid hpc
  have HQC := Lib.hid hqc
  clear hfan hn ha hb hpc hqc
  go_enter Try.func4, Try.ntmps4
  go_wp2_with fail
  rw [HFAN.out]
  refine (new_calls w fan h4 h64).mono ?_
  rintro e w1 ⟨tr, fp, rfl, hT, hfp, htr, hC1⟩
  rw [show ptr tr = .pointer (some ⟨tr, 0, none⟩) from rfl]
  have HT := Lib.hid hT
  have HC1 := Lib.hid hC1
  have HFP : Hid (∀ k ∈ fp, w.heap.size ≤ k) := hfp
  have HTR := Lib.hid htr
  clear hT hfp htr hC1
  go_wp2_with fail
  rw [HN.out]
  obtain ⟨w2, bs, hw2, hbs, hBs, hC2, hz2⟩ := alloc_named w1 #[.int .i64 1, .int .i64 3, .int .i64 7, .int .i64 11, .int .i64 13, .int .i64 17, .int .i64 19, .int .i64 23] 3
  rw [hw2, hbs]
  have hp1 : w2.cell? ⟨bs, ma, none⟩ = some (.int .i64 p) := hBs.cell_ HPC.out
  have hq1 : w2.cell? ⟨bs, mb, none⟩ = some (.int .i64 q) := hBs.cell_ HQC.out
  have hma8 : (ma : Int) < 8 := by omega
  have hmb8 : (mb : Int) < 8 := by omega
  have haa := HAA.out
  have hbb := HBB.out
  have HC2 := Lib.hid (HC1.out.trans hC2)
  have HC12 := Lib.hid hC2
  clear hBs hC2 hw2 hbs
  go_quiet (fail)
  clear hp1 hq1 haa hbb
  obtain ⟨w3, hw3, hC3⟩ : ∃ w3, w2.drewN nq = w3 ∧ Chg (fun _ => False) w2 w3 := ⟨_, rfl, (Chg.refl _ w2).drewN nq⟩
  rw [hw3]
  have HC3 := Lib.hid (HC2.out.trans hC3)
  have HC13 := Lib.hid (HC12.out.trans hC3)
  clear hw3 hC3
  have hmk := run_make_bools n (by omega)
  go_wp2_with fail
  obtain ⟨w4, gin, hw4, hgin, hBi, hC4, hz4⟩ := alloc_named w3 (Array.replicate n (.bool false)) 4
  rw [hw4, hgin]
  have hOi : Own w4 4 (.slice (some ⟨gin, 0, none⟩) n n) (bools (List.replicate n false)) := by
    have hl : (bools (List.replicate n false)).length = n := by simp [bools]
    have := Own.close (xs := bools (List.replicate n false)) (c := n) hBi (by rw [hl]; exact Nat.le_refl _) (by unfold maxLen; omega) (by simp) (by simp [bools])
    rw [hl] at this; exact this
  have hging : w3.heap.size ≤ gin := by omega
  have HOI := Lib.hid hOi
  have HC4 := Lib.hid (HC3.out.trans hC4)
  have hgfp : gin ∉ fp := fun h => by
    obtain ⟨root, _, hA⟩ := HT.out.mem
    have h1 := hA.lt gin h
    have h2 := HC13.out.size
    omega
  have HGF := Lib.hid hgfp
  have HGW : Hid (w.heap.size ≤ gin) := Nat.le_trans HC3.out.size hging
  have HT4 := Lib.hid (HT.out.chg (HC13.out.trans hC4) fun _ h => h.elim)
  have HPOSN : Hid (1 ≤ n) := hn1
  have hnz : ¬ ((n : Int) = 0) := by omega
  have hnz2 : ¬ (n = 0) := by omega
  clear hw4 hgin hBi hC4 hz4 hz2 hOi hging hgfp hmk HT HC2 HC12 HC3 HC13 hma8 hmb8 hma hmb HAA HBB HPC HQC HFAN HN
  go_loopg [16, 17] n (fun g s1 s2 wr => ∃ (i at_ d : Nat) (t : Tr d) (fp : List Nat) (B : List Bool), s1 = .int .i64 i ∧ s2 = .int .i64 at_ ∧ i ≤ n ∧ n - i ≤ g ∧ at_ ≤ i * 423 ∧ Tree wr tr fan d t fp ∧ Good n B (toL d t) ∧ B.count true = i ∧
    Own wr 4 (.slice (some ⟨gin, 0, none⟩) n n) (bools B) ∧ gin ∉ fp ∧ (∀ k ∈ fp, w.heap.size ≤ k) ∧ Chg (fun _ => False) w wr)
  case atStart => exact ⟨0, 0, 0, [], fp, List.replicate n false, rfl, rfl, Nat.zero_le _, by omega, by omega, HT4.out, Good.nil n, by simp [List.count_replicate], HOI.out, HGF.out, HFP.out, HC4.out⟩
  case round =>
    obtain ⟨i, at_, d, t, fp', B, rfl, rfl, hin, hig, hat, hT, hG, hcnt, hO, hgf, hfp, hch⟩ := hrel
    have HT := Lib.hid hT
    have HG := Lib.hid hG
    have HCNT := Lib.hid hcnt
    have HO := Lib.hid hO
    have HGF' := Lib.hid hgf
    have HFP' : Hid (∀ k ∈ fp', w.heap.size ≤ k) := hfp
    have HCH := Lib.hid hch
    clear hT hG hcnt hO hgf hfp hch
    rcases Nat.lt_or_ge i n with hlt | hge
    · have hlt' : (i : Int) < (n : Int) := by omega
      obtain ⟨f, hf1, hf2, hf3⟩ := mark_ahead (n := n) (at_ := at_) (b := false) HG.out.len (free_place HG.out.len (by rw [HCNT.out]; exact hlt))
      have HF3 := Lib.hid hf3
      clear hf3
      go_wp2_with fail
      go_loop [17] (fun s => ∃ at2 : Nat, s = .int .i64 at2 ∧ at2 ≤ f) (fun s => f - (intOf s).toNat)
      case atStart => exact ⟨at_, rfl, hf1⟩
      case round =>
        obtain ⟨at2, rfl, hat2⟩ := hrel
        obtain ⟨j, hjn, hj1, hj2, hjm⟩ : ∃ j : Nat, j < n ∧ (at2 : Int) % (n : Int) = (j : Int) ∧ (at2 : Int).tmod (n : Int) = (j : Int) ∧ at2 % n = j := ⟨at2 % n, Nat.mod_lt _ (by omega), rfl, rfl, rfl⟩
        obtain ⟨b, hb⟩ : ∃ b, B[j]? = some b := ⟨_, List.getElem?_eq_getElem (by rw [HG.out.len]; exact hjn)⟩
        have hcell : wr.cell? ⟨gin, j, none⟩ = some (.bool b) := HO.out.cell (by rw [bools, List.getElem?_map, hb]; rfl)
        have HB := Lib.hid hb
        have HJM := Lib.hid hjm
        have hjn' : (j : Int) < (n : Int) := by omega
        clear hb hjm
        cases b with
        | true =>
          have hne : at2 ≠ f := fun e => by
            have h1 := HF3.out; rw [← e, HJM.out, HB.out] at h1; cases h1
          have hw2 : IntKind.i64.wrap ((at2 : Int) + 1) = (at2 : Int) + 1 := by rw [IntKind.wrap_i64]; omega
          go_wp2_with fail
          clear hw2 hj1 hj2
          go_round
          case rel => exact ⟨at2 + 1, by go_num, by omega⟩
          case measure => simp [intOf]; omega
        | false =>
          obtain ⟨hcx, hfr, w5, hw5, hO5, hC5⟩ := own_named (i := j) HO.out (by rw [bools, List.length_map, HG.out.len]; exact hjn) (.bool true)
          have HO5 : Hid (Own w5 4 (.slice (some ⟨gin, 0, none⟩) n n) (bools (B.set j true))) := by
            rw [show bools (B.set j true) = (bools B).set j (.bool true) from List.map_set ..]; exact hO5
          have hgt : gin ≠ tr := fun e => by
            obtain ⟨root, hb, _⟩ := HT.out.mem
            exact HO.out.ne_blk hb (by decide) (by rw [e]; rfl)
          have HT5 := Lib.hid (HT.out.chg hC5 fun k e => by rw [e]; exact ⟨HGF'.out, hgt⟩)
          have hgw : w.heap.size ≤ gin := by
            have h1 := HGW.out; exact h1
          have HC5 := Lib.hid (HCH.out.comp hC5 fun k hk e => by omega)
          have hmz := (Nat.div_add_mod at2 n)
          clear hO5 hC5 hcx hmz
          go_wp2_with fail
          clear hw5 hcell hfr
          obtain ⟨w6, hw6, hC6⟩ := drew_named w5
          have hC0 : Chg (fun _ => False) w5 w6 := hC6
          have hS := hC0.size
          refine wp_region_till (s := 9) (S := (fun W => w5.heap.size ≤ W.heap.size)) (by kernel_rfl) ?_
          rw [hw6]
          clear hw6 hC6
          apply till_take0 (i := 0) (d := some 71)
          case hi => exact rfl
          case hd => exact rfl
          case hchk => kernel_rfl
          case hS => exact (fun _ => hS)
          case hy => apply yields_plain; exact rfl; intro w _; go_simp <;> with_reducible rfl
          case hQ => exact fun _ _ _ h => h
          simp only [Act.put, List.setIfInBounds_toArray, List.set_cons_zero, List.set_cons_succ]
          apply till_take0 (i := 1) (d := some 72)
          case hi => exact rfl
          case hd => exact rfl
          case hchk => kernel_rfl
          case hS => exact (fun _ => hS)
          case hy => apply yields_plain; exact rfl; intro w _; go_simp <;> with_reducible rfl
          case hQ => exact fun _ _ _ h => h
          simp only [Act.put, List.setIfInBounds_toArray, List.set_cons_zero, List.set_cons_succ]
          apply till_take0 (i := 2) (d := some 73)
          case hi => exact rfl
          case hd => exact rfl
          case hchk => kernel_rfl
          case hS => exact (fun _ => hS)
          case hy => apply yields_plain; exact rfl; intro w _; go_simp <;> with_reducible rfl
          case hQ => exact fun _ _ _ h => h
          simp only [Act.put, List.setIfInBounds_toArray, List.set_cons_zero, List.set_cons_succ]
          apply till_take0 (i := 3) (d := some 74)
          case hi => exact rfl
          case hd => exact rfl
          case hchk => kernel_rfl
          case hS => exact (fun _ => hS)
          case hy => apply yields_plain; exact rfl; intro w _; go_simp <;> with_reducible rfl
          case hQ => exact fun _ _ _ h => h
          simp only [Act.put, List.setIfInBounds_toArray, List.set_cons_zero, List.set_cons_succ]
          apply till_take0 (i := 4) (d := some 75)
          case hi => exact rfl
          case hd => exact rfl
          case hchk => kernel_rfl
          case hS => exact (fun _ => hS)
          case hy => apply yields_plain; exact rfl; intro w _; go_simp <;> with_reducible rfl
          case hQ => exact fun _ _ _ h => h
          simp only [Act.put, List.setIfInBounds_toArray, List.set_cons_zero, List.set_cons_succ]
          apply till_take0 (i := 6) (d := some 77)
          case hi => exact rfl
          case hd => exact rfl
          case hchk => kernel_rfl
          case hS => exact (fun _ => hS)
          case hy => apply yields_plain; exact rfl; intro w _; go_simp <;> with_reducible rfl
          case hQ => exact fun _ _ _ h => h
          simp only [Act.put, List.setIfInBounds_toArray, List.set_cons_zero, List.set_cons_succ]
          apply till_take0 (i := 7) (d := some 78)
          case hi => exact rfl
          case hd => exact rfl
          case hchk => kernel_rfl
          case hS => exact (fun _ => hS)
          case hy => apply yields_plain; exact rfl; intro w _; go_simp <;> with_reducible rfl
          case hQ => exact fun _ _ _ h => h
          simp only [Act.put, List.setIfInBounds_toArray, List.set_cons_zero, List.set_cons_succ]
          apply till_take0 (i := 8) (d := some 79)
          case hi => exact rfl
          case hd => exact rfl
          case hchk => kernel_rfl
          case hS => exact (fun _ => hS)
          case hy => apply yields_plain; exact rfl; intro w _; go_simp <;> with_reducible rfl
          case hQ => exact fun _ _ _ h => h
          simp only [Act.put, List.setIfInBounds_toArray, List.set_cons_zero, List.set_cons_succ]
          refine till_all (rs := [5]) (by kernel_rfl) (by simp) (mem_more (till_op (i := 5) (o := ⟨some 76, _, _, _, _, _⟩) rfl rfl (fun K hK => ?_)) (mem_none))
          go_simp
          refine (ekey_walk _ j (by omega)).mono ?_
          rintro e w7 ⟨rfl, hck⟩
          have hC0 := hC0.trans hck
          clear hck
          refine hK.out _ _ (fun _ => ?_) (fun hS2 => ?_)
          · exact hC0.size
          have hS3 := hS2 (by kernel_rfl)
          clear hK K hS hS2
          have hS := hS3
          clear hS3
          try simp only [Act.put, List.setIfInBounds_toArray, List.set_cons_zero, List.set_cons_succ]
          refine till_all (rs := [9]) (by kernel_rfl) (by simp) (mem_more (till_op (i := 9) (o := ⟨some 80, _, _, _, _, _⟩) rfl rfl (fun K hK => ?_)) (mem_none))
          go_simp
          refine (put_calls (keyB j) (j : Int) (HT5.out.chg hC0 fun _ h => h.elim) (by rw [HG.out.cnt, HCNT.out]; omega)).mono ?_
          rintro e w8 ⟨rfl, d8, t8, fp8, hT8, hL8, hs8, hC8⟩
          rw [HG.out.has j false HB.out]
          refine hK.out _ _ (fun h => by cases (show true = false from h)) (fun _ => ?_)
          clear hK K hS
          try simp only [Act.put, List.setIfInBounds_toArray, List.set_cons_zero, List.set_cons_succ]
          apply till_take0 (i := 10) (d := some 81)
          case hi => exact rfl
          case hd => exact rfl
          case hchk => kernel_rfl
          case hS => exact (fun h => by cases (show true = false from h))
          case hy => apply yields_plain; exact rfl; intro w _; go_simp <;> with_reducible rfl
          case hQ => exact fun _ _ _ h => h
          simp only [Act.put, List.setIfInBounds_toArray, List.set_cons_zero, List.set_cons_succ]
          refine till_done (by kernel_rfl) ?_
          skip
          have hz5 := HC5.out.size
          have hz0 := hC0.size
          have hz8 := hC8.size
          have HT8 := Lib.hid hT8
          have hL8' : Good n (B.set j true) (toL d8 t8) := by rw [hL8]; exact HG.out.put hn200 HB.out _
          have HG8 := Lib.hid hL8'
          have HCN8 := Lib.hid (show (B.set j true).count true = i + 1 by rw [count_set_true HB.out, HCNT.out])
          have hgz : gin < w5.heap.size := HO5.out.lt rfl
          have HO8 := Lib.hid ((HO5.out.chg hC0 fun _ _ h => h).chg hC8 (fun k hk h => by
            have e : k = gin := by simp [Value.ownBlock] at hk; exact hk.symm
            subst e
            exact h.elim HGF'.out hgt))
          have HGF8 : Hid (gin ∉ fp8) := fun h => (hs8 _ h).elim HGF'.out (fun h => by omega)
          have HFP8 : Hid (∀ k ∈ fp8, w.heap.size ≤ k) := fun k hk => (hs8 k hk).elim (HFP'.out k) (fun h => by omega)
          have HC8 := Lib.hid ((HC5.out.trans hC0).comp hC8 fun k hk h => by
            rcases h with h | h
            · have := HFP'.out k h; omega
            · have := HTR.out; have := HC1.out.size; omega)
          have hwp : IntKind.i64.wrap ((at2 : Int) + (p : Int)) = (at2 : Int) + (p : Int) := by rw [IntKind.wrap_i64]; omega
          have hwi : IntKind.i64.wrap ((i : Int) + 1) = (i : Int) + 1 := by rw [IntKind.wrap_i64]; omega
          have hat3 : at2 + p ≤ (i + 1) * 423 := by omega
          clear hT8 hL8 hs8 hC8 hL8' hC0 hz5 hz0 hz8 hgz
          go_wp2_with fail
          clear hwp hwi hj1 hj2
          go_roundg (n - (i + 1))
          case measure => omega
          case rel => exact ⟨i + 1, at2 + p, d8, t8, fp8, B.set j true, by first | rfl | go_num, by first | rfl | go_num, by omega, Nat.le_refl _, hat3, HT8.out, HG8.out, HCN8.out, HO8.out, HGF8.out, HFP8.out, HC8.out⟩
    · have hii : n = i := by omega
      have hge' : ¬ ((i : Int) < (n : Int)) := by omega
      have HII := Lib.hid hii
      have hlenn : (toL d t).length = n := by rw [HG.out.cnt, HCNT.out]; exact hii.symm
      have HLN : Hid (Calls Try.prog 15 #[.pointer (some ⟨tr, 0, none⟩)] wr fun e w' => e = .returned (.int .i64 (n : Nat)) ∧ wr = w') := tree_len HT.out hlenn
      have HCK : Hid (Calls Try.prog 22 #[.pointer (some ⟨tr, 0, none⟩)] wr fun e w' => e = .returned (.int .i64 0) ∧ Chg (fun _ => False) wr w') := tree_check HT.out (by rw [hlenn]; omega)
      have HCB := Lib.hid (show B.count true + 0 = n by rw [HCNT.out, HII.out]; rfl)
      clear hii hlenn hge
      go_wp2_with fail
      refine HLN.out.mono ?_
      rintro e wq ⟨rfl, rfl⟩
      go_wp2_with fail
      refine HCK.out.mono ?_
      rintro e w9 ⟨rfl, hC9⟩
      have HT9 := Lib.hid (HT.out.chg hC9 fun _ h => h.elim)
      have HO9 := Lib.hid (HO.out.chg hC9 fun _ _ h => h)
      have HC9 := Lib.hid (HCH.out.trans hC9)
      have hgt : gin ≠ tr := fun e => by
        obtain ⟨root, hb, _⟩ := HT.out.mem
        exact HO.out.ne_blk hb (by decide) (by rw [e]; rfl)
      clear hC9 HLN HCK hge'
      go_wp2_with fail
      go_loopg [18, 19] n (fun g s1 s2 wr => ∃ (i at_ d : Nat) (t : Tr d) (fp : List Nat) (B : List Bool), s1 = .int .i64 i ∧ s2 = .int .i64 at_ ∧ i ≤ n ∧ n - i ≤ g ∧ at_ ≤ i * 423 ∧ Tree wr tr fan d t fp ∧ Good n B (toL d t) ∧ B.count true + i = n ∧
        Own wr 4 (.slice (some ⟨gin, 0, none⟩) n n) (bools B) ∧ gin ∉ fp ∧ (∀ k ∈ fp, w.heap.size ≤ k) ∧ Chg (fun _ => False) w wr)
      case atStart => exact ⟨0, 0, d, t, fp', B, rfl, rfl, Nat.zero_le _, by omega, by omega, HT9.out, HG.out, HCB.out, HO9.out, HGF'.out, HFP'.out, HC9.out⟩
      case round =>
        clear HT9 HO9 HC9 HT HG HO HGF' HFP' HCH HCNT HII HCB hat hig hin
        obtain ⟨i, at_, d, t, fp', B, rfl, rfl, hin, hig, hat, hT, hG, hcnt, hO, hgf, hfp, hch⟩ := hrel
        have HT := Lib.hid hT
        have HG := Lib.hid hG
        have HCNT := Lib.hid hcnt
        have HO := Lib.hid hO
        have HGF' := Lib.hid hgf
        have HFP' : Hid (∀ k ∈ fp', w.heap.size ≤ k) := hfp
        have HCH := Lib.hid hch
        clear hT hG hcnt hO hgf hfp hch
        rcases Nat.lt_or_ge i n with hlt | hge
        · have hlt' : (i : Int) < (n : Int) := by omega
          obtain ⟨f, hf1, hf2, hf3⟩ := mark_ahead (n := n) (at_ := at_) (b := true) HG.out.len (full_place (by have := HCNT.out; omega))
          have HF3 := Lib.hid hf3
          clear hf3
          go_wp2_with fail
          go_loop [19] (fun s => ∃ at2 : Nat, s = .int .i64 at2 ∧ at2 ≤ f) (fun s => f - (intOf s).toNat)
          case atStart => exact ⟨at_, rfl, hf1⟩
          case round =>
            obtain ⟨at2, rfl, hat2⟩ := hrel
            obtain ⟨j, hjn, hj1, hj2, hjm⟩ : ∃ j : Nat, j < n ∧ (at2 : Int) % (n : Int) = (j : Int) ∧ (at2 : Int).tmod (n : Int) = (j : Int) ∧ at2 % n = j := ⟨at2 % n, Nat.mod_lt _ (by omega), rfl, rfl, rfl⟩
            obtain ⟨b, hb⟩ : ∃ b, B[j]? = some b := ⟨_, List.getElem?_eq_getElem (by rw [HG.out.len]; exact hjn)⟩
            have hcell : wr.cell? ⟨gin, j, none⟩ = some (.bool b) := HO.out.cell (by rw [bools, List.getElem?_map, hb]; rfl)
            have HB := Lib.hid hb
            have HJM := Lib.hid hjm
            have hjn' : (j : Int) < (n : Int) := by omega
            clear hb hjm
            cases b with
            | false =>
              have hne : at2 ≠ f := fun e => by
                have h1 := HF3.out; rw [← e, HJM.out, HB.out] at h1; cases h1
              have hw2 : IntKind.i64.wrap ((at2 : Int) + 1) = (at2 : Int) + 1 := by rw [IntKind.wrap_i64]; omega
              go_wp2_with fail
              clear hw2 hj1 hj2
              go_round
              case rel => exact ⟨at2 + 1, by go_num, by omega⟩
              case measure => simp [intOf]; omega
            | true =>
              obtain ⟨hcx, hfr, w5, hw5, hO5, hC5⟩ := own_named (i := j) HO.out (by rw [bools, List.length_map, HG.out.len]; exact hjn) (.bool false)
              have HO5 : Hid (Own w5 4 (.slice (some ⟨gin, 0, none⟩) n n) (bools (B.set j false))) := by
                rw [show bools (B.set j false) = (bools B).set j (.bool false) from List.map_set ..]; exact hO5
              have HT5 := Lib.hid (HT.out.chg hC5 fun k e => by rw [e]; exact ⟨HGF'.out, hgt⟩)
              have hgw : w.heap.size ≤ gin := by
                have h1 := HGW.out; exact h1
              have HC5 := Lib.hid (HCH.out.comp hC5 fun k hk e => by omega)
              have hlen0 : (toL d t).length ≤ 200 := by rw [HG.out.cnt]; have := HCNT.out; omega
              have HLEN := Lib.hid hlen0
              obtain ⟨hg6, hno⟩ := HG.out.del hn200 HB.out
              have HG6 := Lib.hid hg6
              have HNO := Lib.hid hno
              have hcn6 := count_set_false HB.out
              have hcc := HCNT.out
              have HCN6 := Lib.hid (show (B.set j false).count true + (i + 1) = n by omega)
              clear hO5 hC5 hcx hlen0 hg6 hno hcn6 hcc
              go_wp2_with fail
              clear hw5 hcell hfr
              refine (ekey_walk _ j (by omega)).mono ?_
              rintro e w6 ⟨rfl, hC6⟩
              have HC6 := Lib.hid hC6
              clear hC6
              go_wp2_with fail
              refine (del_calls (keyB j) (HT5.out.chg HC6.out fun _ h => h.elim) (by have := HLEN.out; omega)).mono ?_
              rintro e w7 ⟨rfl, d7, t7, fp7, hT7, hL7, hs7, hC7⟩
              rw [HG.out.has j true HB.out]
              have hz5 := HC5.out.size
              have hz6 := HC6.out.size
              have hgz : gin < w5.heap.size := HO5.out.lt rfl
              have HO7 := Lib.hid ((HO5.out.chg HC6.out fun _ _ h => h).chg hC7 (fun k hk h => by
                have e : k = gin := by simp [Value.ownBlock] at hk; exact hk.symm
                subst e
                exact h.elim HGF'.out hgt))
              have HGF7 : Hid (gin ∉ fp7) := fun h => (hs7 _ h).elim HGF'.out (fun h => by omega)
              have HFP7 : Hid (∀ k ∈ fp7, w.heap.size ≤ k) := fun k hk => (hs7 k hk).elim (HFP'.out k) (fun h => by omega)
              have HC7 := Lib.hid ((HC5.out.trans HC6.out).comp hC7 fun k hk h => by
                rcases h with h | h
                · have := HFP'.out k h; omega
                · have := HTR.out; have := HC1.out.size; omega)
              have HT7 := Lib.hid hT7
              have HL7 := Lib.hid hL7
              clear hT7 hL7 hs7 hC7 hz5 hz6 hgz HO5
              go_wp2_with fail
              refine (ekey_walk _ j (by omega)).mono ?_
              rintro e w8 ⟨rfl, hC8⟩
              have HC8 := Lib.hid hC8
              clear hC8
              go_wp2_with fail
              refine (del_calls (keyB j) (HT7.out.chg HC8.out fun _ h => h.elim) (by rw [HL7.out, HG6.out.cnt]; have := HCN6.out; omega)).mono ?_
              rintro e w9 ⟨rfl, d9, t9, fp9, hT9, hL9, hs9, hC9⟩
              rw [HL7.out] at hL9 ⊢
              rw [HNO.out]
              rw [delL_none HNO.out] at hL9
              have hz7 := HC7.out.size
              have hz8 := HC8.out.size
              have hgz : gin < w7.heap.size := HO7.out.lt rfl
              have HO9 := Lib.hid ((HO7.out.chg HC8.out fun _ _ h => h).chg hC9 (fun k hk h => by
                have e : k = gin := by simp [Value.ownBlock] at hk; exact hk.symm
                subst e
                exact h.elim HGF7.out hgt))
              have HGF9 : Hid (gin ∉ fp9) := fun h => (hs9 _ h).elim HGF7.out (fun h => by omega)
              have HFP9 : Hid (∀ k ∈ fp9, w.heap.size ≤ k) := fun k hk => (hs9 k hk).elim (HFP7.out k) (fun h => by omega)
              have HC9 := Lib.hid ((HC7.out.trans HC8.out).comp hC9 fun k hk h => by
                rcases h with h | h
                · have := HFP7.out k h; omega
                · have := HTR.out; have := HC1.out.size; omega)
              have HT9 := Lib.hid hT9
              have hlen9 : (toL d9 t9).length = n - 1 - i := by rw [hL9, HG6.out.cnt]; have := HCN6.out; omega
              have HG9 : Hid (Good n (B.set j false) (toL d9 t9)) := by rw [hL9]; exact HG6.out
              have HLN : Hid (Calls Try.prog 15 #[.pointer (some ⟨tr, 0, none⟩)] w9 fun e w' => e = .returned (.int .i64 ((n : Int) - 1 - (i : Int))) ∧ w9 = w') := by
                have h1 := tree_len hT9 hlen9
                rw [show ((n - 1 - i : Nat) : Int) = (n : Int) - 1 - (i : Int) by omega] at h1
                exact h1
              have HCK : Hid (Calls Try.prog 22 #[.pointer (some ⟨tr, 0, none⟩)] w9 fun e w' => e = .returned (.int .i64 0) ∧ Chg (fun _ => False) w9 w') := tree_check hT9 (by rw [hlen9]; omega)
              have hw1 : IntKind.i64.wrap ((n : Int) - 1) = (n : Int) - 1 := by rw [IntKind.wrap_i64]; omega
              have hw2 : IntKind.i64.wrap ((n : Int) - 1 - (i : Int)) = (n : Int) - 1 - (i : Int) := by rw [IntKind.wrap_i64]; omega
              clear hT9 hL9 hs9 hC9 hz7 hz8 hgz HO7 hlen9
              go_wp2_with fail
              refine HLN.out.mono ?_
              rintro e wq ⟨rfl, rfl⟩
              clear hw1 hw2
              have hwp : IntKind.i64.wrap ((at2 : Int) + (q : Int)) = (at2 : Int) + (q : Int) := by rw [IntKind.wrap_i64]; omega
              have hwi : IntKind.i64.wrap ((i : Int) + 1) = (i : Int) + 1 := by rw [IntKind.wrap_i64]; omega
              have hat3 : at2 + q ≤ (i + 1) * 423 := by omega
              by_cases h16 : (i : Int) % 16 = 0
              · go_wp2_with fail
                refine HCK.out.mono ?_
                rintro e wz ⟨rfl, hCz⟩
                have HTz := Lib.hid (HT9.out.chg hCz fun _ h => h.elim)
                have HOz := Lib.hid (HO9.out.chg hCz fun _ _ h => h)
                have HCz := Lib.hid (HC9.out.trans hCz)
                clear hCz
                go_wp2_with fail
                clear hwp hwi hj1 hj2 h16
                go_roundg (n - (i + 1))
                case measure => omega
                case rel => exact ⟨i + 1, at2 + q, d9, t9, fp9, B.set j false, by first | rfl | go_num, by first | rfl | go_num, by omega, Nat.le_refl _, hat3, HTz.out, HG9.out, HCN6.out, HOz.out, HGF9.out, HFP9.out, HCz.out⟩
              · go_wp2_with fail
                clear hwp hwi hj1 hj2 h16
                go_roundg (n - (i + 1))
                case measure => omega
                case rel => exact ⟨i + 1, at2 + q, d9, t9, fp9, B.set j false, by first | rfl | go_num, by first | rfl | go_num, by omega, Nat.le_refl _, hat3, HT9.out, HG9.out, HCN6.out, HO9.out, HGF9.out, HFP9.out, HC9.out⟩
        · have hge' : ¬ ((i : Int) < (n : Int)) := by omega
          have hlen : (toL d t).length = 0 := by rw [HG.out.cnt]; have := HCNT.out; omega
          have hnil : toL d t = [] := List.eq_nil_of_length_eq_zero hlen
          have HNIL := Lib.hid hnil
          have HLS := Lib.hid (tree_last HT.out hnil)
          clear hge hlen hnil
          go_wp2_with fail
          refine HLS.out.mono ?_
          rintro e w6 ⟨c, fpc, rfl, hcur, hge6, hC6⟩
          have HT6 := Lib.hid (HT.out.chg hC6 fun _ h => h.elim)
          have HC6 := Lib.hid (HCH.out.trans hC6)
          have HCU := Lib.hid hcur
          have HDP : Hid (Calls Try.prog 24 #[.pointer (some ⟨tr, 0, none⟩)] w6 fun e w' => e = .returned (.int .i64 0) ∧ w6 = w') := by
            have h1 := tree_depth HT6.out (by rw [HNIL.out]; simp)
            rw [HNIL.out] at h1
            exact h1
          have HCK : Hid (Calls Try.prog 22 #[.pointer (some ⟨tr, 0, none⟩)] w6 fun e w' => e = .returned (.int .i64 0) ∧ Chg (fun _ => False) w6 w') := tree_check HT6.out (by rw [HNIL.out]; simp)
          clear hcur hge6 hC6 HLS
          go_wp2_with fail
          refine HDP.out.mono ?_
          rintro e wq ⟨rfl, rfl⟩
          go_wp2_with fail
          refine HCK.out.mono ?_
          rintro e w7 ⟨rfl, hC7⟩
          have HT7 := Lib.hid (HT6.out.chg hC7 fun _ h => h.elim)
          have HC7 := Lib.hid (HC6.out.trans hC7)
          have HOK : Hid (Calls Try.prog 12 #[.pointer (some ⟨c, 0, none⟩)] w7 fun e w' => e = .returned (.bool false) ∧ w7 = w') := ok_calls (HCU.out.chg hC7 fun _ _ h => h)
          clear hC7
          go_wp2_with fail
          refine HOK.out.mono ?_
          rintro e wq ⟨rfl, rfl⟩
          go_wp2_with fail
          refine (put_calls ⟨#[120]⟩ 1 HT7.out (by rw [HNIL.out]; simp)).mono ?_
          rintro e w8 ⟨rfl, d8, t8, fp8, hT8, hL8, hs8, hC8⟩
          rw [HNIL.out] at hL8 ⊢
          rw [show (!hasL ⟨#[120]⟩ ([] : List (ByteArray × Int))) = true from rfl]
          have hl8 : (toL d8 t8).length = 1 := by rw [hL8]; rfl
          have HLN : Hid (Calls Try.prog 15 #[.pointer (some ⟨tr, 0, none⟩)] w8 fun e w' => e = .returned (.int .i64 1) ∧ w8 = w') := tree_len hT8 hl8
          have HC8 := Lib.hid (HC7.out.comp hC8 fun k hk h => by
            rcases h with h | h
            · have := HFP'.out k h; omega
            · have := HTR.out; have := HC1.out.size; omega)
          clear hT8 hL8 hs8 hC8 hl8
          go_wp2_with fail
          refine HLN.out.mono ?_
          rintro e wq ⟨rfl, rfl⟩
          go_wp2_with fail
          refine (awake_calls w8).mono ?_
          rintro e w9 ⟨rfl, hC9⟩
          have HC9 := Lib.hid (HC8.out.trans hC9)
          clear hC9
          go_wp2_with fail
          exact HP.out _ _ rfl HC9.out
end Go.Proofs.Ythndplpbnfihdaa
