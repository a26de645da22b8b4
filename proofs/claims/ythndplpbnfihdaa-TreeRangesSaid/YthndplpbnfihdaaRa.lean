/-
  TreeRanges, walked. Conditions: the script's cells are as given.
-/
import Derived.Test.YthndplpbnfihdaaSa
import Derived.Test.YthndplpbnfihdaaFo
import Derived.Deep.CutBlock
set_option linter.unusedVariables false
set_option linter.unusedSimpArgs false
namespace Go.Proofs.Ythndplpbnfihdaa
open Go.RowKit Go.Shelf

attribute [local go_sem] Oper.semAt_some

theorem and_fifteen (a : Int) : ∃ m : Nat, m ≤ 15 ∧ bits .and .i64 a 15 = (m : Int) := by
  refine ⟨(BitVec.ofInt 64 a &&& BitVec.ofInt 64 15).toNat, ?_, ?_⟩
  · rw [BitVec.toNat_and]
    exact Nat.and_le_right
  · have h : (BitVec.ofInt 64 a &&& BitVec.ofInt 64 15).toNat ≤ 15 := by rw [BitVec.toNat_and]; exact Nat.and_le_right
    show IntKind.i64.wrap ((BitVec.ofInt 64 a &&& BitVec.ofInt 64 15).toNat : Int) = _
    rw [IntKind.wrap_i64]
    omega

/-- The slots when the loop has no variables of its own. -/
def put0 (p q : Nat) (t : Array Value) (x : ByteArray × Int) : Array Value := (t.setIfInBounds p (.string x.1)).setIfInBounds q (.int .i64 x.2)

theorem wp_range0 {P : Program} {g : Operand} {p q : Tmp} {assign body : Code} {Q : Exit → Act → World → Prop} {a : Act} {w : World} {gf : Nat} {lb : Array Value} (hg : a.eval g = .func (.func gf) #[] lb)
    (eg : ∀ args w, (callFunc gf args).run P w = .ok (.enter gf args) w) {Done Part : List (ByteArray × Int) → Prop} {Bs : Nat → Prop} (hBs : ∀ k, Bs k → k < w.heap.size)
    (hseq : SeqC P gf lb enc2 Done Part Bs w) (I : List (ByteArray × Int) → World → Prop) (Ix : Code → List (ByteArray × Int) → World → Prop)
    (hI : ∀ s A A', I s A → Below w.heap.size A A' → I s A') (hIx : ∀ c s A A', Ix c s A → Below w.heap.size A A' → Ix c s A') (h0 : I [] w)
    (hassign : ∀ (l : Nat) (x : ByteArray × Int) (W : World) (K : Act → World → Prop), K { tmps := put0 p q a.tmps x, defers := [] } W →
      assign.wpIn (Fence.wide.inRound l) 3 P (Exit.then K (fun _ _ _ => False)) { tmps := put0 p q a.tmps x, defers := [] } W)
    (hbody : ∀ (l : Nat) (pre : List (ByteArray × Int)) (x : ByteArray × Int) (W : World), I pre W → Part (pre ++ [x]) → w.heap.size ≤ W.heap.size → body.wpIn (Fence.wide.inRound l) 3 P (roundC Bs I Ix (pre ++ [x]) W) { tmps := put0 p q a.tmps x, defers := [] } W)
    (hdone : ∀ (D : Nat) (xs : List (ByteArray × Int)) (W : World), Done xs → I xs W → W.heap[D]? = some (.deferred (some [])) → w.heap.size ≤ D → Q .normal { a with defers := { target := .collected D, args := #[] } :: a.defers } W)
    (hstop : ∀ (D : Nat) (c : Code) (pre : List (ByteArray × Int)) (W : World), Part pre → Ix c pre W → W.heap[D]? = some (.deferred (some [])) → w.heap.size ≤ D → c.wp P Q { a with defers := { target := .collected D, args := #[] } :: a.defers } W) :
    (Code.rangeFunc g #[p, q] assign body).wp P Q a w :=
  wp_rangeFunc_c hg eg hBs hseq (fun _ => rfl) I Ix hI hIx h0 (fun x => { tmps := put0 p q a.tmps x, defers := [] }) (fun l x W K hK => by have := hassign l x W K hK; simpa [enc2, put0] using this) hbody hdone hstop

/-- Is a key between two? -/
def inB (lo hi : ByteArray) (op : Bool) (p : ByteArray × Int) : Bool := !ltB p.1 lo && (op || ltB p.1 hi)

theorem cntL_zero {lo : ByteArray} {p : ByteArray × Int} {L : List (ByteArray × Int)} (hr : Rising (keysT (p :: L))) (h : ltB p.1 lo = false) : cntL lo false (p :: L) = 0 := by
  unfold cntL
  rw [List.length_eq_zero_iff, List.filter_eq_nil_iff]
  intro q hq
  simp only [Bool.false_and, Bool.or_false]
  rcases List.mem_cons.1 hq with rfl | hq
  · rw [h]; simp
  · have h1 : ltB p.1 q.1 = true := by
      have : Rising (p.1 :: keysT L) := hr
      exact (List.pairwise_cons.1 this).1 q.1 (List.mem_map.2 ⟨q, hq, rfl⟩)
    intro h2
    rw [lt_trans h1 h2] at h
    cases h

theorem between_filter (lo hi : ByteArray) (op : Bool) : ∀ (L : List (ByteArray × Int)), Rising (keysT L) → L.filter (inB lo hi op) = between lo hi op L
  | [], _ => rfl
  | p :: L, hr => by
    have hr' : Rising (keysT L) := (List.pairwise_cons.1 (show Rising (p.1 :: keysT L) from hr)).2
    have hup : ∀ q ∈ L, ltB p.1 q.1 = true := fun q hq => (List.pairwise_cons.1 (show Rising (p.1 :: keysT L) from hr)).1 q.1 (List.mem_map.2 ⟨q, hq, rfl⟩)
    have ih := between_filter lo hi op L hr'
    cases h : ltB p.1 lo with
    | true =>
      have h1 : cntL lo false (p :: L) = cntL lo false L + 1 := by simp [cntL, h]
      unfold between at ih ⊢
      rw [h1, List.drop_succ_cons, ← ih, List.filter_cons]
      simp [inB, h]
    | false =>
      have h1 := cntL_zero hr h
      unfold between
      rw [h1, List.drop_zero, List.takeWhile_cons, List.filter_cons]
      cases h2 : (op || ltB p.1 hi) with
      | true =>
        have h3 : inB lo hi op p = true := by simp [inB, h]; simpa using h2
        rw [if_pos h3, if_pos rfl]
        congr 1
        rw [ih]
        unfold between
        have h4 : cntL lo false L = 0 := by
          cases L with
          | nil => rfl
          | cons q L =>
            refine cntL_zero hr' ?_
            cases h5 : ltB q.1 lo
            · rfl
            · have := lt_trans (hup q (List.mem_cons_self ..)) h5
              rw [h] at this; cases this
        rw [h4, List.drop_zero]
      | false =>
        have h3 : inB lo hi op p = false := by simp [inB, h]; simpa using h2
        rw [if_neg (by rw [h3]; simp), if_neg (by simp), List.filter_eq_nil_iff]
        intro q hq hq2
        have h5 : op = false ∧ ltB p.1 hi = false := by simpa using h2
        have h6 : ltB q.1 hi = true := by
          unfold inB at hq2
          rw [h5.1] at hq2
          simpa using (Bool.and_eq_true_iff.1 hq2).2
        have := lt_trans (hup q hq) h6
        rw [h5.2] at this; cases this

set_option maxHeartbeats 4000000 in
set_option maxRecDepth 100000 in
theorem ranges_walk (w : World) (f tk : Int) (b off n c : Nat) (A : Option Addr) (Kd Rw : Nat → Int) (Ky : Nat → ByteArray) (hn : n ≤ maxLen) (lo hi : ByteArray) (op : Bool)
    (hA : 0 < n → A = some ⟨b, off, none⟩) (hcells : ∀ i, i < n → w.cell? ⟨b, off + i * 3, none⟩ = some (.int .i64 (Kd i)) ∧ w.cell? ⟨b, off + i * 3 + 1, none⟩ = some (.int .i64 (Rw i)) ∧ w.cell? ⟨b, off + i * 3 + 2, none⟩ = some (.string (Ky i))) :
    Calls Try.prog 6 #[.int .i64 f, .slice A n c, .string lo, .string hi, .bool op, .int .i64 tk] w (fun e w' => e = .returned (.bool true) ∧ Chg (fun _ => False) w w') := by
  obtain ⟨R, hR⟩ : ∃ R : Ending → World → Prop, R = fun e w' => e = .returned (.bool true) ∧ Chg (fun _ => False) w w' := ⟨_, rfl⟩
  rw [← hR]
  have HP : Hid (∀ e w', e = .returned (.bool true) → Chg (fun _ => False) w w' → R e w') := fun e w' h1 h2 => by rw [hR]; exact ⟨h1, h2⟩
  clear hR
  obtain ⟨fan, h4, h64, hfan⟩ := fan_at f
  have HFAN := Lib.hid hfan
  obtain ⟨t15, ht15, htk⟩ := and_fifteen tk
  have HTK := Lib.hid htk
  have hokP := playsL_ok Kd Rw Ky (min n 80)
  obtain ⟨L, hL⟩ : ∃ L, playsL Kd Rw Ky (min n 80) = L := ⟨_, rfl⟩
  rw [hL] at hokP
  obtain ⟨ln, hln⟩ : ∃ ln, L.length = ln := ⟨_, rfl⟩
  have hln80 : ln ≤ 80 := by omega
  have HLN := Lib.hid hln
  obtain ⟨M, hM⟩ : ∃ M, between lo hi op L = M := ⟨_, rfl⟩
  have hfl := between_filter lo hi op L hokP.2
  rw [hM] at hfl
  have HFL := Lib.hid hfl
  have HM := Lib.hid hM
  have HBL : Hid (∀ W, Chg (fun _ => False) w W → Calls Try.prog 25 #[.int .i64 fan, .slice A n c, .int .i64 80] W (BuiltPost W fan L)) := fun W hW => by
    have := built_walk W fan h4 h64 b off n c 80 A Kd Rw Ky hn (by omega) hA fun i hi => by
      obtain ⟨h1, h2, h3⟩ := hcells i hi
      exact ⟨by rw [hW.cell (World.block_lt_of_cell? _ _ h1) id]; exact h1, by rw [hW.cell (World.block_lt_of_cell? _ _ h2) id]; exact h2, by rw [hW.cell (World.block_lt_of_cell? _ _ h3) id]; exact h3⟩
    rw [hL] at this
    exact this
  clear hfan htk hfl hM hokP hL hA hcells hn hln
  refine callsIn_wide.1 (callsIn_of_wp_marks (n := 5) Try.func6 rfl trivial ?_)
  simp only [Try.ntmps6, List.size_toArray, List.length_cons, List.length_nil, Nat.reduceAdd, Nat.reduceSub, Array.replicate_succ, Array.replicate_zero, List.push_toArray, List.append_toArray, List.nil_append, List.cons_append]
  refine wpIn_wide.2 (Code.wp_mono (ret_only _) ?_)
  go_upto_region 1 with (fail)
  obtain ⟨w1, b1, hw1, hb1, hB1, hC1, hs1⟩ := alloc_named w #[.int .i64 tk] 3
  rw [hw1, hb1]
  have HB1 := Lib.hid hB1
  have HC1 := Lib.hid hC1
  have hb1w : w.heap.size = b1 := hb1
  clear hw1 hB1 hC1 hs1 hb1
  go_wp2_with fail
  rw [HFAN.out]
  refine (HBL.out w1 HC1.out).mono ?_
  rintro e w2 ⟨tr, B, lc, d, t, fp, rfl, hT, hTL, hrow, hfp, htr, hlo, hC2⟩
  rw [HLN.out] at hrow hlo ⊢
  have HT := Lib.hid hT
  have HTL := Lib.hid hTL
  have HROW := Lib.hid hrow
  have HB1 := Lib.hid (HB1.out.chg hC2 id)
  have HC2 := Lib.hid (HC1.out.trans hC2)
  have hb12 : b1 < w2.heap.size := HB1.out.lt
  clear hT hTL hrow hfp htr hlo hC2 HBL HC1
  go_upto_region 6 with (fail)
  obtain ⟨w3, b16, hw3, hb3, hB3, hC3, hs3⟩ := alloc_named w2 #[.slice none 0 0] 46
  rw [hw3, hb3]
  have HB3 := Lib.hid hB3
  have HC3 := Lib.hid hC3
  have hb3w : w2.heap.size = b16 := hb3
  clear hw3 hB3 hC3 hs3 hb3
  go_upto_block 0 with fail
  go_cut [17] from 37 (fun s17 wx => ∃ (Aw : Option Addr) (cw : Nat), Blk wx b16 46 #[.slice Aw M.length cw] ∧ Row2 wx 52 (.slice Aw M.length cw) (prs M) ∧ Chg (fun _ => False) w2 wx)
  case first =>
    go_wp2_with fail
    go_loopg [17] ln (fun g s17 wr => ∃ (i : Nat) (Aw : Option Addr) (k cw : Nat), s17 = .int .i64 i ∧ i ≤ ln ∧ ln - i ≤ g ∧ Blk wr b16 46 #[.slice Aw k cw] ∧ Row2 wr 52 (.slice Aw k cw) (prs ((L.take i).filter (inB lo hi op))) ∧
      k ≤ i ∧ k = ((L.take i).filter (inB lo hi op)).length ∧ (∀ x, (Value.slice Aw k cw).ownBlock = some x → w2.heap.size ≤ x) ∧ Chg (fun _ => False) w2 wr)
    case atStart => exact ⟨0, none, 0, 0, rfl, Nat.zero_le _, by omega, HB3.out, Row2.nil _ _, Nat.le_refl _, rfl, fun x hx => by simp [Value.ownBlock] at hx, HC3.out⟩
    case round =>
      obtain ⟨i, Aw, k, cw, rfl, hil, hig, hB, hR, hki, hkl, hob, hch⟩ := hrel
      rcases Nat.lt_or_ge i ln with hlt | hge
      · obtain ⟨p, hp⟩ : ∃ p, L[i]? = some p := ⟨_, List.getElem?_eq_getElem (by rw [HLN.out]; exact hlt)⟩
        obtain ⟨B', lc', hvB, _, _, hsB, _⟩ := HROW.out.shape
        have hvB1 : B = B' := by injection hvB
        clear hvB
        subst hvB1
        obtain ⟨gB, rfl⟩ := hsB (by rw [prs_len, HLN.out]; omega)
        clear hsB
        have hgl : gB < w2.heap.size := HROW.out.lt rfl
        have hce : ∀ W, Chg (fun _ => False) w2 W → W.cell? ⟨gB, i * 2, none⟩ = some (.string p.1) ∧ W.cell? ⟨gB, i * 2 + 1, none⟩ = some (.int .i64 p.2) := fun W hW => by
          have h1 := HROW.out.chg hW fun _ _ h => h
          rw [Nat.mul_comm]; exact ⟨h1.fst (prs_get hp), h1.snd (prs_get hp)⟩
        have HCE : Hid (∀ W, Chg (fun _ => False) w2 W → W.cell? ⟨gB, i * 2, none⟩ = some (.string p.1) ∧ W.cell? ⟨gB, i * 2 + 1, none⟩ = some (.int .i64 p.2)) := hce
        have HTA : Hid ((L.take (i + 1)).filter (inB lo hi op) = (L.take i).filter (inB lo hi op) ++ (if inB lo hi op p = true then [p] else [])) := by
          have : (L.take (i + 1)).filter (inB lo hi op) = (L.take i).filter (inB lo hi op) ++ (if inB lo hi op p = true then [p] else []) := by
            rw [List.take_add_one, hp, List.filter_append]
            congr 1
            simp only [Option.toList]
            rw [List.filter_cons]; split <;> rfl
          exact this
        obtain ⟨q0, hq0⟩ : ∃ q0, inB lo hi op p = q0 := ⟨_, rfl⟩
        rw [hq0] at HTA
        have hq1 : q0 = (!ltB p.1 lo && (op || ltB p.1 hi)) := hq0.symm
        have HQ1 := Lib.hid hq1
        have hiln : (i : Int) < (ln : Int) := by omega
        have hwi : IntKind.i64.wrap ((i : Int) + 1) = (i : Int) + 1 := by rw [IntKind.wrap_i64]; omega
        have HWI := Lib.hid hwi
        have HB := Lib.hid hB
        have HR := Lib.hid hR
        have HOB : Hid (∀ x, (Value.slice Aw k cw).ownBlock = some x → w2.heap.size ≤ x) := hob
        have HCH := Lib.hid hch
        have HKL := Lib.hid hkl
        clear hB hR hob hch hp hce hq0 hq1 hwi hkl
        obtain ⟨hd0, hd1⟩ := HCE.out wr HCH.out
        go_upto_region 9 with (fail)
        go_cut [61] from 37 to 68 (fun s61 wx => s61 = .bool q0 ∧ wr = wx)
        case first =>
          have h1 := HQ1.out
          cases h2 : ltB p.1 lo with
          | true =>
            rw [h2] at h1
            simp only [Bool.not_true, Bool.false_and] at h1
            subst h1
            have h3 : Op.bytesLess p.1.toList lo.toList = true := h2
            clear h2
            go_wp2_with fail
            go_meet
            case rel => exact ⟨rfl, rfl⟩
          | false =>
            rw [h2] at h1
            simp only [Bool.not_false, Bool.true_and] at h1
            have h3 : Op.bytesLess p.1.toList lo.toList = false := h2
            clear h2
            cases op with
            | true =>
              simp only [Bool.true_or] at h1
              subst h1
              go_wp2_with fail
              go_meet
              case rel => exact ⟨rfl, rfl⟩
            | false =>
              simp only [Bool.false_or] at h1
              have H1 := Lib.hid h1
              clear h1
              go_wp2_with fail
              go_meet
              case rel => exact ⟨by rw [H1.out]; rfl, rfl⟩
        case rest =>
          obtain ⟨rfl, hwc⟩ := hcut
          subst hwc
          cases q0 with
          | true =>
            have HTA2 : Hid ((L.take (i + 1)).filter (inB lo hi op) = (L.take i).filter (inB lo hi op) ++ [p]) := HTA.out
            have hbc := HB.out.cell_ (i := 0) rfl
            have hbf := HB.out.frozen 0
            have hkin : (k : Int) ≤ 80 := by omega
            go_wp2_with fail
            obtain ⟨w5, hw5, hC5⟩ := drew_named wr
            have hC0 : Chg (fun _ => False) wr w5 := hC5
            have SP : Hid (∀ W, Chg (fun _ => False) wr W → W.cell? ⟨b16, 0, none⟩ = some (.slice Aw k cw) ∧ W.cell? ⟨gB, i * 2, none⟩ = some (.string p.1) ∧ W.cell? ⟨gB, i * 2 + 1, none⟩ = some (.int .i64 p.2)) := fun W hW => ⟨(HB.out.chg hW id).cell_ rfl, HCE.out W (HCH.out.trans hW)⟩
            have hS := SP.out _ hC0
            clear hbc hbf hd0 hd1
            refine wp_region_till (s := 6) (S := (fun W => W.cell? ⟨b16, 0, none⟩ = some (.slice Aw k cw) ∧ W.cell? ⟨gB, i * 2, none⟩ = some (.string p.1) ∧ W.cell? ⟨gB, i * 2 + 1, none⟩ = some (.int .i64 p.2))) (by kernel_rfl) ?_
            rw [hw5]
            clear hw5 hC5
            apply till_take0 (i := 1) (d := some 63)
            case hi => exact rfl
            case hd => exact rfl
            case hchk => kernel_rfl
            case hS => exact (fun _ => hS)
            case hy => apply yields_plain; exact rfl; intro w _; go_simp <;> with_reducible rfl
            case hQ => exact fun _ _ _ h => h
            simp only [Act.put, List.setIfInBounds_toArray, List.set_cons_zero, List.set_cons_succ]
            apply till_take0 (i := 2) (d := some 64)
            case hi => exact rfl
            case hd => exact rfl
            case hchk => kernel_rfl
            case hS => exact (fun _ => hS)
            case hy => apply yields_plain; exact rfl; intro w _; go_simp <;> with_reducible rfl
            case hQ => exact fun _ _ _ h => h
            simp only [Act.put, List.setIfInBounds_toArray, List.set_cons_zero, List.set_cons_succ]
            apply till_take0 (i := 3) (d := some 65)
            case hi => exact rfl
            case hd => exact rfl
            case hchk => kernel_rfl
            case hS => exact (fun _ => hS)
            case hy => apply yields_plain; exact rfl; intro w _; go_simp <;> with_reducible rfl
            case hQ => exact fun _ _ _ h => h
            simp only [Act.put, List.setIfInBounds_toArray, List.set_cons_zero, List.set_cons_succ]
            apply till_take (i := 0) (d := some 62) [6, 0]
            case hi => exact rfl
            case hd => exact rfl
            case hchk => kernel_rfl
            case hS => exact hS
            case hy => apply yields_plain; exact rfl; intro w hSw; (try dsimp only at hSw); go_split_ands; go_simp <;> with_reducible rfl
            case hQ => exact fun _ _ _ h => h
            simp only [Act.put, List.setIfInBounds_toArray, List.set_cons_zero, List.set_cons_succ]
            apply till_take (i := 4) (d := some 66) [6, 5, 4]
            case hi => exact rfl
            case hd => exact rfl
            case hchk => kernel_rfl
            case hS => exact hS
            case hy => apply yields_plain; exact rfl; intro w hSw; (try dsimp only at hSw); go_split_ands; go_simp <;> with_reducible rfl
            case hQ => exact fun _ _ _ h => h
            simp only [Act.put, List.setIfInBounds_toArray, List.set_cons_zero, List.set_cons_succ]
            refine till_all (rs := [5]) (by kernel_rfl) (by simp) (mem_more (till_op (i := 5) (o := ⟨some 67, _, _, _, _, _⟩) rfl rfl (fun K hK => ?_)) (mem_none))
            go_simp
            obtain ⟨wp, yp, hwp, hyp, hBp, hCp, -⟩ := alloc_named w5 #[.string p.1, .int .i64 p.2] 52
            rw [hwp, hyp]
            have hC0 := hC0.trans hCp
            clear hwp hyp hCp
            refine hK.out _ _ (fun _ => ?_) (fun hS2 => ?_)
            · exact SP.out _ hC0
            have hS3 := hS2 (by kernel_rfl)
            clear hK K hS hS2
            have hS := hS3
            clear hS3
            try simp only [Act.put, List.setIfInBounds_toArray, List.set_cons_zero, List.set_cons_succ]
            refine till_all (rs := [6]) (by kernel_rfl) (by simp) (mem_more (till_op (i := 6) (o := ⟨some 68, _, _, _, _, _⟩) rfl rfl (fun K hK => ?_)) (mem_none))
            refine wp_pairs (.tmp 62) (.tmp 67) rfl Aw k cw (prs ((L.take i).filter (inB lo hi op))) rfl (HR.out.chg hC0 fun _ _ h => h) (some ⟨yp, 0, none⟩) 1 1 rfl [(.string p.1, .int .i64 p.2)] (Reads2.one hBp) (prs_one [p]) (by omega) ?_
            rintro A5 c5 wb hR6 hC6 hob6
            simp only [Act.put, List.setIfInBounds_toArray, List.set_cons_zero, List.set_cons_succ]
            have hob6 : ∀ x, (Value.slice A5 (k + 1) c5).ownBlock = some x → w2.heap.size ≤ x := fun x hx => (hob6 x hx).elim (HOB.out x) (fun h => by have h1 := hC0.size; have h2 := HCH.out.size; omega)
            have hB6 := (HB.out.chg hC0 id).chg hC6 (fun h => (HR.out.chg hC0 fun _ _ h => h).ne_blk (HB.out.chg hC0 id) (by decide) h)
            have hC6' : Chg (fun _ => False) w2 wb := (HCH.out.trans hC0).comp hC6 fun x hx h => by have := HOB.out x h; omega
            clear hC6 hBp
            refine hK.out _ _ (fun h => by cases (show true = false from h)) (fun _ => ?_)
            clear hK K hS
            try simp only [Act.put, List.setIfInBounds_toArray, List.set_cons_zero, List.set_cons_succ]
            refine till_all (rs := [7]) (by kernel_rfl) (by simp) (mem_more (till_op (i := 7) (o := ⟨none, _, _, _, _, _⟩) rfl rfl (fun K hK => ?_)) (mem_none))
            have hbc : (wb).cell? ⟨b16, 0, none⟩ = some _ := hB6.cell_ rfl
            have hbf := hB6.frozen 0
            go_simp
            clear hbc hbf
            obtain ⟨wd, hwd, hB7, hC7⟩ := set_named hB6 0 (.slice A5 (k + 1) c5)
            rw [hwd]
            have hR7 := hR6.past2 hB6 (by decide) hC7
            refine hK.out _ _ (fun h => by cases (show true = false from h)) (fun _ => ?_)
            clear hK K
            try simp only [Act.put, List.setIfInBounds_toArray, List.set_cons_zero, List.set_cons_succ]
            refine till_done (by kernel_rfl) ?_
            rw [show [(Value.string p.1, Value.int .i64 p.2)] = prs [p] from rfl, prs_app, ← HTA2.out] at hR7
            have hl7 := row_len hR7
            rw [prs_len] at hl7
            have hC8 : Chg (fun _ => False) w2 wd := hC6'.comp hC7 fun x hx h => by omega
            have HB8 := Lib.hid hB7
            have HR8 := Lib.hid hR7
            have HL8 := Lib.hid hl7
            have HC8 := Lib.hid hC8
            have HO8 : Hid (∀ x, (Value.slice A5 (k + 1) c5).ownBlock = some x → w2.heap.size ≤ x) := hob6
            have hwi := HWI.out
            clear hwd hB6 hB7 hR6 hR7 hC6' hC7 hC8 hl7 hob6 hC0
            go_wp2_with fail
            clear hwi
            go_roundg (ln - (i + 1))
            case measure => omega
            case rel => exact ⟨i + 1, A5, k + 1, c5, by first | rfl | go_num, by omega, Nat.le_refl _, HB8.out, HR8.out, by omega, HL8.out, HO8.out, HC8.out⟩
          | false =>
            have HTA2 : Hid ((L.take (i + 1)).filter (inB lo hi op) = (L.take i).filter (inB lo hi op)) := by
              have h1 := HTA.out
              simp only [Bool.false_eq_true, if_false, List.append_nil] at h1
              exact h1
            have hwi := HWI.out
            go_wp2_with fail
            clear hwi
            go_roundg (ln - (i + 1))
            case measure => omega
            case rel => exact ⟨i + 1, Aw, k, cw, by first | rfl | go_num, by omega, Nat.le_refl _, HB.out, by rw [HTA2.out]; exact HR.out, by omega, by rw [HTA2.out]; exact HKL.out, HOB.out, HCH.out⟩
      · obtain rfl : i = ln := by omega
        rw [List.take_of_length_le (by rw [HLN.out]; exact Nat.le_refl _), HFL.out] at hR hkl
        have HB := Lib.hid hB
        have HR := Lib.hid hR
        have HKL := Lib.hid hkl
        have HCH := Lib.hid hch
        have hnl : ¬ ((i : Int) < (i : Int)) := by omega
        clear hB hR hkl hch hob
        go_wp2_with fail
        go_meet
        case rel =>
          have h1 := HKL.out
          subst h1
          exact ⟨Aw, cw, HB.out, HR.out, HCH.out⟩
  case rest =>
    obtain ⟨Aw, cw, hB, hR, hch⟩ := hcut
    obtain ⟨mm, hmm⟩ : ∃ mm, M.length = mm := ⟨_, rfl⟩
    rw [hmm] at hB hR
    have hmm80 : mm ≤ 80 := by
      have := HFL.out
      rw [← hmm, ← this]
      exact Nat.le_trans (List.length_filter_le ..) (by rw [HLN.out]; exact hln80)
    have HMM := Lib.hid hmm
    have HBW := Lib.hid hB
    have HRW := Lib.hid hR
    have HCHC := Lib.hid hch
    have hb16c : b16 < wc.heap.size := hB.lt
    clear hB hR hch hmm HB3 HC3
    go_wp2_with fail
    refine (range_calls wc tr lo hi op).mono ?_
    rintro e w4 ⟨bt, blo, bop, bhi, ta, tb, tc, td, rfl, hB2, hB3, hB4, hB5, hg2, hg3, hg4, hg5, hC4⟩
    unfold ptr
    have HRB : Hid (Blk w4 bt ta #[ptr tr] ∧ Blk w4 blo tb #[.string lo] ∧ Blk w4 bop tc #[.bool op] ∧ Blk w4 bhi td #[.string hi]) := ⟨hB2, hB3, hB4, hB5⟩
    have HC4 := Lib.hid (HCHC.out.trans hC4)
    have HBW4 := Lib.hid (HBW.out.chg hC4 id)
    have HRW4 := Lib.hid (HRW.out.chg hC4 fun _ _ h => h)
    have HB14 := Lib.hid (HB1.out.chg HC4.out id)
    clear hB2 hB3 hB4 hB5 hg2 hg3 hg4 hg5 hC4 HBW HRW HCHC
    have hfn := fun w => eql_func_nil w (.func 43) #[] #[.pointer (some ⟨bt, 0, none⟩), .pointer (some ⟨blo, 0, none⟩), .pointer (some ⟨bop, 0, none⟩), .pointer (some ⟨bhi, 0, none⟩)]
    go_wp2_with fail
    clear hfn
    obtain ⟨w6, b6, hw6, hb6, hB6, hC6, hs6⟩ := alloc_named w4 #[.int .i64 0] 3
    rw [hw6]
    obtain ⟨w7, b7, hw7, hb7, hB7, hC7, hs7⟩ := alloc_named w6 #[.bool true] 4
    rw [hw7]
    have e1 : w4.heap.size + 1 = b7 := by omega
    simp only [hb6] at e1 ⊢
    simp only [e1]
    have hC67 := hC6.trans hC7
    have hb164 : b16 < b6 := by rw [← hb6]; exact HBW4.out.lt
    have hb1b : b1 < b6 := by rw [← hb6]; exact HB14.out.lt
    have hw2b : w2.heap.size ≤ b6 := by rw [← hb6]; exact HC4.out.size
    have HC7 := Lib.hid (HC4.out.trans hC67)
    have HBW7 := Lib.hid (HBW4.out.chg hC67 id)
    have HRW7 := Lib.hid (HRW4.out.chg hC67 fun _ _ h => h)
    have HB17 := Lib.hid (HB14.out.chg hC67 id)
    have HB6 := Lib.hid (hB6.chg hC7 id)
    have HB7 := Lib.hid hB7
    have HLT : Hid (bt < b6 ∧ blo < b6 ∧ bop < b6 ∧ bhi < b6) := ⟨hb6 ▸ HRB.out.1.lt, hb6 ▸ HRB.out.2.1.lt, hb6 ▸ HRB.out.2.2.1.lt, hb6 ▸ HRB.out.2.2.2.lt⟩
    have HRB7 : Hid (Blk w7 bt ta #[ptr tr] ∧ Blk w7 blo tb #[.string lo] ∧ Blk w7 bop tc #[.bool op] ∧ Blk w7 bhi td #[.string hi]) := ⟨HRB.out.1.chg hC67 id, HRB.out.2.1.chg hC67 id, HRB.out.2.2.1.chg hC67 id, HRB.out.2.2.2.chg hC67 id⟩
    have hs7' : w7.heap.size = b7 + 1 := hs7
    have hawl : ∀ g, (Value.slice Aw mm cw).ownBlock = some g → g < b6 := fun g hg => by rw [← hb6]; exact HRW4.out.lt hg
    have HAWL : Hid (∀ g, (Value.slice Aw mm cw).ownBlock = some g → g < b6) := hawl
    clear hw6 hb6 hB6 hC6 hs6 hw7 hb7 hB7 hC7 hs7 hC67 hawl HB14 HRW4 HBW4 HC4 HRB
    obtain ⟨u, hSn⟩ := HT.out.seen (by rw [HTL.out, HLN.out]; omega)
    rw [HTL.out] at hSn
    have HSN := Lib.hid hSn
    clear hSn
    -- what the iterator does, from any later world on
    have HSEQ : Hid (∀ (Bs : Nat → Prop) (W : World), Chg (fun k => k = b6 ∨ k = b7) w7 W → (∀ k, Bs k → b6 ≤ k ∧ k < W.heap.size) →
        SeqC Try.prog 43 #[ptr bt, ptr blo, ptr bop, ptr bhi] enc2 (fun xs => xs = M) (fun pre => pre <+: M) Bs W) := fun Bs W hW hBs => by
      have h1 := HLT.out
      have h2 := HSN.out.blk.lt
      have h3 := HSN.out.view.lt
      have hc : Chg (fun k => k = b6 ∨ k = b7) w2 W := HC7.out.up.trans hW
      refine range_seq (M := M) (HSN.out.view.chg hc fun k hk h => ?_) HSN.out.sound (HSN.out.blk.chg hc (by omega)) (HRB7.out.1.chg hW (by omega)) (HRB7.out.2.1.chg hW (by omega)) (HRB7.out.2.2.1.chg hW (by omega)) (HRB7.out.2.2.2.chg hW (by omega)) (fun k hk => ?_) (by rw [HSN.out.list, HM.out])
      · have := h3 k hk; omega
      · obtain ⟨h4, h5⟩ := hBs k hk
        refine ⟨h5, fun h => ?_, by omega, by omega, by omega, by omega, by omega⟩
        have := h3 k h
        omega
    refine wp_range2 21 22 rfl (enters_of Try.func43 (by kernel_rfl) rfl) (Bs := fun k => k = b6 ∨ k = b7) (fun k hk => by omega)
      (HSEQ.out (fun k => k = b6 ∨ k = b7) w7 (Chg.refl _ _) (fun k hk => by omega))
      (fun pre W => Chg (fun k => k = b6 ∨ k = b7) w7 W ∧ Blk W b6 3 #[.int .i64 (pre.length : Nat)] ∧ Blk W b7 4 #[.bool true]) (fun _ _ _ => False)
      (fun s A B h hb => ⟨h.1.belowT hb, h.2.1.below hb (by omega), h.2.2.below hb (by omega)⟩) (fun _ _ _ _ h _ => h) ⟨Chg.refl _ _, HB6.out, HB7.out⟩ ?assign ?body ?done ?stop
    case assign =>
      intro l x W K hK
      gi_wp2
      exact hK
    case body =>
      rintro l pre x W ⟨hch, hB6, hB7⟩ hpx -
      unfold put2
      simp only [List.setIfInBounds_toArray, List.set_cons_zero, List.set_cons_succ]
      obtain ⟨i, hi⟩ : ∃ i, pre.length = i := ⟨_, rfl⟩
      have hx : M[i]? = some x := by
        obtain ⟨T, e⟩ := hpx
        rw [← hi, ← e]
        simp
      rw [hi] at hB6
      have hin : i < mm := by
        have := (List.getElem?_eq_some_iff.1 hx).1
        rw [HMM.out] at this; exact this
      have HB6 := Lib.hid hB6
      have HB7 := Lib.hid hB7
      have HCH := Lib.hid hch
      have HB1W : Hid (Blk W b16 46 #[.slice Aw mm cw]) := HBW7.out.chg hch (by omega)
      have hg : 0 < mm → ∃ gB, Aw = some ⟨gB, 0, none⟩ := fun h0 => by
        obtain ⟨A', lc', hvA, _, _, hsA, _⟩ := HRW7.out.shape
        have e : Aw = A' := by injection hvA
        obtain ⟨gB, h⟩ := hsA (by rw [prs_len, HMM.out]; exact h0)
        exact ⟨gB, e.trans h⟩
      obtain ⟨gW, rfl⟩ := hg (by omega)
      have hgl : gW < b6 := HAWL.out gW rfl
      have HRX : Hid (Row2 W 52 (.slice (some ⟨gW, 0, none⟩) mm cw) (prs M)) := HRW7.out.chg hch fun g hg => by
        have e : gW = g := by simpa [Value.ownBlock] using hg
        omega
      have h1 := HB6.out.cell_ (i := 0) rfl
      have h2 := HB7.out.cell_ (i := 0) rfl
      have h3 := HB1W.out.cell_ (i := 0) rfl
      have h4 := HRX.out.fst (prs_get hx)
      have h5 := HRX.out.snd (prs_get hx)
      rw [Nat.mul_comm] at h4 h5
      have h6 := HB7.out.frozen 0
      have h8 := HB6.out.frozen 0
      have h7 : (i : Int) < (mm : Int) := by omega
      clear hB6 hB7 hch hpx
      gi_wp2_with fail
      obtain ⟨w8, hw8, hB7, hC8⟩ := set_named HB7.out 0 (.bool true)
      rw [hw8]
      have hB6 : Blk w8 b6 3 #[.int .i64 i] := HB6.out.chg hC8 (by omega)
      obtain ⟨w9, hw9, hB6, hC9⟩ := set_named hB6 0 (.int .i64 ((i : Int) + 1))
      rw [hw9]
      have hB7 := hB7.chg hC9 (by omega)
      have hC : Chg (fun k => k = b6 ∨ k = b7) W w9 := (hC8.mono fun k _ h => .inr h).trans (hC9.mono fun k _ h => .inl h)
      refine ⟨hC, HCH.out.trans hC, ?_, hB7⟩
      rw [List.length_append, List.length_singleton, show ((pre.length + 1 : Nat) : Int) = (i : Int) + 1 by omega]
      exact hB6
    case done =>
      rintro D xs W hxs ⟨hch, hB6, hB7⟩ hD hDs
      rw [hxs, HMM.out] at hB6
      clear hxs
      have h1 := hB6.cell_ (i := 0) rfl
      have h2 := hB7.cell_ (i := 0) rfl
      have h3 := (HBW7.out.chg hch (by omega)).cell_ (i := 0) rfl
      have HCH := Lib.hid hch
      have HD := Lib.hid hD
      have hDl : D < W.heap.size := by
        have := (Array.getElem?_eq_some_iff.1 hD).1
        exact this
      clear hB6 hB7 hch hD
      go_wp2_with fail
      obtain ⟨w9, b9, hw9, hb9, hB9, hC9, hs9⟩ := alloc_named W #[.int .i64 0] 3
      rw [hw9, hb9]
      have hw7W := HCH.out.size
      have HC9 := Lib.hid (HCH.out.trans hC9.up)
      have HB9 := Lib.hid hB9
      have HD9 : Hid (w9.heap[D]? = some (.deferred (some []))) := (hC9.block D hDl id).trans HD.out
      have hs9' : w9.heap.size = b9 + 1 := hs9
      clear h1 h2 h3 hw9 hB9 hC9 hs9 HD
      refine wp_range0 rfl (enters_of Try.func43 (by kernel_rfl) rfl) (Bs := fun k => k = b9) (fun k hk => by omega)
        (HSEQ.out (fun k => k = b9) w9 HC9.out (fun k hk => by omega))
        (fun pre W => Chg (fun k => k = b9) w9 W ∧ Blk W b9 3 #[.int .i64 (pre.length : Nat)] ∧ pre.length ≤ t15)
        (fun c pre W => c = Code.exit 4 ∧ Chg (fun k => k = b9) w9 W ∧ Blk W b9 3 #[.int .i64 (t15 : Nat)] ∧ pre.length = t15 + 1)
        (fun s A B h hb => ⟨h.1.belowT hb, h.2.1.below hb (by omega), h.2.2⟩) (fun c s A B h hb => ⟨h.1, h.2.1.belowT hb, h.2.2.1.below hb (by omega), h.2.2.2⟩) ⟨Chg.refl _ _, HB9.out, Nat.zero_le _⟩ ?assign2 ?body2 ?done2 ?stop2
      case assign2 =>
        intro l x W2 K hK
        gi_wp2
        exact hK
      case body2 =>
        rintro l pre x W2 ⟨hch, hB9, hle⟩ hpx -
        unfold put0
        simp only [List.setIfInBounds_toArray, List.set_cons_zero, List.set_cons_succ]
        obtain ⟨i, hi⟩ : ∃ i, pre.length = i := ⟨_, rfl⟩
        rw [hi] at hB9 hle
        have HB9 := Lib.hid hB9
        have HCH2 := Lib.hid hch
        have HB1X : Hid (Blk W2 b1 3 #[.int .i64 tk]) := (HB17.out.chg HC9.out (by omega)).chg hch (by omega)
        have h1 := HB9.out.cell_ (i := 0) rfl
        have h2 := HB1X.out.cell_ (i := 0) rfl
        have h3 := HB9.out.frozen 0
        have h4 := HTK.out
        clear hB9 hch hpx
        rcases Nat.lt_or_ge i t15 with h5 | h5
        · have h6 : ((i : Int) == (t15 : Int)) = false := by rw [beq_eq_false_iff_ne]; omega
          have h7 : ¬ (i = t15) := by omega
          have h8 : ¬ ((i : Int) = (t15 : Int)) := by omega
          have hwi : IntKind.i64.wrap ((i : Int) + 1) = (i : Int) + 1 := by rw [IntKind.wrap_i64]; omega
          gi_wp2_with fail
          obtain ⟨w10, hw10, hB10, hC10⟩ := set_named HB9.out 0 (.int .i64 ((i : Int) + 1))
          rw [hw10]
          refine ⟨hC10, HCH2.out.trans hC10, ?_, by rw [List.length_append, List.length_singleton]; omega⟩
          rw [List.length_append, List.length_singleton, show ((pre.length + 1 : Nat) : Int) = (i : Int) + 1 by omega]
          exact hB10
        · obtain rfl : i = t15 := by omega
          gi_wp2_with fail
          exact ⟨Chg.refl _ _, rfl, HCH2.out, HB9.out, by rw [List.length_append, List.length_singleton]; omega⟩
      case done2 =>
        rintro D2 xs W2 hxs ⟨hch, hB9, hle⟩ hD2 hD2s
        rw [hxs, HMM.out] at hB9 hle
        have h1 := hB9.cell_ (i := 0) rfl
        have h2 := ((HB17.out.chg HC9.out (by omega)).chg hch (by omega)).cell_ (i := 0) rfl
        have h3 := ((HBW7.out.chg HC9.out (by omega)).chg hch (by omega)).cell_ (i := 0) rfl
        have h4 := HTK.out
        have HDX : Hid (W2.heap[D]? = some (.deferred (some []))) := (hch.block D (by omega) (by omega)).trans HD9.out
        have HCH2 := Lib.hid hch
        have HD2 := Lib.hid hD2
        have h5 : ((mm : Int) < (t15 : Int) ∧ ¬ ((t15 : Int) ≤ (mm : Int))) ∨ mm = t15 := by omega
        clear hB9 hch hD2 hxs hle
        rcases h5 with ⟨h5, h6⟩ | rfl
        all_goals
          go_wp2_with fail
          refine (awake_calls W2).mono ?_
          rintro e w11 ⟨rfl, hC11⟩
          have hz := HC2.out.size
          have hz2 := HC9.out.size
          have hz3 := HCH2.out.size
          have HC11 := Lib.hid ((((HC2.out.trans HC7.out).comp HC9.out fun k hk hf => by omega).comp HCH2.out fun k hk hf => by omega).trans hC11)
          have HDX2 : Hid (w11.heap[D]? = some (.deferred (some []))) := (hC11.block D (by omega) id).trans HDX.out
          have HD22 : Hid (w11.heap[D2]? = some (.deferred (some []))) := (hC11.block D2 (Array.getElem?_eq_some_iff.1 HD2.out).1 id).trans HD2.out
          clear hC11
          go_wp2_with fail
          show bodyPostM Fence.wide 5 Try.prog Try.f6 R Exit.ret _ w11
          refine ⟨by simp, .inl ⟨_, _, rfl, run_takeDeferred HD22.out, ?_⟩⟩
          refine ⟨by simp, .inl ⟨_, _, rfl, run_takeDeferred ((World.putObj_heap_other (by omega)).trans HDX2.out), ?_⟩⟩
          exact ⟨_, results_tmp rfl _ _ _, HP.out _ _ rfl ((HC11.out.putObj (by omega) _).putObj (by omega) _)⟩
      case stop2 =>
        rintro D2 c pre W2 hpx ⟨rfl, hch, hB9, hle⟩ hD2 hD2s
        have hpl := hpx.length_le
        rw [hle, HMM.out] at hpl
        have h1 := hB9.cell_ (i := 0) rfl
        have h2 := ((HB17.out.chg HC9.out (by omega)).chg hch (by omega)).cell_ (i := 0) rfl
        have h3 := ((HBW7.out.chg HC9.out (by omega)).chg hch (by omega)).cell_ (i := 0) rfl
        have h4 := HTK.out
        have HDX : Hid (W2.heap[D]? = some (.deferred (some []))) := (hch.block D (by omega) (by omega)).trans HD9.out
        have HCH2 := Lib.hid hch
        have HD2 := Lib.hid hD2
        have h5 : (t15 : Int) < (mm : Int) := by omega
        clear hB9 hch hD2 hpx
        go_wp2_with fail
        all_goals
          refine (awake_calls W2).mono ?_
          rintro e w11 ⟨rfl, hC11⟩
          have hz := HC2.out.size
          have hz2 := HC9.out.size
          have hz3 := HCH2.out.size
          have HC11 := Lib.hid ((((HC2.out.trans HC7.out).comp HC9.out fun k hk hf => by omega).comp HCH2.out fun k hk hf => by omega).trans hC11)
          have HDX2 : Hid (w11.heap[D]? = some (.deferred (some []))) := (hC11.block D (by omega) id).trans HDX.out
          have HD22 : Hid (w11.heap[D2]? = some (.deferred (some []))) := (hC11.block D2 (Array.getElem?_eq_some_iff.1 HD2.out).1 id).trans HD2.out
          clear hC11
          go_wp2_with fail
          show bodyPostM Fence.wide 5 Try.prog Try.f6 R Exit.ret _ w11
          refine ⟨by simp, .inl ⟨_, _, rfl, run_takeDeferred HD22.out, ?_⟩⟩
          refine ⟨by simp, .inl ⟨_, _, rfl, run_takeDeferred ((World.putObj_heap_other (by omega)).trans HDX2.out), ?_⟩⟩
          exact ⟨_, results_tmp rfl _ _ _, HP.out _ _ rfl ((HC11.out.putObj (by omega) _).putObj (by omega) _)⟩
    case stop =>
      rintro D c pre W _ h
      exact h.elim
end Go.Proofs.Ythndplpbnfihdaa
