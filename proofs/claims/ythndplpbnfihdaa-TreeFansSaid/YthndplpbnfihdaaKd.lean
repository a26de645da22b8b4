/-
  Check's closure at an inner node. Conditions: the node is in order, so are its children.
-/
import Derived.Test.YthndplpbnfihdaaKc
set_option linter.unusedVariables false
set_option linter.unusedSimpArgs false
namespace Go.Proofs.Ythndplpbnfihdaa
open Go.RowKit

theorem ckst_keep {w w1 : World} {bok bso bla bn : Nat} {L : List (ByteArray × Int)} {vb : Bool} (hvb : vb = true) (hS : CkSt w bok bso bla bn L) (hd : bok ≠ bso) (q : Nat) (hw : (w.drewN q).setCell ⟨bok, 0, none⟩ (.bool vb) = w1) :
    CkSt w1 bok bso bla bn L ∧ Chg (fun k => k = bok ∨ k = bso ∨ k = bla ∨ k = bn) w w1 := by
  subst hvb
  exact ⟨ckst_ok hw hS hd, hw ▸ ((Chg.refl _ w).drewN q).setCell (p := ⟨bok, 0, none⟩) (.inl (.inl rfl)) _⟩

theorem CkSt.drew {w : World} {bok bso bla bn : Nat} {L : List (ByteArray × Int)} (h : CkSt w bok bso bla bn L) : CkSt w.drew bok bso bla bn L := ⟨h.ok.drew, h.so.drew, h.la.drew, h.n.drew⟩

theorem last_below {d : Nat} {ks : List ByteArray} {cs : List (Nb d)} {L : List (ByteArray × Int)} {i : Nat} {k : ByteArray} (hs : Sep d ks (cs.map (dat d))) (hf : ∀ x ∈ cs, Full d x) (hk : ks[i]? = some k) (hi : i < cs.length) :
    ltB (lastK (L ++ (cs.take (i + 1)).flatMap (listU d))) k = true ∧ (L ++ (cs.take (i + 1)).flatMap (listU d)).isEmpty = false := by
  obtain ⟨x, hx⟩ : ∃ x, cs[i]? = some x := ⟨_, List.getElem?_eq_getElem hi⟩
  have hpos := full_pos (hf x (List.mem_of_getElem? hx))
  rw [flat_take hx]
  have hne : listU d x ≠ [] := fun e => by rw [e] at hpos; simp at hpos
  obtain ⟨p, hp⟩ : ∃ p, (listU d x).getLast? = some p := by
    cases h : (listU d x).getLast? with
    | none => rw [List.getLast?_eq_none_iff] at h; exact absurd h hne
    | some p => exact ⟨p, rfl⟩
  have hl : (L ++ ((cs.take i).flatMap (listU d) ++ listU d x)).getLast? = some p := by
    rw [List.getLast?_append, List.getLast?_append, hp]; rfl
  refine ⟨?_, ?_⟩
  · unfold lastK
    rw [hl]
    exact (hs i k i (dat d x) hk (by rw [List.getElem?_map, hx]; rfl) p (by rw [listU_dat]; exact List.mem_of_getLast? hp)).1 (Nat.le_refl _)
  · cases h : L ++ ((cs.take i).flatMap (listU d) ++ listU d x) with
    | nil => rw [h] at hl; cases hl
    | cons a l => rfl

set_option maxHeartbeats 4000000 in
set_option maxRecDepth 100000 in
theorem check_inner {w : World} {S : Nat → Prop} {bt bok bdp bso bla bn bch tr root fan N d : Nat} {deep D : Int} {L : List (ByteArray × Int)} {u : Nb (d + 1)} (hR : Rd w S (d + 1) u) (hE : CkEnv w S bt bok bdp bso bla bn bch tr root fan N deep)
    (hS : CkSt w bok bso bla bn L) (hfan : fan ≤ 64) (hsz : u.2.2.length ≤ fan) {rt : TypeId} {rx : Array Value} (hrb : Blk w root rt rx) (hroot : u.1 = root ∨ fan / 2 ≤ u.2.2.length) (h2 : 2 ≤ u.2.2.length) (hkl : u.2.2.length = u.2.1.length + 1)
    (hsep : Sep d u.2.1 (u.2.2.map (dat d))) (hfull : ∀ x ∈ u.2.2, Full d x) (hDb : -1000 ≤ D ∧ D ≤ 1000)
    (HC : ∀ (i : Nat) (x : Nb d) (wr : World), u.2.2[i]? = some x → CkSt wr bok bso bla bn (L ++ (u.2.2.take i).flatMap (listU d)) → Chg (fun k => k = bok ∨ k = bso ∨ k = bla ∨ k = bn) w wr →
      Calls Try.prog 38 #[ptr (blk d x), .int .i64 (D + 1), ptr bt, ptr bok, ptr bdp, ptr bso, ptr bla, ptr bn, ptr bch] wr (CkPost wr bok bso bla bn ((L ++ (u.2.2.take i).flatMap (listU d)) ++ listU d x))) :
    Calls Try.prog 38 #[ptr u.1, .int .i64 D, ptr bt, ptr bok, ptr bdp, ptr bso, ptr bla, ptr bn, ptr bch] w (CkPost w bok bso bla bn (L ++ listU (d + 1) u)) := by
  obtain ⟨R, hR'⟩ : ∃ R, R = CkPost w bok bso bla bn (L ++ listU (d + 1) u) := ⟨_, rfl⟩
  rw [← hR']
  obtain ⟨m, hm⟩ : ∃ m, u.2.1.length = m := ⟨_, rfl⟩
  rw [hm] at hkl
  obtain ⟨n, hn⟩ : ∃ n, u.2.2.length = n := ⟨_, rfl⟩
  have hnm : n = m + 1 := by omega
  obtain ⟨b, hb⟩ : ∃ b, u.1 = b := ⟨_, rfl⟩
  have HSZ : Hid (∀ q, Calls Try.prog 34 #[.pointer (some ⟨b, 0, none⟩)] (w.drewN q) (fun e w' => e = .returned (.int .i64 (n : Nat)) ∧ ∃ m, w' = (w.drewN q).drewN m)) := fun q => by
    have h1 := hR.chg ((Chg.refl (fun _ => False) w).drewN q) fun _ _ h => h
    have h2 := size_rd h1
    rw [show blk (d + 1) u = b from hb, show sizeU (d + 1) u = n from hn] at h2
    refine h2.mono ?_
    rintro e w' ⟨h1, rfl⟩
    exact ⟨h1, 0, rfl⟩
  obtain ⟨hSb, vk, gq, cq, hbk, hkk, hkids, hSk, hSg, hch⟩ := hR
  obtain ⟨A, ck, rfl, _⟩ := hkk.shape
  have l1 : (strs u.2.1).length = m := by simp [strs, hm]
  rw [l1] at hbk hkk hSk
  rw [hn] at hbk hkids hsz hroot
  rw [hb] at hbk hSb hroot ⊢
  have htc : w.cell? ⟨bt, 0, none⟩ = some (.pointer (some ⟨tr, 0, none⟩)) := hE.ht.cell_ rfl
  have hfc : w.cell? ⟨tr, 0, none⟩ = some (.int .i64 fan) := hE.htr.cell_ rfl
  have hrc : w.cell? ⟨tr, 2, none⟩ = some (.pointer (some ⟨root, 0, none⟩)) := hE.htr.cell_ rfl
  have hoc : w.cell? ⟨bok, 0, none⟩ = some (.bool true) := hS.ok.cell_ rfl
  have hoz := hS.ok.frozen 0
  have hk0 : w.cell? ⟨b, 0, none⟩ = some (.slice A m ck) := hbk.cell_ rfl
  have hk2 : w.cell? ⟨b, 2, none⟩ = some (.slice (some ⟨gq, 0, none⟩) n cq) := hbk.cell_ rfl
  have hm0 : 0 < m := by omega
  have hm1 : (0 : Int) < (m : Int) := by omega
  have hnlt : ¬ (fan < n) := by omega
  have hq1 : ((n : Int) == (m : Int) + 1) = true := by rw [beq_iff_eq]; omega
  have hq2 : (1 : Int) < (n : Int) := by omega
  have hq3 : 1 < n := by omega
  have hmb : m ≤ 64 := by omega
  have hnb : n ≤ 65 := by omega
  have hwf : IntKind.i64.wrap ((fan : Int) / 2) = (fan : Int) / 2 := by rw [IntKind.wrap_i64]; omega
  have hwm : IntKind.i64.wrap ((m : Int) + 1) = (m : Int) + 1 := by rw [IntKind.wrap_i64]; omega
  have hwD : IntKind.i64.wrap (D + 1) = D + 1 := by rw [IntKind.wrap_i64]; omega
  have hroot' : (b = root) ∨ ((fan : Int) / 2 ≤ (n : Int)) := hroot.imp id (fun h => by omega)
  have HE := Lib.hid hE
  have HS := Lib.hid hS
  have HM := Lib.hid hm
  have HKL := Lib.hid hn
  have HNM := Lib.hid hnm
  have HKK := Lib.hid hkk
  have HKI := Lib.hid hkids
  have HBKK := Lib.hid hbk
  have HSB := Lib.hid hSb
  have HSG := Lib.hid hSg
  have HSEP := Lib.hid hsep
  have HFU : Hid (∀ x ∈ u.2.2, Full d x) := hfull
  have HSK : Hid (∀ g, (Value.slice A m ck).ownBlock = some g → S g) := hSk
  have HRR : Hid (R = CkPost w bok bso bla bn (L ++ listU (d + 1) u)) := hR'
  have HCC : Hid (∀ (i : Nat) (x : Nb d) (wr : World), u.2.2[i]? = some x → CkSt wr bok bso bla bn (L ++ (u.2.2.take i).flatMap (listU d)) → Chg (fun k => k = bok ∨ k = bso ∨ k = bla ∨ k = bn) w wr →
      Calls Try.prog 38 #[ptr (blk d x), .int .i64 (D + 1), ptr bt, ptr bok, ptr bdp, ptr bso, ptr bla, ptr bn, ptr bch] wr (CkPost wr bok bso bla bn ((L ++ (u.2.2.take i).flatMap (listU d)) ++ listU d x))) := HC
  have hNEQ : b ≠ root → ∀ q, (binOp .neq 59 (.pointer (some ⟨b, 0, none⟩)) (.pointer (some ⟨root, 0, none⟩))).run Try.prog (w.drewN q) = .ok (.bool true) (w.drewN q) := fun h q => neq_node (hbk.drewN q) (hrb.drewN q) h
  unfold ptr
  clear hSb hrb hbk hkk hkids hSk hSg hch l1 hE hS hm hkl hn hnm hR' hb hsz hroot hsep hfull HC h2
  by_cases hbr : b = root
  · subst hbr
    have hnq : ∀ q, (binOp .neq 59 (.pointer (some ⟨b, 0, none⟩)) (.pointer (some ⟨b, 0, none⟩))).run Try.prog (w.drewN q) = .ok (.bool false) (w.drewN q) := fun q => neq_node_same _ _
    clear hroot' hNEQ
    go_enter Try.func38, Try.ntmps38
    go_wp2_with fail
    go_big_quiet ((go_at_call 34; exact Calls.quiet_of (HSZ.out _)))
    go_wp2_with fail
    go_region
    obtain ⟨w1, hw1⟩ : ∃ w1, ((w.drewN (nq + 1)).setCell ⟨bok, 0, none⟩ (.bool true)) = w1 := ⟨_, rfl⟩
    rw [hw1]
    have hC1 : Chg (fun k => k = bok ∨ k = bso ∨ k = bla ∨ k = bn) w w1 := hw1 ▸ ((Chg.refl _ w).drewN _).setCell (p := ⟨bok, 0, none⟩) (.inl (.inl rfl)) _
    have hS1 : CkSt w1 bok bso bla bn L := ckst_ok hw1 HS.out HE.out.d1
    have hk21 : w1.cell? ⟨b, 2, none⟩ = some (.slice (some ⟨gq, 0, none⟩) n cq) := ((HBKK.out).chg hC1 fun e => HE.out.nos b HSB.out e).cell_ rfl
    have HC1 := Lib.hid hC1
    have HS1 := Lib.hid hS1
    clear hw1 hC1 hS1 hoc hoz hk0 hk2 htc hfc hrc HSZ hwf hnlt hq1 hq2 hq3 hm0 hm1 hwm hnq
    try clear hge
    try clear hnlt2
    go_wp2_with fail
    go_loopg [122] n (fun g s wr => ∃ i : Nat, s = .int .i64 i ∧ i ≤ n ∧ n - i ≤ g ∧ CkSt wr bok bso bla bn (L ++ (u.2.2.take i).flatMap (listU d)) ∧ Chg (fun k => k = bok ∨ k = bso ∨ k = bla ∨ k = bn) w wr)
    case atStart => exact ⟨0, rfl, Nat.zero_le _, by omega, by simpa using HS1.out, HC1.out⟩
    case round =>
      obtain ⟨i, rfl, hin, hig, hst, hch⟩ := hrel
      have HST := Lib.hid hst
      have HCH := Lib.hid hch
      clear hk21
      rcases Nat.lt_or_ge i n with hlt | hge2
      · obtain ⟨x, hx⟩ : ∃ x, u.2.2[i]? = some x := ⟨_, List.getElem?_eq_getElem (by rw [HKL.out]; exact hlt)⟩
        obtain ⟨bx, hbx⟩ : ∃ bx, blk d x = bx := ⟨_, rfl⟩
        have hil : (i : Int) < (n : Int) := by omega
        have hkc : wr.cell? ⟨gq, i, none⟩ = some (.pointer (some ⟨bx, 0, none⟩)) := by
          have h := (HKI.out.chg hch fun g hg e => by simp [Value.ownBlock] at hg; subst hg; exact HE.out.nos _ HSG.out e).cell (j := i) (u := ptr (blk d x)) (by simp [ptrs, hx])
          rw [hbx] at h; exact h
        have hcl : wr.cell? ⟨bch, 0, none⟩ = some (.func (.func 38) #[] #[.pointer (some ⟨bt, 0, none⟩), .pointer (some ⟨bok, 0, none⟩), .pointer (some ⟨bdp, 0, none⟩), .pointer (some ⟨bso, 0, none⟩), .pointer (some ⟨bla, 0, none⟩), .pointer (some ⟨bn, 0, none⟩), .pointer (some ⟨bch, 0, none⟩)]) := (HE.out.chg HS.out hch).hch.cell_ rfl
        have HCA := Lib.hid (HCC.out i x wr hx hst hch)
        rw [hbx] at HCA
        have hwi : IntKind.i64.wrap ((i : Int) + 1) = (i : Int) + 1 := by rw [IntKind.wrap_i64]; omega
        have hfl : (L ++ (u.2.2.take i).flatMap (listU d)) ++ listU d x = L ++ (u.2.2.take (i + 1)).flatMap (listU d) := by rw [flat_take hx, List.append_assoc]
        have HFL := Lib.hid hfl
        clear hst hch hx hbx hfl
        go_wp2_with fail
        refine HCA.out.mono ?_
        rintro e w2 ⟨rfl, hst2, hch2⟩
        rw [HFL.out] at hst2
        have hCw2 := HCH.out.trans hch2
        have HST2 := Lib.hid hst2
        have HCW2 := Lib.hid hCw2
        have hk02 : w2.cell? ⟨b, 0, none⟩ = some (.slice A m ck) := (HBKK.out.chg hCw2 fun e => HE.out.nos b HSB.out e).cell_ rfl
        by_cases him : i < m
        · obtain ⟨k0, hk0⟩ : ∃ k0, u.2.1[i]? = some k0 := ⟨_, List.getElem?_eq_getElem (by rw [HM.out]; exact him)⟩
          obtain ⟨gk, _, hA, hrest⟩ := HKK.out.open_ (HKK.out.some_of_pos (by simp [strs, HM.out]; omega))
          clear hrest
          subst hA
          have hkk2 : w2.cell? ⟨gk, i, none⟩ = some (.string k0) := (HKK.out.chg hCw2 fun g hg e => HE.out.nos g (HSK.out g hg) e).cell (by simp [strs, hk0])
          obtain ⟨hlb, hem⟩ := last_below (L := L) HSEP.out HFU.out hk0 (by rw [HKL.out]; exact hlt)
          obtain ⟨la, hla⟩ : ∃ la, lastK (L ++ (u.2.2.take (i + 1)).flatMap (listU d)) = la := ⟨_, rfl⟩
          rw [hla] at hlb
          have f1 : w2.cell? ⟨bok, 0, none⟩ = some (.bool true) := hst2.ok.cell_ rfl
          have f2 : w2.cell? ⟨bso, 0, none⟩ = some (.bool true) := by have := hst2.so.cell_ (i := 0) rfl; rw [hem] at this; exact this
          have f3 : w2.cell? ⟨bla, 0, none⟩ = some (.string la) := by have := hst2.la.cell_ (i := 0) rfl; rw [hla] at this; exact this
          have f4 := hst2.ok.frozen 0
          have hltb : Op.bytesLess la.toList k0.toList = true := hlb
          have him' : (i : Int) < (m : Int) := by omega
          clear hst2 hch2 hCw2 hk0 hlb hem hla hkc hcl
          go_wp2_with fail
          go_region
          go_wp2_with fail
          go_roundg (n - (i + 1))
          case measure => omega
          case rel =>
            exact ⟨i + 1, by first | rfl | go_num, by omega, Nat.le_refl _, (ckst_keep (vb := true) rfl HST2.out HE.out.d1 0 rfl).1.drew, HCW2.out.trans (ckst_keep (vb := true) rfl HST2.out HE.out.d1 0 rfl).2.drew⟩
        · have him' : (m : Int) ≤ (i : Int) := by omega
          have him2 : ¬ ((i : Int) < (m : Int)) := by omega
          clear hst2 hch2 hCw2 hkc hcl
          go_wp2_with fail
          go_roundg (n - (i + 1))
          case measure => omega
          case rel => exact ⟨i + 1, by first | rfl | go_num, by omega, Nat.le_refl _, HST2.out, HCW2.out⟩
      · have hin' : i = n := by omega
        have htk : (u.2.2.take i).flatMap (listU d) = listU (d + 1) u := by rw [List.take_of_length_le (by rw [HKL.out, hin']; exact Nat.le_refl _)]; rfl
        rw [htk] at HST
        subst hin'
        clear hst hch htk
        go_wp2_with fail
        first
          | refine bodyPost_end (results_none rfl _ _ _) rfl ?_
          | refine bodyPost_ret (results_none rfl _ _ _) rfl ?_
        rw [HRR.out]
        exact ⟨rfl, HST.out, HCH.out⟩
  · have hge : (fan : Int) / 2 ≤ (n : Int) := hroot'.resolve_left hbr
    have hnlt2 : ¬ ((n : Int) < (fan : Int) / 2) := by omega
    have hnq := hNEQ hbr
    clear hroot' hNEQ
    go_enter Try.func38, Try.ntmps38
    go_wp2_with fail
    go_big_quiet ((go_at_call 34; exact Calls.quiet_of (HSZ.out _)))
    go_wp2_with fail
    go_region
    obtain ⟨w1, hw1⟩ : ∃ w1, ((w.drewN (nq + 1)).setCell ⟨bok, 0, none⟩ (.bool true)) = w1 := ⟨_, rfl⟩
    rw [hw1]
    have hC1 : Chg (fun k => k = bok ∨ k = bso ∨ k = bla ∨ k = bn) w w1 := hw1 ▸ ((Chg.refl _ w).drewN _).setCell (p := ⟨bok, 0, none⟩) (.inl (.inl rfl)) _
    have hS1 : CkSt w1 bok bso bla bn L := ckst_ok hw1 HS.out HE.out.d1
    have hk21 : w1.cell? ⟨b, 2, none⟩ = some (.slice (some ⟨gq, 0, none⟩) n cq) := ((HBKK.out).chg hC1 fun e => HE.out.nos b HSB.out e).cell_ rfl
    have HC1 := Lib.hid hC1
    have HS1 := Lib.hid hS1
    clear hw1 hC1 hS1 hoc hoz hk0 hk2 htc hfc hrc HSZ hwf hnlt hq1 hq2 hq3 hm0 hm1 hwm hnq
    try clear hge
    try clear hnlt2
    go_wp2_with fail
    go_loopg [122] n (fun g s wr => ∃ i : Nat, s = .int .i64 i ∧ i ≤ n ∧ n - i ≤ g ∧ CkSt wr bok bso bla bn (L ++ (u.2.2.take i).flatMap (listU d)) ∧ Chg (fun k => k = bok ∨ k = bso ∨ k = bla ∨ k = bn) w wr)
    case atStart => exact ⟨0, rfl, Nat.zero_le _, by omega, by simpa using HS1.out, HC1.out⟩
    case round =>
      obtain ⟨i, rfl, hin, hig, hst, hch⟩ := hrel
      have HST := Lib.hid hst
      have HCH := Lib.hid hch
      clear hk21
      rcases Nat.lt_or_ge i n with hlt | hge2
      · obtain ⟨x, hx⟩ : ∃ x, u.2.2[i]? = some x := ⟨_, List.getElem?_eq_getElem (by rw [HKL.out]; exact hlt)⟩
        obtain ⟨bx, hbx⟩ : ∃ bx, blk d x = bx := ⟨_, rfl⟩
        have hil : (i : Int) < (n : Int) := by omega
        have hkc : wr.cell? ⟨gq, i, none⟩ = some (.pointer (some ⟨bx, 0, none⟩)) := by
          have h := (HKI.out.chg hch fun g hg e => by simp [Value.ownBlock] at hg; subst hg; exact HE.out.nos _ HSG.out e).cell (j := i) (u := ptr (blk d x)) (by simp [ptrs, hx])
          rw [hbx] at h; exact h
        have hcl : wr.cell? ⟨bch, 0, none⟩ = some (.func (.func 38) #[] #[.pointer (some ⟨bt, 0, none⟩), .pointer (some ⟨bok, 0, none⟩), .pointer (some ⟨bdp, 0, none⟩), .pointer (some ⟨bso, 0, none⟩), .pointer (some ⟨bla, 0, none⟩), .pointer (some ⟨bn, 0, none⟩), .pointer (some ⟨bch, 0, none⟩)]) := (HE.out.chg HS.out hch).hch.cell_ rfl
        have HCA := Lib.hid (HCC.out i x wr hx hst hch)
        rw [hbx] at HCA
        have hwi : IntKind.i64.wrap ((i : Int) + 1) = (i : Int) + 1 := by rw [IntKind.wrap_i64]; omega
        have hfl : (L ++ (u.2.2.take i).flatMap (listU d)) ++ listU d x = L ++ (u.2.2.take (i + 1)).flatMap (listU d) := by rw [flat_take hx, List.append_assoc]
        have HFL := Lib.hid hfl
        clear hst hch hx hbx hfl
        go_wp2_with fail
        refine HCA.out.mono ?_
        rintro e w2 ⟨rfl, hst2, hch2⟩
        rw [HFL.out] at hst2
        have hCw2 := HCH.out.trans hch2
        have HST2 := Lib.hid hst2
        have HCW2 := Lib.hid hCw2
        have hk02 : w2.cell? ⟨b, 0, none⟩ = some (.slice A m ck) := (HBKK.out.chg hCw2 fun e => HE.out.nos b HSB.out e).cell_ rfl
        by_cases him : i < m
        · obtain ⟨k0, hk0⟩ : ∃ k0, u.2.1[i]? = some k0 := ⟨_, List.getElem?_eq_getElem (by rw [HM.out]; exact him)⟩
          obtain ⟨gk, _, hA, hrest⟩ := HKK.out.open_ (HKK.out.some_of_pos (by simp [strs, HM.out]; omega))
          clear hrest
          subst hA
          have hkk2 : w2.cell? ⟨gk, i, none⟩ = some (.string k0) := (HKK.out.chg hCw2 fun g hg e => HE.out.nos g (HSK.out g hg) e).cell (by simp [strs, hk0])
          obtain ⟨hlb, hem⟩ := last_below (L := L) HSEP.out HFU.out hk0 (by rw [HKL.out]; exact hlt)
          obtain ⟨la, hla⟩ : ∃ la, lastK (L ++ (u.2.2.take (i + 1)).flatMap (listU d)) = la := ⟨_, rfl⟩
          rw [hla] at hlb
          have f1 : w2.cell? ⟨bok, 0, none⟩ = some (.bool true) := hst2.ok.cell_ rfl
          have f2 : w2.cell? ⟨bso, 0, none⟩ = some (.bool true) := by have := hst2.so.cell_ (i := 0) rfl; rw [hem] at this; exact this
          have f3 : w2.cell? ⟨bla, 0, none⟩ = some (.string la) := by have := hst2.la.cell_ (i := 0) rfl; rw [hla] at this; exact this
          have f4 := hst2.ok.frozen 0
          have hltb : Op.bytesLess la.toList k0.toList = true := hlb
          have him' : (i : Int) < (m : Int) := by omega
          clear hst2 hch2 hCw2 hk0 hlb hem hla hkc hcl
          go_wp2_with fail
          go_region
          go_wp2_with fail
          go_roundg (n - (i + 1))
          case measure => omega
          case rel =>
            exact ⟨i + 1, by first | rfl | go_num, by omega, Nat.le_refl _, (ckst_keep (vb := true) rfl HST2.out HE.out.d1 0 rfl).1.drew, HCW2.out.trans (ckst_keep (vb := true) rfl HST2.out HE.out.d1 0 rfl).2.drew⟩
        · have him' : (m : Int) ≤ (i : Int) := by omega
          have him2 : ¬ ((i : Int) < (m : Int)) := by omega
          clear hst2 hch2 hCw2 hkc hcl
          go_wp2_with fail
          go_roundg (n - (i + 1))
          case measure => omega
          case rel => exact ⟨i + 1, by first | rfl | go_num, by omega, Nat.le_refl _, HST2.out, HCW2.out⟩
      · have hin' : i = n := by omega
        have htk : (u.2.2.take i).flatMap (listU d) = listU (d + 1) u := by rw [List.take_of_length_le (by rw [HKL.out, hin']; exact Nat.le_refl _)]; rfl
        rw [htk] at HST
        subst hin'
        clear hst hch htk
        go_wp2_with fail
        first
          | refine bodyPost_end (results_none rfl _ _ _) rfl ?_
          | refine bodyPost_ret (results_none rfl _ _ _) rfl ?_
        rw [HRR.out]
        exact ⟨rfl, HST.out, HCH.out⟩
end Go.Proofs.Ythndplpbnfihdaa
