/-
  Check's closure at a leaf. Conditions: the leaf is in order.
-/
import Derived.Test.YthndplpbnfihdaaDp
import Derived.Lib.Builder
set_option linter.unusedVariables false
set_option linter.unusedSimpArgs false
namespace Go.Proofs.Ythndplpbnfihdaa
open Go.RowKit

theorem run_neq_ptr_other {P : Program} (w : World) {tp te : TypeId} {j : TypeInfo} {a b : Addr} {ca cb : Array Value} {ta tb : TypeId} (hp : P.underlying tp = some (.pointer te)) (hte : P.info? te = some j) (hsz : j.size ≠ 0)
    (hne : a ≠ b) (ha : w.heap[a.block]? = some (.cells ca ta (0, 0))) (hb : w.heap[b.block]? = some (.cells cb tb (0, 0))) :
    (binOp .neq tp (.pointer (some a)) (.pointer (some b))).run P w = .ok (.bool true) w := by
  have h : ∀ d : Nat, (Op.equalIn (d + 1) tp (.pointer (some a)) (.pointer (some b))).run P w = .ok false w := fun d => by
    simp [Op.equalIn, run_underlying hp, sizeOf, typeInfo, hte, hsz, run_sameAddr_other w hne ha hb]
  simp only [binOp]
  simp [Op.equal, Op.maxDepth, h 9999]

theorem neq_node {w : World} {b c : Nat} {t1 t2 : TypeId} {x y : Array Value} (hb : Blk w b t1 x) (hc : Blk w c t2 y) (h : b ≠ c) : (binOp .neq 59 (.pointer (some ⟨b, 0, none⟩)) (.pointer (some ⟨c, 0, none⟩))).run Try.prog w = .ok (.bool true) w := by
  have hi : (Try.prog.info? 62).map (fun i => i.size) = some 3 := by kernel_rfl
  obtain ⟨i, hi, hs⟩ := Option.map_eq_some_iff.1 hi
  exact run_neq_ptr_other w Try.underlying59 hi (by omega) (fun e => h (by injection e)) hb hc

theorem neq_node_same (w : World) (b : Nat) : (binOp .neq 59 (.pointer (some ⟨b, 0, none⟩)) (.pointer (some ⟨b, 0, none⟩))).run Try.prog w = .ok (.bool false) w := by
  have hi : (Try.prog.info? 62).map (fun i => i.size) = some 3 := by kernel_rfl
  obtain ⟨i, hi, hs⟩ := Option.map_eq_some_iff.1 hi
  exact Lib.run_neq_ptr_same w _ Try.underlying59 hi

def lastK (L : List (ByteArray × Int)) : ByteArray := (L.getLast?.map (·.1)).getD ByteArray.empty

/-- What Check's closure reads besides the tree. -/
structure CkEnv (w : World) (S : Nat → Prop) (bt bok bdp bso bla bn bch tr root : Nat) (fan N : Nat) (deep : Int) : Prop where
  ht : Blk w bt 23 #[ptr tr]
  htr : Blk w tr 64 #[.int .i64 fan, .int .i64 N, ptr root]
  hdp : Blk w bdp 3 #[.int .i64 deep]
  hch : Blk w bch 79 #[.func (.func 38) #[] #[ptr bt, ptr bok, ptr bdp, ptr bso, ptr bla, ptr bn, ptr bch]]
  nos : ∀ k, S k → ¬ (k = bok ∨ k = bso ∨ k = bla ∨ k = bn)
  d1 : bok ≠ bso
  d2 : bn ≠ bdp

structure CkSt (w : World) (bok bso bla bn : Nat) (L : List (ByteArray × Int)) : Prop where
  ok : Blk w bok 4 #[.bool true]
  so : Blk w bso 4 #[.bool (!L.isEmpty)]
  la : Blk w bla 9 #[.string (lastK L)]
  n : Blk w bn 3 #[.int .i64 L.length]

theorem CkEnv.chg {w w' : World} {S : Nat → Prop} {bt bok bdp bso bla bn bch tr root fan N : Nat} {deep : Int} {L : List (ByteArray × Int)} (h : CkEnv w S bt bok bdp bso bla bn bch tr root fan N deep) (hs : CkSt w bok bso bla bn L)
    (hc : Chg (fun k => k = bok ∨ k = bso ∨ k = bla ∨ k = bn) w w') : CkEnv w' S bt bok bdp bso bla bn bch tr root fan N deep := by
  refine ⟨h.ht.chg hc ?_, h.htr.chg hc ?_, h.hdp.chg hc ?_, h.hch.chg hc ?_, h.nos, h.d1, h.d2⟩
  · rintro (e | e | e | e)
    · exact h.ht.ne_ hs.ok (by decide) e
    · exact h.ht.ne_ hs.so (by decide) e
    · exact h.ht.ne_ hs.la (by decide) e
    · exact h.ht.ne_ hs.n (by decide) e
  · rintro (e | e | e | e)
    · exact h.htr.ne_ hs.ok (by decide) e
    · exact h.htr.ne_ hs.so (by decide) e
    · exact h.htr.ne_ hs.la (by decide) e
    · exact h.htr.ne_ hs.n (by decide) e
  · rintro (e | e | e | e)
    · exact h.hdp.ne_ hs.ok (by decide) e
    · exact h.hdp.ne_ hs.so (by decide) e
    · exact h.hdp.ne_ hs.la (by decide) e
    · exact h.d2 e.symm
  · rintro (e | e | e | e)
    · exact h.hch.ne_ hs.ok (by decide) e
    · exact h.hch.ne_ hs.so (by decide) e
    · exact h.hch.ne_ hs.la (by decide) e
    · exact h.hch.ne_ hs.n (by decide) e

def CkPost (w : World) (bok bso bla bn : Nat) (L : List (ByteArray × Int)) (e : Ending) (w' : World) : Prop :=
  e = .returned (.tuple #[]) ∧ CkSt w' bok bso bla bn L ∧ Chg (fun k => k = bok ∨ k = bso ∨ k = bla ∨ k = bn) w w'

theorem ckst_ok {w w1 : World} {bok bso bla bn q : Nat} {L : List (ByteArray × Int)} (hw : (w.drewN q).setCell ⟨bok, 0, none⟩ (.bool true) = w1) (hS : CkSt w bok bso bla bn L) (hd : bok ≠ bso) : CkSt w1 bok bso bla bn L := by
  subst hw
  exact ⟨(hS.ok.drewN q).set_ 0 _, (hS.so.drewN q).far (p := ⟨bok, 0, none⟩) hd.symm _, (hS.la.drewN q).far (p := ⟨bok, 0, none⟩) (hS.la.ne_ hS.ok (by decide)) _, (hS.n.drewN q).far (p := ⟨bok, 0, none⟩) (hS.n.ne_ hS.ok (by decide)) _⟩

theorem ckst_step {wr : World} {bok bso bla bn m i : Nat} {vb : Bool} (hvb : vb = true) {L M : List (ByteArray × Int)} {k0 : ByteArray} {r0 : Int} (h : CkSt wr bok bso bla bn (L ++ M.take i)) (hd : bok ≠ bso) (hp : M[i]? = some (k0, r0)) (hm : (L ++ M.take i).length = m) :
    CkSt ((((wr.setCell ⟨bok, 0, none⟩ (.bool vb)).setCell ⟨bla, 0, none⟩ (.string k0)).setCell ⟨bso, 0, none⟩ (.bool true)).setCell ⟨bn, 0, none⟩ (.int .i64 ((m : Int) + 1))) bok bso bla bn (L ++ M.take (i + 1)) ∧
    Chg (fun k => k = bok ∨ k = bso ∨ k = bla ∨ k = bn) wr ((((wr.setCell ⟨bok, 0, none⟩ (.bool vb)).setCell ⟨bla, 0, none⟩ (.string k0)).setCell ⟨bso, 0, none⟩ (.bool true)).setCell ⟨bn, 0, none⟩ (.int .i64 ((m : Int) + 1))) := by
  subst hvb
  have n1 : bok ≠ bla := h.ok.ne_ h.la (by decide)
  have n2 : bok ≠ bn := h.ok.ne_ h.n (by decide)
  have n3 : bla ≠ bso := h.la.ne_ h.so (by decide)
  have n4 : bla ≠ bn := h.la.ne_ h.n (by decide)
  have n5 : bso ≠ bn := h.so.ne_ h.n (by decide)
  have ht : L ++ M.take (i + 1) = (L ++ M.take i) ++ [(k0, r0)] := by rw [List.take_add_one, hp, List.append_assoc]; rfl
  have c1 := (((h.ok.set_ 0 (.bool true)).far (p := ⟨bla, 0, none⟩) n1 (.string k0)).far (p := ⟨bso, 0, none⟩) hd (.bool true)).far (p := ⟨bn, 0, none⟩) n2 (.int .i64 ((m : Int) + 1))
  have c2 := (((h.so.far (p := ⟨bok, 0, none⟩) hd.symm (.bool true)).far (p := ⟨bla, 0, none⟩) n3.symm (.string k0)).set_ 0 (.bool true)).far (p := ⟨bn, 0, none⟩) n5 (.int .i64 ((m : Int) + 1))
  have c3 := (((h.la.far (p := ⟨bok, 0, none⟩) n1.symm (.bool true)).set_ 0 (.string k0)).far (p := ⟨bso, 0, none⟩) n3 (.bool true)).far (p := ⟨bn, 0, none⟩) n4 (.int .i64 ((m : Int) + 1))
  have c4 := (((h.n.far (p := ⟨bok, 0, none⟩) n2.symm (.bool true)).far (p := ⟨bla, 0, none⟩) n4.symm (.string k0)).far (p := ⟨bso, 0, none⟩) n5.symm (.bool true)).set_ 0 (.int .i64 ((m : Int) + 1))
  refine ⟨⟨c1, ?_, ?_, ?_⟩, ((((Chg.refl (fun k => k = bok ∨ k = bso ∨ k = bla ∨ k = bn) wr).setCell (p := ⟨bok, 0, none⟩) (.inl (.inl rfl)) _).setCell (p := ⟨bla, 0, none⟩) (.inl (.inr (.inr (.inl rfl)))) _).setCell (p := ⟨bso, 0, none⟩) (.inl (.inr (.inl rfl))) _).setCell (p := ⟨bn, 0, none⟩) (.inl (.inr (.inr (.inr rfl)))) _⟩
  · rw [ht, show (!((L ++ M.take i) ++ [(k0, r0)]).isEmpty) = true by simp]; exact c2
  · rw [ht]; simpa [lastK] using c3
  · rw [ht, List.length_append, hm]; exact c4

theorem last_lt {L M : List (ByteArray × Int)} {i : Nat} {k : ByteArray} {r : Int} (h : Rising (keysT (L ++ M))) (hp : M[i]? = some (k, r)) (he : (L ++ M.take i).isEmpty = false) : ltB (lastK (L ++ M.take i)) k = true := by
  have hs : L ++ M = (L ++ M.take i) ++ (k, r) :: M.drop (i + 1) := by
    rw [List.append_assoc, ← drop_cons_of_get hp, List.take_append_drop]
  rw [hs] at h
  have h2 := (rising_append.1 h).2.2
  obtain ⟨x, hx⟩ : ∃ x, (L ++ M.take i).getLast? = some x := by
    cases hh : (L ++ M.take i).getLast? with
    | none => rw [List.getLast?_eq_none_iff] at hh; rw [hh] at he; cases he
    | some x => exact ⟨x, rfl⟩
  unfold lastK
  rw [hx]
  exact h2 x (List.mem_of_getLast? hx) (k, r) (List.mem_cons_self ..)

set_option maxHeartbeats 4000000 in
set_option maxRecDepth 100000 in
theorem check_leaf {w : World} {S : Nat → Prop} {bt bok bdp bso bla bn bch tr root fan N : Nat} {deep D : Int} {L : List (ByteArray × Int)} {u : Nb 0} (hR : Rd w S 0 u) (hE : CkEnv w S bt bok bdp bso bla bn bch tr root fan N deep)
    (hS : CkSt w bok bso bla bn L) (hfan : fan ≤ 64) (hsz : u.2.length ≤ fan) {rt : TypeId} {rx : Array Value} (hrb : Blk w root rt rx) (hroot : u.1 = root ∨ fan / 2 ≤ u.2.length) (hdeep : D = deep ∨ N = 0) (hrise : Rising (keysT (L ++ u.2))) (hL : (L ++ u.2).length ≤ 1000) :
    Calls Try.prog 38 #[ptr u.1, .int .i64 D, ptr bt, ptr bok, ptr bdp, ptr bso, ptr bla, ptr bn, ptr bch] w (CkPost w bok bso bla bn (L ++ u.2)) := by
  obtain ⟨R, hR'⟩ : ∃ R, R = CkPost w bok bso bla bn (L ++ u.2) := ⟨_, rfl⟩
  rw [← hR']
  obtain ⟨n, hn⟩ : ∃ n, u.2.length = n := ⟨_, rfl⟩
  obtain ⟨b, hb⟩ : ∃ b, u.1 = b := ⟨_, rfl⟩
  have HSZ : Hid (∀ q, Calls Try.prog 34 #[.pointer (some ⟨b, 0, none⟩)] (w.drewN q) (fun e w' => e = .returned (.int .i64 (n : Nat)) ∧ ∃ m, w' = (w.drewN q).drewN m)) := fun q => by
    have h1 := hR.chg ((Chg.refl (fun _ => False) w).drewN q) fun _ _ h => h
    have h2 := size_rd h1
    rw [show blk 0 u = b from hb, show sizeU 0 u = n from hn] at h2
    refine h2.mono ?_
    rintro e w' ⟨h1, rfl⟩
    exact ⟨h1, 0, rfl⟩
  obtain ⟨hSb, vk, vr, hbk, hkk, hrr, hSk, hSr⟩ := hR
  obtain ⟨A, ck, rfl, _⟩ := hkk.shape
  obtain ⟨B, cr, rfl, _⟩ := hrr.shape
  have l1 : (strs (keysT u.2)).length = n := by simp [strs, keysT, hn]
  have l2 : (nums (rowsT u.2)).length = n := by simp [nums, rowsT, hn]
  rw [l1, l2] at hbk
  rw [l1] at hkk hSk
  rw [hb] at hbk hSb hroot ⊢
  rw [hn] at hsz hroot
  have htc : w.cell? ⟨bt, 0, none⟩ = some (.pointer (some ⟨tr, 0, none⟩)) := hE.ht.cell_ rfl
  have hfc : w.cell? ⟨tr, 0, none⟩ = some (.int .i64 fan) := hE.htr.cell_ rfl
  have hnc : w.cell? ⟨tr, 1, none⟩ = some (.int .i64 N) := hE.htr.cell_ rfl
  have hrc : w.cell? ⟨tr, 2, none⟩ = some (.pointer (some ⟨root, 0, none⟩)) := hE.htr.cell_ rfl
  have hdc : w.cell? ⟨bdp, 0, none⟩ = some (.int .i64 deep) := hE.hdp.cell_ rfl
  have hoc : w.cell? ⟨bok, 0, none⟩ = some (.bool true) := hS.ok.cell_ rfl
  have hoz := hS.ok.frozen 0
  have hk0 : w.cell? ⟨b, 0, none⟩ = some (.slice A n ck) := hbk.cell_ rfl
  have hk1 : w.cell? ⟨b, 1, none⟩ = some (.slice B n cr) := hbk.cell_ rfl
  have hk2 : w.cell? ⟨b, 2, none⟩ = some (.slice none 0 0) := hbk.cell_ rfl
  have hle : (n : Int) ≤ (fan : Int) := by omega
  have hle' : n ≤ fan := by omega
  have hnlt : ¬ (fan < n) := by omega
  have hnb : n ≤ 64 := by omega
  have hwf : IntKind.i64.wrap ((fan : Int) / 2) = (fan : Int) / 2 := by rw [IntKind.wrap_i64]; omega
  have hroot' : (b = root) ∨ ((fan : Int) / 2 ≤ (n : Int)) := hroot.imp id (fun h => by omega)
  have HE := Lib.hid hE
  have HS := Lib.hid hS
  have HRI := Lib.hid hrise
  have HN := Lib.hid hn
  have HKK := Lib.hid hkk
  have HBKK := Lib.hid hbk
  have HSB := Lib.hid hSb
  have HSK : Hid (∀ g, (Value.slice A n ck).ownBlock = some g → S g) := hSk
  have HRR : Hid (R = CkPost w bok bso bla bn (L ++ u.2)) := hR'
  have HLL := Lib.hid hL
  have hNEQ : b ≠ root → ∀ q, (binOp .neq 59 (.pointer (some ⟨b, 0, none⟩)) (.pointer (some ⟨root, 0, none⟩))).run Try.prog (w.drewN q) = .ok (.bool true) (w.drewN q) := fun h q => neq_node (hbk.drewN q) (hrb.drewN q) h
  unfold ptr
  clear hSb hrb hbk hkk hrr hSk hSr l1 l2 hE hS hrise hn hR' hL hb hsz hroot
  by_cases hbr : b = root
  · subst hbr
    have hnq : ∀ q, (binOp .neq 59 (.pointer (some ⟨b, 0, none⟩)) (.pointer (some ⟨b, 0, none⟩))).run Try.prog (w.drewN q) = .ok (.bool false) (w.drewN q) := fun q => neq_node_same _ _
    clear hroot' hNEQ
    go_enter Try.func38, Try.ntmps38
    go_wp2_with fail
    go_big_quiet ((go_at_call 34; exact Calls.quiet_of (HSZ.out _)))
    go_wp2_with fail
    by_cases hdd : D = deep
    · subst hdd
      go_region
      obtain ⟨w1, hw1⟩ : ∃ w1, ((w.drewN (nq + 1)).setCell ⟨bok, 0, none⟩ (.bool true)) = w1 := ⟨_, rfl⟩
      rw [hw1]
      have hC1 : Chg (fun k => k = bok ∨ k = bso ∨ k = bla ∨ k = bn) w w1 := hw1 ▸ ((Chg.refl _ w).drewN _).setCell (p := ⟨bok, 0, none⟩) (.inl (.inl rfl)) _
      have hS1 : CkSt w1 bok bso bla bn L := ckst_ok hw1 HS.out HE.out.d1
      have hkk1 : Own w1 9 (.slice A n ck) (strs (keysT u.2)) := HKK.out.chg hC1 fun g hg e => HE.out.nos g (HSK.out g hg) e
      have hk01 : w1.cell? ⟨b, 0, none⟩ = some (.slice A n ck) := ((HBKK.out).chg hC1 fun e => HE.out.nos b HSB.out e).cell_ rfl
      have HC1 := Lib.hid hC1
      have HS1 := Lib.hid hS1
      have HK1 := Lib.hid hkk1
      clear hw1 hC1 hS1 hkk1 hoc hoz hk0 hk1 hk2 htc hfc hnc hrc hdc HSZ hle hle' hwf hnlt
      try clear hnlt2
      try clear hge
      try clear hnq
      go_wp2_with fail
      go_loopg [76] n (fun g s wr => ∃ i : Nat, s = .int .i64 i ∧ i ≤ n ∧ n - i ≤ g ∧ CkSt wr bok bso bla bn (L ++ u.2.take i) ∧ Chg (fun k => k = bok ∨ k = bso ∨ k = bla ∨ k = bn) w1 wr)
      case atStart => exact ⟨0, rfl, Nat.zero_le _, by omega, by simpa using HS1.out, Chg.refl _ _⟩
      case round =>
        obtain ⟨i, rfl, hin, hig, hst, hch⟩ := hrel
        have HST := Lib.hid hst
        have HCH := Lib.hid hch
        clear hch
        rcases Nat.lt_or_ge i n with hlt | hge2
        · obtain ⟨gk, _, hA, hrest⟩ := HK1.out.open_ (HK1.out.some_of_pos (by simp [strs, keysT, HN.out]; omega))
          clear hrest
          subst hA
          obtain ⟨p, hp⟩ : ∃ p, u.2[i]? = some p := ⟨_, List.getElem?_eq_getElem (by rw [HN.out]; exact hlt)⟩
          have hkc : wr.cell? ⟨gk, i, none⟩ = some (.string p.1) := (HK1.out.chg HCH.out fun g hg e => HE.out.nos g (HSK.out g hg) e).cell (by simp [strs, keysT, hp])
          have hil : (i : Int) < (n : Int) := by omega
          have f1 : wr.cell? ⟨bok, 0, none⟩ = some (.bool true) := hst.ok.cell_ rfl
          have f2 : wr.cell? ⟨bso, 0, none⟩ = some (.bool (!(L ++ u.2.take i).isEmpty)) := hst.so.cell_ rfl
          have f3 : wr.cell? ⟨bla, 0, none⟩ = some (.string (lastK (L ++ u.2.take i))) := hst.la.cell_ rfl
          have f4 := hst.ok.frozen 0
          have n1 : bok ≠ bla := hst.ok.ne_ hst.la (by decide)
          have n2 : bok ≠ bn := hst.ok.ne_ hst.n (by decide)
          have n3 : bla ≠ bso := hst.la.ne_ hst.so (by decide)
          have n4 : bla ≠ bn := hst.la.ne_ hst.n (by decide)
          have n5 : bso ≠ bn := hst.so.ne_ hst.n (by decide)
          have n6 : bok ≠ bso := HE.out.d1
          have s1 : ∀ v1, (wr.setCell ⟨bok, 0, none⟩ v1).cell? ⟨bla, 0, none⟩ = some (.string (lastK (L ++ u.2.take i))) := fun v1 => (hst.la.far (p := ⟨bok, 0, none⟩) n1.symm v1).cell_ rfl
          have s1' : ∀ v1, (wr.setCell ⟨bok, 0, none⟩ v1).frozen? ⟨bla, 0, none⟩ = false := fun v1 => (hst.la.far (p := ⟨bok, 0, none⟩) n1.symm v1).frozen 0
          have s2 : ∀ v1 v2, ((wr.setCell ⟨bok, 0, none⟩ v1).setCell ⟨bla, 0, none⟩ v2).cell? ⟨bso, 0, none⟩ = some (.bool (!(L ++ u.2.take i).isEmpty)) := fun v1 v2 => ((hst.so.far (p := ⟨bok, 0, none⟩) n6.symm v1).far (p := ⟨bla, 0, none⟩) n3.symm v2).cell_ rfl
          have s2' : ∀ v1 v2, ((wr.setCell ⟨bok, 0, none⟩ v1).setCell ⟨bla, 0, none⟩ v2).frozen? ⟨bso, 0, none⟩ = false := fun v1 v2 => ((hst.so.far (p := ⟨bok, 0, none⟩) n6.symm v1).far (p := ⟨bla, 0, none⟩) n3.symm v2).frozen 0
          have hbn : ∀ v1 v2 v3, Blk (((wr.setCell ⟨bok, 0, none⟩ v1).setCell ⟨bla, 0, none⟩ v2).setCell ⟨bso, 0, none⟩ v3) bn 3 #[.int .i64 (L ++ u.2.take i).length] := fun v1 v2 v3 =>
            ((hst.n.far (p := ⟨bok, 0, none⟩) n2.symm v1).far (p := ⟨bla, 0, none⟩) n4.symm v2).far (p := ⟨bso, 0, none⟩) n5.symm v3
          obtain ⟨m, hm⟩ : ∃ m, (L ++ u.2.take i).length = m := ⟨_, rfl⟩
          have s3 : ∀ v1 v2 v3, (((wr.setCell ⟨bok, 0, none⟩ v1).setCell ⟨bla, 0, none⟩ v2).setCell ⟨bso, 0, none⟩ v3).cell? ⟨bn, 0, none⟩ = some (.int .i64 m) := fun v1 v2 v3 => by rw [← hm]; exact (hbn v1 v2 v3).cell_ rfl
          have s3' : ∀ v1 v2 v3, (((wr.setCell ⟨bok, 0, none⟩ v1).setCell ⟨bla, 0, none⟩ v2).setCell ⟨bso, 0, none⟩ v3).frozen? ⟨bn, 0, none⟩ = false := fun v1 v2 v3 => (hbn v1 v2 v3).frozen 0
          have hmb : m ≤ 1000 := by
            have := HLL.out
            rw [← hm]; simp only [List.length_append, List.length_take] at this ⊢; omega
          have hwm : IntKind.i64.wrap ((m : Int) + 1) = (m : Int) + 1 := by rw [IntKind.wrap_i64]; omega
          have hwi : IntKind.i64.wrap ((i : Int) + 1) = (i : Int) + 1 := by rw [IntKind.wrap_i64]; omega
          obtain ⟨em, hem⟩ : ∃ em, (L ++ u.2.take i).isEmpty = em := ⟨_, rfl⟩
          obtain ⟨la, hla⟩ : ∃ la, lastK (L ++ u.2.take i) = la := ⟨_, rfl⟩
          rw [hem] at f2 s2
          rw [hla] at f3 s1
          have HP := Lib.hid hp
          have HEM := Lib.hid hem
          have HLA := Lib.hid hla
          have HM := Lib.hid hm
          obtain ⟨k0, r0⟩ := p
          have hlast : em = false → ltB la k0 = true := fun h => by
            rw [← hla]; exact last_lt HRI.out hp (by rw [← h]; exact hem)
          clear hst hp hbn hem hla hm
          cases em
          · have hltb := hlast rfl
            clear hlast
            go_wp2_with fail
            go_roundg (n - (i + 1))
            case measure => omega
            case rel =>
              exact ⟨i + 1, by first | rfl | go_num, by omega, Nat.le_refl _, (ckst_step hltb HST.out HE.out.d1 HP.out HM.out).1, HCH.out.trans (ckst_step hltb HST.out HE.out.d1 HP.out HM.out).2⟩
          · clear hlast
            go_wp2_with fail
            go_roundg (n - (i + 1))
            case measure => omega
            case rel =>
              have h2 := ckst_step rfl HST.out HE.out.d1 HP.out HM.out
              exact ⟨i + 1, by first | rfl | go_num, by omega, Nat.le_refl _, h2.1, HCH.out.trans h2.2⟩
        · have hin' : i = n := by omega
          subst hin'
          have htk : L ++ u.2.take i = L ++ u.2 := by rw [List.take_of_length_le (by rw [HN.out]; exact Nat.le_refl _)]
          rw [htk] at HST
          clear hst htk
          go_wp2_with fail
          refine bodyPost_ret (results_none rfl _ _ _) rfl ?_
          rw [HRR.out]
          exact ⟨rfl, HST.out, HC1.out.trans HCH.out⟩
    · have hN0 : N = 0 := hdeep.resolve_left hdd
      subst hN0
      have hdb : (D == deep) = false := by rw [beq_eq_false_iff_ne]; exact hdd
      go_region
      obtain ⟨w1, hw1⟩ : ∃ w1, ((w.drewN (nq + 1)).setCell ⟨bok, 0, none⟩ (.bool true)) = w1 := ⟨_, rfl⟩
      rw [hw1]
      have hC1 : Chg (fun k => k = bok ∨ k = bso ∨ k = bla ∨ k = bn) w w1 := hw1 ▸ ((Chg.refl _ w).drewN _).setCell (p := ⟨bok, 0, none⟩) (.inl (.inl rfl)) _
      have hS1 : CkSt w1 bok bso bla bn L := ckst_ok hw1 HS.out HE.out.d1
      have hkk1 : Own w1 9 (.slice A n ck) (strs (keysT u.2)) := HKK.out.chg hC1 fun g hg e => HE.out.nos g (HSK.out g hg) e
      have hk01 : w1.cell? ⟨b, 0, none⟩ = some (.slice A n ck) := ((HBKK.out).chg hC1 fun e => HE.out.nos b HSB.out e).cell_ rfl
      have HC1 := Lib.hid hC1
      have HS1 := Lib.hid hS1
      have HK1 := Lib.hid hkk1
      clear hw1 hC1 hS1 hkk1 hoc hoz hk0 hk1 hk2 htc hfc hnc hrc hdc HSZ hle hle' hwf hnlt
      try clear hnlt2
      try clear hge
      try clear hnq
      go_wp2_with fail
      go_loopg [76] n (fun g s wr => ∃ i : Nat, s = .int .i64 i ∧ i ≤ n ∧ n - i ≤ g ∧ CkSt wr bok bso bla bn (L ++ u.2.take i) ∧ Chg (fun k => k = bok ∨ k = bso ∨ k = bla ∨ k = bn) w1 wr)
      case atStart => exact ⟨0, rfl, Nat.zero_le _, by omega, by simpa using HS1.out, Chg.refl _ _⟩
      case round =>
        obtain ⟨i, rfl, hin, hig, hst, hch⟩ := hrel
        have HST := Lib.hid hst
        have HCH := Lib.hid hch
        clear hch
        rcases Nat.lt_or_ge i n with hlt | hge2
        · obtain ⟨gk, _, hA, hrest⟩ := HK1.out.open_ (HK1.out.some_of_pos (by simp [strs, keysT, HN.out]; omega))
          clear hrest
          subst hA
          obtain ⟨p, hp⟩ : ∃ p, u.2[i]? = some p := ⟨_, List.getElem?_eq_getElem (by rw [HN.out]; exact hlt)⟩
          have hkc : wr.cell? ⟨gk, i, none⟩ = some (.string p.1) := (HK1.out.chg HCH.out fun g hg e => HE.out.nos g (HSK.out g hg) e).cell (by simp [strs, keysT, hp])
          have hil : (i : Int) < (n : Int) := by omega
          have f1 : wr.cell? ⟨bok, 0, none⟩ = some (.bool true) := hst.ok.cell_ rfl
          have f2 : wr.cell? ⟨bso, 0, none⟩ = some (.bool (!(L ++ u.2.take i).isEmpty)) := hst.so.cell_ rfl
          have f3 : wr.cell? ⟨bla, 0, none⟩ = some (.string (lastK (L ++ u.2.take i))) := hst.la.cell_ rfl
          have f4 := hst.ok.frozen 0
          have n1 : bok ≠ bla := hst.ok.ne_ hst.la (by decide)
          have n2 : bok ≠ bn := hst.ok.ne_ hst.n (by decide)
          have n3 : bla ≠ bso := hst.la.ne_ hst.so (by decide)
          have n4 : bla ≠ bn := hst.la.ne_ hst.n (by decide)
          have n5 : bso ≠ bn := hst.so.ne_ hst.n (by decide)
          have n6 : bok ≠ bso := HE.out.d1
          have s1 : ∀ v1, (wr.setCell ⟨bok, 0, none⟩ v1).cell? ⟨bla, 0, none⟩ = some (.string (lastK (L ++ u.2.take i))) := fun v1 => (hst.la.far (p := ⟨bok, 0, none⟩) n1.symm v1).cell_ rfl
          have s1' : ∀ v1, (wr.setCell ⟨bok, 0, none⟩ v1).frozen? ⟨bla, 0, none⟩ = false := fun v1 => (hst.la.far (p := ⟨bok, 0, none⟩) n1.symm v1).frozen 0
          have s2 : ∀ v1 v2, ((wr.setCell ⟨bok, 0, none⟩ v1).setCell ⟨bla, 0, none⟩ v2).cell? ⟨bso, 0, none⟩ = some (.bool (!(L ++ u.2.take i).isEmpty)) := fun v1 v2 => ((hst.so.far (p := ⟨bok, 0, none⟩) n6.symm v1).far (p := ⟨bla, 0, none⟩) n3.symm v2).cell_ rfl
          have s2' : ∀ v1 v2, ((wr.setCell ⟨bok, 0, none⟩ v1).setCell ⟨bla, 0, none⟩ v2).frozen? ⟨bso, 0, none⟩ = false := fun v1 v2 => ((hst.so.far (p := ⟨bok, 0, none⟩) n6.symm v1).far (p := ⟨bla, 0, none⟩) n3.symm v2).frozen 0
          have hbn : ∀ v1 v2 v3, Blk (((wr.setCell ⟨bok, 0, none⟩ v1).setCell ⟨bla, 0, none⟩ v2).setCell ⟨bso, 0, none⟩ v3) bn 3 #[.int .i64 (L ++ u.2.take i).length] := fun v1 v2 v3 =>
            ((hst.n.far (p := ⟨bok, 0, none⟩) n2.symm v1).far (p := ⟨bla, 0, none⟩) n4.symm v2).far (p := ⟨bso, 0, none⟩) n5.symm v3
          obtain ⟨m, hm⟩ : ∃ m, (L ++ u.2.take i).length = m := ⟨_, rfl⟩
          have s3 : ∀ v1 v2 v3, (((wr.setCell ⟨bok, 0, none⟩ v1).setCell ⟨bla, 0, none⟩ v2).setCell ⟨bso, 0, none⟩ v3).cell? ⟨bn, 0, none⟩ = some (.int .i64 m) := fun v1 v2 v3 => by rw [← hm]; exact (hbn v1 v2 v3).cell_ rfl
          have s3' : ∀ v1 v2 v3, (((wr.setCell ⟨bok, 0, none⟩ v1).setCell ⟨bla, 0, none⟩ v2).setCell ⟨bso, 0, none⟩ v3).frozen? ⟨bn, 0, none⟩ = false := fun v1 v2 v3 => (hbn v1 v2 v3).frozen 0
          have hmb : m ≤ 1000 := by
            have := HLL.out
            rw [← hm]; simp only [List.length_append, List.length_take] at this ⊢; omega
          have hwm : IntKind.i64.wrap ((m : Int) + 1) = (m : Int) + 1 := by rw [IntKind.wrap_i64]; omega
          have hwi : IntKind.i64.wrap ((i : Int) + 1) = (i : Int) + 1 := by rw [IntKind.wrap_i64]; omega
          obtain ⟨em, hem⟩ : ∃ em, (L ++ u.2.take i).isEmpty = em := ⟨_, rfl⟩
          obtain ⟨la, hla⟩ : ∃ la, lastK (L ++ u.2.take i) = la := ⟨_, rfl⟩
          rw [hem] at f2 s2
          rw [hla] at f3 s1
          have HP := Lib.hid hp
          have HEM := Lib.hid hem
          have HLA := Lib.hid hla
          have HM := Lib.hid hm
          obtain ⟨k0, r0⟩ := p
          have hlast : em = false → ltB la k0 = true := fun h => by
            rw [← hla]; exact last_lt HRI.out hp (by rw [← h]; exact hem)
          clear hst hp hbn hem hla hm
          cases em
          · have hltb := hlast rfl
            clear hlast
            go_wp2_with fail
            go_roundg (n - (i + 1))
            case measure => omega
            case rel =>
              exact ⟨i + 1, by first | rfl | go_num, by omega, Nat.le_refl _, (ckst_step hltb HST.out HE.out.d1 HP.out HM.out).1, HCH.out.trans (ckst_step hltb HST.out HE.out.d1 HP.out HM.out).2⟩
          · clear hlast
            go_wp2_with fail
            go_roundg (n - (i + 1))
            case measure => omega
            case rel =>
              have h2 := ckst_step rfl HST.out HE.out.d1 HP.out HM.out
              exact ⟨i + 1, by first | rfl | go_num, by omega, Nat.le_refl _, h2.1, HCH.out.trans h2.2⟩
        · have hin' : i = n := by omega
          subst hin'
          have htk : L ++ u.2.take i = L ++ u.2 := by rw [List.take_of_length_le (by rw [HN.out]; exact Nat.le_refl _)]
          rw [htk] at HST
          clear hst htk
          go_wp2_with fail
          refine bodyPost_ret (results_none rfl _ _ _) rfl ?_
          rw [HRR.out]
          exact ⟨rfl, HST.out, HC1.out.trans HCH.out⟩
  · have hge : (fan : Int) / 2 ≤ (n : Int) := hroot'.resolve_left hbr
    have hnlt2 : ¬ ((n : Int) < (fan : Int) / 2) := by omega
    have hnq := hNEQ hbr
    clear hroot' hNEQ
    go_enter Try.func38, Try.ntmps38
    go_wp2_with fail
    go_big_quiet ((go_at_call 34; exact Calls.quiet_of (HSZ.out _)))
    go_wp2_with fail
    by_cases hdd : D = deep
    · subst hdd
      go_region
      obtain ⟨w1, hw1⟩ : ∃ w1, ((w.drewN (nq + 1)).setCell ⟨bok, 0, none⟩ (.bool true)) = w1 := ⟨_, rfl⟩
      rw [hw1]
      have hC1 : Chg (fun k => k = bok ∨ k = bso ∨ k = bla ∨ k = bn) w w1 := hw1 ▸ ((Chg.refl _ w).drewN _).setCell (p := ⟨bok, 0, none⟩) (.inl (.inl rfl)) _
      have hS1 : CkSt w1 bok bso bla bn L := ckst_ok hw1 HS.out HE.out.d1
      have hkk1 : Own w1 9 (.slice A n ck) (strs (keysT u.2)) := HKK.out.chg hC1 fun g hg e => HE.out.nos g (HSK.out g hg) e
      have hk01 : w1.cell? ⟨b, 0, none⟩ = some (.slice A n ck) := ((HBKK.out).chg hC1 fun e => HE.out.nos b HSB.out e).cell_ rfl
      have HC1 := Lib.hid hC1
      have HS1 := Lib.hid hS1
      have HK1 := Lib.hid hkk1
      clear hw1 hC1 hS1 hkk1 hoc hoz hk0 hk1 hk2 htc hfc hnc hrc hdc HSZ hle hle' hwf hnlt
      try clear hnlt2
      try clear hge
      try clear hnq
      go_wp2_with fail
      go_loopg [76] n (fun g s wr => ∃ i : Nat, s = .int .i64 i ∧ i ≤ n ∧ n - i ≤ g ∧ CkSt wr bok bso bla bn (L ++ u.2.take i) ∧ Chg (fun k => k = bok ∨ k = bso ∨ k = bla ∨ k = bn) w1 wr)
      case atStart => exact ⟨0, rfl, Nat.zero_le _, by omega, by simpa using HS1.out, Chg.refl _ _⟩
      case round =>
        obtain ⟨i, rfl, hin, hig, hst, hch⟩ := hrel
        have HST := Lib.hid hst
        have HCH := Lib.hid hch
        clear hch
        rcases Nat.lt_or_ge i n with hlt | hge2
        · obtain ⟨gk, _, hA, hrest⟩ := HK1.out.open_ (HK1.out.some_of_pos (by simp [strs, keysT, HN.out]; omega))
          clear hrest
          subst hA
          obtain ⟨p, hp⟩ : ∃ p, u.2[i]? = some p := ⟨_, List.getElem?_eq_getElem (by rw [HN.out]; exact hlt)⟩
          have hkc : wr.cell? ⟨gk, i, none⟩ = some (.string p.1) := (HK1.out.chg HCH.out fun g hg e => HE.out.nos g (HSK.out g hg) e).cell (by simp [strs, keysT, hp])
          have hil : (i : Int) < (n : Int) := by omega
          have f1 : wr.cell? ⟨bok, 0, none⟩ = some (.bool true) := hst.ok.cell_ rfl
          have f2 : wr.cell? ⟨bso, 0, none⟩ = some (.bool (!(L ++ u.2.take i).isEmpty)) := hst.so.cell_ rfl
          have f3 : wr.cell? ⟨bla, 0, none⟩ = some (.string (lastK (L ++ u.2.take i))) := hst.la.cell_ rfl
          have f4 := hst.ok.frozen 0
          have n1 : bok ≠ bla := hst.ok.ne_ hst.la (by decide)
          have n2 : bok ≠ bn := hst.ok.ne_ hst.n (by decide)
          have n3 : bla ≠ bso := hst.la.ne_ hst.so (by decide)
          have n4 : bla ≠ bn := hst.la.ne_ hst.n (by decide)
          have n5 : bso ≠ bn := hst.so.ne_ hst.n (by decide)
          have n6 : bok ≠ bso := HE.out.d1
          have s1 : ∀ v1, (wr.setCell ⟨bok, 0, none⟩ v1).cell? ⟨bla, 0, none⟩ = some (.string (lastK (L ++ u.2.take i))) := fun v1 => (hst.la.far (p := ⟨bok, 0, none⟩) n1.symm v1).cell_ rfl
          have s1' : ∀ v1, (wr.setCell ⟨bok, 0, none⟩ v1).frozen? ⟨bla, 0, none⟩ = false := fun v1 => (hst.la.far (p := ⟨bok, 0, none⟩) n1.symm v1).frozen 0
          have s2 : ∀ v1 v2, ((wr.setCell ⟨bok, 0, none⟩ v1).setCell ⟨bla, 0, none⟩ v2).cell? ⟨bso, 0, none⟩ = some (.bool (!(L ++ u.2.take i).isEmpty)) := fun v1 v2 => ((hst.so.far (p := ⟨bok, 0, none⟩) n6.symm v1).far (p := ⟨bla, 0, none⟩) n3.symm v2).cell_ rfl
          have s2' : ∀ v1 v2, ((wr.setCell ⟨bok, 0, none⟩ v1).setCell ⟨bla, 0, none⟩ v2).frozen? ⟨bso, 0, none⟩ = false := fun v1 v2 => ((hst.so.far (p := ⟨bok, 0, none⟩) n6.symm v1).far (p := ⟨bla, 0, none⟩) n3.symm v2).frozen 0
          have hbn : ∀ v1 v2 v3, Blk (((wr.setCell ⟨bok, 0, none⟩ v1).setCell ⟨bla, 0, none⟩ v2).setCell ⟨bso, 0, none⟩ v3) bn 3 #[.int .i64 (L ++ u.2.take i).length] := fun v1 v2 v3 =>
            ((hst.n.far (p := ⟨bok, 0, none⟩) n2.symm v1).far (p := ⟨bla, 0, none⟩) n4.symm v2).far (p := ⟨bso, 0, none⟩) n5.symm v3
          obtain ⟨m, hm⟩ : ∃ m, (L ++ u.2.take i).length = m := ⟨_, rfl⟩
          have s3 : ∀ v1 v2 v3, (((wr.setCell ⟨bok, 0, none⟩ v1).setCell ⟨bla, 0, none⟩ v2).setCell ⟨bso, 0, none⟩ v3).cell? ⟨bn, 0, none⟩ = some (.int .i64 m) := fun v1 v2 v3 => by rw [← hm]; exact (hbn v1 v2 v3).cell_ rfl
          have s3' : ∀ v1 v2 v3, (((wr.setCell ⟨bok, 0, none⟩ v1).setCell ⟨bla, 0, none⟩ v2).setCell ⟨bso, 0, none⟩ v3).frozen? ⟨bn, 0, none⟩ = false := fun v1 v2 v3 => (hbn v1 v2 v3).frozen 0
          have hmb : m ≤ 1000 := by
            have := HLL.out
            rw [← hm]; simp only [List.length_append, List.length_take] at this ⊢; omega
          have hwm : IntKind.i64.wrap ((m : Int) + 1) = (m : Int) + 1 := by rw [IntKind.wrap_i64]; omega
          have hwi : IntKind.i64.wrap ((i : Int) + 1) = (i : Int) + 1 := by rw [IntKind.wrap_i64]; omega
          obtain ⟨em, hem⟩ : ∃ em, (L ++ u.2.take i).isEmpty = em := ⟨_, rfl⟩
          obtain ⟨la, hla⟩ : ∃ la, lastK (L ++ u.2.take i) = la := ⟨_, rfl⟩
          rw [hem] at f2 s2
          rw [hla] at f3 s1
          have HP := Lib.hid hp
          have HEM := Lib.hid hem
          have HLA := Lib.hid hla
          have HM := Lib.hid hm
          obtain ⟨k0, r0⟩ := p
          have hlast : em = false → ltB la k0 = true := fun h => by
            rw [← hla]; exact last_lt HRI.out hp (by rw [← h]; exact hem)
          clear hst hp hbn hem hla hm
          cases em
          · have hltb := hlast rfl
            clear hlast
            go_wp2_with fail
            go_roundg (n - (i + 1))
            case measure => omega
            case rel =>
              exact ⟨i + 1, by first | rfl | go_num, by omega, Nat.le_refl _, (ckst_step hltb HST.out HE.out.d1 HP.out HM.out).1, HCH.out.trans (ckst_step hltb HST.out HE.out.d1 HP.out HM.out).2⟩
          · clear hlast
            go_wp2_with fail
            go_roundg (n - (i + 1))
            case measure => omega
            case rel =>
              have h2 := ckst_step rfl HST.out HE.out.d1 HP.out HM.out
              exact ⟨i + 1, by first | rfl | go_num, by omega, Nat.le_refl _, h2.1, HCH.out.trans h2.2⟩
        · have hin' : i = n := by omega
          subst hin'
          have htk : L ++ u.2.take i = L ++ u.2 := by rw [List.take_of_length_le (by rw [HN.out]; exact Nat.le_refl _)]
          rw [htk] at HST
          clear hst htk
          go_wp2_with fail
          refine bodyPost_ret (results_none rfl _ _ _) rfl ?_
          rw [HRR.out]
          exact ⟨rfl, HST.out, HC1.out.trans HCH.out⟩
    · have hN0 : N = 0 := hdeep.resolve_left hdd
      subst hN0
      have hdb : (D == deep) = false := by rw [beq_eq_false_iff_ne]; exact hdd
      go_region
      obtain ⟨w1, hw1⟩ : ∃ w1, ((w.drewN (nq + 1)).setCell ⟨bok, 0, none⟩ (.bool true)) = w1 := ⟨_, rfl⟩
      rw [hw1]
      have hC1 : Chg (fun k => k = bok ∨ k = bso ∨ k = bla ∨ k = bn) w w1 := hw1 ▸ ((Chg.refl _ w).drewN _).setCell (p := ⟨bok, 0, none⟩) (.inl (.inl rfl)) _
      have hS1 : CkSt w1 bok bso bla bn L := ckst_ok hw1 HS.out HE.out.d1
      have hkk1 : Own w1 9 (.slice A n ck) (strs (keysT u.2)) := HKK.out.chg hC1 fun g hg e => HE.out.nos g (HSK.out g hg) e
      have hk01 : w1.cell? ⟨b, 0, none⟩ = some (.slice A n ck) := ((HBKK.out).chg hC1 fun e => HE.out.nos b HSB.out e).cell_ rfl
      have HC1 := Lib.hid hC1
      have HS1 := Lib.hid hS1
      have HK1 := Lib.hid hkk1
      clear hw1 hC1 hS1 hkk1 hoc hoz hk0 hk1 hk2 htc hfc hnc hrc hdc HSZ hle hle' hwf hnlt
      try clear hnlt2
      try clear hge
      try clear hnq
      go_wp2_with fail
      go_loopg [76] n (fun g s wr => ∃ i : Nat, s = .int .i64 i ∧ i ≤ n ∧ n - i ≤ g ∧ CkSt wr bok bso bla bn (L ++ u.2.take i) ∧ Chg (fun k => k = bok ∨ k = bso ∨ k = bla ∨ k = bn) w1 wr)
      case atStart => exact ⟨0, rfl, Nat.zero_le _, by omega, by simpa using HS1.out, Chg.refl _ _⟩
      case round =>
        obtain ⟨i, rfl, hin, hig, hst, hch⟩ := hrel
        have HST := Lib.hid hst
        have HCH := Lib.hid hch
        clear hch
        rcases Nat.lt_or_ge i n with hlt | hge2
        · obtain ⟨gk, _, hA, hrest⟩ := HK1.out.open_ (HK1.out.some_of_pos (by simp [strs, keysT, HN.out]; omega))
          clear hrest
          subst hA
          obtain ⟨p, hp⟩ : ∃ p, u.2[i]? = some p := ⟨_, List.getElem?_eq_getElem (by rw [HN.out]; exact hlt)⟩
          have hkc : wr.cell? ⟨gk, i, none⟩ = some (.string p.1) := (HK1.out.chg HCH.out fun g hg e => HE.out.nos g (HSK.out g hg) e).cell (by simp [strs, keysT, hp])
          have hil : (i : Int) < (n : Int) := by omega
          have f1 : wr.cell? ⟨bok, 0, none⟩ = some (.bool true) := hst.ok.cell_ rfl
          have f2 : wr.cell? ⟨bso, 0, none⟩ = some (.bool (!(L ++ u.2.take i).isEmpty)) := hst.so.cell_ rfl
          have f3 : wr.cell? ⟨bla, 0, none⟩ = some (.string (lastK (L ++ u.2.take i))) := hst.la.cell_ rfl
          have f4 := hst.ok.frozen 0
          have n1 : bok ≠ bla := hst.ok.ne_ hst.la (by decide)
          have n2 : bok ≠ bn := hst.ok.ne_ hst.n (by decide)
          have n3 : bla ≠ bso := hst.la.ne_ hst.so (by decide)
          have n4 : bla ≠ bn := hst.la.ne_ hst.n (by decide)
          have n5 : bso ≠ bn := hst.so.ne_ hst.n (by decide)
          have n6 : bok ≠ bso := HE.out.d1
          have s1 : ∀ v1, (wr.setCell ⟨bok, 0, none⟩ v1).cell? ⟨bla, 0, none⟩ = some (.string (lastK (L ++ u.2.take i))) := fun v1 => (hst.la.far (p := ⟨bok, 0, none⟩) n1.symm v1).cell_ rfl
          have s1' : ∀ v1, (wr.setCell ⟨bok, 0, none⟩ v1).frozen? ⟨bla, 0, none⟩ = false := fun v1 => (hst.la.far (p := ⟨bok, 0, none⟩) n1.symm v1).frozen 0
          have s2 : ∀ v1 v2, ((wr.setCell ⟨bok, 0, none⟩ v1).setCell ⟨bla, 0, none⟩ v2).cell? ⟨bso, 0, none⟩ = some (.bool (!(L ++ u.2.take i).isEmpty)) := fun v1 v2 => ((hst.so.far (p := ⟨bok, 0, none⟩) n6.symm v1).far (p := ⟨bla, 0, none⟩) n3.symm v2).cell_ rfl
          have s2' : ∀ v1 v2, ((wr.setCell ⟨bok, 0, none⟩ v1).setCell ⟨bla, 0, none⟩ v2).frozen? ⟨bso, 0, none⟩ = false := fun v1 v2 => ((hst.so.far (p := ⟨bok, 0, none⟩) n6.symm v1).far (p := ⟨bla, 0, none⟩) n3.symm v2).frozen 0
          have hbn : ∀ v1 v2 v3, Blk (((wr.setCell ⟨bok, 0, none⟩ v1).setCell ⟨bla, 0, none⟩ v2).setCell ⟨bso, 0, none⟩ v3) bn 3 #[.int .i64 (L ++ u.2.take i).length] := fun v1 v2 v3 =>
            ((hst.n.far (p := ⟨bok, 0, none⟩) n2.symm v1).far (p := ⟨bla, 0, none⟩) n4.symm v2).far (p := ⟨bso, 0, none⟩) n5.symm v3
          obtain ⟨m, hm⟩ : ∃ m, (L ++ u.2.take i).length = m := ⟨_, rfl⟩
          have s3 : ∀ v1 v2 v3, (((wr.setCell ⟨bok, 0, none⟩ v1).setCell ⟨bla, 0, none⟩ v2).setCell ⟨bso, 0, none⟩ v3).cell? ⟨bn, 0, none⟩ = some (.int .i64 m) := fun v1 v2 v3 => by rw [← hm]; exact (hbn v1 v2 v3).cell_ rfl
          have s3' : ∀ v1 v2 v3, (((wr.setCell ⟨bok, 0, none⟩ v1).setCell ⟨bla, 0, none⟩ v2).setCell ⟨bso, 0, none⟩ v3).frozen? ⟨bn, 0, none⟩ = false := fun v1 v2 v3 => (hbn v1 v2 v3).frozen 0
          have hmb : m ≤ 1000 := by
            have := HLL.out
            rw [← hm]; simp only [List.length_append, List.length_take] at this ⊢; omega
          have hwm : IntKind.i64.wrap ((m : Int) + 1) = (m : Int) + 1 := by rw [IntKind.wrap_i64]; omega
          have hwi : IntKind.i64.wrap ((i : Int) + 1) = (i : Int) + 1 := by rw [IntKind.wrap_i64]; omega
          obtain ⟨em, hem⟩ : ∃ em, (L ++ u.2.take i).isEmpty = em := ⟨_, rfl⟩
          obtain ⟨la, hla⟩ : ∃ la, lastK (L ++ u.2.take i) = la := ⟨_, rfl⟩
          rw [hem] at f2 s2
          rw [hla] at f3 s1
          have HP := Lib.hid hp
          have HEM := Lib.hid hem
          have HLA := Lib.hid hla
          have HM := Lib.hid hm
          obtain ⟨k0, r0⟩ := p
          have hlast : em = false → ltB la k0 = true := fun h => by
            rw [← hla]; exact last_lt HRI.out hp (by rw [← h]; exact hem)
          clear hst hp hbn hem hla hm
          cases em
          · have hltb := hlast rfl
            clear hlast
            go_wp2_with fail
            go_roundg (n - (i + 1))
            case measure => omega
            case rel =>
              exact ⟨i + 1, by first | rfl | go_num, by omega, Nat.le_refl _, (ckst_step hltb HST.out HE.out.d1 HP.out HM.out).1, HCH.out.trans (ckst_step hltb HST.out HE.out.d1 HP.out HM.out).2⟩
          · clear hlast
            go_wp2_with fail
            go_roundg (n - (i + 1))
            case measure => omega
            case rel =>
              have h2 := ckst_step rfl HST.out HE.out.d1 HP.out HM.out
              exact ⟨i + 1, by first | rfl | go_num, by omega, Nat.le_refl _, h2.1, HCH.out.trans h2.2⟩
        · have hin' : i = n := by omega
          subst hin'
          have htk : L ++ u.2.take i = L ++ u.2 := by rw [List.take_of_length_le (by rw [HN.out]; exact Nat.le_refl _)]
          rw [htk] at HST
          clear hst htk
          go_wp2_with fail
          refine bodyPost_ret (results_none rfl _ _ _) rfl ?_
          rw [HRR.out]
          exact ⟨rfl, HST.out, HC1.out.trans HCH.out⟩
end Go.Proofs.Ythndplpbnfihdaa
