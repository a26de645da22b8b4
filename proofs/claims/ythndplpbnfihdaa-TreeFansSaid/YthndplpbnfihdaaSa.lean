/-
  same, walked. Conditions: a sound tree and a row that holds its list.
-/
import Derived.Test.YthndplpbnfihdaaRi
import Derived.Test.YthndplpbnfihdaaBu
set_option linter.unusedVariables false
set_option linter.unusedSimpArgs false
namespace Go.Proofs.Ythndplpbnfihdaa
open Go.RowKit Go.Shelf

attribute [local go_sem] Oper.semAt_some

theorem slen {w : World} {tr fan d : Nat} {t : Tr d} {fp : List Nat} (hT : Tree w tr fan d t fp) {m : Nat} (hm : (toL d t).length = m) : Calls Try.prog 15 #[.pointer (some ⟨tr, 0, none⟩)] w fun e w' => e = .returned (.int .i64 (m : Nat)) ∧ w = w' := by
  obtain ⟨root, hb, _⟩ := hT.mem
  subst hm
  exact len_calls hb

theorem schk {w : World} {tr fan d : Nat} {t : Tr d} {fp : List Nat} (hT : Tree w tr fan d t fp) (hl : (toL d t).length ≤ 1000) : Calls Try.prog 22 #[.pointer (some ⟨tr, 0, none⟩)] w fun e w' => e = .returned (.int .i64 0) ∧ Chg (fun _ => False) w w' := by
  obtain ⟨u, hS⟩ := hT.seen hl
  exact check_calls hT.lo hT.hi hS.view hS.sound hS.size hS.two hS.root hS.deep hS.blk

theorem sdep {w : World} {tr fan d : Nat} {t : Tr d} {fp : List Nat} (hT : Tree w tr fan d t fp) (hl : (toL d t).length ≤ 1000) : Calls Try.prog 24 #[.pointer (some ⟨tr, 0, none⟩)] w fun e w' => e = .returned (.int .i64 (depthN d (toL d t).length)) ∧ w = w' := by
  obtain ⟨u, hS⟩ := hT.seen hl
  have := depth_calls hS.view hS.blk
  rw [hS.list] at this
  exact this

theorem lt_empty (a : ByteArray) : ltB a ⟨#[]⟩ = false := by
  unfold ltB
  have : (⟨#[]⟩ : ByteArray).toList = [] := by rw [Lib.toList_data]
  rw [this]
  cases a.toList <;> rfl

theorem tw_all {α : Type} : ∀ (l : List α) (p : α → Bool), (∀ x, p x = true) → l.takeWhile p = l
  | [], _, _ => rfl
  | x :: l, p, h => by rw [List.takeWhile_cons, h x, if_pos rfl, tw_all l p h]

theorem all_between (L : List (ByteArray × Int)) : between ⟨#[]⟩ ⟨#[]⟩ true L = L := by
  unfold between
  have : cntL ⟨#[]⟩ false L = 0 := by
    unfold cntL
    rw [List.length_eq_zero_iff, List.filter_eq_nil_iff]
    intro p _
    simp [lt_empty]
  rw [this, List.drop_zero]
  exact tw_all _ _ fun _ => by simp

theorem Chg.putObj {F : Nat → Prop} {a w : World} (h : Chg F a w) {D : Nat} (hD : a.heap.size ≤ D) (o : Obj) : Chg F a (w.putObj D o) :=
  ⟨h.os, h.tape, h.output, by rw [World.putObj_size]; exact h.size, fun k hk hn => (World.putObj_heap_other (by omega)).trans (h.block k hk hn)⟩

theorem eql_func_nil (w : World) (f : Fn) (fi ca : Array Value) : (binOp .eql 54 (.func f fi ca) .nilFunc).run Try.prog w = .ok (.bool false) w := by
  have h : ∃ a b c, Try.prog.underlying 54 = some (.func a b c) := ⟨_, _, _, Try.underlying54⟩
  obtain ⟨a, b, c, h⟩ := h
  have h2 : ∀ k, (Op.equalIn (k + 1) 54 (.func f fi ca) .nilFunc).run Try.prog w = .ok false w := fun k => by simp [Op.equalIn, run_underlying h]
  simp only [binOp]
  simp [Op.equal, Op.maxDepth, h2 9999]

/-- A body that ends by its return alone. -/
def retOnly (Q : Exit → Act → World → Prop) : Exit → Act → World → Prop
  | .ret, a, w => Q .ret a w
  | _, _, _ => False

theorem ret_only (Q : Exit → Act → World → Prop) (e : Exit) (a : Act) (w : World) (h : retOnly Q e a w) : Q e a w := by
  cases e with
  | ret => exact h
  | _ => exact h.elim

theorem Chg.belowT {F : Nat → Prop} {a w w' : World} (h : Chg F a w) (hb : Below a.heap.size w w') : Chg F a w' :=
  ⟨hb.os.trans h.os, hb.tape.trans h.tape, hb.output.trans h.output, Nat.le_trans h.size hb.size, fun k hk hn => (hb.block k hk).trans (h.block k hk hn)⟩

theorem Blk.below {B g : Nat} {t : TypeId} {cs : Array Value} {w w' : World} (h : Blk w g t cs) (hb : Below B w w') (hg : g < B) : Blk w' g t cs := (hb.block g hg).trans h

/-- The slots when the loop's two variables are set. -/
def put2 (p q i j : Nat) (t : Array Value) (x : ByteArray × Int) : Array Value :=
  (((t.setIfInBounds p (.string x.1)).setIfInBounds q (.int .i64 x.2)).setIfInBounds i (.string x.1)).setIfInBounds j (.int .i64 x.2)

theorem wp_range2 {P : Program} {g : Operand} {p q : Tmp} (i j : Nat) {assign body : Code} {Q : Exit → Act → World → Prop} {a : Act} {w : World} {gf : Nat} {lb : Array Value} (hg : a.eval g = .func (.func gf) #[] lb)
    (eg : ∀ args w, (callFunc gf args).run P w = .ok (.enter gf args) w) {Done Part : List (ByteArray × Int) → Prop} {Bs : Nat → Prop} (hBs : ∀ k, Bs k → k < w.heap.size)
    (hseq : SeqC P gf lb enc2 Done Part Bs w) (I : List (ByteArray × Int) → World → Prop) (Ix : Code → List (ByteArray × Int) → World → Prop)
    (hI : ∀ s A A', I s A → Below w.heap.size A A' → I s A') (hIx : ∀ c s A A', Ix c s A → Below w.heap.size A A' → Ix c s A') (h0 : I [] w)
    (hassign : ∀ (l : Nat) (x : ByteArray × Int) (W : World) (K : Act → World → Prop), K { tmps := put2 p q i j a.tmps x, defers := [] } W →
      assign.wpIn (Fence.wide.inRound l) 3 P (Exit.then K (fun _ _ _ => False)) { tmps := (a.tmps.setIfInBounds p (.string x.1)).setIfInBounds q (.int .i64 x.2), defers := [] } W)
    (hbody : ∀ (l : Nat) (pre : List (ByteArray × Int)) (x : ByteArray × Int) (W : World), I pre W → Part (pre ++ [x]) → w.heap.size ≤ W.heap.size → body.wpIn (Fence.wide.inRound l) 3 P (roundC Bs I Ix (pre ++ [x]) W) { tmps := put2 p q i j a.tmps x, defers := [] } W)
    (hdone : ∀ (D : Nat) (xs : List (ByteArray × Int)) (W : World), Done xs → I xs W → W.heap[D]? = some (.deferred (some [])) → w.heap.size ≤ D → Q .normal { a with defers := { target := .collected D, args := #[] } :: a.defers } W)
    (hstop : ∀ (D : Nat) (c : Code) (pre : List (ByteArray × Int)) (W : World), Part pre → Ix c pre W → W.heap[D]? = some (.deferred (some [])) → w.heap.size ≤ D → c.wp P Q { a with defers := { target := .collected D, args := #[] } :: a.defers } W) :
    (Code.rangeFunc g #[p, q] assign body).wp P Q a w :=
  wp_rangeFunc_c hg eg hBs hseq (fun _ => rfl) I Ix hI hIx h0 (fun x => { tmps := put2 p q i j a.tmps x, defers := [] }) (fun l x W K hK => by have := hassign l x W K hK; simpa [enc2] using this) hbody hdone hstop

set_option maxHeartbeats 4000000 in
set_option maxRecDepth 100000 in
theorem same_calls {w : World} {tr fan d : Nat} {t : Tr d} {fp : List Nat} {L : List (ByteArray × Int)} {A : Option Addr} {n c : Nat} (hT : Tree w tr fan d t fp) (hTL : toL d t = L) (hrow : Row2 w 52 (.slice A n c) (prs L)) (hn : L.length = n) (hn1 : n ≤ 1000) :
    Calls Try.prog 26 #[.pointer (some ⟨tr, 0, none⟩), .slice A n c] w fun e w' => e = .returned (.bool true) ∧ Chg (fun _ => False) w w' := by
  obtain ⟨R, hR⟩ : ∃ R : Ending → World → Prop, R = fun e w' => e = .returned (.bool true) ∧ Chg (fun _ => False) w w' := ⟨_, rfl⟩
  rw [← hR]
  have HP : Hid (∀ e w', e = .returned (.bool true) → Chg (fun _ => False) w w' → R e w') := fun e w' h1 h2 => by rw [hR]; exact ⟨h1, h2⟩
  have HT := Lib.hid hT
  have HTL := Lib.hid hTL
  have HROW := Lib.hid hrow
  have HN := Lib.hid hn
  clear hR hT hTL hrow hn
  refine callsIn_wide.1 (callsIn_of_wp_marks (n := 5) Try.func26 rfl trivial ?_)
  simp only [Try.ntmps26, List.size_toArray, List.length_cons, List.length_nil, Nat.reduceAdd, Nat.reduceSub, Array.replicate_succ, Array.replicate_zero, List.push_toArray, List.append_toArray, List.nil_append, List.cons_append]
  refine wpIn_wide.2 (Code.wp_mono (ret_only _) ?_)
  go_wp2_with fail
  obtain ⟨w1, b1, hw1, hb1, hB1, hC1, hs1⟩ := alloc_named w #[.slice A n c] 46
  rw [hw1, hb1]
  have HB1 := Lib.hid hB1
  have HC1 := Lib.hid hC1
  have HG1 := Lib.hid hb1
  clear hw1 hb1 hB1 hC1 hs1
  refine (range_calls w1 tr ⟨#[]⟩ ⟨#[]⟩ true).mono ?_
  rintro e w2 ⟨bt, blo, bop, bhi, ta, tb, tc, td, rfl, hB2, hB3, hB4, hB5, hg2, hg3, hg4, hg5, hC2⟩
  unfold ptr
  have HRB : Hid (Blk w2 bt ta #[ptr tr] ∧ Blk w2 blo tb #[.string ⟨#[]⟩] ∧ Blk w2 bop tc #[.bool true] ∧ Blk w2 bhi td #[.string ⟨#[]⟩]) := ⟨hB2, hB3, hB4, hB5⟩
  have HRG : Hid (w1.heap.size ≤ bt ∧ w1.heap.size ≤ blo ∧ w1.heap.size ≤ bop ∧ w1.heap.size ≤ bhi) := ⟨hg2, hg3, hg4, hg5⟩
  have HC2 := Lib.hid (HC1.out.trans hC2)
  have HB1 := Lib.hid (HB1.out.chg hC2 id)
  clear hB2 hB3 hB4 hB5 hg2 hg3 hg4 hg5 hC2 HC1
  have hfn := fun w => eql_func_nil w (.func 43) #[] #[.pointer (some ⟨bt, 0, none⟩), .pointer (some ⟨blo, 0, none⟩), .pointer (some ⟨bop, 0, none⟩), .pointer (some ⟨bhi, 0, none⟩)]
  go_upto_region 2 with (fail)
  have HE : Hid (∀ W, Chg (fun _ => False) w2 W → Calls Try.prog 15 #[.pointer (some ⟨tr, 0, none⟩)] W (fun e w' => e = .returned (.int .i64 (n : Nat)) ∧ W = w') ∧
      Calls Try.prog 22 #[.pointer (some ⟨tr, 0, none⟩)] W (fun e w' => e = .returned (.int .i64 0) ∧ Chg (fun _ => False) W w') ∧
      Calls Try.prog 24 #[.pointer (some ⟨tr, 0, none⟩)] W (fun e w' => e = .returned (.int .i64 (depthN d n)) ∧ W = w') ∧ W.cell? ⟨b1, 0, none⟩ = some (.slice A n c)) := fun W hW => by
    have h1 := HT.out.chg (HC2.out.trans hW) fun _ h => h.elim
    have h2 : (toL d t).length = n := by rw [HTL.out, HN.out]
    have h3 := sdep h1 (by omega)
    rw [h2] at h3
    exact ⟨slen h1 h2, schk h1 (by omega), h3, (HB1.out.chg hW id).cell_ rfl⟩
  go_cut [34] from 12 (fun s34 wx => s34 = .bool false ∧ Chg (fun _ => False) w2 wx)
  case first =>
    obtain ⟨dv, hdv⟩ : ∃ dv, depthN d n = dv := ⟨_, rfl⟩
    rw [hdv] at HE
    have hz : (n = 0 ∧ depthN d n = 0) ∨ (0 < n ∧ depthN d n = (d : Int) + 1) := by
      unfold depthN
      by_cases h : n = 0
      · exact .inl ⟨h, if_pos h⟩
      · exact .inr ⟨by omega, if_neg h⟩
    rw [hdv] at hz
    rcases hz with ⟨h0, h1⟩ | ⟨h0, h1⟩
    · subst h0
      subst h1
      clear hdv
      go_wp2_with fail
      obtain ⟨w5, hw5, hC5⟩ := drew_named w2
      have hC0 : Chg (fun _ => False) w2 w5 := hC5
      have hS := (HE.out _ hC0).2.2.2
      refine wp_region_till (s := 22) (S := (fun W => W.cell? ⟨b1, 0, none⟩ = some (.slice A 0 c))) (by kernel_rfl) ?_
      rw [hw5]
      clear hw5 hC5
      apply till_take0 (i := 0) (d := some 12)
      case hi => exact rfl
      case hd => exact rfl
      case hchk => kernel_rfl
      case hS => exact (fun _ => hS)
      case hy => apply yields_plain; exact rfl; intro w _; go_simp <;> with_reducible rfl
      case hQ => exact fun _ _ _ h => h
      simp only [Act.put, List.setIfInBounds_toArray, List.set_cons_zero, List.set_cons_succ]
      apply till_take0 (i := 1) (d := some 13)
      case hi => exact rfl
      case hd => exact rfl
      case hchk => kernel_rfl
      case hS => exact (fun _ => hS)
      case hy => apply yields_plain; exact rfl; intro w _; go_simp <;> with_reducible rfl
      case hQ => exact fun _ _ _ h => h
      simp only [Act.put, List.setIfInBounds_toArray, List.set_cons_zero, List.set_cons_succ]
      apply till_take0 (i := 2) (d := some 14)
      case hi => exact rfl
      case hd => exact rfl
      case hchk => kernel_rfl
      case hS => exact (fun _ => hS)
      case hy => apply yields_plain; exact rfl; intro w _; go_simp <;> with_reducible rfl
      case hQ => exact fun _ _ _ h => h
      simp only [Act.put, List.setIfInBounds_toArray, List.set_cons_zero, List.set_cons_succ]
      apply till_take0 (i := 3) (d := some 15)
      case hi => exact rfl
      case hd => exact rfl
      case hchk => kernel_rfl
      case hS => exact (fun _ => hS)
      case hy => apply yields_want; kernel_rfl; intro w _; go_simp <;> with_reducible rfl
      case hQ => exact fun _ _ _ h => h
      simp only [Act.put, List.setIfInBounds_toArray, List.set_cons_zero, List.set_cons_succ]
      apply till_take (i := 5) (d := some 17) [22, 14, 11, 9, 8, 7, 6, 5]
      case hi => exact rfl
      case hd => exact rfl
      case hchk => kernel_rfl
      case hS => exact hS
      case hy => apply yields_want; kernel_rfl; intro w hSw; (try dsimp only at hSw); go_split_ands; go_simp <;> with_reducible rfl
      case hQ => exact fun _ _ _ h => h
      simp only [Act.put, List.setIfInBounds_toArray, List.set_cons_zero, List.set_cons_succ]
      apply till_take0 (i := 6) (d := some 18)
      case hi => exact rfl
      case hd => exact rfl
      case hchk => kernel_rfl
      case hS => exact (fun _ => hS)
      case hy => apply yields_want; kernel_rfl; intro w _; go_simp <;> with_reducible rfl
      case hQ => exact fun _ _ _ h => h
      simp only [Act.put, List.setIfInBounds_toArray, List.set_cons_zero, List.set_cons_succ]
      refine till_all (rs := [4]) (by kernel_rfl) (by simp) (mem_more (till_opw (i := 4) (o := ⟨some 16, _, _, _, _, _⟩) rfl (by kernel_rfl) (fun K hK => ?_)) (mem_none))
      go_simp
      go_at_call 15
      refine (HE.out _ hC0).1.mono ?_
      rintro e w' ⟨rfl, rfl⟩
      refine hK.out _ _ (fun _ => ?_) (fun hS2 => ?_)
      · exact (HE.out _ hC0).2.2.2
      have hS3 := hS2 (by kernel_rfl)
      clear hK K hS hS2
      have hS := hS3
      clear hS3
      try simp only [Act.put, List.setIfInBounds_toArray, List.set_cons_zero, List.set_cons_succ]
      apply till_take0 (i := 7) (d := some 19)
      case hi => exact rfl
      case hd => exact rfl
      case hchk => kernel_rfl
      case hS => exact (fun _ => hS)
      case hy => apply yields_want; kernel_rfl; intro w _; go_simp <;> with_reducible rfl
      case hQ => exact fun _ _ _ h => h
      simp only [Act.put, List.setIfInBounds_toArray, List.set_cons_zero, List.set_cons_succ]
      apply till_take0 (i := 8) (d := some 20)
      case hi => exact rfl
      case hd => exact rfl
      case hchk => kernel_rfl
      case hS => exact (fun _ => hS)
      case hy => apply yields_plain; exact rfl; intro w _; go_simp <;> with_reducible rfl
      case hQ => exact fun _ _ _ h => h
      simp only [Act.put, List.setIfInBounds_toArray, List.set_cons_zero, List.set_cons_succ]
      apply till_take0 (i := 9) (d := some 21)
      case hi => exact rfl
      case hd => exact rfl
      case hchk => kernel_rfl
      case hS => exact (fun _ => hS)
      case hy => apply yields_plain; exact rfl; intro w _; go_simp <;> with_reducible rfl
      case hQ => exact fun _ _ _ h => h
      simp only [Act.put, List.setIfInBounds_toArray, List.set_cons_zero, List.set_cons_succ]
      apply till_take0 (i := 10) (d := some 22)
      case hi => exact rfl
      case hd => exact rfl
      case hchk => kernel_rfl
      case hS => exact (fun _ => hS)
      case hy => apply yields_want; kernel_rfl; intro w _; go_simp <;> with_reducible rfl
      case hQ => exact fun _ _ _ h => h
      simp only [Act.put, List.setIfInBounds_toArray, List.set_cons_zero, List.set_cons_succ]
      refine till_all (rs := [11]) (by kernel_rfl) (by simp) (mem_more (till_opw (i := 11) (o := ⟨some 23, _, _, _, _, _⟩) rfl (by kernel_rfl) (fun K hK => ?_)) (mem_none))
      go_simp
      go_at_call 22
      refine (HE.out _ hC0).2.1.mono ?_
      rintro e w6 ⟨rfl, hck⟩
      have hC0 := hC0.trans hck
      clear hck
      refine hK.out _ _ (fun _ => ?_) (fun hS2 => ?_)
      · exact (HE.out _ hC0).2.2.2
      have hS3 := hS2 (by kernel_rfl)
      clear hK K hS hS2
      have hS := hS3
      clear hS3
      try simp only [Act.put, List.setIfInBounds_toArray, List.set_cons_zero, List.set_cons_succ]
      apply till_take0 (i := 12) (d := some 24)
      case hi => exact rfl
      case hd => exact rfl
      case hchk => kernel_rfl
      case hS => exact (fun _ => hS)
      case hy => apply yields_want; kernel_rfl; intro w _; go_simp <;> with_reducible rfl
      case hQ => exact fun _ _ _ h => h
      simp only [Act.put, List.setIfInBounds_toArray, List.set_cons_zero, List.set_cons_succ]
      apply till_take0 (i := 13) (d := some 25)
      case hi => exact rfl
      case hd => exact rfl
      case hchk => kernel_rfl
      case hS => exact (fun _ => hS)
      case hy => apply yields_plain; exact rfl; intro w _; go_simp <;> with_reducible rfl
      case hQ => exact fun _ _ _ h => h
      simp only [Act.put, List.setIfInBounds_toArray, List.set_cons_zero, List.set_cons_succ]
      apply till_take0 (i := 14) (d := some 26)
      case hi => exact rfl
      case hd => exact rfl
      case hchk => kernel_rfl
      case hS => exact (fun _ => hS)
      case hy => apply yields_plain; exact rfl; intro w _; go_simp <;> with_reducible rfl
      case hQ => exact fun _ _ _ h => h
      simp only [Act.put, List.setIfInBounds_toArray, List.set_cons_zero, List.set_cons_succ]
      apply till_take0 (i := 15) (d := some 27)
      case hi => exact rfl
      case hd => exact rfl
      case hchk => kernel_rfl
      case hS => exact (fun _ => hS)
      case hy => apply yields_want; kernel_rfl; intro w _; go_simp <;> with_reducible rfl
      case hQ => exact fun _ _ _ h => h
      simp only [Act.put, List.setIfInBounds_toArray, List.set_cons_zero, List.set_cons_succ]
      apply till_take (i := 18) (d := some 30) [22, 21, 20, 19, 18]
      case hi => exact rfl
      case hd => exact rfl
      case hchk => kernel_rfl
      case hS => exact hS
      case hy => apply yields_want; kernel_rfl; intro w hSw; (try dsimp only at hSw); go_split_ands; go_simp <;> with_reducible rfl
      case hQ => exact fun _ _ _ h => h
      simp only [Act.put, List.setIfInBounds_toArray, List.set_cons_zero, List.set_cons_succ]
      apply till_take0 (i := 19) (d := some 31)
      case hi => exact rfl
      case hd => exact rfl
      case hchk => kernel_rfl
      case hS => exact (fun _ => hS)
      case hy => apply yields_want; kernel_rfl; intro w _; go_simp <;> with_reducible rfl
      case hQ => exact fun _ _ _ h => h
      simp only [Act.put, List.setIfInBounds_toArray, List.set_cons_zero, List.set_cons_succ]
      apply till_take0 (i := 20) (d := some 32)
      case hi => exact rfl
      case hd => exact rfl
      case hchk => kernel_rfl
      case hS => exact (fun _ => hS)
      case hy => apply yields_want; kernel_rfl; intro w _; go_simp <;> with_reducible rfl
      case hQ => exact fun _ _ _ h => h
      simp only [Act.put, List.setIfInBounds_toArray, List.set_cons_zero, List.set_cons_succ]
      refine till_all (rs := [16]) (by kernel_rfl) (by simp) (mem_more (till_opw (i := 16) (o := ⟨some 28, _, _, _, _, _⟩) rfl (by kernel_rfl) (fun K hK => ?_)) (mem_none))
      go_simp
      go_at_call 24
      refine (HE.out _ hC0).2.2.1.mono ?_
      rintro e w' ⟨rfl, rfl⟩
      refine hK.out _ _ (fun _ => ?_) (fun hS2 => ?_)
      · exact (HE.out _ hC0).2.2.2
      have hS3 := hS2 (by kernel_rfl)
      clear hK K hS hS2
      have hS := hS3
      clear hS3
      try simp only [Act.put, List.setIfInBounds_toArray, List.set_cons_zero, List.set_cons_succ]
      apply till_take0 (i := 17) (d := some 29)
      case hi => exact rfl
      case hd => exact rfl
      case hchk => kernel_rfl
      case hS => exact (fun _ => hS)
      case hy => apply yields_want; kernel_rfl; intro w _; go_simp <;> with_reducible rfl
      case hQ => exact fun _ _ _ h => h
      simp only [Act.put, List.setIfInBounds_toArray, List.set_cons_zero, List.set_cons_succ]
      apply till_take0 (i := 21) (d := some 33)
      case hi => exact rfl
      case hd => exact rfl
      case hchk => kernel_rfl
      case hS => exact (fun _ => hS)
      case hy => apply yields_want; kernel_rfl; intro w _; go_simp <;> with_reducible rfl
      case hQ => exact fun _ _ _ h => h
      simp only [Act.put, List.setIfInBounds_toArray, List.set_cons_zero, List.set_cons_succ]
      refine till_all (rs := [22]) (by kernel_rfl) (by simp) (mem_more (till_op (i := 22) (o := ⟨some 34, _, _, _, _, _⟩) rfl rfl (fun K hK => ?_)) (mem_none))
      go_simp
      refine hK.out _ _ (fun h => by cases (show true = false from h)) (fun _ => ?_)
      clear hK K hS
      try simp only [Act.put, List.setIfInBounds_toArray, List.set_cons_zero, List.set_cons_succ]
      refine till_done (by kernel_rfl) ?_
      go_wp2_with fail
      go_meet
      case rel => exact ⟨rfl, hC0⟩
    · have hb1 : (dv == 0) = false := by rw [beq_eq_false_iff_ne]; omega
      have hb2 : ((n : Int) == 0) = false := by rw [beq_eq_false_iff_ne]; omega
      have hb3 : ¬ (dv = 0) := by omega
      have hb4 : ¬ (n = 0) := by omega
      clear hdv h0 h1
      go_wp2_with fail
      obtain ⟨w5, hw5, hC5⟩ := drew_named w2
      have hC0 : Chg (fun _ => False) w2 w5 := hC5
      have hS := (HE.out _ hC0).2.2.2
      refine wp_region_till (s := 22) (S := (fun W => W.cell? ⟨b1, 0, none⟩ = some (.slice A n c))) (by kernel_rfl) ?_
      rw [hw5]
      clear hw5 hC5
      apply till_take0 (i := 0) (d := some 12)
      case hi => exact rfl
      case hd => exact rfl
      case hchk => kernel_rfl
      case hS => exact (fun _ => hS)
      case hy => apply yields_plain; exact rfl; intro w _; go_simp <;> with_reducible rfl
      case hQ => exact fun _ _ _ h => h
      simp only [Act.put, List.setIfInBounds_toArray, List.set_cons_zero, List.set_cons_succ]
      apply till_take0 (i := 1) (d := some 13)
      case hi => exact rfl
      case hd => exact rfl
      case hchk => kernel_rfl
      case hS => exact (fun _ => hS)
      case hy => apply yields_plain; exact rfl; intro w _; go_simp <;> with_reducible rfl
      case hQ => exact fun _ _ _ h => h
      simp only [Act.put, List.setIfInBounds_toArray, List.set_cons_zero, List.set_cons_succ]
      apply till_take0 (i := 2) (d := some 14)
      case hi => exact rfl
      case hd => exact rfl
      case hchk => kernel_rfl
      case hS => exact (fun _ => hS)
      case hy => apply yields_plain; exact rfl; intro w _; go_simp <;> with_reducible rfl
      case hQ => exact fun _ _ _ h => h
      simp only [Act.put, List.setIfInBounds_toArray, List.set_cons_zero, List.set_cons_succ]
      apply till_take0 (i := 3) (d := some 15)
      case hi => exact rfl
      case hd => exact rfl
      case hchk => kernel_rfl
      case hS => exact (fun _ => hS)
      case hy => apply yields_want; kernel_rfl; intro w _; go_simp <;> with_reducible rfl
      case hQ => exact fun _ _ _ h => h
      simp only [Act.put, List.setIfInBounds_toArray, List.set_cons_zero, List.set_cons_succ]
      apply till_take (i := 5) (d := some 17) [22, 14, 11, 9, 8, 7, 6, 5]
      case hi => exact rfl
      case hd => exact rfl
      case hchk => kernel_rfl
      case hS => exact hS
      case hy => apply yields_want; kernel_rfl; intro w hSw; (try dsimp only at hSw); go_split_ands; go_simp <;> with_reducible rfl
      case hQ => exact fun _ _ _ h => h
      simp only [Act.put, List.setIfInBounds_toArray, List.set_cons_zero, List.set_cons_succ]
      apply till_take0 (i := 6) (d := some 18)
      case hi => exact rfl
      case hd => exact rfl
      case hchk => kernel_rfl
      case hS => exact (fun _ => hS)
      case hy => apply yields_want; kernel_rfl; intro w _; go_simp <;> with_reducible rfl
      case hQ => exact fun _ _ _ h => h
      simp only [Act.put, List.setIfInBounds_toArray, List.set_cons_zero, List.set_cons_succ]
      refine till_all (rs := [4]) (by kernel_rfl) (by simp) (mem_more (till_opw (i := 4) (o := ⟨some 16, _, _, _, _, _⟩) rfl (by kernel_rfl) (fun K hK => ?_)) (mem_none))
      go_simp
      go_at_call 15
      refine (HE.out _ hC0).1.mono ?_
      rintro e w' ⟨rfl, rfl⟩
      refine hK.out _ _ (fun _ => ?_) (fun hS2 => ?_)
      · exact (HE.out _ hC0).2.2.2
      have hS3 := hS2 (by kernel_rfl)
      clear hK K hS hS2
      have hS := hS3
      clear hS3
      try simp only [Act.put, List.setIfInBounds_toArray, List.set_cons_zero, List.set_cons_succ]
      apply till_take0 (i := 7) (d := some 19)
      case hi => exact rfl
      case hd => exact rfl
      case hchk => kernel_rfl
      case hS => exact (fun _ => hS)
      case hy => apply yields_want; kernel_rfl; intro w _; go_simp <;> with_reducible rfl
      case hQ => exact fun _ _ _ h => h
      simp only [Act.put, List.setIfInBounds_toArray, List.set_cons_zero, List.set_cons_succ]
      apply till_take0 (i := 8) (d := some 20)
      case hi => exact rfl
      case hd => exact rfl
      case hchk => kernel_rfl
      case hS => exact (fun _ => hS)
      case hy => apply yields_plain; exact rfl; intro w _; go_simp <;> with_reducible rfl
      case hQ => exact fun _ _ _ h => h
      simp only [Act.put, List.setIfInBounds_toArray, List.set_cons_zero, List.set_cons_succ]
      apply till_take0 (i := 9) (d := some 21)
      case hi => exact rfl
      case hd => exact rfl
      case hchk => kernel_rfl
      case hS => exact (fun _ => hS)
      case hy => apply yields_plain; exact rfl; intro w _; go_simp <;> with_reducible rfl
      case hQ => exact fun _ _ _ h => h
      simp only [Act.put, List.setIfInBounds_toArray, List.set_cons_zero, List.set_cons_succ]
      apply till_take0 (i := 10) (d := some 22)
      case hi => exact rfl
      case hd => exact rfl
      case hchk => kernel_rfl
      case hS => exact (fun _ => hS)
      case hy => apply yields_want; kernel_rfl; intro w _; go_simp <;> with_reducible rfl
      case hQ => exact fun _ _ _ h => h
      simp only [Act.put, List.setIfInBounds_toArray, List.set_cons_zero, List.set_cons_succ]
      refine till_all (rs := [11]) (by kernel_rfl) (by simp) (mem_more (till_opw (i := 11) (o := ⟨some 23, _, _, _, _, _⟩) rfl (by kernel_rfl) (fun K hK => ?_)) (mem_none))
      go_simp
      go_at_call 22
      refine (HE.out _ hC0).2.1.mono ?_
      rintro e w6 ⟨rfl, hck⟩
      have hC0 := hC0.trans hck
      clear hck
      refine hK.out _ _ (fun _ => ?_) (fun hS2 => ?_)
      · exact (HE.out _ hC0).2.2.2
      have hS3 := hS2 (by kernel_rfl)
      clear hK K hS hS2
      have hS := hS3
      clear hS3
      try simp only [Act.put, List.setIfInBounds_toArray, List.set_cons_zero, List.set_cons_succ]
      apply till_take0 (i := 12) (d := some 24)
      case hi => exact rfl
      case hd => exact rfl
      case hchk => kernel_rfl
      case hS => exact (fun _ => hS)
      case hy => apply yields_want; kernel_rfl; intro w _; go_simp <;> with_reducible rfl
      case hQ => exact fun _ _ _ h => h
      simp only [Act.put, List.setIfInBounds_toArray, List.set_cons_zero, List.set_cons_succ]
      apply till_take0 (i := 13) (d := some 25)
      case hi => exact rfl
      case hd => exact rfl
      case hchk => kernel_rfl
      case hS => exact (fun _ => hS)
      case hy => apply yields_plain; exact rfl; intro w _; go_simp <;> with_reducible rfl
      case hQ => exact fun _ _ _ h => h
      simp only [Act.put, List.setIfInBounds_toArray, List.set_cons_zero, List.set_cons_succ]
      apply till_take0 (i := 14) (d := some 26)
      case hi => exact rfl
      case hd => exact rfl
      case hchk => kernel_rfl
      case hS => exact (fun _ => hS)
      case hy => apply yields_plain; exact rfl; intro w _; go_simp <;> with_reducible rfl
      case hQ => exact fun _ _ _ h => h
      simp only [Act.put, List.setIfInBounds_toArray, List.set_cons_zero, List.set_cons_succ]
      apply till_take0 (i := 15) (d := some 27)
      case hi => exact rfl
      case hd => exact rfl
      case hchk => kernel_rfl
      case hS => exact (fun _ => hS)
      case hy => apply yields_want; kernel_rfl; intro w _; go_simp <;> with_reducible rfl
      case hQ => exact fun _ _ _ h => h
      simp only [Act.put, List.setIfInBounds_toArray, List.set_cons_zero, List.set_cons_succ]
      apply till_take (i := 18) (d := some 30) [22, 21, 20, 19, 18]
      case hi => exact rfl
      case hd => exact rfl
      case hchk => kernel_rfl
      case hS => exact hS
      case hy => apply yields_want; kernel_rfl; intro w hSw; (try dsimp only at hSw); go_split_ands; go_simp <;> with_reducible rfl
      case hQ => exact fun _ _ _ h => h
      simp only [Act.put, List.setIfInBounds_toArray, List.set_cons_zero, List.set_cons_succ]
      apply till_take0 (i := 19) (d := some 31)
      case hi => exact rfl
      case hd => exact rfl
      case hchk => kernel_rfl
      case hS => exact (fun _ => hS)
      case hy => apply yields_want; kernel_rfl; intro w _; go_simp <;> with_reducible rfl
      case hQ => exact fun _ _ _ h => h
      simp only [Act.put, List.setIfInBounds_toArray, List.set_cons_zero, List.set_cons_succ]
      apply till_take0 (i := 20) (d := some 32)
      case hi => exact rfl
      case hd => exact rfl
      case hchk => kernel_rfl
      case hS => exact (fun _ => hS)
      case hy => apply yields_want; kernel_rfl; intro w _; go_simp <;> with_reducible rfl
      case hQ => exact fun _ _ _ h => h
      simp only [Act.put, List.setIfInBounds_toArray, List.set_cons_zero, List.set_cons_succ]
      refine till_all (rs := [16]) (by kernel_rfl) (by simp) (mem_more (till_opw (i := 16) (o := ⟨some 28, _, _, _, _, _⟩) rfl (by kernel_rfl) (fun K hK => ?_)) (mem_none))
      go_simp
      go_at_call 24
      refine (HE.out _ hC0).2.2.1.mono ?_
      rintro e w' ⟨rfl, rfl⟩
      refine hK.out _ _ (fun _ => ?_) (fun hS2 => ?_)
      · exact (HE.out _ hC0).2.2.2
      have hS3 := hS2 (by kernel_rfl)
      clear hK K hS hS2
      have hS := hS3
      clear hS3
      try simp only [Act.put, List.setIfInBounds_toArray, List.set_cons_zero, List.set_cons_succ]
      apply till_take0 (i := 17) (d := some 29)
      case hi => exact rfl
      case hd => exact rfl
      case hchk => kernel_rfl
      case hS => exact (fun _ => hS)
      case hy => apply yields_want; kernel_rfl; intro w _; go_simp <;> with_reducible rfl
      case hQ => exact fun _ _ _ h => h
      simp only [Act.put, List.setIfInBounds_toArray, List.set_cons_zero, List.set_cons_succ]
      apply till_take0 (i := 21) (d := some 33)
      case hi => exact rfl
      case hd => exact rfl
      case hchk => kernel_rfl
      case hS => exact (fun _ => hS)
      case hy => apply yields_want; kernel_rfl; intro w _; go_simp <;> with_reducible rfl
      case hQ => exact fun _ _ _ h => h
      simp only [Act.put, List.setIfInBounds_toArray, List.set_cons_zero, List.set_cons_succ]
      refine till_all (rs := [22]) (by kernel_rfl) (by simp) (mem_more (till_op (i := 22) (o := ⟨some 34, _, _, _, _, _⟩) rfl rfl (fun K hK => ?_)) (mem_none))
      go_simp
      refine hK.out _ _ (fun h => by cases (show true = false from h)) (fun _ => ?_)
      clear hK K hS
      try simp only [Act.put, List.setIfInBounds_toArray, List.set_cons_zero, List.set_cons_succ]
      refine till_done (by kernel_rfl) ?_
      go_wp2_with fail
      go_meet
      case rel => exact ⟨rfl, hC0⟩
  case rest =>
    obtain ⟨rfl, hC3⟩ := hcut
    have HC3 := Lib.hid (HC2.out.trans hC3)
    have HB1 := Lib.hid (HB1.out.chg hC3 id)
    have HRB : Hid (Blk wc bt ta #[ptr tr] ∧ Blk wc blo tb #[.string ⟨#[]⟩] ∧ Blk wc bop tc #[.bool true] ∧ Blk wc bhi td #[.string ⟨#[]⟩]) := ⟨HRB.out.1.chg hC3 id, HRB.out.2.1.chg hC3 id, HRB.out.2.2.1.chg hC3 id, HRB.out.2.2.2.chg hC3 id⟩
    clear hC3 HE hfn
    go_wp2_with fail
    obtain ⟨w6, b6, hw6, hb6, hB6, hC6, hs6⟩ := alloc_named wc #[.int .i64 0] 3
    rw [hw6]
    obtain ⟨w7, b7, hw7, hb7, hB7, hC7, hs7⟩ := alloc_named w6 #[.bool true] 4
    rw [hw7]
    have e1 : wc.heap.size + 1 = b7 := by omega
    simp only [hb6] at e1 ⊢
    simp only [e1]
    have hC67 := hC6.trans hC7
    have hb16 : b1 < b6 := hb6 ▸ HB1.out.lt
    have HC7 := Lib.hid (HC3.out.trans hC67)
    have HB1 := Lib.hid (HB1.out.chg hC67 id)
    have HB6 := Lib.hid (hB6.chg hC7 id)
    have HB7 := Lib.hid hB7
    have HLT : Hid (bt < b6 ∧ blo < b6 ∧ bop < b6 ∧ bhi < b6) := ⟨hb6 ▸ HRB.out.1.lt, hb6 ▸ HRB.out.2.1.lt, hb6 ▸ HRB.out.2.2.1.lt, hb6 ▸ HRB.out.2.2.2.lt⟩
    have HRB : Hid (Blk w7 bt ta #[ptr tr] ∧ Blk w7 blo tb #[.string ⟨#[]⟩] ∧ Blk w7 bop tc #[.bool true] ∧ Blk w7 bhi td #[.string ⟨#[]⟩]) := ⟨HRB.out.1.chg hC67 id, HRB.out.2.1.chg hC67 id, HRB.out.2.2.1.chg hC67 id, HRB.out.2.2.2.chg hC67 id⟩
    have hws : w.heap.size ≤ b6 := by rw [← hb6]; exact HC3.out.size
    have hs7' : w7.heap.size = b7 + 1 := hs7
    have HB1L := Lib.hid HB1.out.lt
    clear hw6 hb6 hB6 hC6 hs6 hw7 hb7 hB7 hC7 hs7 hC67
    obtain ⟨u, hSn⟩ := HT.out.seen (by rw [HTL.out, HN.out]; exact hn1)
    rw [HTL.out] at hSn
    refine wp_range2 8 9 rfl (enters_of Try.func43 (by kernel_rfl) rfl) (Bs := fun k => k = b6 ∨ k = b7) (fun k hk => by omega)
      (range_seq (M := L) (hSn.view.chg HC7.out fun _ _ h => h) hSn.sound (hSn.blk.chg HC7.out id) HRB.out.1 HRB.out.2.1 HRB.out.2.2.1 HRB.out.2.2.2 (fun k hk => ?bs) (by rw [hSn.list]; exact all_between L))
      (fun pre W => Chg (fun k => k = b6 ∨ k = b7) w7 W ∧ Blk W b6 3 #[.int .i64 (pre.length : Nat)] ∧ Blk W b7 4 #[.bool true]) (fun _ _ _ => False)
      (fun s A B h hb => ⟨h.1.belowT hb, h.2.1.below hb (by omega), h.2.2.below hb (by omega)⟩) (fun _ _ _ _ h _ => h) ⟨Chg.refl _ _, HB6.out, HB7.out⟩ ?assign ?body ?done ?stop
    case bs =>
      have h1 := HLT.out
      have h2 := hSn.blk.lt
      have h3 := hSn.view.lt
      refine ⟨by omega, fun h => ?_, by omega, by omega, by omega, by omega, by omega⟩
      have := h3 k h
      omega
    case assign =>
      intro l x W K hK
      gi_wp2
      exact hK
    case body =>
      rintro l pre x W ⟨hch, hB6, hB7⟩ hpx -
      unfold put2
      simp only [List.setIfInBounds_toArray, List.set_cons_zero, List.set_cons_succ]
      obtain ⟨i, hi⟩ : ∃ i, pre.length = i := ⟨_, rfl⟩
      have hx : L[i]? = some x := by
        obtain ⟨T, e⟩ := hpx
        rw [← hi, ← e]
        simp
      rw [hi] at hB6
      have hin : i < n := by
        have := (List.getElem?_eq_some_iff.1 hx).1
        rw [HN.out] at this; exact this
      have HB6 := Lib.hid hB6
      have HB7 := Lib.hid hB7
      have HCH := Lib.hid hch
      have HB1W : Hid (Blk W b1 46 #[.slice A n c]) := HB1.out.chg hch (by omega)
      have hg : 0 < n → ∃ gB, A = some ⟨gB, 0, none⟩ := fun h0 => by
        obtain ⟨A', lc', hvA, _, _, hsA, _⟩ := HROW.out.shape
        have e : A = A' := by injection hvA
        obtain ⟨gB, h⟩ := hsA (by rw [prs_len, HN.out]; exact h0)
        exact ⟨gB, e.trans h⟩
      obtain ⟨gB, rfl⟩ := hg (by omega)
      have hgl : gB < w.heap.size := HROW.out.lt rfl
      have HRW : Hid (Row2 W 52 (.slice (some ⟨gB, 0, none⟩) n c) (prs L)) := (HROW.out.chg HC7.out fun _ _ h => h).chg hch fun g hg => by
        have e : gB = g := by simpa [Value.ownBlock] using hg
        omega
      have h1 := HB6.out.cell_ (i := 0) rfl
      have h2 := HB7.out.cell_ (i := 0) rfl
      have h3 := HB1W.out.cell_ (i := 0) rfl
      have h4 := HRW.out.fst (prs_get hx)
      have h5 := HRW.out.snd (prs_get hx)
      rw [Nat.mul_comm] at h4 h5
      have h6 := HB7.out.frozen 0
      have h8 := HB6.out.frozen 0
      have h7 : (i : Int) < (n : Int) := by omega
      clear hB6 hB7 hch hpx
      gi_wp2_with fail
      obtain ⟨w8, hw8, hB7, hC8⟩ := set_named HB7.out 0 (.bool true)
      rw [hw8]
      have hB6 : Blk w8 b6 3 #[.int .i64 i] := HB6.out.chg hC8 (by omega)
      obtain ⟨w9, hw9, hB6, hC9⟩ := set_named hB6 0 (.int .i64 ((i : Int) + 1))
      rw [hw9]
      have hB7 := hB7.chg hC9 (by omega)
      have hC : Chg (fun k => k = b6 ∨ k = b7) W w9 := (hC8.mono fun k _ h => .inr h).trans (hC9.mono fun k _ h => .inl h)
      refine ⟨hC, HCH.out.trans hC, ?_, hB7⟩
      rw [List.length_append, List.length_singleton, show ((pre.length + 1 : Nat) : Int) = (i : Int) + 1 by omega]
      exact hB6
    case done =>
      rintro D xs W rfl ⟨hch, hB6, hB7⟩ hD hDs
      have h1 := hB6.cell_ (i := 0) rfl
      have h2 := hB7.cell_ (i := 0) rfl
      have h3 := (HB1.out.chg hch (by omega)).cell_ (i := 0) rfl
      rw [HN.out] at h1
      have HCH := Lib.hid hch
      have HD := Lib.hid hD
      clear hB6 hB7 hch hD
      go_wp2_with fail
      show bodyPostM Fence.wide 5 Try.prog Try.f26 R Exit.ret _ W
      refine ⟨by simp, .inl ⟨_, _, rfl, run_takeDeferred HD.out, ?_⟩⟩
      exact ⟨_, results_tmp rfl _ _ _, HP.out _ _ rfl ((HC7.out.comp HCH.out fun k hk hf => by omega).putObj (by have := HC7.out.size; omega) _)⟩
    case stop =>
      rintro D c pre W _ h
      exact h.elim
end Go.Proofs.Ythndplpbnfihdaa
