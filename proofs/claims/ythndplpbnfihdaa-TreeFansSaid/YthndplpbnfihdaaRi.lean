/-
  (*Tree).Range and its iterator, walked. Conditions: a sound tree that is read; the loop writes to blocks beside it.
-/
import Derived.Test.YthndplpbnfihdaaRf
import Derived.Test.YthndplpbnfihdaaCp
import Derived.Test.YthndplpbnfihdaaCy
import Derived.Test.YthndplpbnfihdaaRg
import Derived.RangeFuncBox
import Derived.RangeFuncLeaves
import Derived.Shelf.Abstract
import Derived.Shelf.RegionOpen
import Derived.OwnWalkIn
import Derived.TacticsInMore
import Derived.LoopNIn
import Derived.LoopIn
import Derived.Deep.Cut
import Derived.Deep.CutRange
set_option linter.unusedVariables false
set_option linter.unusedSimpArgs false
namespace Go.Proofs.Ythndplpbnfihdaa
open Go.RowKit Go.Shelf

attribute [local go_sem] Oper.semAt_some

theorem tw_get {α : Type} (p : α → Bool) : ∀ (l : List α) (k : Nat) (x : α), (l.takeWhile p)[k]? = some x → l[k]? = some x ∧ p x = true
  | [], _, _, h => by simp at h
  | y :: l, k, x, h => by
    rw [List.takeWhile_cons] at h
    cases hy : p y with
    | false => rw [hy] at h; simp at h
    | true =>
      rw [hy] at h
      cases k with
      | zero => simp at h; subst h; exact ⟨rfl, hy⟩
      | succ k => exact tw_get p l k x (by simpa using h)

theorem tw_end {α : Type} (p : α → Bool) : ∀ (l : List α) (x : α), l[(l.takeWhile p).length]? = some x → p x = false
  | [], _, h => by simp at h
  | y :: l, x, h => by
    rw [List.takeWhile_cons] at h
    cases hy : p y with
    | false => rw [hy] at h; simp at h; subst h; exact hy
    | true => rw [hy] at h; exact tw_end p l x (by simpa using h)

theorem tw_le {α : Type} (p : α → Bool) (l : List α) : (l.takeWhile p).length ≤ l.length := (List.takeWhile_prefix p).length_le

/-- What lies between two keys. -/
def between (lo hi : ByteArray) (op : Bool) (L : List (ByteArray × Int)) : List (ByteArray × Int) := (L.drop (cntL lo false L)).takeWhile fun p => op || ltB p.1 hi

def enc2 (x : ByteArray × Int) : Array Value := #[.string x.1, .int .i64 x.2]

def RgPost (w : World) (tr : Nat) (lo hi : ByteArray) (op : Bool) (e : Ending) (w' : World) : Prop :=
  ∃ bt blo bop bhi : Nat, ∃ ta tb tc td : TypeId, e = .returned (.func (.func 43) #[] #[ptr bt, ptr blo, ptr bop, ptr bhi]) ∧ Blk w' bt ta #[ptr tr] ∧ Blk w' blo tb #[.string lo] ∧ Blk w' bop tc #[.bool op] ∧ Blk w' bhi td #[.string hi] ∧
    w.heap.size ≤ bt ∧ w.heap.size ≤ blo ∧ w.heap.size ≤ bop ∧ w.heap.size ≤ bhi ∧ Chg (fun _ => False) w w'

theorem range_calls (w : World) (tr : Nat) (lo hi : ByteArray) (op : Bool) :
    Calls Try.prog 27 #[ptr tr, .string lo, .string hi, .bool op] w (RgPost w tr lo hi op) := by
  obtain ⟨R, hR⟩ : ∃ R, R = RgPost w tr lo hi op := ⟨_, rfl⟩
  rw [← hR]
  have HP : Hid (∀ e w', RgPost w tr lo hi op e w' → R e w') := fun e w' h => by rw [hR]; exact h
  clear hR
  unfold ptr
  go_enter Try.func27, Try.ntmps27
  go_wp2_with fail
  obtain ⟨w1, b1, hw1, hb1, hB1, hC1, hs1⟩ := alloc_named w #[.pointer (some ⟨tr, 0, none⟩)] 23
  rw [hw1]
  obtain ⟨w2, b2, hw2, hb2, hB2, hC2, hs2⟩ := alloc_named w1 #[.string lo] 9
  rw [hw2]
  obtain ⟨w3, b3, hw3, hb3, hB3, hC3, hs3⟩ := alloc_named w2 #[.string hi] 9
  rw [hw3]
  obtain ⟨w4, b4, hw4, hb4, hB4, hC4, hs4⟩ := alloc_named w3 #[.bool op] 4
  rw [hw4]
  have e1 : w.heap.size + 1 = b2 := by omega
  have e2 : b2 + 1 = b3 := by omega
  have e3 : b3 + 1 = b4 := by omega
  rw [hb1] at e1 ⊢
  simp only [e1, e2, e3]
  refine HP.out _ _ ⟨b1, b2, b4, b3, _, _, _, _, rfl, ((hB1.chg hC2 id).chg hC3 id).chg hC4 id, (hB2.chg hC3 id).chg hC4 id, hB4, hB3.chg hC4 id, by omega, by omega, by omega, by omega, ((hC1.trans hC2).trans hC3).trans hC4⟩

set_option maxHeartbeats 4000000 in
set_option maxRecDepth 100000 in
theorem range_seq {w0 : World} {fp : List Nat} {fan tr d bt blo bop bhi : Nat} {ta tb tc td : TypeId} {u : Nb d} {x0 x1 : Value} {Bs : Nat → Prop} {lo hi : ByteArray} {op : Bool} {M : List (ByteArray × Int)}
    (hV : View w0 (· ∈ fp) d u) (hs : Sound fan d (dat d u)) (htr : Blk w0 tr 64 #[x0, x1, ptr (blk d u)])
    (h1 : Blk w0 bt ta #[ptr tr]) (h2 : Blk w0 blo tb #[.string lo]) (h3 : Blk w0 bop tc #[.bool op]) (h4 : Blk w0 bhi td #[.string hi])
    (hB : ∀ k, Bs k → k < w0.heap.size ∧ k ∉ fp ∧ k ≠ tr ∧ k ≠ bt ∧ k ≠ blo ∧ k ≠ bop ∧ k ≠ bhi) (hM : between lo hi op (listU d u) = M) :
    SeqC Try.prog 43 #[ptr bt, ptr blo, ptr bop, ptr bhi] enc2 (fun xs => xs = M) (fun pre => pre <+: M) Bs w0 := by
  intro l J Jx W hW hl0 hl hJ hJx hY h0
  rw [show #[Value.func (.yield l) #[] #[]] ++ #[ptr bt, ptr blo, ptr bop, ptr bhi] = #[.func (.yield l) #[] #[], ptr bt, ptr blo, ptr bop, ptr bhi] from rfl]
  obtain ⟨R, hR⟩ : ∃ R : Ending → World → Prop, R = fun e W' => (∃ v, e = .returned v) ∧ ((∃ xs, xs = M ∧ J xs W') ∨ (∃ pre, pre <+: M ∧ Jx pre W')) := ⟨_, rfl⟩
  rw [← hR]
  have HP1 : Hid (∀ v w', J M w' → R (.returned v) w') := fun v w' h => by rw [hR]; exact ⟨⟨_, rfl⟩, .inl ⟨_, rfl, h⟩⟩
  have HP2 : Hid (∀ v w' k x, M[k]? = some x → Jx (M.take k ++ [x]) w' → R (.returned v) w') := fun v w' k x hx h => by
    rw [hR]; refine ⟨⟨_, rfl⟩, .inr ⟨_, ?_, h⟩⟩
    rw [show M.take k ++ [x] = M.take (k + 1) by rw [List.take_add_one, hx]; rfl]
    exact List.take_prefix _ _
  obtain ⟨m, hm⟩ : ∃ m, M.length = m := ⟨_, rfl⟩
  obtain ⟨s, hs0⟩ : ∃ s, cntL lo false (listU d u) = s := ⟨_, rfl⟩
  have hsl : s ≤ (listU d u).length := by rw [← hs0]; exact List.length_filter_le ..
  have hM' := hM
  unfold between at hM'
  rw [hs0] at hM'
  have hMk : ∀ k x, M[k]? = some x → (listU d u)[s + k]? = some x ∧ (op || ltB x.1 hi) = true := fun k x hx => by
    rw [← hM'] at hx
    have := tw_get _ _ _ _ hx
    rw [List.getElem?_drop] at this
    exact this
  have hMe : ∀ x, (listU d u)[s + m]? = some x → (op || ltB x.1 hi) = false := fun x hx => by
    rw [← hm, ← hM', ← List.getElem?_drop] at hx
    exact tw_end (fun p : ByteArray × Int => op || ltB p.1 hi) _ _ hx
  have hMl : s + m ≤ (listU d u).length := by
    have := tw_le (fun p : ByteArray × Int => op || ltB p.1 hi) ((listU d u).drop s)
    rw [hM', List.length_drop] at this; omega
  obtain ⟨ln, hln⟩ : ∃ ln, (listU d u).length = ln := ⟨_, rfl⟩
  rw [hln] at hMl hsl
  obtain ⟨Fs, hFs⟩ : ∃ Fs : Nat → Prop, Fs = fun k => Bs k ∨ k = l := ⟨_, rfl⟩
  have hno : ∀ k, k < w0.heap.size → ¬ Bs k → ¬ Fs k := fun k h1 h2 h3 => by rw [hFs] at h3; rcases h3 with h3 | h3; exact h2 h3; omega
  have HFl : Hid (∀ k, Fs k → k < W.heap.size) := fun k hk => by rw [hFs] at hk; rcases hk with h | h; (have := (hB k h).1; have := hW.size; omega); omega
  have HW := Lib.hid hW
  have HEN : Hid (∀ wr, Chg Fs W wr → View wr (· ∈ fp) d u ∧ Blk wr tr 64 #[x0, x1, ptr (blk d u)] ∧ wr.cell? ⟨bt, 0, none⟩ = some (.pointer (some ⟨tr, 0, none⟩)) ∧ wr.cell? ⟨blo, 0, none⟩ = some (.string lo) ∧
      wr.cell? ⟨bop, 0, none⟩ = some (.bool op) ∧ wr.cell? ⟨bhi, 0, none⟩ = some (.string hi)) := fun wr hc => by
    have hc0 : Chg Fs w0 wr := hW.up.trans hc
    have n0 : ∀ {k}, k < w0.heap.size → (k ∈ fp ∨ k = tr ∨ k = bt ∨ k = blo ∨ k = bop ∨ k = bhi) → ¬ Fs k := fun hk ho => hno _ hk fun hb => by
      obtain ⟨-, g1, g2, g3, g4, g5, g6⟩ := hB _ hb
      rcases ho with h | h | h | h | h | h
      · exact g1 h
      all_goals (subst h; contradiction)
    exact ⟨hV.chg hc0 fun k hk => n0 (hV.lt k hk) (.inl hk), htr.chg hc0 (n0 htr.lt (by simp)), (h1.chg hc0 (n0 h1.lt (by simp))).cell_ rfl, (h2.chg hc0 (n0 h2.lt (by simp))).cell_ rfl, (h3.chg hc0 (n0 h3.lt (by simp))).cell_ rfl, (h4.chg hc0 (n0 h4.lt (by simp))).cell_ rfl⟩
  have HLN := Lib.hid hln
  have HS := Lib.hid hs
  have HS0 := Lib.hid hs0
  have HM := Lib.hid hm
  have HMK : Hid (∀ k x, M[k]? = some x → (listU d u)[s + k]? = some x ∧ (op || ltB x.1 hi) = true) := hMk
  have HME : Hid (∀ x, (listU d u)[s + m]? = some x → (op || ltB x.1 hi) = false) := hMe
  have HJ : Hid (∀ s A A', J s A → Below W.heap.size A A' → J s A') := hJ
  have HY := Lib.hid hY
  have H0 := Lib.hid h0
  have HAW : Hid (∀ k, k ∈ fp → k < W.heap.size) := fun k hk => by have h5 := hV.lt k hk; have h6 := hW.size; omega
  have HFS := Lib.hid hFs
  obtain ⟨hc1, hc2, hc3, hc4⟩ := ((HEN.out W (Chg.refl _ _)).2).2
  clear hV hs htr h1 h2 h3 h4 hB hM hm hs0 hM' hMk hMe hln hFs hno hW hJ hJx hY h0 hR hl0
  unfold ptr
  go_enter Try.func43, Try.ntmps43
  go_wp2_with fail
  refine (seek_calls lo false (HEN.out W (Chg.refl _ _)).1 HS.out (HEN.out W (Chg.refl _ _)).2.1).mono ?_
  rintro e w1 ⟨c, ps, fpc, rfl, hcur, hgo, hge, hch⟩
  rw [show ptr c = .pointer (some ⟨c, 0, none⟩) from rfl]
  rw [HS0.out, HLN.out] at hgo
  have HCU := Lib.hid hcur
  have HGO : Hid (if s + 0 < ln then Goes 0 d u ps ((s + 0 : Nat) : Int) else ps = []) := by
    have : Hid (if 0 ≤ (s : Int) ∧ (s : Int) < ln then Goes 0 d u ps (s : Int) else ps = []) := hgo
    have h5 := this.out
    by_cases h6 : s + 0 < ln
    · rw [if_pos h6]; rw [if_pos (by omega)] at h5; exact h5
    · rw [if_neg h6]; rw [if_neg (by omega)] at h5; exact h5
  have HGE : Hid (∀ k ∈ fpc, W.heap.size ≤ k) := hge
  have HC1 := Lib.hid hch
  have HJ1 : Hid (J (M.take 0) w1) := HJ.out _ _ _ H0.out (hch.belowB (Nat.le_refl _) fun _ h => h.elim)
  clear hcur hgo hge hch H0 hc1 hc2 hc3 hc4 hl hsl
  go_wp2_with fail
  go_loopg [] (m + 1) (fun g wr => ∃ (k : Nat) (ps : List (Nat × Int)) (fpc : List Nat), k ≤ m ∧ m + 1 - k ≤ g ∧ J (M.take k) wr ∧ Cur wr c ps fpc ∧ (if s + k < ln then Goes 0 d u ps ((s + k : Nat) : Int) else ps = []) ∧
    (∀ q ∈ fpc, W.heap.size ≤ q) ∧ Chg Fs W wr)
  case atStart => exact ⟨0, ps, fpc, Nat.zero_le _, by omega, HJ1.out, HCU.out, HGO.out, HGE.out, HC1.out.up⟩
  case round =>
    clear HCU HGO HGE HC1 HJ1
    obtain ⟨k, ps, fpc, hkm, hkg, hj, hcur, hgo, hge, hch⟩ := hrel
    have HCU := Lib.hid hcur
    have HGO : Hid (if s + k < ln then Goes 0 d u ps ((s + k : Nat) : Int) else ps = []) := hgo
    have HGE : Hid (∀ q ∈ fpc, W.heap.size ≤ q) := hge
    have HCH := Lib.hid hch
    have HJK : Hid (J (M.take k) wr) := hj
    have HAP : Hid (∀ q ∈ fpc, ¬ q ∈ fp) := fun q hq h => by have h5 := HGE.out q hq; have h6 := HAW.out q h; omega
    have HE : Hid (∀ wx, Chg (fun _ => False) wr wx → View wx (· ∈ fp) d u ∧ wx.cell? ⟨bop, 0, none⟩ = some (.bool op) ∧ wx.cell? ⟨bhi, 0, none⟩ = some (.string hi)) := fun wx hx => by
      have := HEN.out wx (HCH.out.trans hx.up)
      exact ⟨this.1, this.2.2.2.2.1, this.2.2.2.2.2⟩
    clear hcur hgo hge hch hj
    obtain ⟨dk, hdk2⟩ : ∃ dk, decide (k < m) = dk := ⟨_, rfl⟩
    have HDK := Lib.hid hdk2
    clear hdk2
    go_upto_region 1 with (fail)
    go_cut [20] from 10 to 29 (fun s20 wx => s20 = .bool dk ∧ Chg (fun _ => False) wr wx)
    case first =>
      rcases Nat.lt_or_ge (s + k) ln with h0 | h0
      · obtain ⟨x, hx⟩ : ∃ x, (listU d u)[s + k]? = some x := ⟨_, List.getElem?_eq_getElem (by rw [HLN.out]; exact h0)⟩
        have hg1 : Goes 0 d u ps ((s + k : Nat) : Int) := by have h5 := HGO.out; rw [if_pos h0] at h5; exact h5
        have HOK : Hid (∀ wx, Chg (fun _ => False) wr wx → Calls Try.prog 12 #[.pointer (some ⟨c, 0, none⟩)] wx fun e w' => e = .returned (.bool true) ∧ wx = w') := fun wx hwx => by
          have := ok_calls (HCU.out.chg hwx fun _ _ h => h)
          rw [decide_eq_true (by rw [goes_len hg1]; omega)] at this
          exact this
        have HKY : Hid (∀ wx, Chg (fun _ => False) wr wx → Calls Try.prog 13 #[.pointer (some ⟨c, 0, none⟩)] wx fun e w' => e = .returned (.string x.1) ∧ Chg (fun _ => False) wx w') := fun wx hwx =>
          key_calls (HE.out wx hwx).1 (HCU.out.chg hwx fun _ _ h => h) hg1 (by rw [Int.toNat_natCast]; exact hx)
        have hdk : (op || ltB x.1 hi) = decide (k < m) := by
          rcases Nat.lt_or_ge k m with hk | hk
          · obtain ⟨y, hy⟩ : ∃ y, M[k]? = some y := ⟨_, List.getElem?_eq_getElem (by rw [HM.out]; exact hk)⟩
            have h5 := HMK.out k y hy
            rw [hx] at h5
            obtain ⟨h5, h6⟩ := h5
            cases h5
            rw [h6, decide_eq_true hk]
          · have : k = m := by omega
            subst this
            rw [HME.out x hx, decide_eq_false (by omega)]
        rw [HDK.out] at hdk
        have HD := Lib.hid hdk
        clear hx hg1 h0 hdk
        cases op with
        | true =>
          have h5 := HD.out
          simp only [Bool.true_or] at h5
          subst h5
          go_wp2_with fail
          obtain ⟨w5, hw5, hC5⟩ := drew_named wr
          have hC0 : Chg (fun _ => False) wr w5 := hC5
          have hS := (HE.out _ hC0).2
          refine wp_region_till (s := 10) (S := (fun W => W.cell? ⟨bop, 0, none⟩ = some (.bool true) ∧ W.cell? ⟨bhi, 0, none⟩ = some (.string hi))) (by kernel_rfl) ?_
          rw [hw5]
          clear hw5 hC5
          apply till_take0 (i := 0) (d := some 10)
          case hi => exact rfl
          case hd => exact rfl
          case hchk => kernel_rfl
          case hS => exact (fun _ => hS)
          case hy => apply yields_plain; exact rfl; intro w _; go_simp <;> with_reducible rfl
          case hQ => exact fun _ _ _ h => h
          simp only [Act.put, List.setIfInBounds_toArray, List.set_cons_zero, List.set_cons_succ]
          refine till_all (rs := [1]) (by kernel_rfl) (by simp) (mem_more (till_op (i := 1) (o := ⟨some 11, _, _, _, _, _⟩) rfl rfl (fun K hK => ?_)) (mem_none))
          go_simp
          go_at_call 12
          refine (HOK.out _ hC0).mono ?_
          rintro e w' ⟨rfl, rfl⟩
          refine hK.out _ _ (fun _ => ?_) (fun hS2 => ?_)
          · exact (HE.out _ hC0).2
          have hS3 := hS2 (by kernel_rfl)
          clear hK K hS hS2
          have hS := hS3
          clear hS3
          try simp only [Act.put, List.setIfInBounds_toArray, List.set_cons_zero, List.set_cons_succ]
          apply till_take0 (i := 2) (d := some 12)
          case hi => exact rfl
          case hd => exact rfl
          case hchk => kernel_rfl
          case hS => exact (fun _ => hS)
          case hy => apply yields_plain; exact rfl; intro w _; go_simp <;> with_reducible rfl
          case hQ => exact fun _ _ _ h => h
          simp only [Act.put, List.setIfInBounds_toArray, List.set_cons_zero, List.set_cons_succ]
          apply till_take (i := 3) (d := some 13) [10, 9, 4, 3]
          case hi => exact rfl
          case hd => exact rfl
          case hchk => kernel_rfl
          case hS => exact hS
          case hy => apply yields_want; kernel_rfl; intro w hSw; (try dsimp only at hSw); go_split_ands; go_simp <;> with_reducible rfl
          case hQ => exact fun _ _ _ h => h
          simp only [Act.put, List.setIfInBounds_toArray, List.set_cons_zero, List.set_cons_succ]
          apply till_take0 (i := 4) (d := some 14)
          case hi => exact rfl
          case hd => exact rfl
          case hchk => kernel_rfl
          case hS => exact (fun _ => hS)
          case hy => apply yields_want; kernel_rfl; intro w _; go_simp <;> with_reducible rfl
          case hQ => exact fun _ _ _ h => h
          simp only [Act.put, List.setIfInBounds_toArray, List.set_cons_zero, List.set_cons_succ]
          apply till_take0 (i := 5) (d := some 15)
          case hi => exact rfl
          case hd => exact rfl
          case hchk => kernel_rfl
          case hS => exact (fun _ => hS)
          case hy => exact yields_skip (by kernel_rfl)
          case hQ => exact fun _ _ _ h => h
          simp only [Act.put, List.setIfInBounds_toArray, List.set_cons_zero, List.set_cons_succ]
          apply till_take0 (i := 6) (d := some 16)
          case hi => exact rfl
          case hd => exact rfl
          case hchk => kernel_rfl
          case hS => exact (fun _ => hS)
          case hy => exact yields_skip (by kernel_rfl)
          case hQ => exact fun _ _ _ h => h
          simp only [Act.put, List.setIfInBounds_toArray, List.set_cons_zero, List.set_cons_succ]
          apply till_take0 (i := 7) (d := some 17)
          case hi => exact rfl
          case hd => exact rfl
          case hchk => kernel_rfl
          case hS => exact (fun _ => hS)
          case hy => exact yields_skip (by kernel_rfl)
          case hQ => exact fun _ _ _ h => h
          simp only [Act.put, List.setIfInBounds_toArray, List.set_cons_zero, List.set_cons_succ]
          apply till_take0 (i := 8) (d := some 18)
          case hi => exact rfl
          case hd => exact rfl
          case hchk => kernel_rfl
          case hS => exact (fun _ => hS)
          case hy => exact yields_skip (by kernel_rfl)
          case hQ => exact fun _ _ _ h => h
          simp only [Act.put, List.setIfInBounds_toArray, List.set_cons_zero, List.set_cons_succ]
          apply till_take0 (i := 9) (d := some 19)
          case hi => exact rfl
          case hd => exact rfl
          case hchk => kernel_rfl
          case hS => exact (fun _ => hS)
          case hy => apply yields_want; kernel_rfl; intro w _; go_simp <;> with_reducible rfl
          case hQ => exact fun _ _ _ h => h
          simp only [Act.put, List.setIfInBounds_toArray, List.set_cons_zero, List.set_cons_succ]
          refine till_all (rs := [10]) (by kernel_rfl) (by simp) (mem_more (till_op (i := 10) (o := ⟨some 20, _, _, _, _, _⟩) rfl rfl (fun K hK => ?_)) (mem_none))
          go_simp
          refine hK.out _ _ (fun h => by cases (show true = false from h)) (fun _ => ?_)
          clear hK K hS
          try simp only [Act.put, List.setIfInBounds_toArray, List.set_cons_zero, List.set_cons_succ]
          refine till_done (by kernel_rfl) ?_
          go_wp2_with fail
          go_meet
          case rel => exact ⟨rfl, hC0⟩
        | false =>
          have h5 := HD.out
          simp only [Bool.false_or] at h5
          have H5 := Lib.hid h5
          clear h5
          go_wp2_with fail
          obtain ⟨w5, hw5, hC5⟩ := drew_named wr
          have hC0 : Chg (fun _ => False) wr w5 := hC5
          have hS := (HE.out _ hC0).2
          refine wp_region_till (s := 10) (S := (fun W => W.cell? ⟨bop, 0, none⟩ = some (.bool false) ∧ W.cell? ⟨bhi, 0, none⟩ = some (.string hi))) (by kernel_rfl) ?_
          rw [hw5]
          clear hw5 hC5
          apply till_take0 (i := 0) (d := some 10)
          case hi => exact rfl
          case hd => exact rfl
          case hchk => kernel_rfl
          case hS => exact (fun _ => hS)
          case hy => apply yields_plain; exact rfl; intro w _; go_simp <;> with_reducible rfl
          case hQ => exact fun _ _ _ h => h
          simp only [Act.put, List.setIfInBounds_toArray, List.set_cons_zero, List.set_cons_succ]
          refine till_all (rs := [1]) (by kernel_rfl) (by simp) (mem_more (till_op (i := 1) (o := ⟨some 11, _, _, _, _, _⟩) rfl rfl (fun K hK => ?_)) (mem_none))
          go_simp
          go_at_call 12
          refine (HOK.out _ hC0).mono ?_
          rintro e w' ⟨rfl, rfl⟩
          refine hK.out _ _ (fun _ => ?_) (fun hS2 => ?_)
          · exact (HE.out _ hC0).2
          have hS3 := hS2 (by kernel_rfl)
          clear hK K hS hS2
          have hS := hS3
          clear hS3
          try simp only [Act.put, List.setIfInBounds_toArray, List.set_cons_zero, List.set_cons_succ]
          apply till_take0 (i := 2) (d := some 12)
          case hi => exact rfl
          case hd => exact rfl
          case hchk => kernel_rfl
          case hS => exact (fun _ => hS)
          case hy => apply yields_plain; exact rfl; intro w _; go_simp <;> with_reducible rfl
          case hQ => exact fun _ _ _ h => h
          simp only [Act.put, List.setIfInBounds_toArray, List.set_cons_zero, List.set_cons_succ]
          apply till_take (i := 3) (d := some 13) [10, 9, 4, 3]
          case hi => exact rfl
          case hd => exact rfl
          case hchk => kernel_rfl
          case hS => exact hS
          case hy => apply yields_want; kernel_rfl; intro w hSw; (try dsimp only at hSw); go_split_ands; go_simp <;> with_reducible rfl
          case hQ => exact fun _ _ _ h => h
          simp only [Act.put, List.setIfInBounds_toArray, List.set_cons_zero, List.set_cons_succ]
          apply till_take0 (i := 4) (d := some 14)
          case hi => exact rfl
          case hd => exact rfl
          case hchk => kernel_rfl
          case hS => exact (fun _ => hS)
          case hy => apply yields_want; kernel_rfl; intro w _; go_simp <;> with_reducible rfl
          case hQ => exact fun _ _ _ h => h
          simp only [Act.put, List.setIfInBounds_toArray, List.set_cons_zero, List.set_cons_succ]
          apply till_take0 (i := 5) (d := some 15)
          case hi => exact rfl
          case hd => exact rfl
          case hchk => kernel_rfl
          case hS => exact (fun _ => hS)
          case hy => apply yields_want; kernel_rfl; intro w _; go_simp <;> with_reducible rfl
          case hQ => exact fun _ _ _ h => h
          simp only [Act.put, List.setIfInBounds_toArray, List.set_cons_zero, List.set_cons_succ]
          apply till_take (i := 7) (d := some 17) [10, 9, 8, 7]
          case hi => exact rfl
          case hd => exact rfl
          case hchk => kernel_rfl
          case hS => exact hS
          case hy => apply yields_want; kernel_rfl; intro w hSw; (try dsimp only at hSw); go_split_ands; go_simp <;> with_reducible rfl
          case hQ => exact fun _ _ _ h => h
          simp only [Act.put, List.setIfInBounds_toArray, List.set_cons_zero, List.set_cons_succ]
          refine till_all (rs := [6]) (by kernel_rfl) (by simp) (mem_more (till_opw (i := 6) (o := ⟨some 16, _, _, _, _, _⟩) rfl (by kernel_rfl) (fun K hK => ?_)) (mem_none))
          go_simp
          go_at_call 13
          refine (HKY.out _ hC0).mono ?_
          rintro e w6 ⟨rfl, hck⟩
          have hC0 := hC0.trans hck
          clear hck
          refine hK.out _ _ (fun _ => ?_) (fun hS2 => ?_)
          · exact (HE.out _ hC0).2
          have hS3 := hS2 (by kernel_rfl)
          clear hK K hS hS2
          have hS := hS3
          clear hS3
          try simp only [Act.put, List.setIfInBounds_toArray, List.set_cons_zero, List.set_cons_succ]
          apply till_take0 (i := 8) (d := some 18)
          case hi => exact rfl
          case hd => exact rfl
          case hchk => kernel_rfl
          case hS => exact (fun _ => hS)
          case hy => apply yields_want; kernel_rfl; intro w _; go_simp <;> with_reducible rfl
          case hQ => exact fun _ _ _ h => h
          simp only [Act.put, List.setIfInBounds_toArray, List.set_cons_zero, List.set_cons_succ]
          apply till_take0 (i := 9) (d := some 19)
          case hi => exact rfl
          case hd => exact rfl
          case hchk => kernel_rfl
          case hS => exact (fun _ => hS)
          case hy => apply yields_want; kernel_rfl; intro w _; go_simp <;> with_reducible rfl
          case hQ => exact fun _ _ _ h => h
          simp only [Act.put, List.setIfInBounds_toArray, List.set_cons_zero, List.set_cons_succ]
          refine till_all (rs := [10]) (by kernel_rfl) (by simp) (mem_more (till_op (i := 10) (o := ⟨some 20, _, _, _, _, _⟩) rfl rfl (fun K hK => ?_)) (mem_none))
          go_simp
          refine hK.out _ _ (fun h => by cases (show true = false from h)) (fun _ => ?_)
          clear hK K hS
          try simp only [Act.put, List.setIfInBounds_toArray, List.set_cons_zero, List.set_cons_succ]
          refine till_done (by kernel_rfl) ?_
          go_wp2_with fail
          go_meet
          case rel => exact ⟨by rw [← H5.out]; rfl, hC0⟩
      · have hps : ps = [] := by have h5 := HGO.out; rw [if_neg (by omega)] at h5; exact h5
        subst hps
        have HOK : Hid (∀ wx, Chg (fun _ => False) wr wx → Calls Try.prog 12 #[.pointer (some ⟨c, 0, none⟩)] wx fun e w' => e = .returned (.bool false) ∧ wx = w') := fun wx hwx =>
          ok_calls (HCU.out.chg hwx fun _ _ h => h)
        have h5 := HDK.out
        rw [decide_eq_false (by omega)] at h5
        subst h5
        clear h0
        go_wp2_with fail
        obtain ⟨w5, hw5, hC5⟩ := drew_named wr
        have hC0 : Chg (fun _ => False) wr w5 := hC5
        have hS := (HE.out _ hC0).2
        refine wp_region_till (s := 10) (S := (fun W => W.cell? ⟨bop, 0, none⟩ = some (.bool op) ∧ W.cell? ⟨bhi, 0, none⟩ = some (.string hi))) (by kernel_rfl) ?_
        rw [hw5]
        clear hw5 hC5
        apply till_take0 (i := 0) (d := some 10)
        case hi => exact rfl
        case hd => exact rfl
        case hchk => kernel_rfl
        case hS => exact (fun _ => hS)
        case hy => apply yields_plain; exact rfl; intro w _; go_simp <;> with_reducible rfl
        case hQ => exact fun _ _ _ h => h
        simp only [Act.put, List.setIfInBounds_toArray, List.set_cons_zero, List.set_cons_succ]
        refine till_all (rs := [1]) (by kernel_rfl) (by simp) (mem_more (till_op (i := 1) (o := ⟨some 11, _, _, _, _, _⟩) rfl rfl (fun K hK => ?_)) (mem_none))
        go_simp
        go_at_call 12
        refine (HOK.out _ hC0).mono ?_
        rintro e w' ⟨rfl, rfl⟩
        refine hK.out _ _ (fun _ => ?_) (fun hS2 => ?_)
        · exact (HE.out _ hC0).2
        have hS3 := hS2 (by kernel_rfl)
        clear hK K hS hS2
        have hS := hS3
        clear hS3
        try simp only [Act.put, List.setIfInBounds_toArray, List.set_cons_zero, List.set_cons_succ]
        apply till_take0 (i := 2) (d := some 12)
        case hi => exact rfl
        case hd => exact rfl
        case hchk => kernel_rfl
        case hS => exact (fun _ => hS)
        case hy => apply yields_plain; exact rfl; intro w _; go_simp <;> with_reducible rfl
        case hQ => exact fun _ _ _ h => h
        simp only [Act.put, List.setIfInBounds_toArray, List.set_cons_zero, List.set_cons_succ]
        apply till_take0 (i := 3) (d := some 13)
        case hi => exact rfl
        case hd => exact rfl
        case hchk => kernel_rfl
        case hS => exact (fun _ => hS)
        case hy => exact yields_skip (by kernel_rfl)
        case hQ => exact fun _ _ _ h => h
        simp only [Act.put, List.setIfInBounds_toArray, List.set_cons_zero, List.set_cons_succ]
        apply till_take0 (i := 4) (d := some 14)
        case hi => exact rfl
        case hd => exact rfl
        case hchk => kernel_rfl
        case hS => exact (fun _ => hS)
        case hy => exact yields_skip (by kernel_rfl)
        case hQ => exact fun _ _ _ h => h
        simp only [Act.put, List.setIfInBounds_toArray, List.set_cons_zero, List.set_cons_succ]
        apply till_take0 (i := 5) (d := some 15)
        case hi => exact rfl
        case hd => exact rfl
        case hchk => kernel_rfl
        case hS => exact (fun _ => hS)
        case hy => exact yields_skip (by kernel_rfl)
        case hQ => exact fun _ _ _ h => h
        simp only [Act.put, List.setIfInBounds_toArray, List.set_cons_zero, List.set_cons_succ]
        apply till_take0 (i := 6) (d := some 16)
        case hi => exact rfl
        case hd => exact rfl
        case hchk => kernel_rfl
        case hS => exact (fun _ => hS)
        case hy => exact yields_skip (by kernel_rfl)
        case hQ => exact fun _ _ _ h => h
        simp only [Act.put, List.setIfInBounds_toArray, List.set_cons_zero, List.set_cons_succ]
        apply till_take0 (i := 7) (d := some 17)
        case hi => exact rfl
        case hd => exact rfl
        case hchk => kernel_rfl
        case hS => exact (fun _ => hS)
        case hy => exact yields_skip (by kernel_rfl)
        case hQ => exact fun _ _ _ h => h
        simp only [Act.put, List.setIfInBounds_toArray, List.set_cons_zero, List.set_cons_succ]
        apply till_take0 (i := 8) (d := some 18)
        case hi => exact rfl
        case hd => exact rfl
        case hchk => kernel_rfl
        case hS => exact (fun _ => hS)
        case hy => exact yields_skip (by kernel_rfl)
        case hQ => exact fun _ _ _ h => h
        simp only [Act.put, List.setIfInBounds_toArray, List.set_cons_zero, List.set_cons_succ]
        apply till_take0 (i := 9) (d := some 19)
        case hi => exact rfl
        case hd => exact rfl
        case hchk => kernel_rfl
        case hS => exact (fun _ => hS)
        case hy => exact yields_skip (by kernel_rfl)
        case hQ => exact fun _ _ _ h => h
        simp only [Act.put, List.setIfInBounds_toArray, List.set_cons_zero, List.set_cons_succ]
        refine till_all (rs := [10]) (by kernel_rfl) (by simp) (mem_more (till_op (i := 10) (o := ⟨some 20, _, _, _, _, _⟩) rfl rfl (fun K hK => ?_)) (mem_none))
        go_simp
        refine hK.out _ _ (fun h => by cases (show true = false from h)) (fun _ => ?_)
        clear hK K hS
        try simp only [Act.put, List.setIfInBounds_toArray, List.set_cons_zero, List.set_cons_succ]
        refine till_done (by kernel_rfl) ?_
        go_wp2_with fail
        go_meet
        case rel => exact ⟨rfl, hC0⟩
    case rest =>
      obtain ⟨rfl, hC5⟩ := hcut
      have HC5 := Lib.hid hC5
      clear hC5
      rcases Nat.lt_or_ge k m with hk | hk
      · have h5 := HDK.out
        rw [decide_eq_true hk] at h5
        subst h5
        obtain ⟨x, hx⟩ : ∃ x, M[k]? = some x := ⟨_, List.getElem?_eq_getElem (by rw [HM.out]; exact hk)⟩
        have HX := Lib.hid hx
        have hg1 : Goes 0 d u ps ((s + k : Nat) : Int) := by have h5 := HGO.out; rw [if_pos (by omega)] at h5; exact h5
        have HG1 := Lib.hid hg1
        have hpu : (listU d u)[(((s + k : Nat) : Nat) : Int).toNat]? = some x := by rw [Int.toNat_natCast]; exact (HMK.out k x hx).1
        have HPU := Lib.hid hpu
        clear hx hg1 hpu
        go_upto_region 3 with (fail)
        refine (wpIn_wide (n := 4)).1 ?_
        gi_wp2_with fail
        refine ⟨trivial, callsIn_wide.2 ((key_calls (HE.out wc HC5.out).1 (HCU.out.chg HC5.out fun _ _ h => h) HG1.out HPU.out).mono ?_)⟩
        rintro e w7 ⟨rfl, hch⟩
        have HC7 := Lib.hid (HC5.out.trans hch)
        clear hch
        gi_wp2_with fail
        refine ⟨trivial, callsIn_wide.2 ((row_calls (HE.out w7 HC7.out).1 (HCU.out.chg HC7.out fun _ _ h => h) HG1.out HPU.out).mono ?_)⟩
        rintro e w8 ⟨rfl, hch⟩
        have HC8 := Lib.hid (HC7.out.trans hch)
        have HSZ8 : Hid (W.heap.size ≤ w8.heap.size) := Nat.le_trans HCH.out.size HC8.out.size
        have HJ8 : Hid (J (M.take k) w8) := HJ.out _ _ _ HJK.out (HC8.out.belowB HCH.out.size fun _ h => h.elim)
        clear hch
        obtain ⟨fn, tmps, assign, body, hy, hRR⟩ := HY.out _ x w8 HJ8.out (by rw [show M.take k ++ [x] = M.take (k + 1) by rw [List.take_add_one, HX.out]; rfl]; exact List.take_prefix _ _)
        have hy' := hy
        unfold enc2 at hy'
        gi_wp2_with fail
        refine hRR.mono ?_
        clear hy hy' hRR
        rintro e w9 (⟨rfl, hj9, hc9⟩ | ⟨rfl, hjx⟩)
        · rw [show (fun k => Bs k ∨ k = l) = Fs from HFS.out.symm] at hc9
          have HC9 := Lib.hid (HC8.out.up.trans hc9)
          have HJ9 := Lib.hid hj9
          have HAF : Hid (∀ q ∈ fpc, ¬ Fs q) := fun q hq h => by have h5 := HGE.out q hq; have h6 := HFl.out q h; omega
          have HNX : Hid (Calls Try.prog 14 #[.pointer (some ⟨c, 0, none⟩)] w9 fun e w' => e = .returned (.bool (decide (0 ≤ ((s + k : Nat) : Int) + 1 ∧ ((s + k : Nat) : Int) + 1 < (listU d u).length))) ∧ StepPost w9 d u c (((s + k : Nat) : Int) + 1) fpc w') :=
            next_calls (HEN.out w9 (HCH.out.trans HC9.out)).1 (HCU.out.chg HC9.out HAF.out) (HG1.out.weak (by omega)) HAP.out
          clear hj9 hc9
          gi_wp2_with fail
          go_wp2_with fail
          refine HNX.out.mono ?_
          rintro e w10 ⟨rfl, ps1, fpc1, hcu1, hgo1, hge1, hch1⟩
          rw [HLN.out] at hgo1
          have HGE1 : Hid (∀ q ∈ fpc1, W.heap.size ≤ q) := fun q hq => (hge1 q hq).elim (HGE.out q) fun h => by have h5 := HCH.out.size; have h6 := HC9.out.size; omega
          have HGO1 : Hid (if s + (k + 1) < ln then Goes 0 d u ps1 ((s + (k + 1) : Nat) : Int) else ps1 = []) := by
            have h4 : Hid (if 0 ≤ ((s + k : Nat) : Int) + 1 ∧ ((s + k : Nat) : Int) + 1 < ln then Goes 0 d u ps1 (((s + k : Nat) : Int) + 1) else ps1 = []) := hgo1
            have h5 := h4.out
            by_cases h6 : s + (k + 1) < ln
            · rw [if_pos h6]; rw [if_pos (by omega)] at h5
              rw [show ((s + (k + 1) : Nat) : Int) = ((s + k : Nat) : Int) + 1 by omega]; exact h5
            · rw [if_neg h6]; rw [if_neg (by omega)] at h5; exact h5
          have HCU1 := Lib.hid hcu1
          have HC10 : Hid (Chg Fs W w10) := ((HCH.out.trans HC9.out).comp hch1 fun q hq h => by have h5 := HGE.out q h; omega)
          have HJ10 : Hid (J (M.take (k + 1)) w10) := by
            have h5 := HJ9.out
            rw [show M.take k ++ [x] = M.take (k + 1) by rw [List.take_add_one, HX.out]; rfl] at h5
            exact HJ.out _ _ _ h5 (hch1.belowB (Nat.le_trans HCH.out.size HC9.out.size) fun q h => HGE.out q h)
          clear hcu1 hgo1 hge1 hch1
          go_wp2_with fail
          go_roundg (m + 1 - (k + 1))
          case measure => omega
          case rel => exact ⟨k + 1, ps1, fpc1, hk, Nat.le_refl _, HJ10.out, HCU1.out, HGO1.out, HGE1.out, HC10.out⟩
        · have HJX := Lib.hid hjx
          clear hjx
          gi_wp2_with fail
          go_wp2_with fail
          refine bodyPost_ret (results_none rfl _ _ _) rfl ?_
          exact HP2.out _ _ k x HX.out HJX.out
      · have h5 := HDK.out
        rw [decide_eq_false (by omega)] at h5
        subst h5
        obtain rfl : k = m := by omega
        have HJM : Hid (J M wc) := by
          have h5 := HJK.out
          rw [List.take_of_length_le (by rw [HM.out]; exact Nat.le_refl _)] at h5
          exact HJ.out _ _ _ h5 (HC5.out.belowB HCH.out.size fun _ h => h.elim)
        clear hk
        go_wp2_with fail
        refine bodyPost_ret (results_none rfl _ _ _) rfl ?_
        exact HP1.out _ _ HJM.out
end Go.Proofs.Ythndplpbnfihdaa
