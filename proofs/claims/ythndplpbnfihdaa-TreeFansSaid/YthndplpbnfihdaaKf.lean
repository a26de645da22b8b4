/-
  (*Tree).Check. Conditions: a sound tree.
-/
import Derived.Test.YthndplpbnfihdaaKe
import Derived.Laws.EntriesVeiled
set_option linter.unusedVariables false
set_option linter.unusedSimpArgs false
namespace Go.Proofs.Ythndplpbnfihdaa
open Go.RowKit

theorem rd_blk {w : World} {S : Nat → Prop} : ∀ {d : Nat} {u : Nb d}, Rd w S d u → ∃ cs, Blk w (blk d u) 62 cs
  | 0, u, ⟨_, vk, vr, hb, _⟩ => ⟨_, hb⟩
  | d + 1, u, ⟨_, vk, g, c, hb, _⟩ => ⟨_, hb⟩

theorem seven_named (w : World) (c0 c1 c2 c3 c4 c5 c6 : Array Value) (t0 t1 t2 t3 t4 t5 t6 : TypeId) : ∃ W b0 b1 b2 b3 b4 b5 b6,
    (((((((w.alloc (.cells c0 t0)).alloc (.cells c1 t1)).alloc (.cells c2 t2)).alloc (.cells c3 t3)).alloc (.cells c4 t4)).alloc (.cells c5 t5)).alloc (.cells c6 t6)) = W ∧
    w.heap.size + 1 + 1 + 1 + 1 + 1 + 1 = b6 ∧ w.heap.size + 1 + 1 + 1 + 1 + 1 = b5 ∧ w.heap.size + 1 + 1 + 1 + 1 = b4 ∧ w.heap.size + 1 + 1 + 1 = b3 ∧ w.heap.size + 1 + 1 = b2 ∧ w.heap.size + 1 = b1 ∧ w.heap.size = b0 ∧
    Blk W b0 t0 c0 ∧ Blk W b1 t1 c1 ∧ Blk W b2 t2 c2 ∧ Blk W b3 t3 c3 ∧ Blk W b4 t4 c4 ∧ Blk W b5 t5 c5 ∧ Blk W b6 t6 c6 ∧ Chg (fun _ => False) w W := by
  obtain ⟨W, b0, b1, b2, b3, b4, hW, e4, e3, e2, e1, e0, h0, h1, h2, h3, h4, hC⟩ := five_named w c0 c1 c2 c3 c4 t0 t1 t2 t3 t4
  have hs : W.heap.size = w.heap.size + 5 := by rw [← hW]; simp
  refine ⟨_, b0, b1, b2, b3, b4, _, _, rfl, rfl, rfl, e4, e3, e2, e1, e0, ?_⟩
  rw [hW]
  refine ⟨(h0.alloc _).alloc _, (h1.alloc _).alloc _, (h2.alloc _).alloc _, (h3.alloc _).alloc _, (h4.alloc _).alloc _, ?_, ?_, (hC.alloc _).alloc _⟩
  · have := (Blk.new W t5 c5).alloc (.cells c6 t6)
    rw [hs] at this; exact this
  · have := Blk.new (W.alloc (.cells c5 t5)) t6 c6
    have h6 : (W.alloc (.cells c5 t5)).heap.size = w.heap.size + 6 := by simp [hs]
    rw [h6] at this; exact this

set_option maxHeartbeats 2000000 in
set_option maxRecDepth 100000 in
theorem check_calls {w : World} {S : Nat → Prop} {fan tr d : Nat} {u : Nb d} (h4 : 4 ≤ fan) (h64 : fan ≤ 64) (hV : View w S d u) (hs : Sound fan d (dat d u)) (hsz : sizeU d u ≤ fan) (h2 : 0 < d → 2 ≤ sizeU d u) (hSr : S (blk d u)) (hdeep : d ≤ 999)
    (htr : Blk w tr 64 #[.int .i64 fan, .int .i64 (listU d u).length, ptr (blk d u)]) :
    Calls Try.prog 22 #[ptr tr] w (fun e w' => e = .returned (.int .i64 0) ∧ Chg (fun _ => False) w w') := by
  obtain ⟨R, hR⟩ : ∃ R : Ending → World → Prop, R = fun e w' => e = .returned (.int .i64 0) ∧ Chg (fun _ => False) w w' := ⟨_, rfl⟩
  rw [← hR]
  have HP : Hid (∀ e w', e = .returned (.int .i64 0) → Chg (fun _ => False) w w' → R e w') := fun e w' h1 h2 => by rw [hR]; exact ⟨h1, h2⟩
  obtain ⟨n, hn⟩ : ∃ n, (listU d u).length = n := ⟨_, rfl⟩
  have HD : Hid (∀ W, Chg (fun _ => False) w W → Calls Try.prog 24 #[.pointer (some ⟨tr, 0, none⟩)] W (fun e w' => e = .returned (.int .i64 (depthN d n)) ∧ W = w')) := fun W hW => by
    have := depth_calls (hV.chg hW fun _ _ h => h) (htr.chg hW id)
    rw [hn] at this; exact this
  obtain ⟨dv, hdv⟩ : ∃ dv, depthN d n = dv := ⟨_, rfl⟩
  rw [hdv] at HD
  have hmf : ∀ (fn : Fn) (first cap : Array Value) (w : World), (Instr.makeFunc fn first cap).run Try.prog w = .ok (.func fn first cap) w := fun _ _ _ _ => rfl
  have HV := Lib.hid hV
  have HS := Lib.hid hs
  have HT := Lib.hid htr
  have HN := Lib.hid hn
  have HDV := Lib.hid hdv
  unfold ptr
  clear hR hV hs htr hn hdv
  go_enter Try.func22, Try.ntmps22
  go_wp2_with (go_at_call 24; refine (HD.out _ ((Chg.refl _ _).alloc _)).mono ?_; rintro e w' ⟨rfl, rfl⟩)
  obtain ⟨w1, bt, bla, bso, bn, bdp, bok, bch, hw1, e6, e5, e4, e3, e2, e1, e0, hBt, hBla, hBso, hBn, hBdp, hBok, hBch, hC1⟩ := seven_named w #[.pointer (some ⟨tr, 0, none⟩)] #[.string ⟨#[]⟩] #[.bool false] #[.int .i64 0] #[.int .i64 dv] #[.bool true]
    #[.func (.func 38) #[] #[.pointer (some ⟨w.heap.size, 0, none⟩), .pointer (some ⟨w.heap.size + 1 + 1 + 1 + 1 + 1, 0, none⟩), .pointer (some ⟨w.heap.size + 1 + 1 + 1 + 1, 0, none⟩), .pointer (some ⟨w.heap.size + 1 + 1, 0, none⟩), .pointer (some ⟨w.heap.size + 1, 0, none⟩), .pointer (some ⟨w.heap.size + 1 + 1 + 1, 0, none⟩), .pointer (some ⟨w.heap.size + 1 + 1 + 1 + 1 + 1 + 1, 0, none⟩)]]
    23 9 4 3 3 4 79
  rw [hw1, e6, e5, e4, e3, e2, e1, e0]
  rw [e6, e5, e4, e3, e2, e1, e0] at hBch
  have hge : w.heap.size ≤ bt ∧ w.heap.size ≤ bla ∧ w.heap.size ≤ bso ∧ w.heap.size ≤ bn ∧ w.heap.size ≤ bdp ∧ w.heap.size ≤ bok ∧ w.heap.size ≤ bch ∧ bok ≠ bso ∧ bn ≠ bdp := by omega
  obtain ⟨w2, hw2, hC2⟩ := drew_named w1
  have hCw := hC1.trans hC2
  have htr2 := HT.out.chg hCw id
  rw [HN.out] at htr2
  have hE2 : CkEnv w2 S bt bok bdp bso bla bn bch tr (blk d u) fan n dv := ⟨hBt.chg hC2 id, htr2, hBdp.chg hC2 id, hBch.chg hC2 id, fun k hk e => by
    have h1 := HV.out.lt k hk
    rcases e with e | e | e | e <;> omega, hge.2.2.2.2.2.2.2.1, hge.2.2.2.2.2.2.2.2⟩
  have hS2 : CkSt w2 bok bso bla bn [] := ⟨hBok.chg hC2 id, hBso.chg hC2 id, hBla.chg hC2 id, hBn.chg hC2 id⟩
  have hV2 := HV.out.chg hCw fun _ _ h => h
  obtain ⟨rx, hrx⟩ := rd_blk hV2.rd
  have hdd : (1 : Int) + d = dv ∨ (n = 0 ∧ d = 0) := by
    by_cases h0 : n = 0
    · refine .inr ⟨h0, ?_⟩
      cases d with
      | zero => rfl
      | succ d => have := full_pos (HV.out.full (by omega)); have := HN.out; omega
    · have := HDV.out
      unfold depthN at this
      rw [if_neg h0] at this
      exact .inl (by omega)
  have HCK := Lib.hid (check_at h4 h64 hSr d u w2 [] 1 _ rx hV2.rd hE2 hS2 hrx HS.out hsz (.inl rfl) h2 hdd (by have := HV.out.few; simpa using this) (by rw [List.nil_append, ← listU_dat]; exact HS.out.rise) (by omega) (by omega))
  rw [List.nil_append] at HCK
  have hS : w2.cell? ⟨bch, 0, none⟩ = some (.func (.func 38) #[] #[.pointer (some ⟨bt, 0, none⟩), .pointer (some ⟨bok, 0, none⟩), .pointer (some ⟨bdp, 0, none⟩), .pointer (some ⟨bso, 0, none⟩), .pointer (some ⟨bla, 0, none⟩), .pointer (some ⟨bn, 0, none⟩), .pointer (some ⟨bch, 0, none⟩)]) ∧
      w2.cell? ⟨bt, 0, none⟩ = some (.pointer (some ⟨tr, 0, none⟩)) ∧ w2.cell? ⟨tr, 2, none⟩ = some (.pointer (some ⟨blk d u, 0, none⟩)) := ⟨hE2.hch.cell_ rfl, hE2.ht.cell_ rfl, hE2.htr.cell_ rfl⟩
  have HE2 := Lib.hid hE2
  have HS2 := Lib.hid hS2
  have HCW := Lib.hid hCw
  have HGE := Lib.hid hge
  obtain ⟨ub, hub⟩ : ∃ ub, blk d u = ub := ⟨_, rfl⟩
  unfold ptr at HCK
  rw [hub] at hS HCK
  clear hw1 e6 e5 e4 e3 e2 e1 e0 hBt hBla hBso hBn hBdp hBok hBch hC1 hge hC2 hCw htr2 hE2 hS2 hV2 hrx hdd hub hSr
  refine wp_region_till (s := 5) (S := (fun W => W.cell? ⟨bch, 0, none⟩ = some (.func (.func 38) #[] #[.pointer (some ⟨bt, 0, none⟩), .pointer (some ⟨bok, 0, none⟩), .pointer (some ⟨bdp, 0, none⟩), .pointer (some ⟨bso, 0, none⟩), .pointer (some ⟨bla, 0, none⟩), .pointer (some ⟨bn, 0, none⟩), .pointer (some ⟨bch, 0, none⟩)]) ∧
        W.cell? ⟨bt, 0, none⟩ = some (.pointer (some ⟨tr, 0, none⟩)) ∧ W.cell? ⟨tr, 2, none⟩ = some (.pointer (some ⟨ub, 0, none⟩)))) (by kernel_rfl) ?_
  rw [hw2]
  clear hw2
  apply till_take (i := 0) (d := some 12) [5, 0]
  case hi => exact rfl
  case hd => exact rfl
  case hchk => kernel_rfl
  case hS => exact hS
  case hy => apply yields_plain; exact rfl; intro w hSw; (try dsimp only at hSw); go_split_ands; go_simp <;> with_reducible rfl
  case hQ => exact fun _ _ _ h => h
  simp only [Act.put, List.setIfInBounds_toArray, List.set_cons_zero, List.set_cons_succ]
  apply till_take (i := 1) (d := some 13) [5, 4, 3, 2, 1]
  case hi => exact rfl
  case hd => exact rfl
  case hchk => kernel_rfl
  case hS => exact hS
  case hy => apply yields_plain; exact rfl; intro w hSw; (try dsimp only at hSw); go_split_ands; go_simp <;> with_reducible rfl
  case hQ => exact fun _ _ _ h => h
  simp only [Act.put, List.setIfInBounds_toArray, List.set_cons_zero, List.set_cons_succ]
  apply till_take0 (i := 2) (d := some 14)
  case hi => exact rfl
  case hd => exact rfl
  case hchk => kernel_rfl
  case hS => exact (fun _ => hS)
  case hy => apply yields_plain; exact rfl; intro w _; go_simp <;> with_reducible rfl
  case hQ => exact fun _ _ _ h => h
  simp only [Act.put, List.setIfInBounds_toArray, List.set_cons_zero, List.set_cons_succ]
  apply till_take0 (i := 3) (d := some 15)
  case hi => exact rfl
  case hd => exact rfl
  case hchk => kernel_rfl
  case hS => exact (fun _ => hS)
  case hy => apply yields_plain; exact rfl; intro w _; go_simp <;> with_reducible rfl
  case hQ => exact fun _ _ _ h => h
  simp only [Act.put, List.setIfInBounds_toArray, List.set_cons_zero, List.set_cons_succ]
  apply till_take (i := 4) (d := some 16) [5, 4]
  case hi => exact rfl
  case hd => exact rfl
  case hchk => kernel_rfl
  case hS => exact hS
  case hy => apply yields_plain; exact rfl; intro w hSw; (try dsimp only at hSw); go_split_ands; go_simp <;> with_reducible rfl
  case hQ => exact fun _ _ _ h => h
  simp only [Act.put, List.setIfInBounds_toArray, List.set_cons_zero, List.set_cons_succ]
  refine till_all (rs := [5]) (by kernel_rfl) (by simp) (mem_more (till_op (i := 5) (o := ⟨some 17, _, _, _, _, _⟩) rfl rfl (fun K hK => ?_)) (mem_none))
  go_simp
  refine HCK.out.mono ?_
  rintro e w3 ⟨rfl, hst3, hC3⟩
  refine hK.out _ _ (fun h => by cases (show true = false from h)) (fun _ => ?_)
  clear hK K hS
  try simp only [Act.put, List.setIfInBounds_toArray, List.set_cons_zero, List.set_cons_succ]
  refine till_done (by kernel_rfl) ?_
  skip
  have hE3 := HE2.out.chg HS2.out hC3
  have k1 : w3.cell? ⟨bok, 0, none⟩ = some (.bool true) := hst3.ok.cell_ rfl
  have k2 : w3.cell? ⟨bn, 0, none⟩ = some (.int .i64 n) := by rw [← HN.out]; exact hst3.n.cell_ rfl
  have k3 : w3.cell? ⟨bt, 0, none⟩ = some (.pointer (some ⟨tr, 0, none⟩)) := hE3.ht.cell_ rfl
  have k4 : w3.cell? ⟨tr, 1, none⟩ = some (.int .i64 n) := hE3.htr.cell_ rfl
  have HC3 := Lib.hid (show Chg (fun _ => False) w w3 from HCW.out.comp hC3 fun k hk e => by have := HGE.out; rcases e with e | e | e | e <;> omega)
  clear hst3 hC3 hE3
  go_wp2_with fail
  go_region
  go_wp2_with fail
  exact HP.out _ _ rfl (by first | exact HC3.out.drew | exact HC3.out.drewN _)
end Go.Proofs.Ythndplpbnfihdaa
