/-
  (*Tree).Depth. Conditions: a tree that is read.
-/
import Derived.Test.YthndplpbnfihdaaNw
set_option linter.unusedVariables false
set_option linter.unusedSimpArgs false
namespace Go.Proofs.Ythndplpbnfihdaa
open Go.RowKit

def depthN (d n : Nat) : Int := if n = 0 then 0 else (d : Int) + 1

set_option maxHeartbeats 1000000 in
set_option maxRecDepth 100000 in
theorem depth_calls {w : World} {S : Nat → Prop} {tr d : Nat} {u : Nb d} {x0 : Value} (hV : View w S d u) (htr : Blk w tr 64 #[x0, .int .i64 (listU d u).length, ptr (blk d u)]) :
    Calls Try.prog 24 #[ptr tr] w (fun e w' => e = .returned (.int .i64 (depthN d (listU d u).length)) ∧ w = w') := by
  obtain ⟨n, hn⟩ : ∃ n, (listU d u).length = n := ⟨_, rfl⟩
  obtain ⟨R, hR⟩ : ∃ R : Ending → World → Prop, R = fun e w' => e = .returned (.int .i64 (depthN d (listU d u).length)) ∧ w = w' := ⟨_, rfl⟩
  rw [← hR]
  have htc : w.cell? ⟨tr, 2, none⟩ = some (.pointer (some ⟨blk d u, 0, none⟩)) := htr.cell_ rfl
  have hnc : w.cell? ⟨tr, 1, none⟩ = some (.int .i64 n) := by rw [← hn]; exact htr.cell_ rfl
  obtain ⟨ub, hub⟩ : ∃ ub, blk d u = ub := ⟨_, rfl⟩
  have HUB := Lib.hid hub
  rw [hub] at htc
  unfold ptr
  have HP : Hid (∀ e w', e = .returned (.int .i64 (depthN d n)) → w = w' → R e w') := fun e w' h1 h2 => by rw [hR, hn]; exact ⟨h1, h2⟩
  by_cases h0 : n = 0
  · subst h0
    clear hV htr hR hn hub
    go_enter Try.func24, Try.ntmps24
    go_wp2_with fail
    exact HP.out _ _ rfl rfl
  · have hfull : Full d u := by
      cases d with
      | zero => show 0 < u.2.length; have : u.2.length = n := hn; omega
      | succ d => exact hV.full (by omega)
    have hn0 : ¬ ((n : Int) = 0) := by omega
    have hn1 : ¬ (n = 0) := h0
    have hn2 : ((n : Int) == 0) = false := by rw [beq_eq_false_iff_ne]; omega
    have HD : Hid (depthN d n = (d : Int) + 1) := by
      have : depthN d n = (d : Int) + 1 := by unfold depthN; rw [if_neg h0]
      exact this
    have HR := Lib.hid hV.rd
    have HF := Lib.hid hfull
    have hdp := hV.deep
    clear hV htr hR hn hub hfull h0
    go_enter Try.func24, Try.ntmps24
    go_wp2_with fail
    go_loopg [3, 4] d (fun g s3 s4 wr => ∃ (d' : Nat) (u' : Nb d') (k : Nat), s3 = .int .i64 k ∧ s4 = .pointer (some ⟨blk d' u', 0, none⟩) ∧ d' ≤ g ∧ k + d' = d + 1 ∧ Rd w S d' u' ∧ Full d' u' ∧ wr = w)
    case atStart => exact ⟨d, u, 1, rfl, by rw [HUB.out], Nat.le_refl _, by omega, HR.out, HF.out, rfl⟩
    case round =>
      obtain ⟨d', u', k, rfl, rfl, hdg, hk, hrd, hfu, rfl⟩ := hrel
      have hwk : IntKind.i64.wrap ((k : Int) + 1) = (k : Int) + 1 := by rw [IntKind.wrap_i64]; omega
      cases d' with
      | zero =>
        obtain ⟨_, vk, vr, hbk, _⟩ := hrd
        have hkc : wr.cell? ⟨blk 0 u', 2, none⟩ = some (.slice none 0 0) := hbk.cell_ rfl
        have hkd : k = d + 1 := by omega
        have HK := Lib.hid hkd
        clear hbk hkd hk
        go_wp2_with fail
        refine HP.out _ _ ?_ rfl
        rw [HD.out, HK.out]; rfl
      | succ d' =>
        obtain ⟨_, vk, gq, cq, hbk, _, hkids, _, _, hch⟩ := hrd
        obtain ⟨x, hx⟩ : ∃ x, u'.2.2[0]? = some x := ⟨_, List.getElem?_eq_getElem hfu.1⟩
        have hxm := List.mem_of_getElem? hx
        obtain ⟨m, hm⟩ : ∃ m, u'.2.2.length = m := ⟨_, rfl⟩
        have hm0 : 0 < m := by rw [← hm]; exact hfu.1
        have hm1 : (0 : Int) < (m : Int) := by omega
        obtain ⟨bx, hbx⟩ : ∃ bx, blk d' x = bx := ⟨_, rfl⟩
        rw [hm] at hbk hkids
        have hkc : wr.cell? ⟨blk (d' + 1) u', 2, none⟩ = some (.slice (some ⟨gq, 0, none⟩) m cq) := hbk.cell_ rfl
        have hxc : wr.cell? ⟨gq, 0, none⟩ = some (.pointer (some ⟨bx, 0, none⟩)) := by
          have := hkids.cell (j := 0) (u := ptr (blk d' x)) (by simp [ptrs, hx])
          rw [hbx] at this; exact this
        have HX := Lib.hid hx
        have HBX := Lib.hid hbx
        have HRX := Lib.hid (hch x hxm)
        have HFX := Lib.hid (hfu.2 x hxm)
        have HKK := Lib.hid hk
        clear hbk hkids hch hx hbx hxm hfu hm hk
        go_wp2_with fail
        go_roundg d'
        case measure => omega
        case rel => exact ⟨d', x, k + 1, by first | rfl | go_num, by rw [HBX.out], Nat.le_refl _, by have := HKK.out; omega, HRX.out, HFX.out, rfl⟩
end Go.Proofs.Ythndplpbnfihdaa
